/- Walks: cut with wider bounds, the closures of closes. -/
import Derived.Test.YtjienelkjpodkaaW19
namespace Go.Proofs.Ytjienelkjpodkaa
open Go.RowKit

theorem floor2_c (a b : Int) (w : World) (ha : -1125899906842624 ≤ a ∧ a ≤ 1125899906842624) (hb : 1 ≤ b ∧ b ≤ 9223372036854775807) :
    Calls Try.prog 47 #[.int .i64 a, .int .i64 b] w fun e w' => e = .returned (.int .i64 (floorF a b)) ∧ w = w' := by
  have H := Lib.hid (show floorF a b = if a.tmod b < 0 then a.tdiv b - 1 else a.tdiv b from rfl)
  have h0 : ¬ b = 0 := by omega
  have hq : (a.tdiv b).natAbs ≤ a.natAbs := by rw [Int.natAbs_tdiv]; exact Nat.div_le_self _ _
  have hq1 : -1125899906842624 ≤ a.tdiv b := by omega
  have hq2 : a.tdiv b ≤ 1125899906842624 := by omega
  have hn1 : ¬ b = -1 := by omega
  clear hq
  generalize floorF a b = r at *
  by_cases h1 : a.tmod b < 0
  · have d1 : decide (a.tmod b < 0) = true := by simpa using h1
    go_enter Try.func47, Try.ntmps47
    go_wp2
    go_ret
    exact ⟨ret_int (by rw [H.out, if_pos h1] <;> first | rfl | (simp; omega)), rfl⟩
  · have d1 : decide (a.tmod b < 0) = false := by simpa using h1
    go_enter Try.func47, Try.ntmps47
    go_wp2
    go_ret
    exact ⟨ret_int (by rw [H.out, if_neg (by omega)]), rfl⟩

theorem cut2_i64 {l : List Int} {d : Int} (h : eachB l (-1125899906842624) 1125899906842624 = true) : ∀ x ∈ l.map fun a => a.tdiv d, I64 x := fun x hx => by
  obtain ⟨a, ha, rfl⟩ := List.mem_map.1 hx
  have := bet_iff.1 (List.all_eq_true.1 h a ha)
  have := Int.natAbs_tdiv_le_natAbs a d
  unfold I64; omega
theorem floor2_bound (C d : Int) (hC : -1125899906842624 ≤ C ∧ C ≤ 1125899906842624) : -1125899906842625 ≤ floorF C d ∧ floorF C d ≤ 1125899906842625 := by
  have := Int.natAbs_tdiv_le_natAbs C d
  unfold floorF
  split <;> omega

set_option maxHeartbeats 4000000 in
/-- 'cut', wider. -/
theorem cut2_c (K : Nat → Prop) (A : Option Addr) (n c : Nat) (l : List Int) (C d : Int) (w : World) (h : R1 w K A n c l) (hn : n ≤ 12) (hl : eachB l (-1125899906842624) 1125899906842624 = true) (hC : -1125899906842624 ≤ C ∧ C ≤ 1125899906842624) (hd : 1 ≤ d ∧ d ≤ 9223372036854775807) :
    Calls Try.prog 35 #[.agg #[.slice A n c, .int .i64 C], .int .i64 d] w (RowPost w (cutR (l, C) d)) := by
  have HL := Lib.hid hl
  have hlen := h.len
  have HF := Lib.hid fun W => floor2_c C d W (by omega) (by omega)
  have hb2 : Below w.heap.size w ((w.alloc (.cells #[.slice A n c, .int .i64 C] 37)).alloc (.cells #[.slice none 0 0, .int .i64 0] 37)) := ((Below.refl _ _).alloc (Nat.le_refl _) _).alloc (by simp) _
  have hk2 := (Blk.new w 37 #[.slice A n c, .int .i64 C]).alloc (.cells #[.slice none 0 0, .int .i64 0] 37)
  have hk3 : Blk ((w.alloc (.cells #[.slice A n c, .int .i64 C] 37)).alloc (.cells #[.slice none 0 0, .int .i64 0] 37)) (w.heap.size + 1) 37 #[.slice none 0 0, .int .i64 0] := by
    have := Blk.new (w.alloc (.cells #[.slice A n c, .int .i64 C] 37)) 37 #[.slice none 0 0, .int .i64 0]
    simpa using this
  have hr2 := h.below hb2
  have hs2 : ((w.alloc (.cells #[.slice A n c, .int .i64 C] 37)).alloc (.cells #[.slice none 0 0, .int .i64 0] 37)).heap.size = w.heap.size + 2 := by simp
  have HW := Lib.hid (show ∃ w2, w2 = (w.alloc (.cells #[.slice A n c, .int .i64 C] 37)).alloc (.cells #[.slice none 0 0, .int .i64 0] 37) from ⟨_, rfl⟩)
  have HB2 := Lib.hid hb2
  have HK2 := Lib.hid hk2
  have HK3 := Lib.hid hk3
  have H2 := Lib.hid hr2
  have HS2 := Lib.hid hs2
  have HFB := Lib.hid (floor2_bound C d hC)
  have HCR := Lib.hid (show cutR (l, C) d = (l.map fun a => a.tdiv d, floorF C d) from rfl)
  clear hb2 hk2 hk3 hr2 hs2 h hl
  go_enter Try.func35, Try.ntmps35
  go_wp2_with fail
  obtain ⟨w2, hw2⟩ := HW.out
  rw [← hw2] at HB2 HK2 HK3 H2 HS2 ⊢
  clear hw2 HW
  generalize floorF C d = fl at *
  go_cut [5] from 7 to 14 (fun s5 wz => CutMid w n l fl s5 wz)
  case first =>
    refine region_inv (by kernel_rfl) (by decide +kernel) (CutInv w w2 A n c l C d fl) ?_ ?_ ?_
    · refine ⟨fun _ _ _ _ _ _ _ _ _ _ => rfl, (Below.refl _ _).drew, ?_, ?_, ?_, ?_, ?_, ?_, ?_, ?_, ?_, ?_⟩ <;> intro h <;> cases h
    · intro D F W i o hi ho hDi haf
      have hlt : i < 10 := (Array.getElem?_eq_some_iff.1 ho).1
      have hi' : i = 0 ∨ i = 1 ∨ i = 2 ∨ i = 3 ∨ i = 4 ∨ i = 5 ∨ i = 6 ∨ i = 7 ∨ i = 8 ∨ i = 9 := by omega
      have o1 := hi.out 1 (by decide) (by decide) (by decide) (by decide) (by decide) (by decide) (by decide) (by decide) (by decide)
      have o2 := hi.out 2 (by decide) (by decide) (by decide) (by decide) (by decide) (by decide) (by decide) (by decide) (by decide)
      have hkw := HK2.out.old hi.below
      have k0 : W.cell? ⟨w.heap.size, 0, none⟩ = some (.slice A n c) := hkw.cell 0
      have k1 : W.cell? ⟨w.heap.size, 1, none⟩ = some (.int .i64 C) := hkw.cell 1
      have sz : ∀ t, t < 31 → t < 31 := fun _ h => h
      rcases hi' with rfl | rfl | rfl | rfl | rfl | rfl | rfl | rfl | rfl | rfl
      · cases ho
        refine inv_value 7 rfl rfl rfl (v := .pointer (some ⟨w.heap.size, 0, none⟩)) (w' := W) (fun ρ hρ => ?_) ?_
        · have e2 : ρ (.tmp 2) = .pointer (some ⟨w.heap.size, 0, none⟩) := hρ.none_ (sz 2 (by decide)) o2
          go_simp
        · exact ⟨fun k h5 h7 h8 h9 h10 h11 h12 h13 h14 => by simp [h7, hi.out k h5 h7 h8 h9 h10 h11 h12 h13 h14], hi.below, by first | (simp; done) | simpa using hi.v7, by first | (simp; done) | simpa using hi.v8, by first | (simp; done) | simpa using hi.v9, by first | (simp; done) | simpa using hi.v10, by first | (simp; done) | simpa using hi.v11, by first | (simp; done) | simpa using hi.v12, by first | (simp; done) | simpa using hi.v13, by first | (simp; done) | simpa using hi.v5, by first | (simp; done) | simpa using hi.i7, by first | (simp; done) | simpa using hi.i9⟩
      · cases ho
        simp [Region.binds] at haf
        refine inv_value 8 rfl rfl rfl (v := .slice A n c) (w' := W) (fun ρ hρ => ?_) ?_
        · have e7 : ρ (.tmp 7) = .pointer (some ⟨w.heap.size, 0, none⟩) := hρ.some_ (sz 7 (by decide)) (hi.v7 haf)
          go_simp
        · exact ⟨fun k h5 h7 h8 h9 h10 h11 h12 h13 h14 => by simp [h8, hi.out k h5 h7 h8 h9 h10 h11 h12 h13 h14], hi.below, by first | (simp; done) | simpa using hi.v7, by first | (simp; done) | simpa using hi.v8, by first | (simp; done) | simpa using hi.v9, by first | (simp; done) | simpa using hi.v10, by first | (simp; done) | simpa using hi.v11, by first | (simp; done) | simpa using hi.v12, by first | (simp; done) | simpa using hi.v13, by first | (simp; done) | simpa using hi.v5, by first | (simp; done) | simpa using hi.i7, by first | (simp; done) | simpa using hi.i9⟩
      · cases ho
        simp [Region.binds] at haf
        refine inv_call 9 31 #[.slice A n c] rfl rfl rfl (fun ρ hρ => ?_) ?_
        · have e8 : ρ (.tmp 8) = .slice A n c := hρ.some_ (sz 8 (by decide)) (hi.v8 haf)
          have ef := hρ.func 31
          go_simp
        · refine (clone1_c K A n c l W (H2.out.below hi.below) (by omega)).mono ?_
          rintro e w' ⟨A', n', c', rfl, hO, hb⟩
          have hn' : n' = n := by have := hO.len; simp at this; omega
          subst hn'
          have h7 : D 7 = true → False := fun e => by have := hi.i7 e; rw [hDi] at this; cases this
          have hO' := hO.base_ (b' := w.heap.size) (by have := HS2.out; have := hi.below.size; omega)
          refine ⟨_, rfl, ⟨fun k h5 h7 h8 h9 h10 h11 h12 h13 h14 => by simp [h9, hi.out k h5 h7 h8 h9 h10 h11 h12 h13 h14], hi.below.trans (hb.mono hi.below.size), by first | (simp; done) | simpa using hi.v7, by first | (simp; done) | simpa using hi.v8, fun _ => ⟨A', c', by simp, hO', fun e => (h7 (by simpa using e)).elim⟩, by first | (simp; done) | simpa using hi.v10, by first | (simp; done) | simpa using hi.v11, by first | (simp; done) | simpa using hi.v12, by first | (simp; done) | simpa using hi.v13, fun e => by obtain ⟨g, old, r1, r2, r3, r4⟩ := hi.v5 (by simpa using e); exact ⟨g, old, by simpa using r1, r2, r3.old hb, r4⟩, by first | (simp; done) | simpa using hi.i7, by first | (simp; done) | simpa using hi.i9⟩⟩
      · cases ho
        refine inv_value 10 rfl rfl rfl (v := .pointer (some ⟨w.heap.size, 1, none⟩)) (w' := W) (fun ρ hρ => ?_) ?_
        · have e2 : ρ (.tmp 2) = .pointer (some ⟨w.heap.size, 0, none⟩) := hρ.none_ (sz 2 (by decide)) o2
          go_simp
        · exact ⟨fun k h5 h7 h8 h9 h10 h11 h12 h13 h14 => by simp [h10, hi.out k h5 h7 h8 h9 h10 h11 h12 h13 h14], hi.below, by first | (simp; done) | simpa using hi.v7, by first | (simp; done) | simpa using hi.v8, by first | (simp; done) | simpa using hi.v9, by first | (simp; done) | simpa using hi.v10, by first | (simp; done) | simpa using hi.v11, by first | (simp; done) | simpa using hi.v12, by first | (simp; done) | simpa using hi.v13, by first | (simp; done) | simpa using hi.v5, by first | (simp; done) | simpa using hi.i7, by first | (simp; done) | simpa using hi.i9⟩
      · cases ho
        simp [Region.binds] at haf
        refine inv_value 11 rfl rfl rfl (v := .int .i64 C) (w' := W) (fun ρ hρ => ?_) ?_
        · have e7 : ρ (.tmp 10) = .pointer (some ⟨w.heap.size, 1, none⟩) := hρ.some_ (sz 10 (by decide)) (hi.v10 haf)
          go_simp
        · exact ⟨fun k h5 h7 h8 h9 h10 h11 h12 h13 h14 => by simp [h11, hi.out k h5 h7 h8 h9 h10 h11 h12 h13 h14], hi.below, by first | (simp; done) | simpa using hi.v7, by first | (simp; done) | simpa using hi.v8, by first | (simp; done) | simpa using hi.v9, by first | (simp; done) | simpa using hi.v10, by first | (simp; done) | simpa using hi.v11, by first | (simp; done) | simpa using hi.v12, by first | (simp; done) | simpa using hi.v13, by first | (simp; done) | simpa using hi.v5, by first | (simp; done) | simpa using hi.i7, by first | (simp; done) | simpa using hi.i9⟩
      · cases ho
        refine inv_value 12 rfl rfl rfl (v := .int .i64 d) (w' := W) (fun ρ hρ => ?_) ?_
        · have e2 : ρ (.tmp 1) = .int .i64 d := hρ.none_ (sz 1 (by decide)) o1
          go_simp
        · exact ⟨fun k h5 h7 h8 h9 h10 h11 h12 h13 h14 => by simp [h12, hi.out k h5 h7 h8 h9 h10 h11 h12 h13 h14], hi.below, by first | (simp; done) | simpa using hi.v7, by first | (simp; done) | simpa using hi.v8, by first | (simp; done) | simpa using hi.v9, by first | (simp; done) | simpa using hi.v10, by first | (simp; done) | simpa using hi.v11, by first | (simp; done) | simpa using hi.v12, by first | (simp; done) | simpa using hi.v13, by first | (simp; done) | simpa using hi.v5, by first | (simp; done) | simpa using hi.i7, by first | (simp; done) | simpa using hi.i9⟩
      · cases ho
        simp [Region.binds] at haf
        refine inv_call 13 47 #[.int .i64 C, .int .i64 d] rfl rfl rfl (fun ρ hρ => ?_) ?_
        · have e8 : ρ (.tmp 11) = .int .i64 C := hρ.some_ (sz 11 (by decide)) (hi.v11 haf.1)
          have e9 : ρ (.tmp 12) = .int .i64 d := hρ.some_ (sz 12 (by decide)) (hi.v12 haf.2.1)
          have ef := hρ.func 47
          go_simp
        · refine (HF.out W).mono ?_
          rintro e w' ⟨rfl, rfl⟩
          exact ⟨_, rfl, ⟨fun k h5 h7 h8 h9 h10 h11 h12 h13 h14 => by simp [h13, hi.out k h5 h7 h8 h9 h10 h11 h12 h13 h14], hi.below, by first | (simp; done) | simpa using hi.v7, by first | (simp; done) | simpa using hi.v8, by first | (simp; done) | simpa using hi.v9, by first | (simp; done) | simpa using hi.v10, by first | (simp; done) | simpa using hi.v11, by first | (simp; done) | simpa using hi.v12, by first | (simp; done) | simpa using hi.v13, by first | (simp; done) | simpa using hi.v5, by first | (simp; done) | simpa using hi.i7, by first | (simp; done) | simpa using hi.i9⟩⟩
      · cases ho
        simp [Region.binds] at haf
        obtain ⟨A', c', f9, hO, _⟩ := hi.v9 haf.1
        have h9 : D 9 = true → False := fun e => by have := (hi.i9 e).1; rw [hDi] at this; cases this
        refine inv_value 14 rfl rfl rfl (v := .agg #[.slice A' n c', .int .i64 fl]) (w' := W) (fun ρ hρ => ?_) ?_
        · have e8 : ρ (.tmp 9) = .slice A' n c' := hρ.some_ (sz 9 (by decide)) f9
          have e9 : ρ (.tmp 13) = .int .i64 fl := hρ.some_ (sz 13 (by decide)) (hi.v13 haf.2)
          go_simp
        · exact ⟨fun k h5 h7 h8 h9 h10 h11 h12 h13 h14 => by simp [h14, hi.out k h5 h7 h8 h9 h10 h11 h12 h13 h14], hi.below, by first | (simp; done) | simpa using hi.v7, by first | (simp; done) | simpa using hi.v8, fun _ => ⟨A', c', by simpa using f9, hO, fun _ => ⟨by simp, fun e => (h9 (by simpa using e)).elim⟩⟩, by first | (simp; done) | simpa using hi.v10, by first | (simp; done) | simpa using hi.v11, by first | (simp; done) | simpa using hi.v12, by first | (simp; done) | simpa using hi.v13, by first | (simp; done) | simpa using hi.v5, fun _ => by simpa using haf.1, fun e => (h9 (by simpa using e)).elim⟩
      · cases ho
        have h9 : D 9 = true → False := fun e => by have := (hi.i9 e).2; rw [hDi] at this; cases this
        refine inv_value 5 rfl rfl rfl (v := pt W.heap.size) (w' := W.alloc (.cells #[.slice none 0 0, .int .i64 0] 37)) (fun ρ hρ => run_alloc37 rfl W) ?_
        have hsz : w.heap.size + 2 ≤ W.heap.size := by have := HS2.out; have := hi.below.size; omega
        exact ⟨fun k h5 h7 h8 h9 h10 h11 h12 h13 h14 => by simp [h5, hi.out k h5 h7 h8 h9 h10 h11 h12 h13 h14], hi.below.alloc hi.below.size _, by first | (simp; done) | simpa using hi.v7, by first | (simp; done) | simpa using hi.v8, fun e => by obtain ⟨A', c', r1, r2, r3⟩ := hi.v9 (by simpa using e); exact ⟨A', c', by simpa using r1, r2.alloc _, fun e7 => ⟨by simpa using (r3 (by simpa using e7)).1, fun e9 => (h9 (by simpa using e9)).elim⟩⟩, by first | (simp; done) | simpa using hi.v10, by first | (simp; done) | simpa using hi.v11, by first | (simp; done) | simpa using hi.v12, by first | (simp; done) | simpa using hi.v13, fun _ => ⟨_, _, by simp, hsz, Blk.new _ _ _, rfl⟩, by first | (simp; done) | simpa using hi.i7, fun e => (h9 (by simpa using e)).elim⟩
      · cases ho
        simp [Region.binds] at haf
        obtain ⟨A', c', f9, hO, h7⟩ := hi.v9 haf.2.2.2.2.2.1
        obtain ⟨f14, _⟩ := h7 haf.2.1
        obtain ⟨g, old, f5, hg, hk, hold⟩ := hi.v5 haf.1
        refine inv_store rfl rfl 37 (.tmp 5) (.tmp 14) rfl rfl g #[.slice A' n c', .int .i64 fl] old 37 (fun ρ hρ => hρ.some_ (sz 5 (by decide)) f5) (fun ρ hρ => hρ.some_ (sz 14 (by decide)) f14) hk size37 hold (by simp [Value.oneCell']) ?_
        intro w' hk' ho'
        have hO' := hO.only ho' (fun e => by
          obtain ⟨cur, hcur⟩ := hO.type e
          unfold Blk at hk
          rw [hk] at hcur; cases hcur)
        have hb' := below_only hi.below ho' (by have := HS2.out; omega)
        exact ⟨hi.out, hb', by simpa using hi.v7, by simpa using hi.v8, fun _ => ⟨A', c', f9, hO', fun _ => ⟨f14, fun _ g' e' => by rw [f5] at e'; cases e'; exact hk'⟩⟩, by simpa using hi.v10, by simpa using hi.v11, by simpa using hi.v12, by simpa using hi.v13, fun _ => ⟨g, _, f5, hg, hk', rfl⟩, by simpa using hi.i7, fun _ => ⟨by simpa using haf.2.1, by simpa using haf.1⟩⟩
    · intro D F W hD hi
      have hall : ∀ k, k < 10 → D k = true := hD
      obtain ⟨A', c', f9, hO, h7⟩ := hi.v9 (hall 2 (by decide))
      obtain ⟨f14, h9⟩ := h7 (hall 7 (by decide))
      obtain ⟨g, old, f5, hg, hk, hold⟩ := hi.v5 (hall 8 (by decide))
      have hk' := h9 (hall 9 (by decide)) g f5
      have hf : ∀ k, k ≠ 5 → k ≠ 7 → k ≠ 8 → k ≠ 9 → k ≠ 10 → k ≠ 11 → k ≠ 12 → k ≠ 13 → k ≠ 14 → F k = none := hi.out
      simp only [puts, List.mapIdx_cons, List.mapIdx_nil, Nat.zero_add, Nat.reduceAdd]
      simp only [hf 0 (by decide) (by decide) (by decide) (by decide) (by decide) (by decide) (by decide) (by decide) (by decide), hf 1 (by decide) (by decide) (by decide) (by decide) (by decide) (by decide) (by decide) (by decide) (by decide), hf 2 (by decide) (by decide) (by decide) (by decide) (by decide) (by decide) (by decide) (by decide) (by decide), hf 3 (by decide) (by decide) (by decide) (by decide) (by decide) (by decide) (by decide) (by decide) (by decide), hf 4 (by decide) (by decide) (by decide) (by decide) (by decide) (by decide) (by decide) (by decide) (by decide), hf 6 (by decide) (by decide) (by decide) (by decide) (by decide) (by decide) (by decide) (by decide) (by decide), hf 15 (by decide) (by decide) (by decide) (by decide) (by decide) (by decide) (by decide) (by decide) (by decide), hf 16 (by decide) (by decide) (by decide) (by decide) (by decide) (by decide) (by decide) (by decide) (by decide), hf 17 (by decide) (by decide) (by decide) (by decide) (by decide) (by decide) (by decide) (by decide) (by decide), hf 18 (by decide) (by decide) (by decide) (by decide) (by decide) (by decide) (by decide) (by decide) (by decide), hf 19 (by decide) (by decide) (by decide) (by decide) (by decide) (by decide) (by decide) (by decide) (by decide), hf 20 (by decide) (by decide) (by decide) (by decide) (by decide) (by decide) (by decide) (by decide) (by decide), hf 21 (by decide) (by decide) (by decide) (by decide) (by decide) (by decide) (by decide) (by decide) (by decide), hf 22 (by decide) (by decide) (by decide) (by decide) (by decide) (by decide) (by decide) (by decide) (by decide), hf 23 (by decide) (by decide) (by decide) (by decide) (by decide) (by decide) (by decide) (by decide) (by decide), hf 24 (by decide) (by decide) (by decide) (by decide) (by decide) (by decide) (by decide) (by decide) (by decide), hf 25 (by decide) (by decide) (by decide) (by decide) (by decide) (by decide) (by decide) (by decide) (by decide), hf 26 (by decide) (by decide) (by decide) (by decide) (by decide) (by decide) (by decide) (by decide) (by decide), hf 27 (by decide) (by decide) (by decide) (by decide) (by decide) (by decide) (by decide) (by decide) (by decide), hf 28 (by decide) (by decide) (by decide) (by decide) (by decide) (by decide) (by decide) (by decide) (by decide), hf 29 (by decide) (by decide) (by decide) (by decide) (by decide) (by decide) (by decide) (by decide) (by decide), hf 30 (by decide) (by decide) (by decide) (by decide) (by decide) (by decide) (by decide) (by decide) (by decide), f5, Option.getD_some, Option.getD_none]
      go_wp2_with fail
      go_meet
      case rel => exact ⟨g, A', c', rfl, hk', hO, HB2.out.trans (hi.below.mono HB2.out.size), hg, HK3.out.old hi.below⟩
  case rest =>
    obtain ⟨g5, A', c', rfl, hk, hO, hb, hg, hk3⟩ := hcut
    obtain ⟨w3, rfl⟩ : ∃ w3 : World, w3 = wc := ⟨_, rfl⟩
    have c5 : w3.cell? ⟨g5, 0, none⟩ = some (.slice A' n c') := hk.cell 0
    have hk5 := hg
    go_wp2
    have HI := Lib.hid (show CutLoop w g5 A' n c' l d fl 0 w3 from ⟨hk, by simpa using hO, hb, hk3⟩)
    clear c5 hk hO hb hk3
    go_loopw [18] (fun s18 wr => ∃ k : Nat, k ≤ n ∧ s18 = .int .i64 k ∧ CutLoop w g5 A' n c' l d fl k wr) (fun s18 _ => n - (intOf s18).toNat)
    case atStart => exact ⟨0, Nat.zero_le _, rfl, HI.out⟩
    case round =>
      clear HI
      obtain ⟨k, hk, rfl, hq⟩ := hrel
      obtain ⟨wo, rfl⟩ : ∃ wo : World, wo = wr := ⟨_, rfl⟩
      have HQ := Lib.hid hq
      by_cases hlt : k < n
      · obtain ⟨q, rfl⟩ := OwnS.addr (s := 1) hq.own (by omega)
        have hx : l[k]? = some (l.getD k 0) := by simp [show k < l.length by omega]
        have hx2 := bet_iff.1 (all_mem HL.out hx)
        have hcap := hq.own.cap
        have hcur : (((l.map fun a => a.tdiv d).take k ++ l.drop k).map (Value.int .i64))[k]? = some (.int .i64 (l.getD k 0)) := by
          rw [List.getElem?_map, List.getElem?_append_right (by simp; omega), List.getElem?_drop, show k + (k - ((l.map fun a => a.tdiv d).take k).length) = k by simp; omega, hx]; rfl
        have hc := World.ownsRow.cells hq.own (g := q) rfl _ _ hcur
        have hadd : (⟨q, 0, none⟩ : Addr).add k = ⟨q, k, none⟩ := by
          unfold Addr.add
          by_cases hj : k = 0 <;> simp [hj]
        rw [hadd] at hc
        have hf := OwnS.frozen (s := 1) hq.own k
        have c5 : wo.cell? ⟨g5, 0, none⟩ = some (.slice (some ⟨q, 0, none⟩) n c') := hq.blk.cell 0
        have HX := Lib.hid hx
        have hd0 : ¬ d = 0 := by omega
        generalize l.getD k 0 = x at *
        have hz1 := Int.natAbs_tdiv_le_natAbs x d
        obtain ⟨z, hz⟩ : ∃ z, z = x.tdiv d := ⟨_, rfl⟩
        have hz2 : -1125899906842624 ≤ z ∧ z ≤ 1125899906842624 := by rw [← hz] at hz1; omega
        have HN := Lib.hid (hq.next HX.out hz)
        have hz' := hz.symm
        clear hq hx hx2 hz1 hz hcur hadd
        go_wp2
        go_roundw
        case rel => exact ⟨k + 1, by omega, by go_num, HN.out⟩
        case measure => simp [intOf]; omega
      · obtain rfl : k = n := by omega
        have HK5 := Lib.hid hq.blk
        have hlast : (l.map fun a => a.tdiv d).take k ++ l.drop k = l.map fun a => a.tdiv d := by
          rw [List.take_of_length_le (by simp; omega), List.drop_eq_nil_of_le (by omega), List.append_nil]
        have ho := hq.own
        rw [hlast] at ho
        have HO := Lib.hid ho
        have HB := Lib.hid hq.below
        have HR := Lib.hid hq.res
        clear hq hlast ho
        go_wp2_with (first | (refine wpList_load_blk rfl 37 (.tmp 5) rfl g5 rfl 37 _ _ HK5.out Try.underlying37 rfl size37 ?_) | (
                     refine wpList_store_blk rfl 37 (.tmp 4) (.tmp 30) rfl rfl (w.heap.size + 1) #[.slice A' k c', .int .i64 fl] _ 37 rfl rfl HR.out size37 rfl (by simp [Value.oneCell']) ?_
                     intro w7 hk7 ho7
                     have HK7 := Lib.hid hk7
                     have HO7 := Lib.hid (HO.out.only ho7 (fun e => by
                       obtain ⟨cur, hcur⟩ := HO.out.type e
                       have := HR.out
                       unfold Blk at this
                       rw [this] at hcur; cases hcur))
                     have HB7 := Lib.hid (below_only HB.out ho7 (by omega))
                     clear hk7 ho7))
        refine bodyPost_ret (results_cell rfl _ _ (w.heap.size + 1) rfl 37 _ HK7.out Try.underlying37 rfl size37) rfl ?_
        rw [HCR.out]
        exact ⟨_, _, rfl, ⟨_, _, _, rfl, rfl, HO7.out.r1 (fun q hq => (HO7.out.lt q hq).1) (by omega) (cut2_i64 HL.out), by have := HFB.out; unfold I64; omega⟩, HB7.out⟩


/-- closes$2: not divisible -/
theorem mod_c (g : Nat) (a d : Int) (cs : Array Value) (w : World) (h : Blk w g 49 cs) (hc : cs[3]? = some (.int .i64 d)) (ha : I64 a) (hd : 2 ≤ d) :
    Calls Try.prog 44 #[.int .i64 a, .pointer (some ⟨g, 0, none⟩)] w fun e w' => e = .returned (.bool (a.tmod d != 0)) ∧ w = w' := by
  have c3 := h.cell 3
  rw [hc] at c3
  have hz : ¬ d = 0 := by omega
  have hz1 : ¬ d = -1 := by omega
  have hm := Int.natAbs_tmod a d
  have hm2 : (a.tmod d).natAbs ≤ a.natAbs := by rw [hm]; exact Nat.mod_le _ _
  unfold I64 at ha
  clear h hc hm
  go_enter Try.func44, Try.ntmps44
  go_wp2
  go_ret
  exact ⟨rfl, rfl⟩
/-- closes$3: positive -/
theorem pos_c (a : Int) (w : World) : Calls Try.prog 45 #[.int .i64 a] w fun e w' => e = .returned (.bool (decide (0 < a))) ∧ w = w' := by
  go_enter Try.func45, Try.ntmps45
  go_wp2
  go_ret
  exact ⟨rfl, rfl⟩
/-- 'slices.IndexFunc' over not divisible. -/
theorem indexMod_c (K : Nat → Prop) (A : Option Addr) (n c : Nat) (l : List Int) (g : Nat) (d : Int) (cs : Array Value) (w : World) (h : R1 w K A n c l) (h1 : Blk w g 49 cs) (hc : cs[3]? = some (.int .i64 d)) (hd : 2 ≤ d) :
    Calls Try.prog 49 #[.slice A n c, .func (.func 44) #[] #[.pointer (some ⟨g, 0, none⟩)]] w (IdxPost (l.any fun x => x.tmod d != 0) w) := by
  have hbig := h.big
  have hcap := h.cap
  have HG := Lib.hid (And.intro h1 hc)
  clear h1 hc
  go_enter Try.func49, Try.ntmps49
  go_wp2
  go_loop [8] (fun i => ∃ k : Nat, k ≤ n ∧ i = .int .i64 k ∧ (l.take k).any (fun x => x.tmod d != 0) = false) (fun i => n - (intOf i).toNat)
  case atStart => exact ⟨0, Nat.zero_le _, rfl, by simp⟩
  case round =>
    obtain ⟨k, hk, rfl, hnt⟩ := hrel
    have H := Lib.hid hnt
    clear hnt
    by_cases hlt : k < n
    · obtain ⟨ad, x, rfl, _, hx, hw, hcell⟩ := h.at_ hlt
      obtain ⟨hw1, hw2⟩ := hw
      have HX := Lib.hid (take_snoc_of hx)
      have Hx := Lib.hid hx
      have HC := Lib.hid (mod_c g x d cs w HG.out.1 HG.out.2 ⟨hw1, hw2⟩ hd)
      clear hx h
      cases hb : (x.tmod d != 0)
      · rw [hb] at HC
        have HB := Lib.hid hb
        clear hb
        go_wp2_with (go_at_call 44; refine HC.out.mono ?_; rintro e w' ⟨rfl, rfl⟩)
        go_round
        case rel =>
          refine ⟨k + 1, by omega, by go_num, ?_⟩
          rw [HX.out, List.any_append, H.out]
          simp [HB.out]
        case measure => simp [intOf]; omega
      · rw [hb] at HC
        have HB := Lib.hid hb
        clear hb
        go_wp2_with (go_at_call 44; refine HC.out.mono ?_; rintro e w' ⟨rfl, rfl⟩)
        go_ret
        exact ⟨k, rfl, by
          have : (l.any fun x => x.tmod d != 0) = true := by rw [List.any_eq_true]; exact ⟨x, List.mem_of_getElem? Hx.out, HB.out⟩
          rw [this]; simp, rfl⟩
    · go_wp2
      go_ret
      have hl := h.len
      have := H.out
      rw [List.take_of_length_le (by omega)] at this
      exact ⟨-1, rfl, by rw [this]; rfl, rfl⟩

/-- 'slices.ContainsFunc' over not divisible. -/
theorem containsMod_c (K : Nat → Prop) (A : Option Addr) (n c : Nat) (l : List Int) (g : Nat) (d : Int) (cs : Array Value) (w : World) (h : R1 w K A n c l) (h1 : Blk w g 49 cs) (hc : cs[3]? = some (.int .i64 d)) (hd : 2 ≤ d) :
    Calls Try.prog 38 #[.slice A n c, .func (.func 44) #[] #[.pointer (some ⟨g, 0, none⟩)]] w fun e w' => e = .returned (.bool (l.any fun x => x.tmod d != 0)) ∧ w = w' := by
  have HC := Lib.hid (indexMod_c K A n c l g d cs w h h1 hc hd)
  clear h h1 hc hd
  generalize (l.any fun x => x.tmod d != 0) = b at *
  go_enter Try.func38, Try.ntmps38
  go_wp2_with (go_at_call 49; refine HC.out.mono ?_; rintro e w' ⟨r, rfl, hb, rfl⟩; have Hb := Lib.hid hb; clear hb)
  go_ret
  exact ⟨ret_bool Hb.out, rfl⟩

/-- 'slices.IndexFunc' over positive. -/
theorem indexPos_c (K : Nat → Prop) (A : Option Addr) (n c : Nat) (l : List Int) (w : World) (h : R1 w K A n c l) :
    Calls Try.prog 49 #[.slice A n c, .func (.func 45) #[] #[]] w (IdxPost (l.any fun x => decide (0 < x)) w) := by
  have hbig := h.big
  have hcap := h.cap
  go_enter Try.func49, Try.ntmps49
  go_wp2
  go_loop [8] (fun i => ∃ k : Nat, k ≤ n ∧ i = .int .i64 k ∧ (l.take k).any (fun x => decide (0 < x)) = false) (fun i => n - (intOf i).toNat)
  case atStart => exact ⟨0, Nat.zero_le _, rfl, by simp⟩
  case round =>
    obtain ⟨k, hk, rfl, hnt⟩ := hrel
    have H := Lib.hid hnt
    clear hnt
    by_cases hlt : k < n
    · obtain ⟨ad, x, rfl, _, hx, hw, hcell⟩ := h.at_ hlt
      obtain ⟨hw1, hw2⟩ := hw
      have HX := Lib.hid (take_snoc_of hx)
      have Hx := Lib.hid hx
      have HC := Lib.hid (pos_c x w)
      clear hx h
      cases hb : (decide (0 < x))
      · rw [hb] at HC
        have HB := Lib.hid hb
        clear hb
        go_wp2_with (go_at_call 45; refine HC.out.mono ?_; rintro e w' ⟨rfl, rfl⟩)
        go_round
        case rel =>
          refine ⟨k + 1, by omega, by go_num, ?_⟩
          rw [HX.out, List.any_append, H.out]
          simp [HB.out]
        case measure => simp [intOf]; omega
      · rw [hb] at HC
        have HB := Lib.hid hb
        clear hb
        go_wp2_with (go_at_call 45; refine HC.out.mono ?_; rintro e w' ⟨rfl, rfl⟩)
        go_ret
        exact ⟨k, rfl, by
          have : (l.any fun x => decide (0 < x)) = true := by rw [List.any_eq_true]; exact ⟨x, List.mem_of_getElem? Hx.out, HB.out⟩
          rw [this]; simp, rfl⟩
    · go_wp2
      go_ret
      have hl := h.len
      have := H.out
      rw [List.take_of_length_le (by omega)] at this
      exact ⟨-1, rfl, by rw [this]; rfl, rfl⟩

/-- 'slices.ContainsFunc' over positive. -/
theorem containsPos_c (K : Nat → Prop) (A : Option Addr) (n c : Nat) (l : List Int) (w : World) (h : R1 w K A n c l) :
    Calls Try.prog 38 #[.slice A n c, .func (.func 45) #[] #[]] w fun e w' => e = .returned (.bool (l.any fun x => decide (0 < x))) ∧ w = w' := by
  have HC := Lib.hid (indexPos_c K A n c l w h)
  clear h
  generalize (l.any fun x => decide (0 < x)) = b at *
  go_enter Try.func38, Try.ntmps38
  go_wp2_with (go_at_call 49; refine HC.out.mono ?_; rintro e w' ⟨r, rfl, hb, rfl⟩; have Hb := Lib.hid hb; clear hb)
  go_ret
  exact ⟨ret_bool Hb.out, rfl⟩

end Go.Proofs.Ytjienelkjpodkaa
