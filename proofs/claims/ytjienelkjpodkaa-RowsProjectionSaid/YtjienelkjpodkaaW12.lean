/- Walks: cut. -/
import Derived.Test.YtjienelkjpodkaaW11
import Derived.Test.YtjienelkjpodkaaL7
namespace Go.Proofs.Ytjienelkjpodkaa
open Go.RowKit

theorem Own.base_ {w : World} {b b' : Nat} {e : TypeId} {A : Option Addr} {n c : Nat} {xs : List Value} (h : Own w b e A n c xs) (hb : b' ≤ b) : Own w b' e A n c xs := OwnS.base (s := 1) h hb

/-- what a frame yields -/
structure Reads (a0 : Act) (f : Nat → Option Value) (ρ : Operand → Value) : Prop where
  tmp : ∀ t, t < a0.tmps.size → ρ (.tmp t) = (f t).getD (a0.eval (.tmp t))
  const : ∀ v, ρ (.const v) = v
  func : ∀ g, ρ (.func g) = .func (.func g) #[] #[]
theorem reads_puts (a0 : Act) (f : Nat → Option Value) : Reads a0 f (puts a0 f).eval := ⟨fun t h => puts_eval a0 f t h, fun _ => rfl, fun _ => rfl⟩
theorem Reads.some_ {a0 : Act} {f : Nat → Option Value} {ρ : Operand → Value} (h : Reads a0 f ρ) {t : Nat} (ht : t < a0.tmps.size) {v : Value} (hf : f t = some v) : ρ (.tmp t) = v := by rw [h.tmp t ht, hf]; rfl
theorem Reads.none_ {a0 : Act} {f : Nat → Option Value} {ρ : Operand → Value} (h : Reads a0 f ρ) {t : Nat} (ht : t < a0.tmps.size) (hf : f t = none) : ρ (.tmp t) = a0.eval (.tmp t) := by rw [h.tmp t ht, hf]; rfl

/-- a step that hands back a value -/
theorem inv_value {P : Program} {ops : Array Oper} {Q : Exit → Act → World → Prop} {a0 : Act} {f : Nat → Option Value} {Inv : (Nat → Option Value) → World → Prop} {i : Nat} {o : Oper} {w w' : World} {v : Value} (d : Nat) (ho : ops[i]? = some o) (hg : o.guard = none) (hd : o.dst = some d)
    (e : ∀ ρ, Reads a0 f ρ → (execOp ρ o).run P w = .ok (.value v) w') (h : Inv (fun k => if k = d then some v else f k) w') : wpOp P ops Q i (fun a w => ∃ f', a = puts a0 f' ∧ Inv f' w) (puts a0 f) w :=
  wpOp_value ho hg (e _ (reads_puts a0 f)) ⟨_, by rw [hd, puts_put], h⟩
/-- a step that stores a whole value -/
theorem inv_store {P : Program} {ops : Array Oper} {Q : Exit → Act → World → Prop} {a0 : Act} {f : Nat → Option Value} {Inv : (Nat → Option Value) → World → Prop} {i : Nat} {o : Oper} {w : World} (ho : ops[i]? = some o) (hg : o.guard = none) (ty : TypeId) (x y : Operand) (hop : o.op = .store ty x y)
    (hd : o.dst = none) (g : Nat) (cells old : Array Value) (t : TypeId) (hx : ∀ ρ, Reads a0 f ρ → ρ x = .pointer (some ⟨g, 0, none⟩)) (hy : ∀ ρ, Reads a0 f ρ → ρ y = .agg cells) (hb : Blk w g t old)
    (hi : (P.info? ty).map (·.size) = some cells.size) (hold : old.size = cells.size) (h1 : cells.all (·.oneCell') = true) (h : ∀ w', Blk w' g t cells → Only g w w' → Inv f w') : wpOp P ops Q i (fun a w => ∃ f', a = puts a0 f' ∧ Inv f' w) (puts a0 f) w :=
  wpOp_store_blk ho hg ty x y hop hd g cells old t (hx _ (reads_puts a0 f)) (hy _ (reads_puts a0 f)) hb hi hold h1 fun w' h1 h2 => ⟨f, rfl, h w' h1 h2⟩
/-- a call -/
theorem inv_call {P : Program} {ops : Array Oper} {Q : Exit → Act → World → Prop} {a0 : Act} {f : Nat → Option Value} {Inv : (Nat → Option Value) → World → Prop} {i : Nat} {o : Oper} {w : World} (d : Nat) (fn : FuncId) (args : Array Value) (ho : ops[i]? = some o) (hg : o.guard = none) (hd : o.dst = some d)
    (e : ∀ ρ, Reads a0 f ρ → (execOp ρ o).run P w = .ok (.enter fn args) w) (h : Calls P fn args w fun e w' => ∃ v, e = .returned v ∧ Inv (fun k => if k = d then some v else f k) w') : wpOp P ops Q i (fun a w => ∃ f', a = puts a0 f' ∧ Inv f' w) (puts a0 f) w :=
  wpOp_call fn args ho hg (e _ (reads_puts a0 f)) (h.mono fun e w' ⟨v, h1, h2⟩ => ⟨v, h1, _, by rw [hd, puts_put], h2⟩)

theorem run_alloc37 {o : Oper} {ρ : Operand → Value} (ho : o.op = .alloc 37) (w : World) : (execOp ρ o).run Try.prog w = .ok (.value (.pointer (some ⟨w.heap.size, 0, none⟩))) (w.alloc (.cells #[.slice none 0 0, .int .i64 0] 37)) := by
  have hz : (Try.prog.info? 37).map (fun i => i.zero) = some (some (.agg #[.slice none 0 0, .int .i64 0])) := by kernel_rfl
  cases hi : Try.prog.info? 37 with
  | none => rw [hi] at hz; cases hz
  | some i =>
    rw [hi] at hz
    simp only [Option.map_some, Option.some.injEq] at hz
    unfold execOp
    simp [ho, Instr.alloc, zeroValue, typeInfo, hi, hz, newVar, newRow, Value.cells]

structure CutInv (w w2 : World) (A : Option Addr) (n c : Nat) (l : List Int) (C d fl : Int) (D : Nat → Bool) (F : Nat → Option Value) (W : World) : Prop where
  out : ∀ k, k ≠ 5 → k ≠ 7 → k ≠ 8 → k ≠ 9 → k ≠ 10 → k ≠ 11 → k ≠ 12 → k ≠ 13 → k ≠ 14 → F k = none
  below : Below w2.heap.size w2 W
  v7 : D 0 = true → F 7 = some (.pointer (some ⟨w.heap.size, 0, none⟩))
  v8 : D 1 = true → F 8 = some (.slice A n c)
  v9 : D 2 = true → ∃ A' c', F 9 = some (.slice A' n c') ∧ Own W w.heap.size 3 A' n c' (l.map (Value.int .i64)) ∧ (D 7 = true → F 14 = some (.agg #[.slice A' n c', .int .i64 fl]) ∧ (D 9 = true → ∀ g, F 5 = some (pt g) → Blk W g 37 #[.slice A' n c', .int .i64 fl]))
  v10 : D 3 = true → F 10 = some (.pointer (some ⟨w.heap.size, 1, none⟩))
  v11 : D 4 = true → F 11 = some (.int .i64 C)
  v12 : D 5 = true → F 12 = some (.int .i64 d)
  v13 : D 6 = true → F 13 = some (.int .i64 fl)
  v5 : D 8 = true → ∃ g old, F 5 = some (pt g) ∧ w.heap.size + 2 ≤ g ∧ Blk W g 37 old ∧ old.size = 2
  i7 : D 7 = true → D 2 = true
  i9 : D 9 = true → D 7 = true ∧ D 8 = true

structure CutLoop (w : World) (g5 : Nat) (A' : Option Addr) (n c' : Nat) (l : List Int) (d fl : Int) (k : Nat) (wr : World) : Prop where
  blk : Blk wr g5 37 #[.slice A' n c', .int .i64 fl]
  own : Own wr w.heap.size 3 A' n c' (((l.map fun a => a.tdiv d).take k ++ l.drop k).map (Value.int .i64))
  below : Below w.heap.size w wr
  res : Blk wr (w.heap.size + 1) 37 #[.slice none 0 0, .int .i64 0]
theorem cur_step {l : List Int} {d x z : Int} {k : Nat} (hx : l[k]? = some x) (hz : z = x.tdiv d) : ((l.map fun a => a.tdiv d).take k ++ l.drop k).set k z = (l.map fun a => a.tdiv d).take (k + 1) ++ l.drop (k + 1) := by
  have hk : k < l.length := (List.getElem?_eq_some_iff.1 hx).1
  rw [take_snoc_of (l := l.map fun a => a.tdiv d) (x := z) (by rw [List.getElem?_map, hx, hz]; rfl), drop_cons_of hx, List.set_append_right _ _ (by simp; omega), show k - ((l.map fun a => a.tdiv d).take k).length = 0 by simp; omega, List.set_cons_zero]
  simp
theorem CutLoop.next {w : World} {g5 q n c' : Nat} {l : List Int} {d fl x z : Int} {k : Nat} {wr : World} (h : CutLoop w g5 (some ⟨q, 0, none⟩) n c' l d fl k wr) (hx : l[k]? = some x) (hz : z = x.tdiv d) : CutLoop w g5 (some ⟨q, 0, none⟩) n c' l d fl (k + 1) (wr.setCell ⟨q, k, none⟩ (.int .i64 z)) := by
  have h1 := OwnS.stored (s := 1) h.own k (.int .i64 z)
  have hq := (h.own.lt q rfl).1
  have ne : ∀ g cs, Blk wr g 37 cs → g ≠ q := fun g cs hg e => by
    obtain ⟨cur, hc⟩ := h.own.type (g := q) rfl
    unfold Blk at hg
    rw [e, hc] at hg; cases hg
  refine ⟨h.blk.far (p := ⟨q, k, none⟩) (ne _ _ h.blk) _, ?_, below_only h.below (Only.setCell wr q k _) hq, h.res.far (p := ⟨q, k, none⟩) (ne _ _ h.res) _⟩
  rw [← cur_step hx hz, List.map_set]
  exact h1
theorem cut_i64 {l : List Int} {d : Int} (h : eachB l (-1000000) 1000000 = true) : ∀ x ∈ l.map fun a => a.tdiv d, I64 x := fun x hx => by
  obtain ⟨a, ha, rfl⟩ := List.mem_map.1 hx
  have := bet_iff.1 (List.all_eq_true.1 h a ha)
  have := Int.natAbs_tdiv_le_natAbs a d
  unfold I64; omega
theorem floor_bound (C d : Int) (hC : -1000000 ≤ C ∧ C ≤ 1000000) : -1000001 ≤ floorF C d ∧ floorF C d ≤ 1000001 := by
  have := Int.natAbs_tdiv_le_natAbs C d
  unfold floorF
  split <;> omega

def CutMid (w : World) (n : Nat) (l : List Int) (f : Int) (s5 : Value) (wz : World) : Prop :=
  ∃ g5 A' c', s5 = .pointer (some ⟨g5, 0, none⟩) ∧ Blk wz g5 37 #[.slice A' n c', .int .i64 f] ∧ Own wz w.heap.size 3 A' n c' (l.map (Value.int .i64)) ∧ Below w.heap.size w wz ∧ w.heap.size + 2 ≤ g5 ∧ Blk wz (w.heap.size + 1) 37 #[.slice none 0 0, .int .i64 0]

set_option maxHeartbeats 4000000 in
/-- 'cut'. -/
theorem cut_c (K : Nat → Prop) (A : Option Addr) (n c : Nat) (l : List Int) (C d : Int) (w : World) (h : R1 w K A n c l) (hn : n ≤ 12) (hl : eachB l (-1000000) 1000000 = true) (hC : -1000000 ≤ C ∧ C ≤ 1000000) (hd : 1 ≤ d ∧ d ≤ 1000000) :
    Calls Try.prog 35 #[.agg #[.slice A n c, .int .i64 C], .int .i64 d] w (RowPost w (cutR (l, C) d)) := by
  have HL := Lib.hid hl
  have hlen := h.len
  have HF := Lib.hid fun W => floor_c C d W (by omega) (by omega)
  have hb2 : Below w.heap.size w ((w.alloc (.cells #[.slice A n c, .int .i64 C] 37)).alloc (.cells #[.slice none 0 0, .int .i64 0] 37)) := ((Below.refl _ _).alloc (Nat.le_refl _) _).alloc (by simp) _
  have hk2 := (Blk.new w 37 #[.slice A n c, .int .i64 C]).alloc (.cells #[.slice none 0 0, .int .i64 0] 37)
  have hk3 : Blk ((w.alloc (.cells #[.slice A n c, .int .i64 C] 37)).alloc (.cells #[.slice none 0 0, .int .i64 0] 37)) (w.heap.size + 1) 37 #[.slice none 0 0, .int .i64 0] := by
    have := Blk.new (w.alloc (.cells #[.slice A n c, .int .i64 C] 37)) 37 #[.slice none 0 0, .int .i64 0]
    simpa using this
  have hr2 := h.below hb2
  have hs2 : ((w.alloc (.cells #[.slice A n c, .int .i64 C] 37)).alloc (.cells #[.slice none 0 0, .int .i64 0] 37)).heap.size = w.heap.size + 2 := by simp
  have HW := Lib.hid (show ∃ w2, w2 = (w.alloc (.cells #[.slice A n c, .int .i64 C] 37)).alloc (.cells #[.slice none 0 0, .int .i64 0] 37) from ⟨_, rfl⟩)
  have HB2 := Lib.hid hb2
  have HK2 := Lib.hid hk2
  have HK3 := Lib.hid hk3
  have H2 := Lib.hid hr2
  have HS2 := Lib.hid hs2
  have HFB := Lib.hid (floor_bound C d hC)
  have HCR := Lib.hid (show cutR (l, C) d = (l.map fun a => a.tdiv d, floorF C d) from rfl)
  clear hb2 hk2 hk3 hr2 hs2 h hl
  go_enter Try.func35, Try.ntmps35
  go_wp2_with fail
  obtain ⟨w2, hw2⟩ := HW.out
  rw [← hw2] at HB2 HK2 HK3 H2 HS2 ⊢
  clear hw2 HW
  generalize floorF C d = fl at *
  go_cut [5] from 7 to 14 (fun s5 wz => CutMid w n l fl s5 wz)
  case first =>
    refine region_inv (by kernel_rfl) (by decide +kernel) (CutInv w w2 A n c l C d fl) ?_ ?_ ?_
    · refine ⟨fun _ _ _ _ _ _ _ _ _ _ => rfl, (Below.refl _ _).drew, ?_, ?_, ?_, ?_, ?_, ?_, ?_, ?_, ?_, ?_⟩ <;> intro h <;> cases h
    · intro D F W i o hi ho hDi haf
      have hlt : i < 10 := (Array.getElem?_eq_some_iff.1 ho).1
      have hi' : i = 0 ∨ i = 1 ∨ i = 2 ∨ i = 3 ∨ i = 4 ∨ i = 5 ∨ i = 6 ∨ i = 7 ∨ i = 8 ∨ i = 9 := by omega
      have o1 := hi.out 1 (by decide) (by decide) (by decide) (by decide) (by decide) (by decide) (by decide) (by decide) (by decide)
      have o2 := hi.out 2 (by decide) (by decide) (by decide) (by decide) (by decide) (by decide) (by decide) (by decide) (by decide)
      have hkw := HK2.out.old hi.below
      have k0 : W.cell? ⟨w.heap.size, 0, none⟩ = some (.slice A n c) := hkw.cell 0
      have k1 : W.cell? ⟨w.heap.size, 1, none⟩ = some (.int .i64 C) := hkw.cell 1
      have sz : ∀ t, t < 31 → t < 31 := fun _ h => h
      rcases hi' with rfl | rfl | rfl | rfl | rfl | rfl | rfl | rfl | rfl | rfl
      · cases ho
        refine inv_value 7 rfl rfl rfl (v := .pointer (some ⟨w.heap.size, 0, none⟩)) (w' := W) (fun ρ hρ => ?_) ?_
        · have e2 : ρ (.tmp 2) = .pointer (some ⟨w.heap.size, 0, none⟩) := hρ.none_ (sz 2 (by decide)) o2
          go_simp
        · exact ⟨fun k h5 h7 h8 h9 h10 h11 h12 h13 h14 => by simp [h7, hi.out k h5 h7 h8 h9 h10 h11 h12 h13 h14], hi.below, by first | (simp; done) | simpa using hi.v7, by first | (simp; done) | simpa using hi.v8, by first | (simp; done) | simpa using hi.v9, by first | (simp; done) | simpa using hi.v10, by first | (simp; done) | simpa using hi.v11, by first | (simp; done) | simpa using hi.v12, by first | (simp; done) | simpa using hi.v13, by first | (simp; done) | simpa using hi.v5, by first | (simp; done) | simpa using hi.i7, by first | (simp; done) | simpa using hi.i9⟩
      · cases ho
        simp [Region.binds] at haf
        refine inv_value 8 rfl rfl rfl (v := .slice A n c) (w' := W) (fun ρ hρ => ?_) ?_
        · have e7 : ρ (.tmp 7) = .pointer (some ⟨w.heap.size, 0, none⟩) := hρ.some_ (sz 7 (by decide)) (hi.v7 haf)
          go_simp
        · exact ⟨fun k h5 h7 h8 h9 h10 h11 h12 h13 h14 => by simp [h8, hi.out k h5 h7 h8 h9 h10 h11 h12 h13 h14], hi.below, by first | (simp; done) | simpa using hi.v7, by first | (simp; done) | simpa using hi.v8, by first | (simp; done) | simpa using hi.v9, by first | (simp; done) | simpa using hi.v10, by first | (simp; done) | simpa using hi.v11, by first | (simp; done) | simpa using hi.v12, by first | (simp; done) | simpa using hi.v13, by first | (simp; done) | simpa using hi.v5, by first | (simp; done) | simpa using hi.i7, by first | (simp; done) | simpa using hi.i9⟩
      · cases ho
        simp [Region.binds] at haf
        refine inv_call 9 31 #[.slice A n c] rfl rfl rfl (fun ρ hρ => ?_) ?_
        · have e8 : ρ (.tmp 8) = .slice A n c := hρ.some_ (sz 8 (by decide)) (hi.v8 haf)
          have ef := hρ.func 31
          go_simp
        · refine (clone1_c K A n c l W (H2.out.below hi.below) (by omega)).mono ?_
          rintro e w' ⟨A', n', c', rfl, hO, hb⟩
          have hn' : n' = n := by have := hO.len; simp at this; omega
          subst hn'
          have h7 : D 7 = true → False := fun e => by have := hi.i7 e; rw [hDi] at this; cases this
          have hO' := hO.base_ (b' := w.heap.size) (by have := HS2.out; have := hi.below.size; omega)
          refine ⟨_, rfl, ⟨fun k h5 h7 h8 h9 h10 h11 h12 h13 h14 => by simp [h9, hi.out k h5 h7 h8 h9 h10 h11 h12 h13 h14], hi.below.trans (hb.mono hi.below.size), by first | (simp; done) | simpa using hi.v7, by first | (simp; done) | simpa using hi.v8, fun _ => ⟨A', c', by simp, hO', fun e => (h7 (by simpa using e)).elim⟩, by first | (simp; done) | simpa using hi.v10, by first | (simp; done) | simpa using hi.v11, by first | (simp; done) | simpa using hi.v12, by first | (simp; done) | simpa using hi.v13, fun e => by obtain ⟨g, old, r1, r2, r3, r4⟩ := hi.v5 (by simpa using e); exact ⟨g, old, by simpa using r1, r2, r3.old hb, r4⟩, by first | (simp; done) | simpa using hi.i7, by first | (simp; done) | simpa using hi.i9⟩⟩
      · cases ho
        refine inv_value 10 rfl rfl rfl (v := .pointer (some ⟨w.heap.size, 1, none⟩)) (w' := W) (fun ρ hρ => ?_) ?_
        · have e2 : ρ (.tmp 2) = .pointer (some ⟨w.heap.size, 0, none⟩) := hρ.none_ (sz 2 (by decide)) o2
          go_simp
        · exact ⟨fun k h5 h7 h8 h9 h10 h11 h12 h13 h14 => by simp [h10, hi.out k h5 h7 h8 h9 h10 h11 h12 h13 h14], hi.below, by first | (simp; done) | simpa using hi.v7, by first | (simp; done) | simpa using hi.v8, by first | (simp; done) | simpa using hi.v9, by first | (simp; done) | simpa using hi.v10, by first | (simp; done) | simpa using hi.v11, by first | (simp; done) | simpa using hi.v12, by first | (simp; done) | simpa using hi.v13, by first | (simp; done) | simpa using hi.v5, by first | (simp; done) | simpa using hi.i7, by first | (simp; done) | simpa using hi.i9⟩
      · cases ho
        simp [Region.binds] at haf
        refine inv_value 11 rfl rfl rfl (v := .int .i64 C) (w' := W) (fun ρ hρ => ?_) ?_
        · have e7 : ρ (.tmp 10) = .pointer (some ⟨w.heap.size, 1, none⟩) := hρ.some_ (sz 10 (by decide)) (hi.v10 haf)
          go_simp
        · exact ⟨fun k h5 h7 h8 h9 h10 h11 h12 h13 h14 => by simp [h11, hi.out k h5 h7 h8 h9 h10 h11 h12 h13 h14], hi.below, by first | (simp; done) | simpa using hi.v7, by first | (simp; done) | simpa using hi.v8, by first | (simp; done) | simpa using hi.v9, by first | (simp; done) | simpa using hi.v10, by first | (simp; done) | simpa using hi.v11, by first | (simp; done) | simpa using hi.v12, by first | (simp; done) | simpa using hi.v13, by first | (simp; done) | simpa using hi.v5, by first | (simp; done) | simpa using hi.i7, by first | (simp; done) | simpa using hi.i9⟩
      · cases ho
        refine inv_value 12 rfl rfl rfl (v := .int .i64 d) (w' := W) (fun ρ hρ => ?_) ?_
        · have e2 : ρ (.tmp 1) = .int .i64 d := hρ.none_ (sz 1 (by decide)) o1
          go_simp
        · exact ⟨fun k h5 h7 h8 h9 h10 h11 h12 h13 h14 => by simp [h12, hi.out k h5 h7 h8 h9 h10 h11 h12 h13 h14], hi.below, by first | (simp; done) | simpa using hi.v7, by first | (simp; done) | simpa using hi.v8, by first | (simp; done) | simpa using hi.v9, by first | (simp; done) | simpa using hi.v10, by first | (simp; done) | simpa using hi.v11, by first | (simp; done) | simpa using hi.v12, by first | (simp; done) | simpa using hi.v13, by first | (simp; done) | simpa using hi.v5, by first | (simp; done) | simpa using hi.i7, by first | (simp; done) | simpa using hi.i9⟩
      · cases ho
        simp [Region.binds] at haf
        refine inv_call 13 47 #[.int .i64 C, .int .i64 d] rfl rfl rfl (fun ρ hρ => ?_) ?_
        · have e8 : ρ (.tmp 11) = .int .i64 C := hρ.some_ (sz 11 (by decide)) (hi.v11 haf.1)
          have e9 : ρ (.tmp 12) = .int .i64 d := hρ.some_ (sz 12 (by decide)) (hi.v12 haf.2.1)
          have ef := hρ.func 47
          go_simp
        · refine (HF.out W).mono ?_
          rintro e w' ⟨rfl, rfl⟩
          exact ⟨_, rfl, ⟨fun k h5 h7 h8 h9 h10 h11 h12 h13 h14 => by simp [h13, hi.out k h5 h7 h8 h9 h10 h11 h12 h13 h14], hi.below, by first | (simp; done) | simpa using hi.v7, by first | (simp; done) | simpa using hi.v8, by first | (simp; done) | simpa using hi.v9, by first | (simp; done) | simpa using hi.v10, by first | (simp; done) | simpa using hi.v11, by first | (simp; done) | simpa using hi.v12, by first | (simp; done) | simpa using hi.v13, by first | (simp; done) | simpa using hi.v5, by first | (simp; done) | simpa using hi.i7, by first | (simp; done) | simpa using hi.i9⟩⟩
      · cases ho
        simp [Region.binds] at haf
        obtain ⟨A', c', f9, hO, _⟩ := hi.v9 haf.1
        have h9 : D 9 = true → False := fun e => by have := (hi.i9 e).1; rw [hDi] at this; cases this
        refine inv_value 14 rfl rfl rfl (v := .agg #[.slice A' n c', .int .i64 fl]) (w' := W) (fun ρ hρ => ?_) ?_
        · have e8 : ρ (.tmp 9) = .slice A' n c' := hρ.some_ (sz 9 (by decide)) f9
          have e9 : ρ (.tmp 13) = .int .i64 fl := hρ.some_ (sz 13 (by decide)) (hi.v13 haf.2)
          go_simp
        · exact ⟨fun k h5 h7 h8 h9 h10 h11 h12 h13 h14 => by simp [h14, hi.out k h5 h7 h8 h9 h10 h11 h12 h13 h14], hi.below, by first | (simp; done) | simpa using hi.v7, by first | (simp; done) | simpa using hi.v8, fun _ => ⟨A', c', by simpa using f9, hO, fun _ => ⟨by simp, fun e => (h9 (by simpa using e)).elim⟩⟩, by first | (simp; done) | simpa using hi.v10, by first | (simp; done) | simpa using hi.v11, by first | (simp; done) | simpa using hi.v12, by first | (simp; done) | simpa using hi.v13, by first | (simp; done) | simpa using hi.v5, fun _ => by simpa using haf.1, fun e => (h9 (by simpa using e)).elim⟩
      · cases ho
        have h9 : D 9 = true → False := fun e => by have := (hi.i9 e).2; rw [hDi] at this; cases this
        refine inv_value 5 rfl rfl rfl (v := pt W.heap.size) (w' := W.alloc (.cells #[.slice none 0 0, .int .i64 0] 37)) (fun ρ hρ => run_alloc37 rfl W) ?_
        have hsz : w.heap.size + 2 ≤ W.heap.size := by have := HS2.out; have := hi.below.size; omega
        exact ⟨fun k h5 h7 h8 h9 h10 h11 h12 h13 h14 => by simp [h5, hi.out k h5 h7 h8 h9 h10 h11 h12 h13 h14], hi.below.alloc hi.below.size _, by first | (simp; done) | simpa using hi.v7, by first | (simp; done) | simpa using hi.v8, fun e => by obtain ⟨A', c', r1, r2, r3⟩ := hi.v9 (by simpa using e); exact ⟨A', c', by simpa using r1, r2.alloc _, fun e7 => ⟨by simpa using (r3 (by simpa using e7)).1, fun e9 => (h9 (by simpa using e9)).elim⟩⟩, by first | (simp; done) | simpa using hi.v10, by first | (simp; done) | simpa using hi.v11, by first | (simp; done) | simpa using hi.v12, by first | (simp; done) | simpa using hi.v13, fun _ => ⟨_, _, by simp, hsz, Blk.new _ _ _, rfl⟩, by first | (simp; done) | simpa using hi.i7, fun e => (h9 (by simpa using e)).elim⟩
      · cases ho
        simp [Region.binds] at haf
        obtain ⟨A', c', f9, hO, h7⟩ := hi.v9 haf.2.2.2.2.2.1
        obtain ⟨f14, _⟩ := h7 haf.2.1
        obtain ⟨g, old, f5, hg, hk, hold⟩ := hi.v5 haf.1
        refine inv_store rfl rfl 37 (.tmp 5) (.tmp 14) rfl rfl g #[.slice A' n c', .int .i64 fl] old 37 (fun ρ hρ => hρ.some_ (sz 5 (by decide)) f5) (fun ρ hρ => hρ.some_ (sz 14 (by decide)) f14) hk size37 hold (by simp [Value.oneCell']) ?_
        intro w' hk' ho'
        have hO' := hO.only ho' (fun e => by
          obtain ⟨cur, hcur⟩ := hO.type e
          unfold Blk at hk
          rw [hk] at hcur; cases hcur)
        have hb' := below_only hi.below ho' (by have := HS2.out; omega)
        exact ⟨hi.out, hb', by simpa using hi.v7, by simpa using hi.v8, fun _ => ⟨A', c', f9, hO', fun _ => ⟨f14, fun _ g' e' => by rw [f5] at e'; cases e'; exact hk'⟩⟩, by simpa using hi.v10, by simpa using hi.v11, by simpa using hi.v12, by simpa using hi.v13, fun _ => ⟨g, _, f5, hg, hk', rfl⟩, by simpa using hi.i7, fun _ => ⟨by simpa using haf.2.1, by simpa using haf.1⟩⟩
    · intro D F W hD hi
      have hall : ∀ k, k < 10 → D k = true := hD
      obtain ⟨A', c', f9, hO, h7⟩ := hi.v9 (hall 2 (by decide))
      obtain ⟨f14, h9⟩ := h7 (hall 7 (by decide))
      obtain ⟨g, old, f5, hg, hk, hold⟩ := hi.v5 (hall 8 (by decide))
      have hk' := h9 (hall 9 (by decide)) g f5
      have hf : ∀ k, k ≠ 5 → k ≠ 7 → k ≠ 8 → k ≠ 9 → k ≠ 10 → k ≠ 11 → k ≠ 12 → k ≠ 13 → k ≠ 14 → F k = none := hi.out
      simp only [puts, List.mapIdx_cons, List.mapIdx_nil, Nat.zero_add, Nat.reduceAdd]
      simp only [hf 0 (by decide) (by decide) (by decide) (by decide) (by decide) (by decide) (by decide) (by decide) (by decide), hf 1 (by decide) (by decide) (by decide) (by decide) (by decide) (by decide) (by decide) (by decide) (by decide), hf 2 (by decide) (by decide) (by decide) (by decide) (by decide) (by decide) (by decide) (by decide) (by decide), hf 3 (by decide) (by decide) (by decide) (by decide) (by decide) (by decide) (by decide) (by decide) (by decide), hf 4 (by decide) (by decide) (by decide) (by decide) (by decide) (by decide) (by decide) (by decide) (by decide), hf 6 (by decide) (by decide) (by decide) (by decide) (by decide) (by decide) (by decide) (by decide) (by decide), hf 15 (by decide) (by decide) (by decide) (by decide) (by decide) (by decide) (by decide) (by decide) (by decide), hf 16 (by decide) (by decide) (by decide) (by decide) (by decide) (by decide) (by decide) (by decide) (by decide), hf 17 (by decide) (by decide) (by decide) (by decide) (by decide) (by decide) (by decide) (by decide) (by decide), hf 18 (by decide) (by decide) (by decide) (by decide) (by decide) (by decide) (by decide) (by decide) (by decide), hf 19 (by decide) (by decide) (by decide) (by decide) (by decide) (by decide) (by decide) (by decide) (by decide), hf 20 (by decide) (by decide) (by decide) (by decide) (by decide) (by decide) (by decide) (by decide) (by decide), hf 21 (by decide) (by decide) (by decide) (by decide) (by decide) (by decide) (by decide) (by decide) (by decide), hf 22 (by decide) (by decide) (by decide) (by decide) (by decide) (by decide) (by decide) (by decide) (by decide), hf 23 (by decide) (by decide) (by decide) (by decide) (by decide) (by decide) (by decide) (by decide) (by decide), hf 24 (by decide) (by decide) (by decide) (by decide) (by decide) (by decide) (by decide) (by decide) (by decide), hf 25 (by decide) (by decide) (by decide) (by decide) (by decide) (by decide) (by decide) (by decide) (by decide), hf 26 (by decide) (by decide) (by decide) (by decide) (by decide) (by decide) (by decide) (by decide) (by decide), hf 27 (by decide) (by decide) (by decide) (by decide) (by decide) (by decide) (by decide) (by decide) (by decide), hf 28 (by decide) (by decide) (by decide) (by decide) (by decide) (by decide) (by decide) (by decide) (by decide), hf 29 (by decide) (by decide) (by decide) (by decide) (by decide) (by decide) (by decide) (by decide) (by decide), hf 30 (by decide) (by decide) (by decide) (by decide) (by decide) (by decide) (by decide) (by decide) (by decide), f5, Option.getD_some, Option.getD_none]
      go_wp2_with fail
      go_meet
      case rel => exact ⟨g, A', c', rfl, hk', hO, HB2.out.trans (hi.below.mono HB2.out.size), hg, HK3.out.old hi.below⟩
  case rest =>
    obtain ⟨g5, A', c', rfl, hk, hO, hb, hg, hk3⟩ := hcut
    obtain ⟨w3, rfl⟩ : ∃ w3 : World, w3 = wc := ⟨_, rfl⟩
    have c5 : w3.cell? ⟨g5, 0, none⟩ = some (.slice A' n c') := hk.cell 0
    have hk5 := hg
    go_wp2
    have HI := Lib.hid (show CutLoop w g5 A' n c' l d fl 0 w3 from ⟨hk, by simpa using hO, hb, hk3⟩)
    clear c5 hk hO hb hk3
    go_loopw [18] (fun s18 wr => ∃ k : Nat, k ≤ n ∧ s18 = .int .i64 k ∧ CutLoop w g5 A' n c' l d fl k wr) (fun s18 _ => n - (intOf s18).toNat)
    case atStart => exact ⟨0, Nat.zero_le _, rfl, HI.out⟩
    case round =>
      clear HI
      obtain ⟨k, hk, rfl, hq⟩ := hrel
      obtain ⟨wo, rfl⟩ : ∃ wo : World, wo = wr := ⟨_, rfl⟩
      have HQ := Lib.hid hq
      by_cases hlt : k < n
      · obtain ⟨q, rfl⟩ := OwnS.addr (s := 1) hq.own (by omega)
        have hx : l[k]? = some (l.getD k 0) := by simp [show k < l.length by omega]
        have hx2 := bet_iff.1 (all_mem HL.out hx)
        have hcap := hq.own.cap
        have hcur : (((l.map fun a => a.tdiv d).take k ++ l.drop k).map (Value.int .i64))[k]? = some (.int .i64 (l.getD k 0)) := by
          rw [List.getElem?_map, List.getElem?_append_right (by simp; omega), List.getElem?_drop, show k + (k - ((l.map fun a => a.tdiv d).take k).length) = k by simp; omega, hx]; rfl
        have hc := World.ownsRow.cells hq.own (g := q) rfl _ _ hcur
        have hadd : (⟨q, 0, none⟩ : Addr).add k = ⟨q, k, none⟩ := by
          unfold Addr.add
          by_cases hj : k = 0 <;> simp [hj]
        rw [hadd] at hc
        have hf := OwnS.frozen (s := 1) hq.own k
        have c5 : wo.cell? ⟨g5, 0, none⟩ = some (.slice (some ⟨q, 0, none⟩) n c') := hq.blk.cell 0
        have HX := Lib.hid hx
        have hd0 : ¬ d = 0 := by omega
        generalize l.getD k 0 = x at *
        have hz1 := Int.natAbs_tdiv_le_natAbs x d
        obtain ⟨z, hz⟩ : ∃ z, z = x.tdiv d := ⟨_, rfl⟩
        have hz2 : -1000000 ≤ z ∧ z ≤ 1000000 := by rw [← hz] at hz1; omega
        have HN := Lib.hid (hq.next HX.out hz)
        have hz' := hz.symm
        clear hq hx hx2 hz1 hz hcur hadd
        go_wp2
        go_roundw
        case rel => exact ⟨k + 1, by omega, by go_num, HN.out⟩
        case measure => simp [intOf]; omega
      · obtain rfl : k = n := by omega
        have HK5 := Lib.hid hq.blk
        have hlast : (l.map fun a => a.tdiv d).take k ++ l.drop k = l.map fun a => a.tdiv d := by
          rw [List.take_of_length_le (by simp; omega), List.drop_eq_nil_of_le (by omega), List.append_nil]
        have ho := hq.own
        rw [hlast] at ho
        have HO := Lib.hid ho
        have HB := Lib.hid hq.below
        have HR := Lib.hid hq.res
        clear hq hlast ho
        go_wp2_with (first | (refine wpList_load_blk rfl 37 (.tmp 5) rfl g5 rfl 37 _ _ HK5.out Try.underlying37 rfl size37 ?_) | (
                     refine wpList_store_blk rfl 37 (.tmp 4) (.tmp 30) rfl rfl (w.heap.size + 1) #[.slice A' k c', .int .i64 fl] _ 37 rfl rfl HR.out size37 rfl (by simp [Value.oneCell']) ?_
                     intro w7 hk7 ho7
                     have HK7 := Lib.hid hk7
                     have HO7 := Lib.hid (HO.out.only ho7 (fun e => by
                       obtain ⟨cur, hcur⟩ := HO.out.type e
                       have := HR.out
                       unfold Blk at this
                       rw [this] at hcur; cases hcur))
                     have HB7 := Lib.hid (below_only HB.out ho7 (by omega))
                     clear hk7 ho7))
        refine bodyPost_ret (results_cell rfl _ _ (w.heap.size + 1) rfl 37 _ HK7.out Try.underlying37 rfl size37) rfl ?_
        rw [HCR.out]
        exact ⟨_, _, rfl, ⟨_, _, _, rfl, rfl, HO7.out.r1 (fun q hq => (HO7.out.lt q hq).1) (by omega) (cut_i64 HL.out), by have := HFB.out; unfold I64; omega⟩, HB7.out⟩

end Go.Proofs.Ytjienelkjpodkaa
