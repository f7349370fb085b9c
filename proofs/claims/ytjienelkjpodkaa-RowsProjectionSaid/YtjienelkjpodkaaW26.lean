/- Walks: MadeRow. -/
import Derived.Test.YtjienelkjpodkaaW25
namespace Go.Proofs.Ytjienelkjpodkaa
open Go.RowKit

theorem run_make22 {o : Oper} {ρ : Operand → Value} {x y : Operand} (ho : o.op = .makeSlice 22 x y) (n : Nat) (hx : ρ x = .int .i64 n) (hy : ρ y = .int .i64 n) (hn : n ≤ 1000000) (w : World) : (execOp ρ o).run Try.prog w = .ok (.value (.slice (some ⟨w.heap.size, 0, none⟩) n n)) (w.alloc (.cells (List.replicate n (Value.int .i64 0)).toArray 3)) := by
  have hrun := run_make_row' (P := Try.prog) 22 3 (.int .i64 0) 8 Try.underlying22 info3 rfl .i64 .i64 n (by omega) (by omega) w
  have e : madeCells #[Value.int .i64 0] n = (List.replicate n (Value.int .i64 0)).toArray := by
    rw [← toList_madeCells_one (Value.int .i64 0) n]
  rw [e] at hrun
  unfold execOp
  simp only [ho, Sem.run_bind, Sem.run_pure, Result.andThen_ok, hx, hy, hrun]

/-- the first i numbers are laid -/
def mrList (r : Row) (n i : Nat) : List Int := (List.range n).map fun j => if j < i then (if j < r.1.length then foldF (r.1.getD j 0) (-6) 6 else 0) else 0
theorem mrList_all (r : Row) (n : Nat) : mrList r n n = (madeRow r n).1 := by
  unfold mrList madeRow
  apply List.map_congr_left
  intro j hj
  rw [if_pos (List.mem_range.1 hj)]
theorem mrList_stop {r : Row} {n i : Nat} (h : r.1.length ≤ i) : mrList r n i = (madeRow r n).1 := by
  unfold mrList madeRow
  apply List.map_congr_left
  intro j hj
  by_cases hji : j < i
  · rw [if_pos hji]
  · rw [if_neg hji, if_neg (by omega)]
theorem mrList_next {r : Row} {n i : Nat} {x : Int} (hx : r.1[i]? = some x) (hi : i < n) : (mrList r n i).set i (foldF x (-6) 6) = mrList r n (i + 1) := by
  have hl : i < r.1.length := (List.getElem?_eq_some_iff.1 hx).1
  have hg : r.1.getD i 0 = x := by rw [List.getD_eq_getElem?_getD, hx]; rfl
  apply List.ext_getElem?
  intro j
  rw [List.getElem?_set]
  unfold mrList
  by_cases hij : i = j
  · subst hij
    simp [hi, hl]
    have : r.1[i] = x := by have := (List.getElem?_eq_some_iff.1 hx).2; exact this
    rw [this]
  · rw [if_neg hij]
    simp only [List.getElem?_map]
    by_cases hj : j < n
    · simp only [List.getElem?_range hj, Option.map_some]
      by_cases h1 : j < i
      · simp [h1, show j < i + 1 by omega]
      · simp [h1, show ¬ j < i + 1 by omega]
    · rw [List.getElem?_eq_none (by simp; omega)]; rfl
theorem foldF_bound {x lo hi : Int} (h : lo ≤ hi) : lo ≤ foldF x lo hi ∧ foldF x lo hi ≤ hi := by
  unfold foldF
  have h1 := Int.emod_nonneg x (show hi - lo + 1 ≠ 0 by omega)
  have h2 := Int.emod_lt_of_pos x (show 0 < hi - lo + 1 by omega)
  omega
structure MrMem (w : World) (A : Option Addr) (na ca : Nat) (C : Int) (n g q i : Nat) (r : Row) (wr : World) : Prop where
  below : Below w.heap.size w wr
  bb : Blk wr w.heap.size 37 #[.slice A na ca, .int .i64 C]
  b4 : Blk wr (w.heap.size + 1) 37 #[.slice none 0 0, .int .i64 0]
  bq : Blk wr q 3 (pv (mrList r n i))
  bg : Blk wr g 37 #[.slice (some ⟨q, 0, none⟩) n n, .int .i64 (foldF C (-20) 20)]
  hg : w.heap.size + 2 ≤ g
  hq : w.heap.size + 2 ≤ q
theorem MrMem.below_ {w : World} {A : Option Addr} {na ca : Nat} {C : Int} {n g q i : Nat} {r : Row} {wr w' : World} (h : MrMem w A na ca C n g q i r wr) (hb : Below wr.heap.size wr w') : MrMem w A na ca C n g q i r w' :=
  ⟨h.below.trans (hb.mono h.below.size), h.bb.old hb, h.b4.old hb, h.bq.old hb, h.bg.old hb, h.hg, h.hq⟩
theorem madeRow_i64 (r : Row) (n : Nat) : ∀ x ∈ (madeRow r n).1, I64 x := fun x hx => by
  unfold madeRow at hx
  obtain ⟨j, _, rfl⟩ := List.mem_map.1 hx
  split
  · have := foldF_bound (x := r.1.getD j 0) (lo := -6) (hi := 6) (by decide)
    exact i64_small (by omega) (by omega)
  · exact i64_small (by decide) (by decide)
structure MrInv (w w2 : World) (C : Int) (n : Nat) (D : Nat → Bool) (F : Nat → Option Value) (W : World) : Prop where
  out : ∀ k, k ≠ 5 → (k < 7 ∨ 12 < k) → F k = none
  below : Below w2.heap.size w2 W
  v7 : D 0 = true → F 7 = some (.int .i64 n)
  v8 : D 1 = true → ∃ q, F 8 = some (.slice (some ⟨q, 0, none⟩) n n) ∧ w2.heap.size ≤ q ∧ Blk W q 3 (List.replicate n (Value.int .i64 0)).toArray
  v9 : D 2 = true → F 9 = some (.pointer (some ⟨w.heap.size, 1, none⟩))
  v10 : D 3 = true → F 10 = some (.int .i64 C)
  v11 : D 4 = true → F 11 = some (.int .i64 (foldF C (-20) 20))
  v12 : D 5 = true → ∃ q, F 8 = some (.slice (some ⟨q, 0, none⟩) n n) ∧ F 12 = some (.agg #[.slice (some ⟨q, 0, none⟩) n n, .int .i64 (foldF C (-20) 20)])
  v5 : D 6 = true → ∃ g old, F 5 = some (pt g) ∧ w2.heap.size ≤ g ∧ Blk W g 37 old ∧ old.size = 2 ∧ (D 7 = true → F 12 = some (.agg old))
  i5 : D 5 = true → D 1 = true ∧ D 4 = true
  i7 : D 7 = true → D 5 = true ∧ D 6 = true

set_option maxRecDepth 100000 in
set_option maxHeartbeats 4000000 in
/-- 'MadeRow'. -/
theorem madeRow_c (K : Nat → Prop) (A : Option Addr) (na ca n : Nat) (l : List Int) (C : Int) (w : World) (h : R1 w K A na ca l) (hC : I64 C) (hn : n ≤ 12) :
    Calls Try.prog 16 #[.agg #[.slice A na ca, .int .i64 C], .int .i64 n] w (RowPost w (madeRow (l, C) n)) := by
  obtain ⟨r, hr⟩ : ∃ r : Row, r = (l, C) := ⟨_, rfl⟩
  have hla := h.len
  have H1 := Lib.hid h
  have Hr := Lib.hid hr
  have hb0 : Below w.heap.size w ((w.alloc (.cells #[.slice A na ca, .int .i64 C] 37)).alloc (.cells #[.slice none 0 0, .int .i64 0] 37)) := ((Below.refl _ _).alloc (Nat.le_refl _) _).alloc (by simp) _
  have hk0 := (Blk.new w 37 #[.slice A na ca, .int .i64 C]).alloc (.cells #[.slice none 0 0, .int .i64 0] 37)
  have hk1 : Blk ((w.alloc (.cells #[.slice A na ca, .int .i64 C] 37)).alloc (.cells #[.slice none 0 0, .int .i64 0] 37)) (w.heap.size + 1) 37 #[.slice none 0 0, .int .i64 0] := by
    have := Blk.new (w.alloc (.cells #[.slice A na ca, .int .i64 C] 37)) 37 #[.slice none 0 0, .int .i64 0]
    simpa using this
  have HB := Lib.hid hb0
  have HK := Lib.hid (And.intro hk0 hk1)
  have HB2 := Lib.hid (show ((w.alloc (.cells #[.slice A na ca, .int .i64 C] 37)).alloc (.cells #[.slice none 0 0, .int .i64 0] 37)).heap.size = w.heap.size + 2 by simp)
  rw [← hr]
  clear h hb0 hk0 hk1 hr
  go_enter Try.func16, Try.ntmps16
  go_upto_region 1 with fail
  obtain ⟨w2, hw2⟩ : ∃ w2, w2 = (w.alloc (.cells #[.slice A na ca, .int .i64 C] 37)).alloc (.cells #[.slice none 0 0, .int .i64 0] 37) := ⟨_, rfl⟩
  rw [← hw2] at HB HK HB2 ⊢
  clear hw2
  refine region_inv (by kernel_rfl) (by decide +kernel) (MrInv w w2 C n) ?_ ?_ ?_
  · refine ⟨fun _ _ _ => rfl, (Below.refl _ _).drew, ?_, ?_, ?_, ?_, ?_, ?_, ?_, ?_, ?_⟩ <;> intro h <;> cases h
  · intro D F W i o hi ho hDi haf
    have hlt : i < 8 := (Array.getElem?_eq_some_iff.1 ho).1
    have hi' : i = 0 ∨ i = 1 ∨ i = 2 ∨ i = 3 ∨ i = 4 ∨ i = 5 ∨ i = 6 ∨ i = 7 := by omega
    have o1 := hi.out 1 (by decide) (by decide)
    have o2 := hi.out 2 (by decide) (by decide)
    have k1 : W.cell? ⟨w.heap.size, 1, none⟩ = some (.int .i64 C) := (HK.out.1.old hi.below).cell 1
    have sz : ∀ t, t < 36 → t < 36 := fun _ h => h
    rcases hi' with rfl | rfl | rfl | rfl | rfl | rfl | rfl | rfl
    · cases ho
      refine inv_value 7 rfl rfl rfl (v := .int .i64 n) (w' := W) (fun ρ hρ => ?_) ?_
      · have e1 : ρ (.tmp 1) = .int .i64 n := hρ.none_ (sz 1 (by decide)) o1
        go_simp
      · exact ⟨fun k h1 h2 => by simp [show k ≠ 7 by omega, hi.out k h1 h2], hi.below, fun _ => by simp, by first | (simp; done) | simpa using hi.v8, by first | (simp; done) | simpa using hi.v9, by first | (simp; done) | simpa using hi.v10, by first | (simp; done) | simpa using hi.v11, by first | (simp; done) | simpa using hi.v12, by first | (simp; done) | simpa using hi.v5, by first | (simp; done) | simpa using hi.i5, by first | (simp; done) | simpa using hi.i7⟩
    · cases ho
      simp [Region.binds] at haf
      have h5 : D 5 = true → False := fun e => by have := (hi.i5 e).1; rw [hDi] at this; cases this
      have hbA : Below W.heap.size W (W.alloc (.cells (List.replicate n (Value.int .i64 0)).toArray 3)) := (Below.refl _ _).alloc (Nat.le_refl _) _
      refine inv_value 8 rfl rfl rfl (v := .slice (some ⟨W.heap.size, 0, none⟩) n n) (w' := W.alloc (.cells (List.replicate n (Value.int .i64 0)).toArray 3)) (fun ρ hρ => run_make22 rfl n (hρ.some_ (sz 7 (by decide)) (hi.v7 haf)) (hρ.some_ (sz 7 (by decide)) (hi.v7 haf)) (by omega) W) ?_
      exact ⟨fun k h1 h2 => by simp [show k ≠ 8 by omega, hi.out k h1 h2], hi.below.trans (hbA.mono hi.below.size), by first | (simp; done) | simpa using hi.v7, fun _ => ⟨_, by simp, hi.below.size, Blk.new _ _ _⟩, by first | (simp; done) | simpa using hi.v9, by first | (simp; done) | simpa using hi.v10, by first | (simp; done) | simpa using hi.v11, fun e => (h5 (by simpa using e)).elim, fun e => by obtain ⟨g, old, r1, r2, r3, r4, r5⟩ := hi.v5 (by simpa using e); exact ⟨g, old, by simpa using r1, r2, r3.alloc _, r4, fun e7 => (h5 (hi.i7 (by simpa using e7)).1).elim⟩, fun e => (h5 (by simpa using e)).elim, by first | (simp; done) | simpa using hi.i7⟩
    · cases ho
      refine inv_value 9 rfl rfl rfl (v := .pointer (some ⟨w.heap.size, 1, none⟩)) (w' := W) (fun ρ hρ => ?_) ?_
      · have e2 : ρ (.tmp 2) = pt w.heap.size := hρ.none_ (sz 2 (by decide)) o2
        go_simp
      · exact ⟨fun k h1 h2 => by simp [show k ≠ 9 by omega, hi.out k h1 h2], hi.below, by first | (simp; done) | simpa using hi.v7, by first | (simp; done) | simpa using hi.v8, fun _ => by simp, by first | (simp; done) | simpa using hi.v10, by first | (simp; done) | simpa using hi.v11, by first | (simp; done) | simpa using hi.v12, by first | (simp; done) | simpa using hi.v5, by first | (simp; done) | simpa using hi.i5, by first | (simp; done) | simpa using hi.i7⟩
    · cases ho
      simp [Region.binds] at haf
      refine inv_value 10 rfl rfl rfl (v := .int .i64 C) (w' := W) (fun ρ hρ => ?_) ?_
      · have e9 : ρ (.tmp 9) = .pointer (some ⟨w.heap.size, 1, none⟩) := hρ.some_ (sz 9 (by decide)) (hi.v9 haf)
        go_simp
      · exact ⟨fun k h1 h2 => by simp [show k ≠ 10 by omega, hi.out k h1 h2], hi.below, by first | (simp; done) | simpa using hi.v7, by first | (simp; done) | simpa using hi.v8, by first | (simp; done) | simpa using hi.v9, fun _ => by simp, by first | (simp; done) | simpa using hi.v11, by first | (simp; done) | simpa using hi.v12, by first | (simp; done) | simpa using hi.v5, by first | (simp; done) | simpa using hi.i5, by first | (simp; done) | simpa using hi.i7⟩
    · cases ho
      simp [Region.binds] at haf
      have h5 : D 5 = true → False := fun e => by have := (hi.i5 e).2; rw [hDi] at this; cases this
      refine inv_call 11 20 #[.int .i64 C, .int .i64 (-20), .int .i64 20] rfl rfl rfl (fun ρ hρ => ?_) ?_
      · have e10 : ρ (.tmp 10) = .int .i64 C := hρ.some_ (sz 10 (by decide)) (hi.v10 haf)
        have ef := hρ.func 20
        have ec1 := hρ.const (.int .i64 (-20))
        have ec2 := hρ.const (.int .i64 20)
        go_simp
      · refine (fold_c C (-20) 20 W hC (by omega)).mono ?_
        rintro e w' ⟨rfl, rfl⟩
        exact ⟨_, rfl, ⟨fun k h1 h2 => by simp [show k ≠ 11 by omega, hi.out k h1 h2], hi.below, by first | (simp; done) | simpa using hi.v7, by first | (simp; done) | simpa using hi.v8, by first | (simp; done) | simpa using hi.v9, by first | (simp; done) | simpa using hi.v10, fun _ => by simp, fun e => (h5 (by simpa using e)).elim, fun e => by obtain ⟨g, old, r1, r2, r3, r4, r5⟩ := hi.v5 (by simpa using e); exact ⟨g, old, by simpa using r1, r2, r3, r4, fun e7 => (h5 (hi.i7 (by simpa using e7)).1).elim⟩, fun e => (h5 (by simpa using e)).elim, by first | (simp; done) | simpa using hi.i7⟩⟩
    · cases ho
      simp [Region.binds] at haf
      obtain ⟨q, f8, hq, hkq⟩ := hi.v8 haf.1
      have h7 : D 7 = true → False := fun e => by have := (hi.i7 e).1; rw [hDi] at this; cases this
      refine inv_value 12 rfl rfl rfl (v := .agg #[.slice (some ⟨q, 0, none⟩) n n, .int .i64 (foldF C (-20) 20)]) (w' := W) (fun ρ hρ => ?_) ?_
      · have e8 : ρ (.tmp 8) = .slice (some ⟨q, 0, none⟩) n n := hρ.some_ (sz 8 (by decide)) f8
        have e11 : ρ (.tmp 11) = .int .i64 (foldF C (-20) 20) := hρ.some_ (sz 11 (by decide)) (hi.v11 haf.2)
        go_simp
      · exact ⟨fun k h1 h2 => by simp [show k ≠ 12 by omega, hi.out k h1 h2], hi.below, by first | (simp; done) | simpa using hi.v7, by first | (simp; done) | simpa using hi.v8, by first | (simp; done) | simpa using hi.v9, by first | (simp; done) | simpa using hi.v10, by first | (simp; done) | simpa using hi.v11, fun _ => ⟨q, by simpa using f8, by simp⟩, fun e => by obtain ⟨g, old, r1, r2, r3, r4, r5⟩ := hi.v5 (by simpa using e); exact ⟨g, old, by simpa using r1, r2, r3, r4, fun e7 => (h7 (by simpa using e7)).elim⟩, fun _ => ⟨by simpa using haf.1, by simpa using haf.2⟩, fun e => (h7 (by simpa using e)).elim⟩
    · cases ho
      have h7 : D 7 = true → False := fun e => by have := (hi.i7 e).2; rw [hDi] at this; cases this
      have hbA : Below W.heap.size W (W.alloc (.cells #[.slice none 0 0, .int .i64 0] 37)) := (Below.refl _ _).alloc (Nat.le_refl _) _
      refine inv_value 5 rfl rfl rfl (v := pt W.heap.size) (w' := W.alloc (.cells #[.slice none 0 0, .int .i64 0] 37)) (fun ρ hρ => run_alloc37 rfl W) ?_
      exact ⟨fun k h1 h2 => by simp [h1, hi.out k h1 h2], hi.below.trans (hbA.mono hi.below.size), by first | (simp; done) | simpa using hi.v7, fun e => by obtain ⟨q, r1, r2, r3⟩ := hi.v8 (by simpa using e); exact ⟨q, by simpa using r1, r2, r3.alloc _⟩, by first | (simp; done) | simpa using hi.v9, by first | (simp; done) | simpa using hi.v10, by first | (simp; done) | simpa using hi.v11, by first | (simp; done) | simpa using hi.v12, fun _ => ⟨_, _, by simp, hi.below.size, Blk.new _ _ _, rfl, fun e7 => (h7 (by simpa using e7)).elim⟩, by first | (simp; done) | simpa using hi.i5, fun e => (h7 (by simpa using e)).elim⟩
    · cases ho
      simp [Region.binds] at haf
      have h5 : D 5 = true := by simp_all
      have h6 : D 6 = true := by simp_all
      obtain ⟨q, f8, f12⟩ := hi.v12 h5
      obtain ⟨g, old, f5, hg, hk, hold, _⟩ := hi.v5 h6
      refine inv_store rfl rfl 37 (.tmp 5) (.tmp 12) rfl rfl g #[.slice (some ⟨q, 0, none⟩) n n, .int .i64 (foldF C (-20) 20)] old 37 (fun ρ hρ => hρ.some_ (sz 5 (by decide)) f5) (fun ρ hρ => hρ.some_ (sz 12 (by decide)) f12) hk size37 hold (by simp [Value.oneCell']) ?_
      intro w' hk' ho'
      exact ⟨hi.out, below_only hi.below ho' hg, by first | (simp; done) | simpa using hi.v7, fun e => by obtain ⟨q, r1, r2, r3⟩ := hi.v8 (by simpa using e); exact ⟨q, r1, r2, r3.only ho' (blk_ne r3 hk (by decide))⟩, by first | (simp; done) | simpa using hi.v9, by first | (simp; done) | simpa using hi.v10, by first | (simp; done) | simpa using hi.v11, by first | (simp; done) | simpa using hi.v12, fun _ => ⟨g, _, f5, hg, hk', rfl, fun _ => f12⟩, by first | (simp; done) | simpa using hi.i5, fun _ => ⟨by simpa using h5, by simpa using h6⟩⟩
  · intro D F W hD hi
    have hall : ∀ k, k < 8 → D k = true := hD
    obtain ⟨q, f8, hq, hkq⟩ := hi.v8 (hall 1 (by decide))
    obtain ⟨q', t8, f12⟩ := hi.v12 (hall 5 (by decide))
    obtain ⟨g, old, f5, hg, hk, hold, h7⟩ := hi.v5 (hall 6 (by decide))
    have t12 := h7 (hall 7 (by decide))
    rw [f8] at t8
    cases t8
    rw [f12] at t12
    cases t12
    have f7 := hi.v7 (hall 0 (by decide))
    have f9 := hi.v9 (hall 2 (by decide))
    have f10 := hi.v10 (hall 3 (by decide))
    have f11 := hi.v11 (hall 4 (by decide))
    have hF : F = fun k => if k = 7 then some (.int .i64 n) else if k = 8 then some (.slice (some ⟨q, 0, none⟩) n n) else if k = 9 then some (.pointer (some ⟨w.heap.size, 1, none⟩)) else if k = 10 then some (.int .i64 C) else if k = 11 then some (.int .i64 (foldF C (-20) 20)) else if k = 12 then some (.agg #[.slice (some ⟨q, 0, none⟩) n n, .int .i64 (foldF C (-20) 20)]) else if k = 5 then some (pt g) else none := by
      funext k
      by_cases e1 : k = 7
      · subst e1; simpa using f7
      by_cases e2 : k = 8
      · subst e2; simpa using f8
      by_cases e3 : k = 9
      · subst e3; simpa using f9
      by_cases e4 : k = 10
      · subst e4; simpa using f10
      by_cases e5 : k = 11
      · subst e5; simpa using f11
      by_cases e6 : k = 12
      · subst e6; simpa using f12
      by_cases e8 : k = 5
      · subst e8; simpa using f5
      simp [e1, e2, e3, e4, e5, e6, e8]
      exact hi.out k e8 (by omega)
    rw [hF, ← puts_put, ← puts_put, ← puts_put, ← puts_put, ← puts_put, ← puts_put, ← puts_put, puts_none]
    have HM0 := Lib.hid (show MrMem w A na ca C n g q 0 r W from ⟨HB.out.trans (hi.below.mono HB.out.size), HK.out.1.old hi.below, HK.out.2.old hi.below, by rw [show (mrList r n 0) = List.replicate n 0 from by simp [mrList, List.map_const']]; simpa [pv] using hkq, hk, by have := HB2.out; have : w2.heap.size ≤ g := hg; omega, by have := HB2.out; have : w2.heap.size ≤ q := hq; omega⟩)
    clear hF f7 f8 f9 f10 f11 f12 f5 hq hkq hk hold h7 hall hi hD hg
    obtain ⟨w3, rfl⟩ : ∃ w3 : World, w3 = W := ⟨_, rfl⟩
    simp only [Act.put, pt, List.setIfInBounds_toArray, List.set_cons_succ, List.set_cons_zero]
    go_wp2_with fail
    go_loopw [6] (fun s6 wr => ∃ i : Nat, i ≤ n ∧ s6 = .int .i64 i ∧ MrMem w A na ca C n g q i r wr) (fun s6 _ => n - (intOf s6).toNat)
    case atStart => exact ⟨0, Nat.zero_le _, rfl, HM0.out⟩
    case round =>
      clear HM0
      obtain ⟨i, hin, rfl, hm⟩ := hrel
      obtain ⟨wo, rfl⟩ : ∃ wo : World, wo = wr := ⟨_, rfl⟩
      have b0 : wo.cell? ⟨w.heap.size, 0, none⟩ = some (.slice A na ca) := hm.bb.cell 0
      have g0 : wo.cell? ⟨g, 0, none⟩ = some (.slice (some ⟨q, 0, none⟩) n n) := hm.bg.cell 0
      by_cases h1 : i < n
      · have d1 : decide ((i : Int) < n) = true := by simp; omega
        have d1n : decide (i < n) = true := decide_eq_true h1
        by_cases h2 : i < na
        · have d2 : decide ((i : Int) < na) = true := by simp; omega
          have d2n : decide (i < na) = true := decide_eq_true h2
          obtain ⟨ad, x, rfl, _, hx, hxi, hcx⟩ := (H1.out.below hm.below).at_ h2
          have hrx : r.1[i]? = some x := by rw [Hr.out]; exact hx
          have hi1 : (i : Int) < n := by omega
          have hi2 : (i : Int) < na := by omega
          have fq := hm.bq.frozen i
          have cq := hm.bq.cell i
          rw [pv_get (by simp [mrList]; omega)] at cq
          have hNx := fun (W : World) (hW : MrMem w (some ad) na ca C n g q i r W) => show MrMem w (some ad) na ca C n g q (i + 1) r (W.setCell ⟨q, i, none⟩ (.int .i64 (foldF x (-6) 6))) from by
            have ho := Only.setCell W q i (.int .i64 (foldF x (-6) 6))
            have hne := blk_ne hW.bq hW.bg (by decide)
            refine ⟨below_only hW.below ho (by have := hW.hq; omega), hW.bb.only ho (by have := hW.hq; omega), hW.b4.only ho (by have := hW.hq; omega), ?_, hW.bg.only ho (Ne.symm hne), hW.hg, hW.hq⟩
            rw [← mrList_next hrx h1, ← pv_set]
            exact hW.bq.set_ i _
          have HNx := Lib.hid hNx
          have HMo := Lib.hid hm
          have Hxi := Lib.hid hxi
          clear hm hx hrx hNx fq cq
          go_upto_region 5 with fail
          obtain ⟨wz, hwz⟩ : ∃ wz, wz = wo.drew := ⟨_, rfl⟩
          have hbz : Below wo.heap.size wo wz := by rw [hwz]; exact (Below.refl _ _).drew
          refine wp_region_still_tail 10 (by kernel_rfl) (by kernel_rfl) ?_
          rw [show ({ heap := wo.heap, tape := wo.tape, drawn := wo.drawn + 1, os := wo.os, output := wo.output } : World) = wz from hwz.symm]
          simp only [List.take_succ_cons, List.take_zero, List.drop_succ_cons, List.drop_zero]
          clear hwz
          have z1 := cell_below hbz b0
          have z2 := cell_below hbz g0
          have z3 := cell_below hbz hcx
          have HMz := Lib.hid (HMo.out.below_ hbz)
          have cq := HMz.out.bq.cell i
          rw [pv_get (by simp [mrList]; omega)] at cq
          have fq := HMz.out.bq.frozen i
          clear hbz b0 g0 hcx
          repeat still_step
          still_call ((fold_c x (-6) 6 wz Hxi.out (by omega)).mono fun e w' h => ⟨h.1, h.2.symm⟩)
          repeat still_step
          refine wpStill_nil ?_
          clear z1 z2 z3
          go_wp2_with fail
          clear cq fq
          go_roundw
          case rel => exact ⟨i + 1, by omega, by go_num, HNx.out wz HMz.out⟩
          case measure => simp [intOf]; omega
        · have d2 : decide ((i : Int) < na) = false := by simp; omega
          have d2n : decide (i < na) = false := decide_eq_false h2
          have HE := Lib.hid (mrList_stop (r := r) (n := n) (i := i) (by rw [Hr.out]; show l.length ≤ i; omega))
          have HMx := Lib.hid hm
          clear hm
          go_wp2_with (first
            | (refine wpList_store_blk rfl 37 (.tmp 4) (.tmp 35) rfl rfl (w.heap.size + 1) #[.slice (some ⟨q, 0, none⟩) n n, .int .i64 (foldF C (-20) 20)] _ 37 rfl rfl HMx.out.b4 size37 rfl (by simp [Value.oneCell']) ?_
               intro w9 hk9 ho9
               have HK9 := Lib.hid hk9
               have HB9 := Lib.hid (below_only HMx.out.below ho9 (by omega))
               have HQ9 := Lib.hid (HMx.out.bq.only ho9 (by have := HMx.out.hq; omega))
               clear hk9 ho9)
            | (refine wpList_load_blk rfl 37 (.tmp 5) rfl g rfl 37 #[.slice (some ⟨q, 0, none⟩) n n, .int .i64 (foldF C (-20) 20)] _ HMx.out.bg Try.underlying37 rfl size37 ?_))
          refine bodyPost_ret (results_cell rfl _ _ (w.heap.size + 1) rfl 37 _ HK9.out Try.underlying37 rfl size37) rfl ?_
          have hq9 := HQ9.out
          rw [HE.out] at hq9
          exact ⟨_, _, rfl, ⟨_, _, _, rfl, by rw [Hr.out]; rfl, hq9.r1 (by have := HMx.out.hq; omega) (by simp [madeRow]) (by omega) (madeRow_i64 r n), by rw [Hr.out]; exact i64_small (by have := foldF_bound (x := C) (lo := -20) (hi := 20) (by decide); show -1000000000 ≤ foldF C (-20) 20; omega) (by have := foldF_bound (x := C) (lo := -20) (hi := 20) (by decide); show foldF C (-20) 20 ≤ 1000000000; omega)⟩, HB9.out⟩
      · have d1 : decide ((i : Int) < n) = false := by simp; omega
        have d1n : decide (i < n) = false := decide_eq_false h1
        obtain rfl : n = i := by omega
        have HE := Lib.hid (mrList_all r n)
        have HMx := Lib.hid hm
        clear hm
        go_wp2_with (first
          | (refine wpList_store_blk rfl 37 (.tmp 4) (.tmp 35) rfl rfl (w.heap.size + 1) #[.slice (some ⟨q, 0, none⟩) n n, .int .i64 (foldF C (-20) 20)] _ 37 rfl rfl HMx.out.b4 size37 rfl (by simp [Value.oneCell']) ?_
             intro w9 hk9 ho9
             have HK9 := Lib.hid hk9
             have HB9 := Lib.hid (below_only HMx.out.below ho9 (by omega))
             have HQ9 := Lib.hid (HMx.out.bq.only ho9 (by have := HMx.out.hq; omega))
             clear hk9 ho9)
          | (refine wpList_load_blk rfl 37 (.tmp 5) rfl g rfl 37 #[.slice (some ⟨q, 0, none⟩) n n, .int .i64 (foldF C (-20) 20)] _ HMx.out.bg Try.underlying37 rfl size37 ?_))
        refine bodyPost_ret (results_cell rfl _ _ (w.heap.size + 1) rfl 37 _ HK9.out Try.underlying37 rfl size37) rfl ?_
        have hq9 := HQ9.out
        rw [HE.out] at hq9
        exact ⟨_, _, rfl, ⟨_, _, _, rfl, by rw [Hr.out]; rfl, hq9.r1 (by have := HMx.out.hq; omega) (by simp [madeRow]) (by omega) (madeRow_i64 r n), by rw [Hr.out]; exact i64_small (by have := foldF_bound (x := C) (lo := -20) (hi := 20) (by decide); show -1000000000 ≤ foldF C (-20) 20; omega) (by have := foldF_bound (x := C) (lo := -20) (hi := 20) (by decide); show foldF C (-20) 20 ≤ 1000000000; omega)⟩, HB9.out⟩
end Go.Proofs.Ytjienelkjpodkaa
