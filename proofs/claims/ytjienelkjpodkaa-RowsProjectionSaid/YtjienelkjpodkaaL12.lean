/- Memory of Project. -/
import Derived.Test.YtjienelkjpodkaaW16
import Derived.Deep.MidRow
import Derived.StillTailTactics
namespace Go.Proofs.Ytjienelkjpodkaa
open Go.RowKit

theorem fix_ok {s : Sys} (hv : validS s = true) {x v : Nat} (hx : x < s.1.length) (hv2 : (v : Int) ≤ s.1.getD x 0) : SysOk (fixS s x v) ∧ prodF (fixS s x v).1 ≤ prodF s.1 := by
  have hs := valid_ok hv
  have ht := getD_bet hs.top hx
  refine ⟨⟨by simpa [fixS] using hs.n1, by simpa [fixS] using hs.n12, by simpa [fixS] using hs.m24, eachB_set hs.top (by omega) (by omega), fun r hr => ?_⟩, prodF_set _ _ hs.top⟩
  obtain ⟨r0, hr0, rfl⟩ := List.mem_map.1 hr
  obtain ⟨h1, h2, h3, h4⟩ := hs.rows r0 hr0
  have hr1 : -1000 ≤ r0.2 ∧ r0.2 ≤ 1000 := by
    unfold validS at hv
    simp only [Bool.and_eq_true, decide_eq_true_eq] at hv
    have := List.all_eq_true.1 hv.2.2.2.2 r0 hr0
    unfold rowOk at this
    simp only [Bool.and_eq_true, beq_iff_eq] at this
    exact bet_iff.1 this.2.2
  have ha : -1000 ≤ r0.1.getD x 0 ∧ r0.1.getD x 0 ≤ 1000 := getD_bet h2 (by rw [h1]; exact hx)
  have := mul_bounds (a := r0.1.getD x 0) (b := v) (p := 1000) (q := 64) ha (by omega) (by omega) (by omega)
  exact ⟨by simpa [fixS] using h1, h2, by show -100000 ≤ r0.2 + r0.1.getD x 0 * v; omega, by show r0.2 + r0.1.getD x 0 * v ≤ 100000; omega⟩

/-- the region that copies a system -/
structure CopyInv (w w2 : World) (sp : Nat) (A : Option Addr) (n c : Nat) (l : List Int) (B : Option Addr) (m d : Nat) (rs : List Row) (D : Nat → Bool) (F : Nat → Option Value) (W : World) : Prop where
  out : ∀ k, k ≠ 11 → (k < 37 ∨ 43 < k) → F k = none
  below : Below w2.heap.size w2 W
  v37 : D 0 = true → F 37 = some (pt sp)
  v38 : D 1 = true → F 38 = some (.slice A n c)
  v39 : D 2 = true → ∃ A' c', F 39 = some (.slice A' n c') ∧ Own W w2.heap.size 3 A' n c' (l.map (Value.int .i64))
  v40 : D 3 = true → F 40 = some (.pointer (some ⟨sp, 1, none⟩))
  v41 : D 4 = true → F 41 = some (.slice B m d)
  v42 : D 5 = true → ∃ B' d' us, F 42 = some (.slice B' m d') ∧ OwnS W w2.heap.size 37 2 B' m d' us ∧ AllR W (fun k => k < w.heap.size) us rs
  v43 : D 6 = true → ∃ a b, F 39 = some a ∧ F 42 = some b ∧ F 43 = some (.agg #[a, b])
  v11 : D 7 = true → ∃ g old, F 11 = some (pt g) ∧ w2.heap.size ≤ g ∧ Blk W g 25 old ∧ old.size = 2 ∧ (D 8 = true → F 43 = some (.agg old))
  i6 : D 6 = true → D 2 = true ∧ D 5 = true
  i8 : D 8 = true → D 6 = true ∧ D 7 = true

theorem run_alloc25 {o : Oper} {ρ : Operand → Value} (ho : o.op = .alloc 25) (w : World) : (execOp ρ o).run Try.prog w = .ok (.value (.pointer (some ⟨w.heap.size, 0, none⟩))) (w.alloc (.cells #[.slice none 0 0, .slice none 0 0] 25)) := by
  have hz : (Try.prog.info? 25).map (fun i => i.zero) = some (some (.agg #[.slice none 0 0, .slice none 0 0])) := by kernel_rfl
  cases hi : Try.prog.info? 25 with
  | none => rw [hi] at hz; cases hz
  | some i =>
    rw [hi] at hz
    simp only [Option.map_some, Option.some.injEq] at hz
    unfold execOp
    simp [ho, Instr.alloc, zeroValue, typeInfo, hi, hz, newVar, newRow, Value.cells]

/-- the second loop of Project -/
structure Prj2 (w : World) (sp g q : Nat) (B' : Option Addr) (cs : Array Value) (n c' : Nat) (l' : List Int) (m d' : Nat) (rs fs : List Row) (j : Nat) (us : List Value) (wr : World) : Prop where
  box : Blk wr sp 25 cs
  blk : Blk wr g 25 #[.slice (some ⟨q, 0, none⟩) n c', .slice B' m d']
  top : Own wr w.heap.size 3 (some ⟨q, 0, none⟩) n c' (l'.map (Value.int .i64))
  rows : OwnS wr w.heap.size 37 2 B' m d' us
  rin : AllR wr (fun k => k < w.heap.size) us (fs.take j ++ rs.drop j)
  below : Below w.heap.size w wr

theorem AllR.set_ {w : World} {K : Nat → Prop} {us : List Value} {rs : List Row} (h : AllR w K us rs) {j : Nat} (hj : j < rs.length) {u v : Value} {r : Row} (hr : RowIn w K u v r) : AllR w K ((us.set (j * 2) u).set (j * 2 + 1) v) (rs.set j r) := by
  have hl := h.1
  refine ⟨by simp [hl], fun i x hx => ?_⟩
  by_cases hij : i = j
  · subst hij
    rw [List.getElem?_set_self hj] at hx
    cases hx
    exact ⟨u, v, by rw [List.getElem?_set_ne (by omega), List.getElem?_set_self (by omega)], by rw [List.getElem?_set_self (by simp; omega)], hr⟩
  · rw [List.getElem?_set_ne (Ne.symm hij)] at hx
    obtain ⟨a, b, h1, h2, h3⟩ := h.2 i x hx
    exact ⟨a, b, by rw [List.getElem?_set_ne (by omega), List.getElem?_set_ne (by omega)]; exact h1, by rw [List.getElem?_set_ne (by omega), List.getElem?_set_ne (by omega)]; exact h2, h3⟩
theorem take_set_drop {α : Type} {fs rs : List α} {j : Nat} {f : α} (hl : fs.length = rs.length) (hf : fs[j]? = some f) : (fs.take j ++ rs.drop j).set j f = fs.take (j + 1) ++ rs.drop (j + 1) := by
  have hj : j < fs.length := (List.getElem?_eq_some_iff.1 hf).1
  rw [List.set_append_right _ _ (by simp; omega), show j - (fs.take j).length = 0 by simp; omega, take_snoc_of hf]
  have : rs.drop j = rs[j] :: rs.drop (j + 1) := drop_cons_of (List.getElem?_eq_getElem (by omega))
  rw [this, List.set_cons_zero]
  simp
theorem setCells_two (w : World) (b o : Nat) (u v : Value) : w.setCells b o [u, v] = (w.setCell ⟨b, o, none⟩ u).setCell ⟨b, o + 1, none⟩ v := rfl
theorem Prj2.next {w wr : World} {sp g q qb : Nat} {cs : Array Value} {n c' : Nat} {l' : List Int} {m d' : Nat} {rs fs : List Row} {j : Nat} {us : List Value} {u v : Value} {f : Row} (h : Prj2 w sp g q (some ⟨qb, 0, none⟩) cs n c' l' m d' rs fs j us wr) (hl : fs.length = rs.length) (hf : fs[j]? = some f) (hr : RowIn wr (fun k => k < w.heap.size) u v f) (_hsp : w.heap.size ≤ sp) (_hg : w.heap.size ≤ g) :
    Prj2 w sp g q (some ⟨qb, 0, none⟩) cs n c' l' m d' rs fs (j + 1) ((us.set (j * 2) u).set (j * 2 + 1) v) ((wr.setCell ⟨qb, j * 2, none⟩ u).setCell ⟨qb, j * 2 + 1, none⟩ v) := by
  have hlt := (h.rows.lt qb rfl)
  have hj : j < fs.length := (List.getElem?_eq_some_iff.1 hf).1
  have ne1 : sp ≠ qb := fun e => ownS_ne_blk h.rows h.box (by decide) (by rw [e]; rfl)
  have ne2 : g ≠ qb := fun e => ownS_ne_blk h.rows h.blk (by decide) (by rw [e]; rfl)
  have htop : OwnS wr w.heap.size 3 1 (some ⟨q, 0, none⟩) n c' (l'.map (Value.int .i64)) := h.top
  have ne3 : obl (some ⟨q, 0, none⟩) ≠ some qb := fun e => ownS_ne_ownS htop h.rows (by decide) qb e rfl
  have ho : Only qb wr ((wr.setCell ⟨qb, j * 2, none⟩ u).setCell ⟨qb, j * 2 + 1, none⟩ v) := (Only.setCell _ _ _ _).trans (Only.setCell _ _ _ _)
  refine ⟨h.box.only ho ne1, h.blk.only ho ne2, OwnS.only (s := 1) htop ho ne3, (h.rows.stored _ _).stored _ _, ?_, below_only h.below ho hlt.1⟩
  rw [← take_set_drop hl hf]
  exact (h.rin.set_ (by simp; omega) hr).old fun k (hk : k < w.heap.size) _ => ho.block k (by omega)
theorem i64_wrap (n : Int) (h : -9223372036854775808 ≤ n ∧ n ≤ 9223372036854775807) : IntKind.i64.wrap n = n := by rw [IntKind.wrap_i64]; omega
theorem Prj2.belowed {w wr w' : World} {sp g q : Nat} {B' : Option Addr} {cs : Array Value} {n c' : Nat} {l' : List Int} {m d' : Nat} {rs fs : List Row} {j : Nat} {us : List Value} (h : Prj2 w sp g q B' cs n c' l' m d' rs fs j us wr) (hb : Below wr.heap.size wr w') :
    Prj2 w sp g q B' cs n c' l' m d' rs fs j us w' :=
  ⟨h.box.old hb, h.blk.old hb, h.top.below hb, h.rows.below hb, h.rin.old (Old.of_below hb), h.below.trans (hb.mono h.below.size)⟩
theorem there_two {w : World} {B qb m d' j : Nat} {us : List Value} (h : OwnS w B 37 2 (some ⟨qb, 0, none⟩) m d' us) (hj : j < m) : w.there qb (j * 2) 2 := fun i hi => by
  have hl := h.len
  have hu : us[j * 2 + i]? = some us[j * 2 + i] := List.getElem?_eq_getElem (by omega)
  have hc := World.ownsRow.cells h (g := qb) rfl _ _ hu
  rw [Addr.add_mid, Nat.zero_add] at hc
  exact ⟨by rw [hc]; rfl, h.frozen _⟩
theorem getElem_take_drop {α : Type} {fs rs : List α} {j : Nat} (hl : fs.length = rs.length) (hj : j < rs.length) : (fs.take j ++ rs.drop j)[j]? = rs[j]? := by
  rw [List.getElem?_append_right (by simp; omega), List.getElem?_drop]
  congr 1
  simp; omega
theorem proj_skip {s : Sys} {x v : Nat} {vs : List Nat} {a : Int × Int × Bool} (h : pointsF s.1 1 > 16384 ∨ (searchF (fixS s x v)).1.isSome = false) : projFrom s x (v :: vs) a = projFrom s x vs a := by
  rw [projFrom, if_pos]
  rcases h with h | h
  · simp [h]
  · cases hs : (searchF (fixS s x v)).1 with
    | none => simp
    | some y => rw [hs] at h; cases h
theorem proj_take {s : Sys} {x v : Nat} {vs : List Nat} {a : Int × Int × Bool} (h : ¬ pointsF s.1 1 > 16384) (h2 : (searchF (fixS s x v)).1.isSome = true) : projFrom s x (v :: vs) a = projFrom s x vs (if a.2.2 then a.1 else v, v, true) := by
  rw [projFrom, if_neg]
  cases hs : (searchF (fixS s x v)).1 with
  | none => rw [hs] at h2; cases h2
  | some y => simp; omega
theorem range_drop {N v : Nat} (h : v < N) : (List.range N).drop v = v :: (List.range N).drop (v + 1) := by
  rw [drop_cons_of (x := v)]
  simp [h]
end Go.Proofs.Ytjienelkjpodkaa
