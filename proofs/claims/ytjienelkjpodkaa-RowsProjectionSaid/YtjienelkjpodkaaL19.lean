/- A law's second system: its rows appended to a row of its own. -/
import Derived.Test.YtjienelkjpodkaaL18
import Derived.Deep.RegionHeld3
import Derived.Deep.CutRange
namespace Go.Proofs.Ytjienelkjpodkaa
open Go.RowKit

theorem step_appendSS {P : Program} {ops : Array Oper} {o : Oper} {a : Act} {w : World} {K : Act → World → Prop} {Q : Exit → Act → World → Prop} {E : Prop} (hgd : o.guard = none) (sx x : Operand) (t : TypeId)
    (ho : o.op = .call { callee := .builtin .append, args := #[sx, x], argTypes := #[t, t] }) {e : TypeId} {s b : Nat} (hT : AppS P t e s b) (base : Nat)
    (A : Option Addr) (n c : Nat) (xs : List Value) (hs : a.eval sx = .slice A n c) (hown : OwnS w base e s A n c xs)
    (B : Option Addr) (m c2 : Nat) (us : List Value) (hx : a.eval x = .slice B m c2) (hl : us.length = m * s) {K' : Nat → Prop} (hc : Sl w K' B us) (h1 : ∀ u ∈ us, u.oneCell' = true)
    (hb : (n + m) * b ≤ 140737488355328) (hn : n + m ≤ 9223372036854775807) (hbase : base ≤ w.heap.size)
    (h : ∀ A' c' w', OwnS w' base e s A' (n + m) c' (xs ++ us) → w.grownBy w' (obl A) → (obl A' = obl A ∨ obl A' = some w.heap.size) → K (a.put o.dst (.slice A' (n + m) c')) w') :
    if Region.wanted o (yielded ops a.tmps) = true then Oper.wp P o a w K Q else E := by
  have hw : Region.wanted o (yielded ops a.tmps) = true := by simp [Region.wanted, hgd]
  rw [if_pos hw]
  obtain ⟨hs0, ht, i, z, hi, hz, hsz, hby, hzc⟩ := hT
  by_cases hm : m = 0
  · subst hm
    have hu : us = [] := List.eq_nil_of_length_eq_zero (by rw [hl]; simp)
    subst hu
    have hrun := run_append_zero (P := P) w t o.type e i ht hi A n c hown.cap.1 B c2
    unfold Oper.wp execOp
    simp only [ho, resolve, invoke, builtin, Sem.run_bind, Sem.run_pure, Result.andThen_ok, List.map_toArray, List.map_cons, List.map_nil, hs, hx, hrun]
    exact h A c w (by rw [List.append_nil]; exact hown) ⟨rfl, rfl, rfl, Nat.le_refl _, fun _ _ _ => rfl⟩ (.inl rfl)
  · cases us with
    | nil =>
      have h9 : 0 < m * s := Nat.mul_pos (by omega) hs0
      rw [List.length_nil] at hl
      omega
    | cons u us =>
      obtain ⟨ad, rfl, _, _⟩ := hc 0 u rfl
      obtain ⟨v', w', hrun, h2, h3, _, h5⟩ := run_append_own_at (P := P) (w := w) base t o.type e i z s b ht hi hz hsz hby hzc hs0 (.slice A n c) n xs hown ad m c2 (u :: us) hl (fun j v hj => by
        obtain ⟨ad', e', _, h'⟩ := hc j v hj
        cases e'; exact h') h1 (by unfold maxLen; omega) hb hbase
      obtain ⟨A', c', rfl, _, _⟩ := ownS_slice h2
      rw [ownBlock_slice] at h3
      rw [ownBlock_slice, ownBlock_slice] at h5
      unfold Oper.wp execOp
      simp only [ho, resolve, invoke, builtin, Sem.run_bind, Sem.run_pure, Result.andThen_ok, List.map_toArray, List.map_cons, List.map_nil, hs, hx, hrun]
      exact h A' c' w' h2 h3 h5

/-- rows appended to an empty row of its own -/
theorem step_rowsTo {P : Program} {ops : Array Oper} {o : Oper} {a : Act} {w : World} {K : Act → World → Prop} {Q : Exit → Act → World → Prop} {E : Prop} (hgd : o.guard = none) (sx x : Operand) (t : TypeId)
    (ho : o.op = .call { callee := .builtin .append, args := #[sx, x], argTypes := #[t, t] }) (hT : AppS P t 37 2 32) (base g : Nat)
    (hs : a.eval sx = .slice (some ⟨g, 0, none⟩) 0 0) (hown : OwnS w base 37 2 (some ⟨g, 0, none⟩) 0 0 [])
    (B : Option Addr) (m c2 : Nat) (rs : List Row) (hx : a.eval x = .slice B m c2) (hr : RR w (fun k => k < base) B m c2 rs) (hm : m ≤ 1000000) (hbase : base ≤ w.heap.size)
    (h : ∀ A' c' w', OwnR w' base A' m c' rs → w.grownBy w' (some g) → K (a.put o.dst (.slice A' m c')) w') :
    if Region.wanted o (yielded ops a.tmps) = true then Oper.wp P o a w K Q else E := by
  obtain ⟨us, h1, h2⟩ := hr.ex
  have hlen := hr.len
  refine step_appendSS hgd sx x t ho hT base (some ⟨g, 0, none⟩) 0 0 [] hs hown B m c2 us hx (by rw [h2.1, hlen]) h1 h2.one (by omega) (by omega) hbase (fun A' c' w' ho' hg _ => ?_)
  rw [List.nil_append] at ho'
  rw [Nat.zero_add] at ho' ⊢
  have hgb := (hown.lt g rfl).1
  have hb : Below base w w' := (Below.refl _ _).grown hg hbase (fun k hk => by cases hk; exact hgb)
  refine h A' c' w' ⟨us, ho', (h2.old (fun k hk _ => hb.block k hk)).weak fun k _ hk e => ?_⟩ hg
  have := (ho'.lt k e).1
  omega

/-- a law's second system, under way: the block of the system, its rows -/
structure TMem (w3 : World) (g7 : Nat) (T : Value) (QA : Option Addr) (qn qc : Nat) (rows : List Row) (W : World) : Prop where
  lo : w3.heap.size ≤ g7
  b : Below w3.heap.size w3 W
  k : Blk W g7 25 #[T, .slice QA qn qc]
  r : OwnR W w3.heap.size QA qn qc rows
section
variable {w w3 W W' : World} {g6 g7 : Nat} {T : Value} {QA TA RA : Option Addr} {qn qc tn tc rm rd : Nat} {rows : List Row} {s : Sys}
theorem TMem.step (h : TMem w3 g7 T QA qn qc rows W) (hb : Below W.heap.size W W') : TMem w3 g7 T QA qn qc rows W' :=
  ⟨h.lo, h.b.trans (hb.mono h.b.size), h.k.old hb, h.r.below hb⟩
theorem TMem.c0 (h : TMem w3 g7 T QA qn qc rows W) : W.cell? ⟨g7, 0, none⟩ = some T := h.k.cell 0
theorem TMem.c1 (h : TMem w3 g7 T QA qn qc rows W) : W.cell? ⟨g7, 1, none⟩ = some (.slice QA qn qc) := h.k.cell 1
theorem TMem.fresh (hb : Below w3.heap.size w3 W) (hr : OwnR W w3.heap.size QA qn qc rows) : TMem w3 W.heap.size T QA qn qc rows (W.alloc (.cells #[T, .slice QA qn qc] 25)) :=
  have h : Below W.heap.size W (W.alloc (.cells #[T, .slice QA qn qc] 25)) := (Below.refl _ _).alloc (Nat.le_refl _) _
  ⟨hb.size, hb.trans (h.mono hb.size), Blk.new _ _ _, hr.below h⟩
theorem TMem.store (hg : w3.heap.size ≤ g7) (hb : Below w3.heap.size w3 W) (hk : Blk W g7 25 #[.slice none 0 0, .slice none 0 0]) (hr : OwnR W w3.heap.size QA qn qc rows) :
    TMem w3 g7 T QA qn qc rows ((W.setCell ⟨g7, 0, none⟩ T).setCell ⟨g7, 1, none⟩ (.slice QA qn qc)) := by
  have o1 := Only.setCell W g7 0 T
  have k1 := hk.set_ 0 T
  have o2 := Only.setCell (W.setCell ⟨g7, 0, none⟩ T) g7 1 (.slice QA qn qc)
  refine ⟨hg, below_only (below_only hb o1 hg) o2 hg, k1.set_ 1 _, ?_⟩
  have r1 : OwnR (W.setCell ⟨g7, 0, none⟩ T) w3.heap.size QA qn qc rows := hr.set hk (by decide) rfl (fun z => by simp)
  exact r1.set k1 (by decide) rfl (fun z => by simp)
/-- the rows are replaced -/
theorem TMem.rows_ {QA' : Option Addr} {qn' qc' : Nat} {rows' : List Row} (hg : w3.heap.size ≤ g7) (hb : Below w3.heap.size w3 W) (hk : Blk W g7 25 #[T, .slice QA qn qc]) (hr : OwnR W w3.heap.size QA' qn' qc' rows') :
    TMem w3 g7 T QA' qn' qc' rows' (W.setCell ⟨g7, 1, none⟩ (.slice QA' qn' qc')) := by
  have o1 := Only.setCell W g7 1 (.slice QA' qn' qc')
  exact ⟨hg, below_only hb o1 hg, hk.set_ 1 _, hr.set hk (by decide) rfl (fun z => by simp)⟩
theorem TMem.done (h : TMem w3 g7 (.slice TA tn tc) QA qn qc rows W) (hs : LMem w g6 TA tn tc RA rm rd s w3) (hn : qn ≤ 1000000) : LMem w g7 TA tn tc QA qn qc (s.1, rows) W ∧ LMem w g6 TA tn tc RA rm rd s W :=
  have hs' := hs.step h.b
  ⟨⟨hs'.b, h.k, hs'.top, h.r.rr hn⟩, hs'⟩
end
end Go.Proofs.Ytjienelkjpodkaa
