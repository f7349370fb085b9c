/- Appending a slice that may be nil. -/
import Derived.Test.YtekbkdbmkjdgbaaL1
namespace Go.Proofs.Ytekbkdbmkjdgbaa
open Go.RowKit

theorem run_append_zero {P : Program} (w : World) (t ty e : TypeId) (i : TypeInfo) (ht : P.underlying t = some (.slice e)) (hi : P.info? e = some i) (_ : i.size = 1)
    (A : Option Addr) (n c : Nat) (h : n ≤ c) (B : Option Addr) (c2 : Nat) : (Builtin.append_ #[t, t] ty #[.slice A n c, .slice B 0 c2]).run P w = .ok (.slice A (n + 0) c) w := by
  cases A <;> cases B <;> simp [Builtin.append_, run_underlying ht, sizeOf, typeInfo, hi, Builtin.lenOf, Builtin.firstCells, loadCells, loadCellsFrom, h, storeCells]

/-- an append of a whole slice that reads as a list; it may be nil -/
theorem wpList_appendSl {P : Program} {w : World} {ops : Array Oper} {rest : List Oper} {o : Oper} {a : Act} {Q : Exit → Act → World → Prop} (hgd : o.guard = none) (s x : Operand) (t : TypeId)
    (ho : o.op = .call { callee := .builtin .append, args := #[s, x], argTypes := #[t, t] }) {e : TypeId} {b : Nat} (hT : AppT P t e b) (base : Nat)
    (A : Option Addr) (n c : Nat) (xs : List Value) (hs : a.eval s = .slice A n c) (hown : Own w base e A n c xs)
    (B : Option Addr) (m c2 : Nat) (us : List Value) (hx : a.eval x = .slice B m c2) (hl : us.length = m) {K : Nat → Prop} (hc : Sl w K B us) (h1 : ∀ u ∈ us, u.oneCell' = true)
    (hb : (n + m) * b ≤ 140737488355328) (hn : n + m ≤ 9223372036854775807) (hbase : base ≤ w.heap.size)
    (h : ∀ A' c' w', Own w' base e A' (n + m) c' (xs ++ us) → w.grownBy w' (obl A) → (obl A' = obl A ∨ obl A' = some w.heap.size) → wpList P ops Q rest (a.put o.dst (.slice A' (n + m) c')) w') :
    wpList P ops Q (o :: rest) a w := by
  by_cases hm : m = 0
  · subst hm
    have hu : us = [] := List.eq_nil_of_length_eq_zero hl
    subst hu
    obtain ⟨ht, i, z, hi, hz, hsz, hby, hzc⟩ := hT
    have hrun := run_append_zero (P := P) w t o.type e i ht hi hsz A n c hown.cap.1 B c2
    refine wpList_plain hgd fun _ hK => ?_
    unfold Oper.wp execOp
    simp only [ho, resolve, invoke, builtin, Sem.run_bind, Sem.run_pure, Result.andThen_ok, List.map_toArray, List.map_cons, List.map_nil, hs, hx, hrun]
    exact hK _ _ (h A c w (by rw [List.append_nil]; exact hown) ⟨rfl, rfl, rfl, Nat.le_refl _, fun _ _ _ => rfl⟩ (.inl rfl))
  · cases us with
    | nil => simp at hl; omega
    | cons u us =>
      obtain ⟨ad, rfl, _, _⟩ := hc 0 u rfl
      exact wpList_appendAll hgd s x t ho hT base A n c xs hs hown ad m c2 (u :: us) hx hl (fun j v hj => by
        obtain ⟨ad', e', _, h'⟩ := hc j v hj
        cases e'; exact h') h1 hb hn hbase h

end Go.Proofs.Ytekbkdbmkjdgbaa
