/- Rows of the call's own whose elements take more cells than one. -/
import Derived.Test.YtjienelkjpodkaaL1
namespace Go.Proofs.Ytjienelkjpodkaa
open Go.RowKit

/-- a slice value of n elements of type e, of s cells each, that the call owns -/
def OwnS (w : World) (base : Nat) (e : TypeId) (s : Nat) (A : Option Addr) (n c : Nat) (xs : List Value) : Prop := w.ownsRow base e s (.slice A n c) n xs

section
variable {w w' : World} {base : Nat} {e : TypeId} {s : Nat} {A : Option Addr} {n c : Nat} {xs : List Value}
theorem ownS_slice {v : Value} (h : w.ownsRow base e s v n xs) : ∃ A c, v = .slice A n c ∧ n ≤ c ∧ c ≤ 9223372036854775807 := by
  rcases h.2 with ⟨rfl, rfl⟩ | ⟨g, cap, cur, rfl, _, _, h1, h2, _⟩
  · exact ⟨none, 0, rfl, Nat.le_refl _, by omega⟩
  · exact ⟨_, cap, rfl, h1, h2⟩
theorem OwnS.len (h : OwnS w base e s A n c xs) : xs.length = n * s := h.1
theorem OwnS.cap (h : OwnS w base e s A n c xs) : n ≤ c ∧ c ≤ 9223372036854775807 := by
  obtain ⟨A', c', he, h1, h2⟩ := ownS_slice h
  cases he
  exact ⟨h1, h2⟩
theorem OwnS.nil_ (w : World) (base : Nat) (e : TypeId) (s : Nat) : OwnS w base e s none 0 0 [] := World.ownsRow_nil w base e s
theorem OwnS.lt (h : OwnS w base e s A n c xs) : ∀ g, obl A = some g → base ≤ g ∧ g < w.heap.size := fun g hg => World.ownsRow.lt h g (by rw [ownBlock_slice]; exact hg)
theorem OwnS.sl {K : Nat → Prop} (h : OwnS w base e s A n c xs) (hK : ∀ g, obl A = some g → K g) : Sl w K A xs := fun j u hu => by
  have hn : n ≠ 0 := fun hn => by
    have := h.len
    have h2 := (List.getElem?_eq_some_iff.1 hu).1
    rw [hn] at this
    omega
  rcases h.2 with ⟨_, h0⟩ | ⟨g, cap, cur, hv, _, _, _⟩
  · omega
  · cases hv
    exact ⟨_, rfl, hK g rfl, World.ownsRow.cells h (g := g) rfl j u hu⟩
theorem OwnS.rr {K : Nat → Prop} {rs : List (List Int × Int)} (h : OwnS w base e 2 A n c xs) (hK : ∀ g, obl A = some g → K g) (hn : n ≤ 140737488355328) (hl : AllR w K xs rs) : RR w K A n c rs :=
  ⟨by have h1 := hl.1; have h2 := h.len; omega, h.cap.1, hn, h.cap.2, xs, h.sl hK, hl⟩
theorem OwnS.keep (h : OwnS w base e s A n c xs) (hb : ∀ g, obl A = some g → w'.heap[g]? = w.heap[g]?) : OwnS w' base e s A n c xs := by
  refine ⟨h.1, ?_⟩
  rcases h.2 with h0 | ⟨g, cap, cur, hv, h1, h2, h3⟩
  · exact .inl h0
  · refine .inr ⟨g, cap, cur, hv, h1, ?_, h3⟩
    cases hv
    rw [hb g rfl]; exact h2
theorem OwnS.below (h : OwnS w base e s A n c xs) (hb : Below w.heap.size w w') : OwnS w' base e s A n c xs := h.keep fun g hg => hb.block g (h.lt g hg).2
theorem OwnS.only {g' : Nat} (h : OwnS w base e s A n c xs) (hb : Only g' w w') (hg : obl A ≠ some g') : OwnS w' base e s A n c xs := h.keep fun g hg' => hb.block g (fun e => hg (by rw [hg', e]))
theorem OwnS.alloc (h : OwnS w base e s A n c xs) (o : Obj) : OwnS (w.alloc o) base e s A n c xs := h.keep fun g hg => Below.heap_alloc w o g (h.lt g hg).2
theorem OwnS.type (h : OwnS w base e s A n c xs) {g : Nat} (hg : obl A = some g) : ∃ cur, w.heap[g]? = some (.cells cur e (0, 0)) := by
  rcases h.2 with ⟨h0, _⟩ | ⟨g', cap, cur, hv, h1, h2, h3⟩
  · cases h0; cases hg
  · cases hv; cases hg; exact ⟨cur, h2⟩
end
theorem OwnS.base {w : World} {b b' : Nat} {e : TypeId} {s : Nat} {A : Option Addr} {n c : Nat} {xs : List Value} (h : OwnS w b e s A n c xs) (hb : b' ≤ b) : OwnS w b' e s A n c xs :=
  ⟨h.1, by
    rcases h.2 with h0 | ⟨g, cap, cur, h1, h2, h3⟩
    · exact .inl h0
    · exact .inr ⟨g, cap, cur, h1, by omega, h3⟩⟩

def AppS (P : Program) (t e : TypeId) (s b : Nat) : Prop := 0 < s ∧ P.underlying t = some (.slice e) ∧ ∃ i z, P.info? e = some i ∧ i.zero = some z ∧ i.size = s ∧ i.bytes = b ∧ z.cells.size = s
theorem AppS.of {P : Program} {t e : TypeId} {s b : Nat} (z : Value) (h0 : 0 < s) (h1 : P.underlying t = some (.slice e)) (h2 : (P.info? e).map (fun i => (i.zero, i.size, i.bytes)) = some (some z, s, b)) (h3 : z.cells.size = s) : AppS P t e s b := by
  refine ⟨h0, h1, ?_⟩
  cases hi : P.info? e with
  | none => rw [hi] at h2; cases h2
  | some i =>
    rw [hi] at h2
    simp only [Option.map_some, Option.some.injEq, Prod.mk.injEq] at h2
    exact ⟨i, z, rfl, h2.1, h2.2.1, h2.2.2, h3⟩
theorem app23 : AppS Try.prog 23 37 2 32 := AppS.of (.agg #[.slice none 0 0, .int .i64 0]) (by omega) Try.underlying23 (by kernel_rfl) rfl
theorem app29 : AppS Try.prog 29 49 8 80 := AppS.of (.agg #[.int .i64 0, .slice none 0 0, .int .i64 0, .int .i64 0, .int .i64 0, .int .i64 0, .int .i64 0, .int .i64 0]) (by omega) Try.underlying29 (by kernel_rfl) rfl

theorem run_append_zero {P : Program} (w : World) (t ty e : TypeId) (i : TypeInfo) (ht : P.underlying t = some (.slice e)) (hi : P.info? e = some i)
    (A : Option Addr) (n c : Nat) (h : n ≤ c) (B : Option Addr) (c2 : Nat) : (Builtin.append_ #[t, t] ty #[.slice A n c, .slice B 0 c2]).run P w = .ok (.slice A (n + 0) c) w := by
  cases A <;> cases B <;> simp [Builtin.append_, run_underlying ht, sizeOf, typeInfo, hi, Builtin.lenOf, Builtin.firstCells, loadCells, loadCellsFrom, h, storeCells]

/-- an append of a whole slice; it may be nil -/
theorem wpList_appendSS {P : Program} {w : World} {ops : Array Oper} {rest : List Oper} {o : Oper} {a : Act} {Q : Exit → Act → World → Prop} (hgd : o.guard = none) (sx x : Operand) (t : TypeId)
    (ho : o.op = .call { callee := .builtin .append, args := #[sx, x], argTypes := #[t, t] }) {e : TypeId} {s b : Nat} (hT : AppS P t e s b) (base : Nat)
    (A : Option Addr) (n c : Nat) (xs : List Value) (hs : a.eval sx = .slice A n c) (hown : OwnS w base e s A n c xs)
    (B : Option Addr) (m c2 : Nat) (us : List Value) (hx : a.eval x = .slice B m c2) (hl : us.length = m * s) {K : Nat → Prop} (hc : Sl w K B us) (h1 : ∀ u ∈ us, u.oneCell' = true)
    (hb : (n + m) * b ≤ 140737488355328) (hn : n + m ≤ 9223372036854775807) (hbase : base ≤ w.heap.size)
    (h : ∀ A' c' w', OwnS w' base e s A' (n + m) c' (xs ++ us) → w.grownBy w' (obl A) → (obl A' = obl A ∨ obl A' = some w.heap.size) → wpList P ops Q rest (a.put o.dst (.slice A' (n + m) c')) w') :
    wpList P ops Q (o :: rest) a w := by
  obtain ⟨hs0, ht, i, z, hi, hz, hsz, hby, hzc⟩ := hT
  by_cases hm : m = 0
  · subst hm
    have hu : us = [] := List.eq_nil_of_length_eq_zero (by rw [hl]; simp)
    subst hu
    have hrun := run_append_zero (P := P) w t o.type e i ht hi A n c hown.cap.1 B c2
    refine wpList_plain hgd fun _ hK => ?_
    unfold Oper.wp execOp
    simp only [ho, resolve, invoke, builtin, Sem.run_bind, Sem.run_pure, Result.andThen_ok, List.map_toArray, List.map_cons, List.map_nil, hs, hx, hrun]
    exact hK _ _ (h A c w (by rw [List.append_nil]; exact hown) ⟨rfl, rfl, rfl, Nat.le_refl _, fun _ _ _ => rfl⟩ (.inl rfl))
  · cases us with
    | nil =>
      have h9 : 0 < m * s := Nat.mul_pos (by omega) hs0
      rw [List.length_nil] at hl
      omega
    | cons u us =>
      obtain ⟨ad, rfl, _, _⟩ := hc 0 u rfl
      obtain ⟨v', w', hrun, h2, h3, _, h5⟩ := run_append_own_at (P := P) (w := w) base t o.type e i z s b ht hi hz hsz hby hzc hs0 (.slice A n c) n xs hown ad m c2 (u :: us) hl (fun j v hj => by
        obtain ⟨ad', e', _, h'⟩ := hc j v hj
        cases e'; exact h') h1 (by unfold maxLen; omega) hb hbase
      obtain ⟨A', c', rfl, _, _⟩ := ownS_slice h2
      rw [ownBlock_slice] at h3
      rw [ownBlock_slice, ownBlock_slice] at h5
      refine wpList_plain hgd fun _ hK => ?_
      unfold Oper.wp execOp
      simp only [ho, resolve, invoke, builtin, Sem.run_bind, Sem.run_pure, Result.andThen_ok, List.map_toArray, List.map_cons, List.map_nil, hs, hx, hrun]
      exact hK _ _ (h A' c' w' h2 h3 h5)

theorem OwnS.lit {w : World} {base : Nat} (e : TypeId) (s n : Nat) (cs : Array Value) (hb : base ≤ w.heap.size) (hm : n ≤ 9223372036854775807) (hs : cs.size = n * s) : OwnS (w.alloc (.cells cs e)) base e s (some ⟨w.heap.size, 0, none⟩) n n cs.toList :=
  World.ownsRow_lit w cs n hb hm hs
theorem AllR.one {w : World} {K : Nat → Prop} {us : List Value} {rs : List (List Int × Int)} (h : AllR w K us rs) : ∀ u ∈ us, u.oneCell' = true := fun u hu => by
  obtain ⟨j, hj⟩ := List.getElem?_of_mem hu
  have hlt : j < us.length := (List.getElem?_eq_some_iff.1 hj).1
  have hl := h.1
  have hq : j / 2 < rs.length := by omega
  obtain ⟨x, y, h1, h2, A, n, c, rfl, rfl, _, _⟩ := h.2 (j / 2) rs[j / 2] (List.getElem?_eq_getElem hq)
  rcases Nat.mod_two_eq_zero_or_one j with hm | hm
  · have : j / 2 * 2 = j := by omega
    rw [this, hj] at h1
    cases h1; rfl
  · have : j / 2 * 2 + 1 = j := by omega
    rw [this, hj] at h2
    cases h2; rfl
theorem AllR.nil_ (w : World) (K : Nat → Prop) : AllR w K [] [] := ⟨rfl, fun j r hr => by simp at hr⟩
theorem AllR.snoc {w : World} {K : Nat → Prop} {us : List Value} {rs : List (List Int × Int)} {u v : Value} {r : List Int × Int} (h : AllR w K us rs) (hr : RowIn w K u v r) : AllR w K (us ++ [u, v]) (rs ++ [r]) := by
  have hl := h.1
  refine ⟨by simp [hl]; omega, fun j q hq => ?_⟩
  by_cases hj : j < rs.length
  · rw [List.getElem?_append_left hj] at hq
    obtain ⟨x, y, h1, h2, h3⟩ := h.2 j q hq
    exact ⟨x, y, by rw [List.getElem?_append_left (by omega)]; exact h1, by rw [List.getElem?_append_left (by omega)]; exact h2, h3⟩
  · rw [List.getElem?_append_right (by omega)] at hq
    have h0 : j - rs.length = 0 := by
      have := (List.getElem?_eq_some_iff.1 hq).1
      simp at this; omega
    rw [h0] at hq
    simp at hq
    subst hq
    have hj' : j = rs.length := by omega
    refine ⟨u, v, ?_, ?_, hr⟩
    · rw [List.getElem?_append_right (by omega), show j * 2 - us.length = 0 by omega]; rfl
    · rw [List.getElem?_append_right (by omega), show j * 2 + 1 - us.length = 1 by omega]; rfl

end Go.Proofs.Ytjienelkjpodkaa
