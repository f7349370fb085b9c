/- Rows of the call's own, as the walks of this seat use them: what an append of one element does. -/
import Derived.Test.YtekbkdbmkjdgbaaLib
namespace Go.Proofs.Ytekbkdbmkjdgbaa
open Go.RowKit

/-- a slice value of n one-cell elements of type e that the call owns -/
def Own (w : World) (base : Nat) (e : TypeId) (A : Option Addr) (n c : Nat) (xs : List Value) : Prop := w.ownsRow base e 1 (.slice A n c) n xs
/-- the block of a slice's address -/
def obl (A : Option Addr) : Option Nat := A.map (·.block)

theorem ownBlock_slice (A : Option Addr) (n c : Nat) : (Value.slice A n c).ownBlock = obl A := by cases A <;> rfl

section
variable {w w' : World} {base : Nat} {e : TypeId} {A : Option Addr} {n c : Nat} {xs : List Value}
theorem own_slice {v : Value} (h : w.ownsRow base e 1 v n xs) : ∃ A c, v = .slice A n c ∧ n ≤ c ∧ c ≤ 9223372036854775807 := by
  rcases h.2 with ⟨rfl, rfl⟩ | ⟨g, cap, cur, rfl, _, _, h1, h2, _⟩
  · exact ⟨none, 0, rfl, Nat.le_refl _, by omega⟩
  · exact ⟨_, cap, rfl, h1, h2⟩
theorem Own.len (h : Own w base e A n c xs) : xs.length = n := by have := h.1; omega
theorem Own.cap (h : Own w base e A n c xs) : n ≤ c ∧ c ≤ 9223372036854775807 := by
  obtain ⟨A', c', he, h1, h2⟩ := own_slice h
  cases he
  exact ⟨h1, h2⟩
theorem Own.nil_ (w : World) (base : Nat) (e : TypeId) : Own w base e none 0 0 [] := World.ownsRow_nil w base e 1
theorem Own.lt (h : Own w base e A n c xs) : ∀ g, obl A = some g → base ≤ g ∧ g < w.heap.size := fun g hg => World.ownsRow.lt h g (by rw [ownBlock_slice]; exact hg)
theorem Own.sl {K : Nat → Prop} (h : Own w base e A n c xs) (hK : ∀ g, obl A = some g → K g) : Sl w K A xs := fun j u hu => by
  have hn : 0 < n := by
    have := h.len
    have := (List.getElem?_eq_some_iff.1 hu).1
    omega
  rcases h.2 with ⟨_, h0⟩ | ⟨g, cap, cur, hv, _, _, _⟩
  · omega
  · cases hv
    exact ⟨_, rfl, hK g rfl, World.ownsRow.cells h (g := g) rfl j u hu⟩
theorem Own.r1 {K : Nat → Prop} {l : List Int} (h : Own w base e A n c (l.map (Value.int .i64))) (hK : ∀ g, obl A = some g → K g) (hn : n ≤ 140737488355328) (hw : ∀ x ∈ l, I64 x) : R1 w K A n c l :=
  ⟨by have := h.len; simpa using this, h.cap.1, hn, h.cap.2, hw, h.sl hK⟩
theorem Own.rb {K : Nat → Prop} {l : List Bool} (h : Own w base e A n c (l.map Value.bool)) (hK : ∀ g, obl A = some g → K g) (hn : n ≤ 140737488355328) : RB w K A n c l :=
  ⟨by have := h.len; simpa using this, h.cap.1, hn, h.cap.2, h.sl hK⟩
theorem Own.r2 {K : Nat → Prop} {ls : List (List Int)} (h : Own w base e A n c xs) (hK : ∀ g, obl A = some g → K g) (hn : n ≤ 140737488355328) (hl : All1 w K xs ls) : R2 w K A n c ls :=
  ⟨by rw [← hl.1]; exact h.len, h.cap.1, hn, h.cap.2, xs, h.sl hK, hl⟩
/-- it stays as long as its block does -/
theorem Own.keep (h : Own w base e A n c xs) (hb : ∀ g, obl A = some g → w'.heap[g]? = w.heap[g]?) : Own w' base e A n c xs := by
  refine ⟨h.1, ?_⟩
  rcases h.2 with h0 | ⟨g, cap, cur, hv, h1, h2, h3⟩
  · exact .inl h0
  · refine .inr ⟨g, cap, cur, hv, h1, ?_, h3⟩
    cases hv
    rw [hb g rfl]; exact h2
theorem Own.below (h : Own w base e A n c xs) (hb : Below w.heap.size w w') : Own w' base e A n c xs := h.keep fun g hg => hb.block g (h.lt g hg).2
theorem Own.only {g' : Nat} (h : Own w base e A n c xs) (hb : Only g' w w') (hg : obl A ≠ some g') : Own w' base e A n c xs := h.keep fun g hg' => hb.block g (fun e => hg (by rw [hg', e]))
theorem Own.alloc (h : Own w base e A n c xs) (o : Obj) : Own (w.alloc o) base e A n c xs := h.keep fun g hg => Below.heap_alloc w o g (h.lt g hg).2
/-- its block's elements have the type e -/
theorem Own.type (h : Own w base e A n c xs) {g : Nat} (hg : obl A = some g) : ∃ cur, w.heap[g]? = some (.cells cur e (0, 0)) := by
  rcases h.2 with ⟨h0, _⟩ | ⟨g', cap, cur, hv, h1, h2, h3⟩
  · cases h0; cases hg
  · cases hv; cases hg; exact ⟨cur, h2⟩
end

/-- the facts on a slice type t with one-cell elements e of b bytes, for an append -/
def AppT (P : Program) (t e : TypeId) (b : Nat) : Prop := P.underlying t = some (.slice e) ∧ ∃ i z, P.info? e = some i ∧ i.zero = some z ∧ i.size = 1 ∧ i.bytes = b ∧ z.cells.size = 1

theorem AppT.of {P : Program} {t e : TypeId} {b : Nat} (z : Value) (h1 : P.underlying t = some (.slice e)) (h2 : (P.info? e).map (fun i => (i.zero, i.size, i.bytes)) = some (some z, 1, b)) (h3 : z.cells.size = 1) : AppT P t e b := by
  refine ⟨h1, ?_⟩
  cases hi : P.info? e with
  | none => rw [hi] at h2; cases h2
  | some i =>
    rw [hi] at h2
    simp only [Option.map_some, Option.some.injEq, Prod.mk.injEq] at h2
    exact ⟨i, z, rfl, h2.1, h2.2.1, h2.2.2, h3⟩
theorem app32 : AppT Try.prog 32 3 8 := AppT.of (.int .i64 0) Try.underlying32 (by kernel_rfl) rfl
theorem app22 : AppT Try.prog 22 32 24 := AppT.of (.slice none 0 0) Try.underlying22 (by kernel_rfl) rfl

/-- an append of one element that lies in a new block of its own -/
theorem wpList_push {P : Program} {w : World} {ops : Array Oper} {rest : List Oper} {o : Oper} {a : Act} {Q : Exit → Act → World → Prop} (hgd : o.guard = none) (s x : Operand) (t : TypeId)
    (ho : o.op = .call { callee := .builtin .append, args := #[s, x], argTypes := #[t, t] }) {e : TypeId} {b : Nat} (hT : AppT P t e b) (base : Nat)
    (A : Option Addr) (n c : Nat) (xs : List Value) (hs : a.eval s = .slice A n c) (hown : Own w base e A n c xs)
    (g : Nat) (u : Value) (hx : a.eval x = .slice (some ⟨g, 0, none⟩) 1 1) (hc : w.cell? ⟨g, 0, none⟩ = some u) (h1 : u.oneCell' = true)
    (hb : (n + 1) * b ≤ 140737488355328) (hn : n + 1 ≤ 9223372036854775807) (hbase : base ≤ w.heap.size)
    (h : ∀ A' c' w', Own w' base e A' (n + 1) c' (xs ++ [u]) → w.grownBy w' (obl A) → (obl A' = obl A ∨ obl A' = some w.heap.size) → wpList P ops Q rest (a.put o.dst (.slice A' (n + 1) c')) w') :
    wpList P ops Q (o :: rest) a w := by
  obtain ⟨ht, i, z, hi, hz, hsz, hby, hzc⟩ := hT
  obtain ⟨v', w', hrun, h2, h3, _, h5⟩ := run_append_own_at (P := P) (w := w) base t o.type e i z 1 b ht hi hz hsz hby hzc (by omega) (.slice A n c) n xs hown ⟨g, 0, none⟩ 1 1 [u] rfl
    (fun j u' hu' => by
      cases j with
      | zero => simp at hu'; subst hu'; exact hc
      | succ j => simp at hu')
    (fun u' hu' => by simp at hu'; subst hu'; exact h1) (by unfold maxLen; omega) hb hbase
  obtain ⟨A', c', rfl, _, _⟩ := own_slice h2
  rw [ownBlock_slice] at h3
  rw [ownBlock_slice, ownBlock_slice] at h5
  refine wpList_plain hgd fun _ hK => ?_
  unfold Oper.wp execOp
  simp only [ho, resolve, invoke, builtin, Sem.run_bind, Sem.run_pure, Result.andThen_ok, List.map_toArray, List.map_cons, List.map_nil, hs, hx, hrun]
  exact hK _ _ (h A' c' w' h2 h3 h5)

/-- an append of a whole slice that reads as a list -/
theorem wpList_appendAll {P : Program} {w : World} {ops : Array Oper} {rest : List Oper} {o : Oper} {a : Act} {Q : Exit → Act → World → Prop} (hgd : o.guard = none) (s x : Operand) (t : TypeId)
    (ho : o.op = .call { callee := .builtin .append, args := #[s, x], argTypes := #[t, t] }) {e : TypeId} {b : Nat} (hT : AppT P t e b) (base : Nat)
    (A : Option Addr) (n c : Nat) (xs : List Value) (hs : a.eval s = .slice A n c) (hown : Own w base e A n c xs)
    (ad : Addr) (m c2 : Nat) (us : List Value) (hx : a.eval x = .slice (some ad) m c2) (hl : us.length = m) (hc : ∀ (j : Nat) (u : Value), us[j]? = some u → w.cell? (ad.add j) = some u) (h1 : ∀ u ∈ us, u.oneCell' = true)
    (hb : (n + m) * b ≤ 140737488355328) (hn : n + m ≤ 9223372036854775807) (hbase : base ≤ w.heap.size)
    (h : ∀ A' c' w', Own w' base e A' (n + m) c' (xs ++ us) → w.grownBy w' (obl A) → (obl A' = obl A ∨ obl A' = some w.heap.size) → wpList P ops Q rest (a.put o.dst (.slice A' (n + m) c')) w') :
    wpList P ops Q (o :: rest) a w := by
  obtain ⟨ht, i, z, hi, hz, hsz, hby, hzc⟩ := hT
  obtain ⟨v', w', hrun, h2, h3, _, h5⟩ := run_append_own_at (P := P) (w := w) base t o.type e i z 1 b ht hi hz hsz hby hzc (by omega) (.slice A n c) n xs hown ad m c2 us (by rw [hl]; omega) hc h1 (by unfold maxLen; omega) hb hbase
  obtain ⟨A', c', rfl, _, _⟩ := own_slice h2
  rw [ownBlock_slice] at h3
  rw [ownBlock_slice, ownBlock_slice] at h5
  refine wpList_plain hgd fun _ hK => ?_
  unfold Oper.wp execOp
  simp only [ho, resolve, invoke, builtin, Sem.run_bind, Sem.run_pure, Result.andThen_ok, List.map_toArray, List.map_cons, List.map_nil, hs, hx, hrun]
  exact hK _ _ (h A' c' w' h2 h3 h5)

theorem Own.lit {w : World} {base : Nat} (e : TypeId) (cs : Array Value) (n : Nat) (hb : base ≤ w.heap.size) (hm : n ≤ 9223372036854775807) (hs : cs.size = n) : Own (w.alloc (.cells cs e)) base e (some ⟨w.heap.size, 0, none⟩) n n cs.toList :=
  World.ownsRow_lit w cs n hb hm (by omega)
theorem All1.one {w : World} {K : Nat → Prop} {us : List Value} {ls : List (List Int)} (h : All1 w K us ls) : ∀ u ∈ us, u.oneCell' = true := fun u hu => by
  obtain ⟨j, hj⟩ := List.getElem?_of_mem hu
  have hlt : j < ls.length := by
    rw [← h.1]; exact (List.getElem?_eq_some_iff.1 hj).1
  obtain ⟨A, n, c, rfl, _⟩ := h.2 j u ls[j] hj (List.getElem?_eq_getElem hlt)
  rfl
theorem ints_one (l : List Int) : ∀ u ∈ l.map (Value.int .i64), u.oneCell' = true := fun u hu => by
  obtain ⟨x, _, rfl⟩ := List.mem_map.1 hu; rfl
theorem All1.nil_ (w : World) (K : Nat → Prop) : All1 w K [] [] := ⟨rfl, fun j u l hu _ => by simp at hu⟩
theorem All1.snoc {w : World} {K : Nat → Prop} {us : List Value} {ls : List (List Int)} {u : Value} {l : List Int} (h : All1 w K us ls) (hu : In1 w K u l) : All1 w K (us ++ [u]) (ls ++ [l]) := by
  refine ⟨by simp [h.1], fun j v m hv hm => ?_⟩
  by_cases hj : j < us.length
  · rw [List.getElem?_append_left hj] at hv
    rw [List.getElem?_append_left (by rw [← h.1]; exact hj)] at hm
    exact h.2 j v m hv hm
  · rw [List.getElem?_append_right (by omega)] at hv
    rw [List.getElem?_append_right (by rw [← h.1]; omega)] at hm
    have h0 : j - us.length = 0 := by
      have := (List.getElem?_eq_some_iff.1 hv).1
      simp at this; omega
    rw [h0] at hv
    rw [← h.1, h0] at hm
    simp at hv hm
    subst hv hm
    exact hu

theorem below_grown {B : Nat} {a w w' : World} {row : Option Nat} (h : Below B a w) (hg : w.grownBy w' row) (hB : B ≤ w.heap.size) (hr : ∀ k, row = some k → B ≤ k) : Below B a w' := h.grown hg hB hr
theorem Blk.grown {w w' : World} {g : Nat} {t : TypeId} {cs : Array Value} {row : Option Nat} (h : Blk w g t cs) (hg : w.grownBy w' row) (hne : row ≠ some g) : Blk w' g t cs :=
  (hg.block g h.lt (fun e => hne e.symm)).trans h
theorem Old.grown {K : Nat → Prop} {w w' : World} {row : Option Nat} (hg : w.grownBy w' row) (hne : ∀ k, row = some k → ¬ K k) : Old K w w' := fun k hk hlt => hg.block k hlt (fun e => hne k e.symm hk)

theorem run_ix {a : List Int} {k : Nat} (h : a.length = 17) (hk : k < 17) (w : World) : (Instr.index 55 (.agg (pv a)) (.int .i64 (k : Int))).run Try.prog w = .ok (.int .i64 (a.getD k 0)) w := by
  have hp := pv_get (a := a) (i := k) (by omega)
  simp only [Instr.index, part, isAgg, Sem.run_bind, run_underlying Try.underlying55]
  have e : (Sem.run Try.prog (asIntOf (Value.int IntKind.i64 ↑k)) w) = .ok (.i64, (k : Int)) w := rfl
  have hk' : (0 : Int) ≤ k ∧ (k : Int) < 17 := by omega
  rw [e]
  simp [hp, run_underlying Try.underlying3]
  intro hge
  omega

/-- a whole value goes into a variable that was made just before: the world behind it is a name -/
theorem wpList_store_fresh {P : Program} {w : World} {ops : Array Oper} {rest : List Oper} {o : Oper} {a : Act} {Q : Exit → Act → World → Prop} (hgd : o.guard = none) (ty : TypeId) (x y : Operand) (ho : o.op = .store ty x y)
    (hd : o.dst = none) (cells old : Array Value) (t : TypeId) (hx : a.eval x = .pointer (some ⟨w.heap.size, 0, none⟩)) (hy : a.eval y = .agg cells)
    (hi : (P.info? ty).map (·.size) = some cells.size) (hold : old.size = cells.size) (h1 : cells.all (·.oneCell') = true)
    (h : ∀ w', Blk w' w.heap.size t cells → Below w.heap.size w w' → w'.heap.size = w.heap.size + 1 → wpList P ops Q rest a w') : wpList P ops Q (o :: rest) a (w.alloc (.cells old t)) :=
  wpList_store_rowTo hgd ty x y ho hd w.heap.size cells hx hy t old (Blk.new w t old) hi hold h1
    (h _ ((Blk.new w t old).setRow cells) (below_setRow ((Below.refl _ _).alloc (Nat.le_refl _) _) (Nat.le_refl _) _) (by simp))
/-- .. into a variable that is known whole -/
theorem wpList_store_blk {P : Program} {w : World} {ops : Array Oper} {rest : List Oper} {o : Oper} {a : Act} {Q : Exit → Act → World → Prop} (hgd : o.guard = none) (ty : TypeId) (x y : Operand) (ho : o.op = .store ty x y)
    (hd : o.dst = none) (g : Nat) (cells old : Array Value) (t : TypeId) (hx : a.eval x = .pointer (some ⟨g, 0, none⟩)) (hy : a.eval y = .agg cells) (hb : Blk w g t old)
    (hi : (P.info? ty).map (·.size) = some cells.size) (hold : old.size = cells.size) (h1 : cells.all (·.oneCell') = true)
    (h : ∀ w', Blk w' g t cells → Only g w w' → wpList P ops Q rest a w') : wpList P ops Q (o :: rest) a w :=
  wpList_store_rowTo hgd ty x y ho hd g cells hx hy t old hb hi hold h1
    (h _ (hb.setRow cells) ⟨rfl, rfl, rfl, by simp, fun k hk => setRow_other w g k cells hk⟩)
/-- a whole value is read -/
theorem wpList_load_blk {P : Program} {ops : Array Oper} {rest : List Oper} {o : Oper} {a : Act} {w : World} {Q : Exit → Act → World → Prop} (hgd : o.guard = none) (ty : TypeId) (x : Operand) (ho : o.op = .load ty x)
    (g : Nat) (hx : a.eval x = .pointer (some ⟨g, 0, none⟩)) (t : TypeId) (cs : Array Value) (d : TypeDesc) (hg : Blk w g t cs)
    (hu : P.underlying ty = some d) (hd : (match d with | .struct _ | .array _ _ => true | _ => false) = true) (hi : (P.info? ty).map (·.size) = some cs.size)
    (h : wpList P ops Q rest (a.put o.dst (.agg cs)) w) : wpList P ops Q (o :: rest) a w :=
  wpList_load_row hgd ty x ho g hx t cs (0, 0) d hg hu hd hi h

theorem info55 : (Try.prog.info? 55).map (·.size) = some 17 := by kernel_rfl
theorem size55 {a : List Int} (h : Wf a) : (Try.prog.info? 55).map (·.size) = some (pv a).size := by rw [info55, pv_size, h.1]
theorem pv17 {a : List Int} (h : Wf a) : 17 = (pv a).size := by rw [pv_size, h.1]
theorem pvpv {a b : List Int} (h : Wf a) (h' : Wf b) : (pv a).size = (pv b).size := by rw [pv_size, pv_size, h.1, h'.1]

/-- make([]T, 0, n) -/
theorem wpList_makeCap {P : Program} {w : World} {ops : Array Oper} {rest : List Oper} {o : Oper} {a : Act} {Q : Exit → Act → World → Prop} (hgd : o.guard = none) (x y : Operand) (t : TypeId)
    (ho : o.op = .makeSlice t x y) {e : TypeId} {b : Nat} (hT : AppT P t e b) (base : Nat) (n : Nat) (hx : a.eval x = .int .i64 0) (hy : a.eval y = .int .i64 (n : Int))
    (hb : b * n ≤ 281474976710656) (hn : n ≤ 9223372036854775807) (hbase : base ≤ w.heap.size)
    (h : ∀ w', Own w' base e (some ⟨w.heap.size, 0, none⟩) 0 n [] → w.grownBy w' none → wpList P ops Q rest (a.put o.dst (.slice (some ⟨w.heap.size, 0, none⟩) 0 n)) w') : wpList P ops Q (o :: rest) a w := by
  obtain ⟨ht, i, z, hi, hz, hsz, hby, hzc⟩ := hT
  obtain ⟨w', hrun, h2, h3⟩ := run_make_own (P := P) (w := w) base t e i z 1 ht hi hz hsz .i64 .i64 n (by rw [hby]; exact hb) (by unfold maxLen; omega) hbase
  refine wpList_plain hgd fun _ hK => ?_
  unfold Oper.wp execOp
  simp only [ho, Sem.run_bind, Sem.run_pure, Result.andThen_ok, hx, hy, hrun]
  exact hK _ _ (h w' h2 h3)
/-- make([]T, n) -/
theorem wpList_makeFull {P : Program} {w : World} {ops : Array Oper} {rest : List Oper} {o : Oper} {a : Act} {Q : Exit → Act → World → Prop} (hgd : o.guard = none) (x y : Operand) (t : TypeId)
    (ho : o.op = .makeSlice t x y) {e : TypeId} {b : Nat} (z : Value) (ht : P.underlying t = some (.slice e)) (hinfo : (P.info? e).map (fun i => (i.zero, i.size, i.bytes)) = some (some z, 1, b)) (hz1 : z.cells = #[z])
    (n : Nat) (hx : a.eval x = .int .i64 (n : Int)) (hy : a.eval y = .int .i64 (n : Int)) (hb : b * n ≤ 281474976710656) (hn : n ≤ 9223372036854775807)
    (h : ∀ w', Blk w' w.heap.size e (List.replicate n z).toArray → Below w.heap.size w w' → w'.heap.size = w.heap.size + 1 → wpList P ops Q rest (a.put o.dst (.slice (some ⟨w.heap.size, 0, none⟩) n n)) w') : wpList P ops Q (o :: rest) a w := by
  have hrun := run_make_row' (P := P) t e z b ht hinfo hz1 .i64 .i64 n hb hn w
  refine wpList_plain hgd fun _ hK => ?_
  unfold Oper.wp execOp
  simp only [ho, Sem.run_bind, Sem.run_pure, Result.andThen_ok, hx, hy, hrun]
  refine hK _ _ (h _ ?_ ((Below.refl _ _).alloc (Nat.le_refl _) _) (by simp))
  have e : madeCells #[z] n = (List.replicate n z).toArray := by
    rw [← toList_madeCells_one z n]
  rw [e]
  exact Blk.new w _ _
/-- a value of one cell goes into a block that is known whole -/
theorem wpList_store_at {P : Program} {w : World} {ops : Array Oper} {rest : List Oper} {o : Oper} {a : Act} {Q : Exit → Act → World → Prop} (hgd : o.guard = none) (ty : TypeId) (x y : Operand) (ho : o.op = .store ty x y)
    (hd : o.dst = none) (g i : Nat) (v : Value) (old : Array Value) (t : TypeId) (hx : a.eval x = .pointer (some ⟨g, i, none⟩)) (hy : a.eval y = v) (hb : Blk w g t old) (hlt : i < old.size)
    (hi : (P.info? ty).map (·.size) = some 1) (h1 : v.oneCell' = true)
    (h : ∀ w', Blk w' g t (old.setIfInBounds i v) → Only g w w' → wpList P ops Q rest a w') : wpList P ops Q (o :: rest) a w := by
  cases hie : P.info? ty with
  | none => simp [hie] at hi
  | some ie =>
    simp only [hie, Option.map_some, Option.some.injEq] at hi
    have hc : w.cell? ⟨g, i, none⟩ = some old[i] := by rw [hb.cell]; simp [hlt]
    have hrun := Lib.rl_storeVar_one (P := P) ty ie hie hi ⟨g, i, none⟩ v _ h1 w hc (hb.frozen i)
    refine wpList_plain hgd fun _ hK => ?_
    unfold Oper.wp execOp
    simp only [ho, hx, hy, Instr.storeAt, Instr.sureAddr, Sem.run_bind, Sem.run_pure, Result.andThen_ok, hrun]
    refine hK _ _ ?_
    rw [hd]
    exact h _ (hb.set_ i v) (Only.setCell w g i v)

end Go.Proofs.Ytekbkdbmkjdgbaa
