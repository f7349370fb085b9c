/- Stores into slices of one's own; classes read out of slices. -/
import Derived.Test.YtjgkdfghjeodeaaGreatDoorT3
import Derived.Test.YtjgkdfghjeodeaaGreatDoorT8
namespace Go.Proofs.YtjgkdfghjeodeaaGreatDoor
open Go.RowKit

theorem mid_list {α : Type} (xs vs : List α) (o : Nat) (h : o + vs.length ≤ xs.length) (r : List α) : (xs ++ r).take o ++ vs ++ (xs ++ r).drop (o + vs.length) = (xs.take o ++ vs ++ xs.drop (o + vs.length)) ++ r := by
  rw [List.take_append_of_le_length (by omega), List.drop_append_of_le_length h]
  simp
/-- an element of s cells is stored -/
theorem OwnS.run_store {P : Program} {w : World} {base : Nat} {e : TypeId} {s : Nat} {A : Option Addr} {n c : Nat} {xs : List Value} (h : OwnS w base e s A n c xs) (id : Nat) (hid : id < n) (vs : List Value) (hv : vs.length = s) (h1 : ∀ v ∈ vs, v.oneCell' = true) (ty : TypeId) (hi : (P.info? ty).map (·.size) = some s) :
    ∃ g, A = some ⟨g, 0, none⟩ ∧ base ≤ g ∧ g < w.heap.size ∧ ∃ w', (storeVar ty ⟨g, id * s, none⟩ (.agg vs.toArray)).run P w = .ok () w' ∧ OwnS w' base e s A n c (xs.take (id * s) ++ vs ++ xs.drop (id * s + s)) ∧ Only g w w' := by
  obtain ⟨hx, h2⟩ := h
  have hle : (id + 1) * s ≤ n * s := Nat.mul_le_mul_right s hid
  rw [Nat.add_mul, Nat.one_mul] at hle
  rcases h2 with ⟨_, h0⟩ | ⟨g, cap, cur, he, hb, hg, hn, hcap, hcs, ht⟩
  · omega
  · cases he
    have hlt : g < w.heap.size := (Array.getElem?_eq_some_iff.1 hg).1
    have hcap2 : n * s ≤ c * s := Nat.mul_le_mul_right s hn
    have hrun := run_storeCells_at (P := P) g (id * s) e vs 0 cur w hg (by rw [hcs, hv]; omega) h1
    rw [Nat.add_zero, hv] at hrun
    refine ⟨g, rfl, hb, hlt, w.setRow g (List.take (id * s) cur.toList ++ vs ++ List.drop (id * s + s) cur.toList).toArray, ?_, ⟨?_, .inr ⟨g, c, _, rfl, hb, setRow_heap w g cur _ e (0, 0) hg, hn, hcap, ?_, ?_⟩⟩, ⟨rfl, rfl, rfl, by simp, fun k hk => setRow_other w g k _ hk⟩⟩
    · cases hq : P.info? ty with
      | none => simp [hq] at hi
      | some i =>
        have hs : i.size = s := by simpa [hq] using hi
        simp [storeVar, sizeOf, typeInfo, hq, Value.cells, hs, hv, hrun]
    · simp only [List.length_append, List.length_take, List.length_drop, hx, hv]; omega
    · simp only [List.size_toArray, List.length_append, List.length_take, List.length_drop, Array.length_toList, hcs, hv]; omega
    · have hsplit : cur.toList = xs ++ cur.toList.drop (n * s) := by rw [← ht, List.take_append_drop]
      show List.take (n * s) (List.take (id * s) cur.toList ++ vs ++ List.drop (id * s + s) cur.toList) = _
      rw [hsplit]
      have := mid_list xs vs (id * s) (by rw [hv, hx]; exact hle) (cur.toList.drop (n * s))
      rw [hv] at this
      rw [this, List.take_append_of_le_length (by simp only [List.length_append, List.length_take, List.length_drop, hx, hv]; omega), List.take_of_length_le (by simp only [List.length_append, List.length_take, List.length_drop, hx, hv]; omega)]
theorem wpList_store_own {P : Program} {w : World} {ops : Array Oper} {rest : List Oper} {o : Oper} {a : Act} {Q : Exit → Act → World → Prop} (hgd : o.guard = none) (ty : TypeId) (x y : Operand) (ho : o.op = .store ty x y) (hd : o.dst = none)
    {base : Nat} {e : TypeId} {s : Nat} {A : Option Addr} {n c : Nat} {xs : List Value} (hown : OwnS w base e s A n c xs) (id : Nat) (hid : id < n) (vs : List Value) (hv : vs.length = s) (h1 : ∀ v ∈ vs, v.oneCell' = true) (hi : (P.info? ty).map (·.size) = some s)
    (ad : Addr) (hA : A = some ad) (hx : a.eval x = .pointer (some (ad.add (id * s)))) (hy : a.eval y = .agg vs.toArray)
    (h : ∀ w', OwnS w' base e s A n c (xs.take (id * s) ++ vs ++ xs.drop (id * s + s)) → Only ad.block w w' → wpList P ops Q rest a w') : wpList P ops Q (o :: rest) a w := by
  obtain ⟨g, rfl, _, _, w', hrun, h2, h3⟩ := hown.run_store (P := P) id hid vs hv h1 ty hi
  cases hA
  have e : (⟨g, 0, none⟩ : Addr).add (id * s) = ⟨g, id * s, none⟩ := by unfold Addr.add; split <;> simp_all
  rw [e] at hx
  refine wpList_plain hgd fun _ hK => ?_
  unfold Oper.wp execOp
  simp only [ho, hx, hy, Instr.storeAt, Instr.sureAddr, Sem.run_bind, Sem.run_pure, Result.andThen_ok, hrun]
  refine hK _ _ ?_
  rw [hd]
  exact h _ h2 h3
theorem ccl_take (l : List Nat) (k : Nat) : (ccl l).take (k * 4) = ccl (l.take k) := by
  induction l generalizing k with
  | nil => simp [ccl]
  | cons x r ih =>
    cases k with
    | zero => simp [ccl]
    | succ k =>
      have e : ccl (x :: r) = (ccells x).toList ++ ccl r := rfl
      have e2 : ccl (List.take (k + 1) (x :: r)) = (ccells x).toList ++ ccl (r.take k) := rfl
      rw [e, e2, ← ih, show (k + 1) * 4 = (ccells x).toList.length + k * 4 by simp [ccells]; omega, List.take_length_add_append]
theorem ccl_drop (l : List Nat) (k : Nat) : (ccl l).drop (k * 4) = ccl (l.drop k) := by
  induction l generalizing k with
  | nil => simp [ccl]
  | cons x r ih =>
    cases k with
    | zero => simp
    | succ k =>
      have e : ccl (x :: r) = (ccells x).toList ++ ccl r := rfl
      rw [e, List.drop_succ_cons, ← ih, show (k + 1) * 4 = (ccells x).toList.length + k * 4 by simp [ccells]; omega, List.drop_length_add_append]
theorem ccl_append (a b : List Nat) : ccl (a ++ b) = ccl a ++ ccl b := by simp [ccl]
theorem ccl_set (l : List Nat) (k x : Nat) (hk : k < l.length) : (ccl l).take (k * 4) ++ (ccells x).toList ++ (ccl l).drop (k * 4 + 4) = ccl (l.set k x) := by
  rw [show k * 4 + 4 = (k + 1) * 4 by omega, ccl_take, ccl_drop, List.set_eq_take_append_cons_drop, if_pos hk, ccl_append, List.append_assoc]
  rfl
/-- a class is read out of a slice -/
theorem run_load_class {o : Oper} {ρ : Operand → Value} {w : World} (x : Operand) (ho : o.op = .load 56 x) (p : Addr) (hx : ρ x = .pointer (some p)) (c : Nat)
    (hc : ∀ j v, (ccells c).toList[j]? = some v → w.cell? (p.add j) = some v) : (execOp ρ o).run Tryz.prog w = .ok (.value (.agg (ccells c))) w := by
  have hl : (loadCells p 4).run Tryz.prog w = .ok (ccells c) w := by
    have := run_loadCells_list (P := Tryz.prog) w p (ccells c).toList hc
    simpa [ccells] using this
  have hv : (loadVar 56 p).run Tryz.prog w = .ok (.agg (ccells c)) w := by
    cases hq : Tryz.prog.info? 56 with
    | none => have := size56; rw [hq] at this; cases this
    | some i =>
      have hs : i.size = 4 := by have := size56; rw [hq] at this; simpa using this
      have hagg : (isAgg 56).run Tryz.prog w = .ok true w := by
        unfold isAgg
        rw [Sem.run_bind, run_underlying Tryz.underlying56 w]
        rfl
      simp [loadVar, Sem.run_bind, hagg, sizeOf, typeInfo, hq, hs, hl]
  unfold execOp
  simp only [ho, hx, Instr.loadAt, Instr.sureAddr, Sem.run_bind, Sem.run_pure, Result.andThen_ok, hv]
theorem own_cls_at {w : World} {base : Nat} {A : Option Addr} {n c : Nat} {l : List Nat} (h : OwnS w base 56 4 A n c (ccl l)) {k : Nat} (hk : k < l.length) : ∃ ad, A = some ad ∧ ∀ j v, (ccells (l.getD k 0)).toList[j]? = some v → w.cell? ((ad.add (k * 4)).add j) = some v := by
  have h0 : Sl w TT A (ccl l) := h.sl fun _ _ => trivial
  obtain ⟨ad, e, _, _⟩ := h0.at_ (k := 4 * k) (by rw [ccl_len]; omega)
  refine ⟨ad, e, fun j v hv => ?_⟩
  have hj : j < 4 := by have := (List.getElem?_eq_some_iff.1 hv).1; simpa [ccells] using this
  obtain ⟨ad', e', _, hc⟩ := h0 (4 * k + j) _ (ccl_get l k j hk hj)
  rw [e] at e'; cases e'
  rw [add_of_add, Nat.mul_comm k 4, hc, ← hv]
  have : j = 0 ∨ j = 1 ∨ j = 2 ∨ j = 3 := by omega
  rcases this with rfl | rfl | rfl | rfl <;> rfl
/-- whole numbers in memory, as an array -/
def zia (l : List Int) : Array Value := (l.map (Value.int .i64)).toArray
theorem zia_size (l : List Int) : (zia l).size = l.length := by simp [zia]
theorem zia_get {l : List Int} {i : Nat} (h : i < l.length) : (zia l)[i]? = some (.int .i64 (l.getD i 0)) := by simp [zia, h]
theorem zia_set (l : List Int) (i : Nat) (x : Int) : (zia l).setIfInBounds i (.int .i64 x) = zia (l.set i x) := by simp [zia, List.map_set]
theorem zia_rep (n : Nat) (x : Int) : (List.replicate n (Value.int .i64 x)).toArray = zia (List.replicate n x) := by simp [zia]

theorem size25 : (Tryz.prog.info? 25).map (·.size) = some 1 := by kernel_rfl
theorem size26 : (Tryz.prog.info? 26).map (·.size) = some 1 := by kernel_rfl
/-- blocks from base on that are none of three -/
def KX (base : Nat) (Ao An Aa : Option Addr) (k : Nat) : Prop := base ≤ k ∧ obl Ao ≠ some k ∧ obl An ≠ some k ∧ obl Aa ≠ some k
theorem obl_moved {A A' : Option Addr} {s k : Nat} (h : obl A' = obl A ∨ obl A' = some s) (h1 : obl A ≠ some k) (hk : k < s) : obl A' ≠ some k := by
  rcases h with h | h
  · rw [h]; exact h1
  · rw [h]
    intro e
    cases e
    omega
structure CS (w5 wr : World) (C : Value) (place : List Int) (order : List Nat) (ns : List (List Nat)) (acs : List Bool) (us : List Value) (B : Nat) (Ao : Option Addr) (co : Nat) (An : Option Addr) (cn : Nat) (Aa : Option Addr) (ca : Nat) : Prop where
  below : Below w5.heap.size w5 wr
  d : Blk wr w5.heap.size 28 #[C, .slice An ns.length cn, .slice Aa acs.length ca]
  pl : Blk wr (w5.heap.size + 1) 3 (zia place)
  ord : Own wr (w5.heap.size + 1 + 1) 3 Ao order.length co (vis order)
  nx : Own wr (w5.heap.size + 1 + 1) 64 An ns.length cn us
  ac : Own wr (w5.heap.size + 1 + 1) 4 Aa acs.length ca (acs.map Value.bool)
  rows : Rows wr (fun k => KX (w5.heap.size + 1 + 1) Ao An Aa k ∧ k < B) us ns
  bd : B ≤ wr.heap.size
section
variable {w5 wr w' : World} {C : Value} {place : List Int} {order : List Nat} {ns : List (List Nat)} {acs : List Bool} {us : List Value} {B : Nat} {Ao An Aa : Option Addr} {co cn ca : Nat}
theorem Own.ne_type {w : World} {b b' : Nat} {e e' : TypeId} {A A' : Option Addr} {n n' c c' : Nat} {xs xs' : List Value} (h : Own w b e A n c xs) (h' : Own w b' e' A' n' c' xs') (hne : e ≠ e') {g : Nat} (hg : obl A = some g) : obl A' ≠ some g := fun hg' => by
  obtain ⟨x, hx⟩ := h.type hg
  obtain ⟨y, hy⟩ := h'.type hg'
  rw [hx] at hy
  injection hy with hy
  injection hy with _ hy
  exact hne hy
theorem Own.keepg {w : World} {b : Nat} {e : TypeId} {A : Option Addr} {n c : Nat} {xs : List Value} {row : Option Nat} (h : Own w b e A n c xs) (hg : w.grownBy w' row) (hr : ∀ g, obl A = some g → row ≠ some g) : Own w' b e A n c xs := h.keep fun g e => hg.block g (h.lt g e).2 fun e' => hr g e e'.symm
theorem CS.bound (h : CS w5 wr C place order ns acs us B Ao co An cn Aa ca) {B' : Nat} (h1 : B ≤ B') (h2 : B' ≤ wr.heap.size) : CS w5 wr C place order ns acs us B' Ao co An cn Aa ca :=
  ⟨h.below, h.d, h.pl, h.ord, h.nx, h.ac, h.rows.weak fun _k _ hk => ⟨hk.1, Nat.lt_of_lt_of_le hk.2 h1⟩, h2⟩
theorem CS.step (h : CS w5 wr C place order ns acs us B Ao co An cn Aa ca) (hb : Below wr.heap.size wr w') : CS w5 w' C place order ns acs us B Ao co An cn Aa ca :=
  ⟨h.below.trans (hb.mono h.below.size), h.d.old hb, h.pl.old hb, h.ord.below hb, h.nx.below hb, h.ac.below hb, h.rows.old (Old.of_below hb), Nat.le_trans h.bd hb.size⟩
/-- one block of others turns -/
theorem CS.only (h : CS w5 wr C place order ns acs us B Ao co An cn Aa ca) {g : Nat} (ho : Only g wr w') (h1 : KX (w5.heap.size + 1 + 1) Ao An Aa g) (h2 : B ≤ g) : CS w5 w' C place order ns acs us B Ao co An cn Aa ca :=
  ⟨below_only h.below ho (by have := h1.1; omega), h.d.only ho (by have := h1.1; omega), h.pl.only ho (by have := h1.1; omega), h.ord.only ho h1.2.1, h.nx.only ho h1.2.2.1, h.ac.only ho h1.2.2.2, h.rows.old fun k hk _ => ho.block k (by omega), by rw [ho.size]; exact h.bd⟩
theorem CS.setp (h : CS w5 wr C place order ns acs us B Ao co An cn Aa ca) {x : Nat} {v : Int} (h2 : Blk w' (w5.heap.size + 1) 3 ((zia place).setIfInBounds x (.int .i64 v))) (ho : Only (w5.heap.size + 1) wr w') : CS w5 w' C (place.set x v) order ns acs us B Ao co An cn Aa ca := by
  rw [zia_set] at h2
  refine ⟨below_only h.below ho (by omega), h.d.only ho (by omega), h2, h.ord.only ho fun e => ?_, h.nx.only ho fun e => ?_, h.ac.only ho fun e => ?_, h.rows.old fun k hk _ => ho.block k (by have := hk.1.1; omega), by rw [ho.size]; exact h.bd⟩
  · have := (h.ord.lt _ e).1; omega
  · have := (h.nx.lt _ e).1; omega
  · have := (h.ac.lt _ e).1; omega
theorem CS.pusho (h : CS w5 wr C place order ns acs us B Ao co An cn Aa ca) {t : TypeId} {x : Nat} {A' : Option Addr} {c' : Nat} (hown : Own w' (w5.heap.size + 1 + 1) 3 A' (order.length + 1) c' (vis order ++ [vi x])) (hgr : (wr.alloc (.cells #[vi x] t)).grownBy w' (obl Ao)) (hA : obl A' = obl Ao ∨ obl A' = some (wr.alloc (.cells #[vi x] t)).heap.size) : CS w5 w' C place (order ++ [x]) ns acs us B A' c' An cn Aa ca := by
  have h2 := h.step (w' := wr.alloc (.cells #[vi x] t)) ((Below.refl _ _).alloc (Nat.le_refl _) _)
  have hb : ∀ k, obl Ao = some k → w5.heap.size + 1 + 1 ≤ k := fun k e => (h.ord.lt _ e).1
  have hd := h2.d.lt
  refine ⟨below_grown h2.below hgr (by omega) (fun k e => by have := hb k e; omega), h2.d.grown hgr (fun e => by have := hb _ e; omega), h2.pl.grown hgr (fun e => by have := hb _ e; omega), by rw [vis_snoc, List.length_append]; exact hown,
    h2.nx.keepg hgr fun g e => h2.nx.ne_type h2.ord (by decide) e, h2.ac.keepg hgr fun g e => h2.ac.ne_type h2.ord (by decide) e, ?_, Nat.le_trans h2.bd hgr.size⟩
  refine (h2.rows.old fun k hk hlt => hgr.block k hlt fun e => hk.1.2.1 e.symm).weak fun k _ hk => ⟨⟨hk.1.1, ?_, hk.1.2.2⟩, hk.2⟩
  exact obl_moved hA hk.1.2.1 (by have := h2.bd; have := hk.2; omega)
/-- 'd.Next = append(d.Next, row)' -/
theorem CS.pushn (h : CS w5 wr C place order ns acs us B Ao co An cn Aa ca) {t : TypeId} {Ar A' : Option Addr} {n cr c' : Nat} {row : List Nat} {w9 : World} (hrow : RN wr (fun k => KX (w5.heap.size + 1 + 1) Ao An Aa k) Ar n cr row)
    (hown : Own w' (w5.heap.size + 1 + 1) 64 A' (ns.length + 1) c' (us ++ [.slice Ar n cr])) (hgr : (wr.alloc (.cells #[.slice Ar n cr] t)).grownBy w' (obl An)) (hA : obl A' = obl An ∨ obl A' = some (wr.alloc (.cells #[.slice Ar n cr] t)).heap.size)
    (k9 : Blk w9 w5.heap.size 28 (#[C, .slice An ns.length cn, .slice Aa acs.length ca].setIfInBounds 1 (.slice A' (ns.length + 1) c'))) (o9 : Only w5.heap.size w' w9) : CS w5 w9 C place order (ns ++ [row]) acs (us ++ [.slice Ar n cr]) wr.heap.size Ao co A' c' Aa ca := by
  have h0 := h.bound h.bd (Nat.le_refl _)
  have hr0 := h0.rows.snoc (hrow.weak fun k hk hK => ⟨hK, hk⟩)
  have hb0 : Below wr.heap.size wr (wr.alloc (.cells #[.slice Ar n cr] t)) := (Below.refl _ _).alloc (Nat.le_refl _) _
  have h2 := h0.step hb0
  have hr2 := hr0.old (Old.of_below hb0)
  have hb : ∀ k, obl An = some k → w5.heap.size + 1 + 1 ≤ k := fun k e => (h.nx.lt _ e).1
  have hd := h2.d.lt
  have hne : ∀ {A : Option Addr} {n c : Nat} {e : TypeId} {xs : List Value}, Own w' (w5.heap.size + 1 + 1) e A n c xs → obl A ≠ some w5.heap.size := fun h e => by have := (h.lt _ e).1; omega
  have q1 := h2.ord.keepg hgr fun g e => h2.ord.ne_type h2.nx (by decide) e
  have q2 := h2.ac.keepg hgr fun g e => h2.ac.ne_type h2.nx (by decide) e
  refine ⟨below_only (below_grown h2.below hgr (by omega) (fun k e => by have := hb k e; omega)) o9 (Nat.le_refl _), ?_, (h2.pl.grown hgr (fun e => by have := hb _ e; omega)).only o9 (by omega), q1.only o9 (hne q1), by rw [List.length_append]; exact hown.only o9 (hne hown),
    q2.only o9 (hne q2), ?_, ?_⟩
  · rw [List.length_append]
    exact k9
  · refine ((hr2.old fun k hk hlt => hgr.block k hlt fun e => hk.1.2.2.1 e.symm).old fun k hk _ => o9.block k (by have := hk.1.1; omega)).weak fun k _ hk => ⟨⟨hk.1.1, hk.1.2.1, ?_, hk.1.2.2.2⟩, hk.2⟩
    exact obl_moved hA hk.1.2.2.1 (by have := h2.bd; have := hk.2; omega)
  · rw [o9.size]
    have := hgr.size
    simp at this
    omega
/-- 'd.Accept = append(d.Accept, x)' -/
theorem CS.pusha (h : CS w5 wr C place order ns acs us B Ao co An cn Aa ca) {t : TypeId} {A' : Option Addr} {c' : Nat} {x : Bool} {w9 : World}
    (hown : Own w' (w5.heap.size + 1 + 1) 4 A' (acs.length + 1) c' (acs.map Value.bool ++ [.bool x])) (hgr : (wr.alloc (.cells #[.bool x] t)).grownBy w' (obl Aa)) (hA : obl A' = obl Aa ∨ obl A' = some (wr.alloc (.cells #[.bool x] t)).heap.size)
    (k9 : Blk w9 w5.heap.size 28 (#[C, .slice An ns.length cn, .slice Aa acs.length ca].setIfInBounds 2 (.slice A' (acs.length + 1) c'))) (o9 : Only w5.heap.size w' w9) : CS w5 w9 C place order ns (acs ++ [x]) us B Ao co An cn A' c' := by
  have hb0 : Below wr.heap.size wr (wr.alloc (.cells #[.bool x] t)) := (Below.refl _ _).alloc (Nat.le_refl _) _
  have h2 := h.step hb0
  have hb : ∀ k, obl Aa = some k → w5.heap.size + 1 + 1 ≤ k := fun k e => (h.ac.lt _ e).1
  have hd := h2.d.lt
  have hne : ∀ {A : Option Addr} {n c : Nat} {e : TypeId} {xs : List Value}, Own w' (w5.heap.size + 1 + 1) e A n c xs → obl A ≠ some w5.heap.size := fun h e => by have := (h.lt _ e).1; omega
  have q1 := h2.ord.keepg hgr fun g e => h2.ord.ne_type h2.ac (by decide) e
  have q2 := h2.nx.keepg hgr fun g e => h2.nx.ne_type h2.ac (by decide) e
  refine ⟨below_only (below_grown h2.below hgr (by omega) (fun k e => by have := hb k e; omega)) o9 (Nat.le_refl _), ?_, (h2.pl.grown hgr (fun e => by have := hb _ e; omega)).only o9 (by omega), q1.only o9 (hne q1), q2.only o9 (hne q2),
    by rw [List.length_append, List.map_append]; exact hown.only o9 (hne hown), ?_, ?_⟩
  · rw [List.length_append]
    exact k9
  · refine ((h2.rows.old fun k hk hlt => hgr.block k hlt fun e => hk.1.2.2.2 e.symm).old fun k hk _ => o9.block k (by have := hk.1.1; omega)).weak fun k _ hk => ⟨⟨hk.1.1, hk.1.2.1, hk.1.2.2.1, ?_⟩, hk.2⟩
    exact obl_moved hA hk.1.2.2.2 (by have := h2.bd; have := hk.2; omega)
  · rw [o9.size]
    have := hgr.size
    have := h2.bd
    simp at *
    omega
end
end Go.Proofs.YtjgkdfghjeodeaaGreatDoor
