/- A partition's union; an automaton's classes one by one. -/
import Derived.Test.YtjgkdfghjeodeaaGreatDoorT10
import Derived.Test.YtjgkdfghjeodeaaGreatDoorT13
import Derived.Laws.StructEq
import Derived.BigCall
namespace Go.Proofs.YtjgkdfghjeodeaaGreatDoor

def orL : List Nat → Nat
  | [] => 0
  | c :: r => c ||| orL r
theorem orL_bit (b : Nat) : ∀ l : List Nat, (orL l).testBit b = l.any (fun c => c.testBit b)
  | [] => by simp [orL]
  | c :: r => by rw [orL, Nat.testBit_or, orL_bit b r]; rfl
theorem orL_snoc (l : List Nat) (c : Nat) : orL (l ++ [c]) = orL l ||| c := by
  refine Nat.eq_of_testBit_eq fun b => ?_
  rw [orL_bit, Nat.testBit_or, orL_bit]
  simp
theorem orL_lt {l : List Nat} (h : ∀ c ∈ l, c < 2 ^ 256) : orL l < 2 ^ 256 := by
  refine Nat.lt_pow_two_of_testBit _ fun b hb => ?_
  rw [orL_bit, List.any_eq_false]
  intro c hc
  have := Nat.testBit_lt_two_pow (Nat.lt_of_lt_of_le (h c hc) (Nat.pow_le_pow_right (by decide) hb))
  simp [this]
/-- the classes so far and the next have no member in common -/
theorem part_apart {l : List Nat} (hp : ∀ b, b < 256 → ∃ i, i < l.length ∧ ∀ j, (l.getD j 0).testBit b = decide (j = i)) (hl : ∀ c ∈ l, c < 2 ^ 256) {k : Nat} (hk : k < l.length) : orL (l.take k) &&& l.getD k 0 = 0 := by
  refine Nat.eq_of_testBit_eq fun b => ?_
  rw [Nat.testBit_and, Nat.zero_testBit, orL_bit]
  by_cases hb : b < 256
  · obtain ⟨i, _, hi⟩ := hp b hb
    rw [hi k]
    by_cases hki : k = i
    · rw [Bool.and_eq_false_iff]
      left
      rw [List.any_eq_false]
      intro c hc
      rw [List.mem_take_iff_getElem] at hc
      obtain ⟨j, hj, rfl⟩ := hc
      have := hi j
      rw [List.getD_eq_getElem?_getD, List.getElem?_eq_getElem (by omega), Option.getD_some] at this
      rw [this]
      have : ¬ j = i := by omega
      simp [this]
    · simp [hki]
  · have := Nat.testBit_lt_two_pow (Nat.lt_of_lt_of_le (hl _ (getD_mem' (d := 0) hk)) (Nat.pow_le_pow_right (by decide) (by omega : 256 ≤ b)))
    rw [this, Bool.and_false]
theorem part_full {l : List Nat} (hp : ∀ b, b < 256 → ∃ i, i < l.length ∧ ∀ j, (l.getD j 0).testBit b = decide (j = i)) (hl : ∀ c ∈ l, c < 2 ^ 256) : notC (orL l) = 0 := by
  refine Nat.eq_of_testBit_eq fun b => ?_
  unfold notC allC
  rw [Nat.testBit_xor, Nat.testBit_two_pow_sub_one, Nat.zero_testBit]
  by_cases hb : b < 256
  · obtain ⟨i, h1, hi⟩ := hp b hb
    have : (orL l).testBit b = true := by
      rw [orL_bit, List.any_eq_true]
      exact ⟨l.getD i 0, getD_mem' h1, by rw [hi i]; simp⟩
    simp [hb, this]
  · have := Nat.testBit_lt_two_pow (Nat.lt_of_lt_of_le (orL_lt hl) (Nat.pow_le_pow_right (by decide) (by omega : 256 ≤ b)))
    simp [hb, this]
end Go.Proofs.YtjgkdfghjeodeaaGreatDoor
namespace Go.Proofs.YtjgkdfghjeodeaaGreatDoor
open Go.RowKit

def stc (s : St) : List Value := [.int .i64 (s.p : Int), .int .i64 (s.q : Int), .int .u64 (s.s : Int)]
theorem stV_eq (s : St) : stV s = .agg (stc s).toArray := rfl
def stl (l : List St) : List Value := l.flatMap stc
theorem stl_len (l : List St) : (stl l).length = 3 * l.length := by
  induction l with
  | nil => rfl
  | cons x r ih => simp [stl, stc] at ih ⊢; omega
theorem stl_snoc (l : List St) (s : St) : stl (l ++ [s]) = stl l ++ stc s := by simp [stl]
theorem stl_get : ∀ (l : List St) (k j : Nat) (d : St), k < l.length → j < 3 → (stl l)[3 * k + j]? = (stc (l.getD k d))[j]?
  | [], k, j, _, hk, _ => by simp at hk
  | x :: r, 0, j, _, _, hj => by
    have e : stl (x :: r) = stc x ++ stl r := rfl
    rw [e, List.getElem?_append_left (by simp [stc]; omega)]
    simp
  | x :: r, k + 1, j, d, hk, hj => by
    have h := stl_get r k j d (by simpa using hk) hj
    have e : stl (x :: r) = stc x ++ stl r := rfl
    rw [e, List.getElem?_append_right (by simp [stc]; omega), show 3 * (k + 1) + j - (stc x).length = 3 * k + j by simp [stc]; omega, h]
    simp
theorem stc_one (s : St) : ∀ u ∈ stc s, u.oneCell' = true := fun u hu => by
  simp [stc] at hu
  rcases hu with rfl | rfl | rfl <;> rfl
theorem stc_all (s : St) : (stc s).toArray.all (·.oneCell') = true := by simp [stc, Value.oneCell']
theorem app165 : AppS Tryz.prog 165 128 3 24 := AppS.of (.agg #[.int .i64 0, .int .i64 0, .int .u64 0]) (by decide) Tryz.underlying165 (by kernel_rfl) rfl
theorem OwnS.st_at {w : World} {base : Nat} {A : Option Addr} {n c : Nat} {l : List St} (h : OwnS w base 128 3 A n c (stl l)) {k : Nat} (hk : k < l.length) (d : St) : ∃ ad, A = some ad ∧ ∀ j v, (stc (l.getD k d))[j]? = some v → w.cell? ((ad.add (k * 3)).add j) = some v := by
  have h0 : Sl w TT A (stl l) := h.sl fun _ _ => trivial
  obtain ⟨ad, e, _, _⟩ := h0.at_ (k := 3 * k) (by rw [stl_len]; omega)
  refine ⟨ad, e, fun j v hv => ?_⟩
  have hj : j < 3 := by have := (List.getElem?_eq_some_iff.1 hv).1; simpa [stc] using this
  obtain ⟨ad', e', _, hc⟩ := h0 (3 * k + j) v (by rw [stl_get l k j d hk hj]; exact hv)
  rw [e] at e'; cases e'
  rw [add_of_add, Nat.mul_comm k 3, hc]
theorem OwnS.ne_type {w : World} {b b' : Nat} {e e' : TypeId} {s : Nat} {A A' : Option Addr} {n n' c c' : Nat} {xs xs' : List Value} (h : OwnS w b e s A n c xs) (h' : Own w b' e' A' n' c' xs') (hne : e ≠ e') {g : Nat} (hg : obl A = some g) : obl A' ≠ some g := fun hg' => by
  obtain ⟨x, hx⟩ := h.type hg
  obtain ⟨y, hy⟩ := h'.type hg'
  rw [hx] at hy
  injection hy with hy
  injection hy with _ hy
  exact hne hy
theorem Own.ne_typeS {w : World} {b b' : Nat} {e e' : TypeId} {s : Nat} {A A' : Option Addr} {n n' c c' : Nat} {xs xs' : List Value} (h : Own w b e A n c xs) (h' : OwnS w b' e' s A' n' c' xs') (hne : e ≠ e') {g : Nat} (hg : obl A = some g) : obl A' ≠ some g := fun hg' => (h'.ne_type h (Ne.symm hne) hg') hg
theorem OwnS.keepg {w w' : World} {b : Nat} {e : TypeId} {s : Nat} {A : Option Addr} {n c : Nat} {xs : List Value} {row : Option Nat} (h : OwnS w b e s A n c xs) (hg : w.grownBy w' row) (hr : ∀ g, obl A = some g → row ≠ some g) : OwnS w' b e s A n c xs := h.keep fun g e => hg.block g (h.lt g e).2 fun e' => hr g e e'.symm

/-- the map literal's store -/
theorem wpList_insert_as {P : Program} {w : World} {ops : Array Oper} {rest : List Oper} {o : Oper} {a : Act} {Q : Exit → Act → World → Prop} (t : TypeId) (m k x : Operand) (ho : o.op = .insert t m k x) (h : wpList P ops Q ({ o with op := .mapUpdate t m k x } :: rest) a w) : wpList P ops Q (o :: rest) a w := by
  obtain ⟨d, op, ty, ps, af, g⟩ := o
  simp only at ho
  subst ho
  exact h

structure ES (w wr : World) (gr gt gm base : Nat) (cellL : List Nat) (nb : Nat) (l : List St) (ns : List (List Nat)) (acs : List Bool) (us : List Value) (B : Nat) (Al : Option Addr) (cl : Nat) (An : Option Addr) (cn : Nat) (Aa : Option Addr) (ca : Nat) : Prop where
  ord : w.heap.size ≤ gr ∧ gr < gt ∧ gt < gm ∧ gm < base
  below : Below w.heap.size w wr
  res : Blk wr gr 73 Tryz.zeroCells73
  tab : Blk wr gt 73 (tcells ⟨cellL, nb, ns, acs⟩ An Aa cn ca)
  map : IdMap 128 stV wr gm l
  lst : OwnS wr base 128 3 Al l.length cl (stl l)
  nx : Own wr base 64 An ns.length cn us
  ac : Own wr base 4 Aa acs.length ca (acs.map Value.bool)
  rows : Rows wr (fun k => KX base Al An Aa k ∧ k < B) us ns
  bd : B ≤ wr.heap.size
  bz : base ≤ wr.heap.size
section
variable {w wr w' : World} {gr gt gm base : Nat} {cellL : List Nat} {nb : Nat} {l : List St} {ns : List (List Nat)} {acs : List Bool} {us : List Value} {B : Nat} {Al An Aa : Option Addr} {cl cn ca : Nat}
theorem ES.bound (h : ES w wr gr gt gm base cellL nb l ns acs us B Al cl An cn Aa ca) {B' : Nat} (h1 : B ≤ B') (h2 : B' ≤ wr.heap.size) : ES w wr gr gt gm base cellL nb l ns acs us B' Al cl An cn Aa ca :=
  { h with rows := h.rows.weak fun _k _ hk => ⟨hk.1, Nat.lt_of_lt_of_le hk.2 h1⟩, bd := h2 }
theorem ES.step (h : ES w wr gr gt gm base cellL nb l ns acs us B Al cl An cn Aa ca) (hb : Below wr.heap.size wr w') : ES w w' gr gt gm base cellL nb l ns acs us B Al cl An cn Aa ca :=
  ⟨h.ord, h.below.trans (hb.mono h.below.size), h.res.old hb, h.tab.old hb, h.map.below hb, h.lst.below hb, h.nx.below hb, h.ac.below hb, h.rows.old (Old.of_below hb), Nat.le_trans h.bd hb.size, Nat.le_trans h.bz hb.size⟩
theorem ES.only (h : ES w wr gr gt gm base cellL nb l ns acs us B Al cl An cn Aa ca) {g : Nat} (ho : Only g wr w') (h1 : KX base Al An Aa g) (h2 : B ≤ g) : ES w w' gr gt gm base cellL nb l ns acs us B Al cl An cn Aa ca := by
  have h3 := h.ord
  have h4 := h1.1
  exact ⟨h.ord, below_only h.below ho (by omega), h.res.only ho (by omega), h.tab.only ho (by omega), h.map.only ho (by omega), h.lst.only ho h1.2.1, h.nx.only ho h1.2.2.1, h.ac.only ho h1.2.2.2, h.rows.old fun k hk _ => ho.block k (by omega), by rw [ho.size]; exact h.bd, by rw [ho.size]; exact h.bz⟩
theorem ES.put (h : ES w wr gr gt gm base cellL nb l ns acs us B Al cl An cn Aa ca) {l' : List St} (hm : IdMap 128 stV w' gm l') (hg : wr.grownBy w' (some gm)) {t : TypeId} {s : St} (hl : l' = l ++ [s]) {A' : Option Addr} {c' : Nat} {w2 : World}
    (hown : OwnS w2 base 128 3 A' (l.length + 1) c' (stl l ++ stc s)) (hgr : (w'.alloc (.cells (stc s).toArray t)).grownBy w2 (obl Al)) (hA : obl A' = obl Al ∨ obl A' = some (w'.alloc (.cells (stc s).toArray t)).heap.size) : ES w w2 gr gt gm base cellL nb l' ns acs us B A' c' An cn Aa ca := by
  subst hl
  have h3 := h.ord
  have hsz := hg.size
  have q1 : ∀ k, base ≤ k → (some gm : Option Nat) ≠ some k := fun k hk e => by cases e; omega
  have r1 := h.lst.keepg hg fun g e => q1 g (h.lst.lt _ e).1
  have r2 := h.nx.keepg hg fun g e => q1 g (h.nx.lt _ e).1
  have r3 := h.ac.keepg hg fun g e => q1 g (h.ac.lt _ e).1
  have r4 := h.rows.old fun k hk hlt => hg.block k hlt fun e => by cases e; have := hk.1.1; omega
  have r5 := h.res.grown hg fun e => by injection e with e; omega
  have r6 := h.tab.grown hg fun e => by injection e with e; omega
  have r7 := below_grown h.below hg (by have := h.res.lt; omega) (fun k e => by cases e; omega)
  have hb : ∀ k, obl Al = some k → base ≤ k := fun k e => (h.lst.lt _ e).1
  have hlt := r6.lt
  have hmlt := hm.lt
  refine ⟨h.ord, below_grown (r7.alloc (by omega) _) hgr (by rw [World.size_alloc]; omega) (fun k e => by have := hb k e; omega), (r5.alloc _).grown hgr (fun e => by have := hb _ e; omega), (r6.alloc _).grown hgr (fun e => by have := hb _ e; omega),
    (hm.alloc _).grown hgr (fun e => by have := hb _ e; omega), by rw [stl_snoc, List.length_append]; exact hown,
    (r2.alloc _).keepg hgr fun g e => r2.ne_typeS r1 (by decide) e, (r3.alloc _).keepg hgr fun g e => r3.ne_typeS r1 (by decide) e, ?_, by have := hgr.size; rw [World.size_alloc] at this; have := h.bd; omega, by have := hgr.size; rw [World.size_alloc] at this; have := h.bz; omega⟩
  have r8 := r4.old (w' := w'.alloc (.cells (stc s).toArray t)) fun k hk hlt => Below.heap_alloc w' _ k hlt
  refine (r8.old fun k hk hlt => hgr.block k hlt fun e => hk.1.2.1 e.symm).weak fun k _ hk => ⟨⟨hk.1.1, ?_, hk.1.2.2⟩, hk.2⟩
  exact obl_moved hA hk.1.2.1 (by have := h.bd; have := hk.2; rw [World.size_alloc]; omega)
theorem tcells_nx (t : Tbl) (A2 A3 : Option Addr) (c2 c3 : Nat) (hc : t.cell.length = 256) (ns : List (List Nat)) (A : Option Addr) (c : Nat) : (tcells t A2 A3 c2 c3).setIfInBounds 257 (.slice A ns.length c) = tcells { t with nxt := ns } A A3 c c3 := by
  unfold tcells
  rw [List.setIfInBounds_toArray, List.set_append_right _ _ (by rw [vis_len, hc]; omega), vis_len, hc]
  rfl
theorem tcells_ac (t : Tbl) (A2 A3 : Option Addr) (c2 c3 : Nat) (hc : t.cell.length = 256) (bs : List Bool) (A : Option Addr) (c : Nat) : (tcells t A2 A3 c2 c3).setIfInBounds 258 (.slice A bs.length c) = tcells { t with acc := bs } A2 A c2 c := by
  unfold tcells
  rw [List.setIfInBounds_toArray, List.set_append_right _ _ (by rw [vis_len, hc]; omega), vis_len, hc]
  rfl
/-- 't.next = append(t.next, row)' -/
theorem ES.pushn (h : ES w wr gr gt gm base cellL nb l ns acs us B Al cl An cn Aa ca) (hc : cellL.length = 256) {t : TypeId} {Ar A' : Option Addr} {n cr c' : Nat} {row : List Nat} {w9 : World} (hrow : RN wr (fun k => KX base Al An Aa k) Ar n cr row)
    (hown : Own w' base 64 A' (ns.length + 1) c' (us ++ [.slice Ar n cr])) (hgr : (wr.alloc (.cells #[.slice Ar n cr] t)).grownBy w' (obl An)) (hA : obl A' = obl An ∨ obl A' = some (wr.alloc (.cells #[.slice Ar n cr] t)).heap.size)
    (k9 : Blk w9 gt 73 ((tcells ⟨cellL, nb, ns, acs⟩ An Aa cn ca).setIfInBounds 257 (.slice A' (ns.length + 1) c'))) (o9 : Only gt w' w9) : ES w w9 gr gt gm base cellL nb l (ns ++ [row]) acs (us ++ [.slice Ar n cr]) wr.heap.size Al cl A' c' Aa ca := by
  have h0 := h.bound h.bd (Nat.le_refl _)
  have hr0 := h0.rows.snoc (hrow.weak fun k hk hK => ⟨hK, hk⟩)
  have hb0 : Below wr.heap.size wr (wr.alloc (.cells #[.slice Ar n cr] t)) := (Below.refl _ _).alloc (Nat.le_refl _) _
  have h2 := h0.step hb0
  have hr2 := hr0.old (Old.of_below hb0)
  have hb : ∀ k, obl An = some k → base ≤ k := fun k e => (h.nx.lt _ e).1
  have hd := h2.tab.lt
  have h3 := h.ord
  have hne : ∀ {A : Option Addr} {n c : Nat} {e : TypeId} {s : Nat} {xs : List Value}, OwnS w' base e s A n c xs → obl A ≠ some gt := fun h e => by have := (h.lt _ e).1; omega
  have q1 := h2.lst.keepg hgr fun g e => h2.lst.ne_type h2.nx (by decide) e
  have q2 := h2.ac.keepg hgr fun g e => h2.ac.ne_type h2.nx (by decide) e
  refine ⟨h.ord, below_only (below_grown h2.below hgr (by omega) (fun k e => by have := hb k e; omega)) o9 (by omega), (h2.res.grown hgr (fun e => by have := hb _ e; omega)).only o9 (by omega), ?_, (h2.map.grown hgr (fun e => by have := hb _ e; omega)).only o9 (by omega),
    q1.only o9 (hne q1), by rw [List.length_append]; exact hown.only o9 (hne hown), q2.only o9 (hne q2), ?_, ?_, by rw [o9.size]; have := hgr.size; rw [World.size_alloc] at this; have := h.bz; omega⟩
  · have := k9
    rw [show ns.length + 1 = (ns ++ [row]).length by simp, tcells_nx ⟨cellL, nb, ns, acs⟩ An Aa cn ca hc (ns ++ [row]) A' c'] at this
    exact this
  · refine ((hr2.old fun k hk hlt => hgr.block k hlt fun e => hk.1.2.2.1 e.symm).old fun k hk _ => o9.block k (by have := hk.1.1; omega)).weak fun k _ hk => ⟨⟨hk.1.1, hk.1.2.1, ?_, hk.1.2.2.2⟩, hk.2⟩
    exact obl_moved hA hk.1.2.2.1 (by have := h2.bd; have := hk.2; omega)
  · rw [o9.size]
    have := hgr.size
    simp at this
    omega
/-- 't.accept = append(t.accept, x)' -/
theorem ES.pusha (h : ES w wr gr gt gm base cellL nb l ns acs us B Al cl An cn Aa ca) (hc : cellL.length = 256) {t : TypeId} {A' : Option Addr} {c' : Nat} {x : Bool} {w9 : World}
    (hown : Own w' base 4 A' (acs.length + 1) c' (acs.map Value.bool ++ [.bool x])) (hgr : (wr.alloc (.cells #[.bool x] t)).grownBy w' (obl Aa)) (hA : obl A' = obl Aa ∨ obl A' = some (wr.alloc (.cells #[.bool x] t)).heap.size)
    (k9 : Blk w9 gt 73 ((tcells ⟨cellL, nb, ns, acs⟩ An Aa cn ca).setIfInBounds 258 (.slice A' (acs.length + 1) c'))) (o9 : Only gt w' w9) : ES w w9 gr gt gm base cellL nb l ns (acs ++ [x]) us B Al cl An cn A' c' := by
  have hb0 : Below wr.heap.size wr (wr.alloc (.cells #[.bool x] t)) := (Below.refl _ _).alloc (Nat.le_refl _) _
  have h2 := h.step hb0
  have hb : ∀ k, obl Aa = some k → base ≤ k := fun k e => (h.ac.lt _ e).1
  have hd := h2.tab.lt
  have h3 := h.ord
  have hne : ∀ {A : Option Addr} {n c : Nat} {e : TypeId} {s : Nat} {xs : List Value}, OwnS w' base e s A n c xs → obl A ≠ some gt := fun h e => by have := (h.lt _ e).1; omega
  have q1 := h2.lst.keepg hgr fun g e => h2.lst.ne_type h2.ac (by decide) e
  have q2 := h2.nx.keepg hgr fun g e => h2.nx.ne_type h2.ac (by decide) e
  refine ⟨h.ord, below_only (below_grown h2.below hgr (by omega) (fun k e => by have := hb k e; omega)) o9 (by omega), (h2.res.grown hgr (fun e => by have := hb _ e; omega)).only o9 (by omega), ?_, (h2.map.grown hgr (fun e => by have := hb _ e; omega)).only o9 (by omega),
    q1.only o9 (hne q1), q2.only o9 (hne q2), by rw [List.length_append, List.map_append]; exact hown.only o9 (hne hown), ?_, ?_, by rw [o9.size]; have := hgr.size; rw [World.size_alloc] at this; have := h.bz; omega⟩
  · have := k9
    rw [show acs.length + 1 = (acs ++ [x]).length by simp, tcells_ac ⟨cellL, nb, ns, acs⟩ An Aa cn ca hc (acs ++ [x]) A' c'] at this
    exact this
  · refine ((h2.rows.old fun k hk hlt => hgr.block k hlt fun e => hk.1.2.2.2 e.symm).old fun k hk _ => o9.block k (by have := hk.1.1; omega)).weak fun k _ hk => ⟨⟨hk.1.1, hk.1.2.1, hk.1.2.2.1, ?_⟩, hk.2⟩
    exact obl_moved hA hk.1.2.2.2 (by have := h2.bd; have := hk.2; omega)
  · rw [o9.size]
    have := hgr.size
    have := h2.bd
    simp at *
    omega
end
end Go.Proofs.YtjgkdfghjeodeaaGreatDoor
namespace Go.Proofs.YtjgkdfghjeodeaaGreatDoor
open Go.RowKit

theorem zero71 (w : World) : (zeroValue 71).run Tryz.prog w = .ok (.agg (via (List.replicate 256 0))) w := by kernel_rfl
def pairA (k : Nat × Nat) : Array Value := #[.int .i64 (k.1 : Int), .int .i64 (k.2 : Int)]
theorem pairA_one (k : Nat × Nat) : (pairA k).all (·.oneCell') = true := by simp [pairA, Value.oneCell']
theorem zero163 (w : World) : (zeroValue 163).run Tryz.prog w = .ok (.agg #[.int .i64 0, .int .i64 0]) w := by kernel_rfl
theorem built163 {n m : Int} (x y : Value) (hx : x = .int .i64 n) (hy : y = .int .i64 m) : Tryz.prog.built 163 [(0, x), (1, y)] = some #[.int .i64 n, .int .i64 m] := by
  subst hx; subst hy
  kernel_rfl
/-- a value put together -/
theorem run_built {o : Oper} {ρ : Operand → Value} {w : World} (t : TypeId) (parts : Array (Nat × Operand)) (ho : o.op = .build t parts) (vs : List (Nat × Value)) (hv : (parts.map fun (i, x) => (i, ρ x)).toList = vs) (cs : Array Value) (hb : Tryz.prog.built t vs = some cs) : (execOp ρ o).run Tryz.prog w = .ok (.value (.agg cs)) w := by
  have hrun := run_build (P := Tryz.prog) w t (parts.map fun (i, x) => (i, ρ x)) cs (by rw [hv]; exact hb)
  unfold execOp
  simp only [ho, Sem.run_bind, Sem.run_pure, Result.andThen_ok, hrun]
theorem run_built2 {o : Oper} {ρ : Operand → Value} {w : World} (t : TypeId) (i j : Nat) (x y : Operand) (ho : o.op = .build t #[(i, x), (j, y)]) (u v : Value) (hx : ρ x = u) (hy : ρ y = v) (cs : Array Value) (hb : Tryz.prog.built t [(i, u), (j, v)] = some cs) : (execOp ρ o).run Tryz.prog w = .ok (.value (.agg cs)) w :=
  run_built t _ ho _ (by simp only [List.map_toArray, List.map_cons, List.map_nil, hx, hy]) cs hb
theorem via_one (l : List Nat) : (via l).all (·.oneCell') = true := by
  rw [Array.all_eq_true']
  intro u hu
  exact vis_one l u (by simpa [via] using hu)
theorem built128 (x y : Nat) : Tryz.prog.built 128 [(0, vi x), (1, vi y)] = some (stc ⟨x, y, 0⟩).toArray := by kernel_rfl
theorem built128c (x s : Nat) : Tryz.prog.built 128 [(0, vi x), (2, .agg #[.int .u64 (s : Int)])] = some (stc ⟨x, 0, s⟩).toArray := by kernel_rfl
theorem built128s (s : Nat) : Tryz.prog.built 128 [(2, .agg #[.int .u64 (s : Int)])] = some (stc ⟨0, 0, s⟩).toArray := by kernel_rfl
end Go.Proofs.YtjgkdfghjeodeaaGreatDoor
namespace Go.Proofs.YtjgkdfghjeodeaaGreatDoor
open Go.RowKit

theorem en23 : ∀ args w, (callFunc 23 args).run Tryz.prog w = .ok (.enter 23 args) w := fun args w => by kernel_rfl
/-- a call of a function by its number -/
theorem wpList_callG {P : Program} {w : World} {ops : Array Oper} {rest : List Oper} {o : Oper} {a : Act} {Q : Exit → Act → World → Prop} (hgd : o.guard = none) (f : FuncId) (x : Operand) (ts : Array TypeId) (ho : o.op = .call { callee := .value (.func f), args := #[x], argTypes := ts }) (v : Value) (hx : a.eval x = v)
    (en : ∀ args w, (callFunc f args).run P w = .ok (.enter f args) w) (h : Calls P f #[v] w fun e w' => ∃ u, e = .returned u ∧ wpList P ops Q rest (a.put o.dst u) w') : wpList P ops Q (o :: rest) a w := by
  refine wpList_plain hgd fun K hK => ?_
  obtain ⟨d, op, ty, ps, af, g⟩ := o
  simp only at ho hgd
  subst ho
  unfold Oper.wp
  rw [execOp_call_go, en, Oper.upon_enter]
  have e : (#[] ++ Array.map a.eval #[x] ++ #[] : Array Value) = #[v] := by simp [hx]
  rw [e]
  refine h.mono ?_
  rintro e w' ⟨u, rfl, h⟩
  exact hK _ _ h
section
def upd {α : Type} (f : Nat → α) (i : Nat) (x : α) (j : Nat) : α := if j = i then x else f j
def putS : List Oper → Nat → (Nat → Bool) → (Nat → Value) → Act → Act
  | [], _, _, _, a => a
  | o :: r, i, b, vs, a => putS r (i + 1) b vs (if b i then a.put o.dst (vs i) else a)
def Dst (o o' : Oper) : Prop := o.dst.isSome = true ∧ o'.dst.isSome = true ∧ o.dst ≠ o'.dst
instance : DecidableRel Dst := fun o o' => by unfold Dst; infer_instance
theorem putS_congr : ∀ (l : List Oper) (i : Nat) (b b' : Nat → Bool) (vs vs' : Nat → Value) (a : Act), (∀ j, i ≤ j → b j = b' j ∧ vs j = vs' j) → putS l i b vs a = putS l i b' vs' a
  | [], _, _, _, _, _, _, _ => rfl
  | o :: r, i, b, b', vs, vs', a, h => by
    rw [putS, putS, (h i (Nat.le_refl _)).1, (h i (Nat.le_refl _)).2]
    exact putS_congr r (i + 1) b b' vs vs' _ fun j hj => h j (by omega)
theorem putS_put (x : Option Tmp) (v : Value) (hx : x.isSome = true) : ∀ (l : List Oper) (i : Nat) (b : Nat → Bool) (vs : Nat → Value) (a : Act), (∀ o ∈ l, o.dst ≠ x) → putS l i b vs (a.put x v) = (putS l i b vs a).put x v
  | [], _, _, _, _, _ => rfl
  | o :: r, i, b, vs, a, h => by
    rw [putS, putS]
    have h1 : (if b i then (a.put x v).put o.dst (vs i) else a.put x v) = (if b i then a.put o.dst (vs i) else a).put x v := by
      cases b i with
      | false => rfl
      | true =>
        simp only [if_true]
        exact Act.put_comm a v (vs i) fun d hd hd' => h o List.mem_cons_self (hd'.trans hd.symm)
    rw [h1]
    exact putS_put x v hx r (i + 1) b vs _ fun o' ho' => h o' (List.mem_cons_of_mem _ ho')
theorem putS_upd : ∀ (l : List Oper) (i0 i : Nat) (o : Oper) (b : Nat → Bool) (vs : Nat → Value) (v : Value) (a : Act), l.Pairwise Dst → (∀ o ∈ l, o.dst.isSome = true) → i0 ≤ i → l[i - i0]? = some o → b i = false → putS l i0 (upd b i true) (upd vs i v) a = (putS l i0 b vs a).put o.dst v
  | [], i0, i, o, b, vs, v, a, _, _, _, ho, _ => by simp at ho
  | q :: r, i0, i, o, b, vs, v, a, hp, hs, hi, ho, hb => by
    rw [putS, putS]
    obtain ⟨hp1, hp2⟩ := List.pairwise_cons.1 hp
    by_cases hii : i = i0
    · subst hii
      rw [Nat.sub_self] at ho
      simp at ho
      subst ho
      rw [show upd b i true i = true by simp [upd], show upd vs i v i = v by simp [upd], if_pos rfl, hb, if_neg (by decide)]
      rw [putS_congr r (i + 1) (upd b i true) b (upd vs i v) vs _ fun j hj => by simp [upd, show j ≠ i by omega]]
      exact putS_put q.dst v (hs q List.mem_cons_self) r (i + 1) b vs a fun o' ho' e => (hp1 o' ho').2.2 e.symm
    · rw [show upd b i true i0 = b i0 by simp [upd, Ne.symm hii], show upd vs i v i0 = vs i0 by simp [upd, Ne.symm hii]]
      refine putS_upd r (i0 + 1) i o b vs v _ hp2 (fun o' ho' => hs o' (List.mem_cons_of_mem _ ho')) (by omega) ?_ hb
      rw [show i - i0 = (i - (i0 + 1)) + 1 by omega] at ho
      simpa using ho
theorem put_size (a : Act) (x : Option Tmp) (v : Value) : (a.put x v).tmps.size = a.tmps.size := by cases x <;> simp [Act.put]
theorem putS_size : ∀ (l : List Oper) (i : Nat) (b : Nat → Bool) (vs : Nat → Value) (a : Act), (putS l i b vs a).tmps.size = a.tmps.size
  | [], _, _, _, _ => rfl
  | o :: r, i, b, vs, a => by
    rw [putS, putS_size]
    cases b i <;> simp [put_size]
theorem eval_put_same (a : Act) (d : Tmp) (v : Value) (h : d < a.tmps.size) : (a.put (some d) v).eval (.tmp d) = v := by simp [Act.put, Act.eval, h]
theorem eval_put_other (a : Act) (x : Option Tmp) (d : Tmp) (v : Value) (h : x ≠ some d) : (a.put x v).eval (.tmp d) = a.eval (.tmp d) := by
  cases x with
  | none => rfl
  | some e =>
    have : e ≠ d := fun q => h (by rw [q])
    simp [Act.put, Act.eval, this]
theorem putS_out (d : Tmp) : ∀ (l : List Oper) (i : Nat) (b : Nat → Bool) (vs : Nat → Value) (a : Act), (∀ o ∈ l, o.dst ≠ some d) → (putS l i b vs a).eval (.tmp d) = a.eval (.tmp d)
  | [], _, _, _, _, _ => rfl
  | o :: r, i, b, vs, a, h => by
    rw [putS, putS_out d r (i + 1) b vs _ fun o' ho' => h o' (List.mem_cons_of_mem _ ho')]
    cases b i with
    | false => rfl
    | true => exact eval_put_other a _ d _ (h o List.mem_cons_self)
theorem putS_in {l : List Oper} (hp : l.Pairwise Dst) (hs : ∀ o ∈ l, o.dst.isSome = true) {i : Nat} {o : Oper} (ho : l[i]? = some o) {d : Tmp} (hd : o.dst = some d) (b : Nat → Bool) (vs : Nat → Value) (a : Act) (hsz : d < a.tmps.size) (hb : b i = true) : (putS l 0 b vs a).eval (.tmp d) = vs i := by
  have h1 := putS_upd l 0 i o (upd b i false) vs (vs i) a hp hs (Nat.zero_le _) (by simpa using ho) (by simp [upd])
  have e1 : upd (upd b i false) i true = b := by
    funext j
    by_cases h : j = i
    · subst h; simp [upd, hb]
    · simp [upd, h]
  have e2 : upd vs i (vs i) = vs := by
    funext j
    by_cases h : j = i
    · subst h; simp [upd]
    · simp [upd, h]
  rw [e1, e2] at h1
  rw [h1, hd]
  exact eval_put_same _ _ _ (by rw [putS_size]; exact hsz)
def cnt (f : Nat → Bool) : Nat → Nat
  | 0 => 0
  | m + 1 => cnt f m + if f m then 0 else 1
theorem cnt_upd (f : Nat → Bool) (i : Nat) (hf : f i = false) : ∀ m, cnt (upd f i true) m + (if i < m then 1 else 0) = cnt f m
  | 0 => rfl
  | m + 1 => by
    have h := cnt_upd f i hf m
    rw [cnt, cnt]
    by_cases hm : m = i
    · subst hm
      simp [upd, hf] at h ⊢
      exact h
    · have e : upd f i true m = f m := by simp [upd, hm]
      rw [e]
      by_cases hi : i < m
      · rw [if_pos hi] at h; rw [if_pos (show i < m + 1 by omega)]; omega
      · rw [if_neg hi] at h; rw [if_neg (show ¬ i < m + 1 by omega)]; omega
theorem cnt_zero (f : Nat → Bool) : ∀ m, cnt f m = 0 → ∀ i, i < m → f i = true
  | 0, _, i, hi => by omega
  | m + 1, h, i, hi => by
    rw [cnt] at h
    have h1 : cnt f m = 0 := by omega
    by_cases hm : i = m
    · subst hm
      cases hf : f i with
      | true => rfl
      | false => rw [hf] at h; simp at h
    · exact cnt_zero f m h1 i (by omega)
theorem cnt_least (f : Nat → Bool) : ∀ m, cnt f m ≠ 0 → ∃ i, i < m ∧ f i = false ∧ ∀ j, j < i → f j = true
  | 0, h => absurd rfl h
  | m + 1, h => by
    by_cases h1 : cnt f m = 0
    · rw [cnt, h1] at h
      refine ⟨m, by omega, ?_, fun j hj => cnt_zero f m h1 j hj⟩
      cases hf : f m with
      | true => rw [hf] at h; simp at h
      | false => rfl
    · obtain ⟨i, h2, h3, h4⟩ := cnt_least f m h1
      exact ⟨i, by omega, h3, h4⟩
end
section
variable {Q : Exit → Act → World → Prop}
/-- what the first m operations must be -/
def floatB (l : List Oper) (m : Nat) : Bool :=
  (List.range m).all (fun i => match l[i]? with
    | some o => o.guard.isNone && (o.dst.isSome && o.after.all fun e => !Region.binds .any e || decide (e.on < i))
    | none => false) && (decide (m ≤ l.length) && ((List.range l.length).all (fun j => decide (j < m) || (List.range m).all fun i => waitsB .any l.toArray i 9 j) &&
    (Region.noSelect l.toArray && endB .any l.toArray (List.range' m (l.length - m)) (setAll (Array.replicate l.length false) (List.range' 0 m)))))
theorem putS_congr'' : ∀ (l : List Oper) (i : Nat) (b b' : Nat → Bool) (vs : Nat → Value) (a : Act), (∀ j, i ≤ j → j < i + l.length → b j = b' j) → putS l i b vs a = putS l i b' vs a
  | [], _, _, _, _, _, _ => rfl
  | o :: r, i, b, b', vs, a, h => by
    rw [putS, putS, h i (Nat.le_refl _) (by simp)]
    exact putS_congr'' r (i + 1) b b' vs _ fun j hj hj2 => h j (by omega) (by simp; omega)
theorem putS_congr' {l : List Oper} {m : Nat} {b : Nat → Bool} (vs : Nat → Value) (a : Act) (_ : True) (h : ∀ i, i < m → b i = true) (hm : m ≤ l.length) : putS (l.take m) 0 b vs a = putS (l.take m) 0 (fun _ => true) vs a :=
  putS_congr'' _ _ _ _ _ _ fun j _ hj => h j (by simp at hj; omega)
theorem putS_none : ∀ (l : List Oper) (i : Nat) (b : Nat → Bool) (vs : Nat → Value) (a : Act), (∀ j, b j = false) → putS l i b vs a = a
  | [], _, _, _, _, _ => rfl
  | o :: r, i, b, vs, a, h => by
    rw [putS, h i, if_neg (by decide)]
    exact putS_none r (i + 1) b vs a h
theorem all2_drop (l : List Oper) (m : Nat) : All2 l.toArray (List.range' m (l.length - m)) (l.drop m) := by
  induction h : l.length - m generalizing m with
  | zero => rw [List.drop_of_length_le (by omega)]; exact .nil
  | succ k ih =>
    rw [List.range'_succ, List.drop_eq_getElem_cons (by omega)]
    exact .cons (by simp) (ih (m + 1) (by omega))
/-- what is known behind some of the first operations -/
def FK (m : Nat) (ks : Nat → Option (TypeId × Array Value)) (f : Nat → Bool) (vs : Nat → Value) (k : Nat) : Prop := ∀ i, i < m → f i = true → (ks i).isSome = true → vs i ≠ .pointer (some ⟨k, 0, none⟩)
structure FI (l : List Oper) (m : Nat) (ks : Nat → Option (TypeId × Array Value)) (D : (Nat → Prop) → Nat → Value → World → Prop) (a0 : Act) (w0 : World) (f : Nat → Bool) (vs : Nat → Value) (a : Act) (w : World) : Prop where
  a : a = putS (l.take m) 0 f vs a0
  below : Below w0.heap.size w0 w
  d : ∀ i, i < m → f i = true → ks i = none → D (FK m ks f vs) i (vs i) w
  al : ∀ i, i < m → f i = true → ∀ t z, ks i = some (t, z) → ∃ g, vs i = .pointer (some ⟨g, 0, none⟩) ∧ Blk w g t z ∧ w0.heap.size ≤ g
  ne : ∀ i j, i < m → j < m → f i = true → f j = true → (ks i).isSome = true → (ks j).isSome = true → i ≠ j → vs i ≠ vs j
theorem setAll_getD : ∀ (c : List Nat) (L : Array Bool) (j : Nat), (∀ i ∈ c, i < L.size) → (setAll L c).size = L.size ∧ (setAll L c).getD j false = (L.getD j false || decide (j ∈ c))
  | [], L, j, _ => by simp [setAll]
  | i :: r, L, j, h => by
    rw [setAll]
    have h1 := setAll_getD r (L.setIfInBounds i true) j fun k hk => by rw [Array.size_setIfInBounds]; exact h k (List.mem_cons_of_mem _ hk)
    have hi := h i List.mem_cons_self
    rw [Array.size_setIfInBounds] at h1
    refine ⟨h1.1, h1.2.trans ?_⟩
    by_cases hij : i = j
    · subst hij; simp [Array.getD_eq_getD_getElem?, hi]
    · simp [Array.getD_eq_getD_getElem?, hij, Ne.symm hij]
theorem wp_region_float {id : Nat} {a0 : Act} {w : World} {l : List Oper} (hm : Tryz.prog.follows .mixedOrders = true) (m : Nat) (ks : Nat → Option (TypeId × Array Value)) (D : (Nat → Prop) → Nat → Value → World → Prop)
    (hB : floatB l m = true) (hd : (l.take m).Pairwise Dst) (hdz : ((l.take m).all fun o => match o.dst with | some d => decide (d < a0.tmps.size) | none => true) = true)
    (hz : ∀ i o t z, i < m → l[i]? = some o → ks i = some (t, z) → o.op = .alloc t ∧ ∀ w, (zeroValue t).run Tryz.prog w = .ok (.agg z) w)
    (hst : ∀ K i v w w', D K i v w → Below w.heap.size w w' → D K i v w')
    (hwk : ∀ K K' i v w, D K i v w → (∀ k, k < w.heap.size → K k → K' k) → D K' i v w)
    (step : ∀ (K : Nat → Prop) i o, i < m → l[i]? = some o → ks i = none → ∀ (vs : Nat → Value) (a : Act) (w' : World), (∀ k, k < w.drew.heap.size ∨ w'.heap.size ≤ k → K k) → Below w.drew.heap.size w.drew w' → (∀ e ∈ o.after, Region.binds .any e = true → e.on < m → (ks e.on = none → D K e.on (vs e.on) w') ∧ ∀ o', l[e.on]? = some o' → ∀ d, o'.dst = some d → a.eval (.tmp d) = vs e.on) → (∀ d, (∀ o ∈ l.take m, o.dst ≠ some d) → a.eval (.tmp d) = a0.eval (.tmp d)) →
      wpList Tryz.prog l.toArray (segQ Q fun a' w'' => ∃ v, a' = a.put o.dst v ∧ D K i v w'' ∧ Below w'.heap.size w' w'') [o] a w')
    (fin : ∀ (vs : Nat → Value) (a : Act) (w' : World), FI l m ks D a0 w.drew (fun _ => true) vs a w' → wpList Tryz.prog l.toArray Q (l.drop m) a w') : (Code.region id l.toArray true).wp Tryz.prog Q a0 w := by
  have hdz : ∀ o ∈ l.take m, ∀ d, o.dst = some d → d < a0.tmps.size := fun o ho d h => by
    have h2 := List.all_eq_true.1 hdz o ho
    rw [h] at h2
    simpa using h2
  unfold floatB at hB
  simp only [Bool.and_eq_true, decide_eq_true_eq, List.all_eq_true, List.mem_range, Bool.or_eq_true] at hB
  obtain ⟨hB1, hml, hB2, hns, hend⟩ := hB
  have hop : ∀ i, i < m → ∃ o, l[i]? = some o ∧ o.guard = none ∧ o.dst.isSome = true ∧ ∀ e ∈ o.after, Region.binds .any e = true → e.on < i := fun i hi => by
    have h := hB1 i hi
    cases ho : l[i]? with
    | none => rw [ho] at h; cases h
    | some o =>
      rw [ho] at h
      simp only [Bool.and_eq_true, Array.all_eq_true_iff_forall_mem, Bool.or_eq_true, Bool.not_eq_true', decide_eq_true_eq] at h
      refine ⟨o, rfl, by simpa using h.1, h.2.1, fun e he hb => ?_⟩
      rcases h.2.2 e he with h1 | h1
      · rw [hb] at h1; cases h1
      · exact h1
  have hds : ∀ o ∈ l.take m, o.dst.isSome = true := fun o ho => by
    obtain ⟨i, hi, rfl⟩ := List.getElem_of_mem ho
    have hi2 : i < m := by simp at hi; omega
    obtain ⟨o, h1, _, h3, _⟩ := hop i hi2
    rw [List.getElem_take]
    rw [List.getElem?_eq_getElem (by simp at hi; omega)] at h1
    injection h1 with h1
    rw [h1]; exact h3
  have main : ∀ (k : Nat) (listed : Array Bool) (vs : Nat → Value) (a : Act) (w' : World), listed.size = l.length → (∀ j, m ≤ j → listed.getD j false = false) → Shut .any l.toArray listed → k = cnt (fun i => listed.getD i false) m → FI l m ks D a0 w.drew (fun i => listed.getD i false) vs a w' → wpAny Tryz.prog .any l.toArray Q (k + (l.length - m)) listed a w' := by
    intro k
    induction k with
    | zero =>
      intro listed vs a w' hsz hl2 _ hk hI
      have hall := cnt_zero _ m hk.symm
      have hL : listed = setAll (Array.replicate l.length false) (List.range' 0 m) := by
        have hs := setAll_getD (List.range' 0 m) (Array.replicate l.length false) 0 fun i hi => by simp at hi ⊢; omega
        refine Array.ext (by rw [hsz, hs.1]; simp) fun i h1 h2 => ?_
        have h3 := (setAll_getD (List.range' 0 m) (Array.replicate l.length false) i fun i hi => by simp at hi ⊢; omega).2
        have e1 : listed.getD i false = listed[i] := by simp [Array.getD_eq_getD_getElem?, h1]
        have e2 : (setAll (Array.replicate l.length false) (List.range' 0 m)).getD i false = (setAll (Array.replicate l.length false) (List.range' 0 m))[i] := by simp [Array.getD_eq_getD_getElem?, h2]
        rw [← e1, ← e2, h3]
        by_cases him : i < m
        · rw [hall i him]; simp [him]
        · rw [hl2 i (by omega)]
          have : i < l.length := by omega
          simp [Array.getD_eq_getD_getElem?, this]; omega
      have hf := fin vs a w' ⟨by rw [hI.a]; exact putS_congr' _ _ trivial hall hml, hI.below, fun i hi _ hk => hwk _ _ i _ _ (hI.d i hi (hall i hi) hk) fun k _ h i hi _ hk => h i hi (hall i hi) hk, fun i hi _ => hI.al i hi (hall i hi), fun i j hi hj _ _ => hI.ne i j hi hj (hall i hi) (hall j hj)⟩
      have h5 := list_anyD (P := Tryz.prog) (ops := l.toArray) (Q := Q) (md := .any) (S := fun _ => True) (z := 0) (List.range' m (l.length - m)) (l.drop m) m listed a w' (all2_drop l m) (by simp) (Nat.zero_le _) (by rw [hL]; exact hend) hf
      rw [List.length_range'] at h5
      rw [Nat.zero_add]
      exact wpAny_of_D _ _ _ _ h5
    | succ k ih =>
      intro listed vs a w' hsz hl2 hsh hk hI
      rw [show k + 1 + (l.length - m) = (k + (l.length - m)) + 1 by omega, wpAny]
      have hin : ∀ {i : Nat}, i < l.length → listed.getD i false = false → listed.getD i true = false := fun {i} h1 h2 => by
        simp [Array.getD_eq_getD_getElem?, show i < listed.size by omega] at h2 ⊢; exact h2
      refine ⟨fun h0 => ?_, fun i hi => ?_⟩
      · obtain ⟨i, h1, h2, h3⟩ := cnt_least (fun i => listed.getD i false) m (by omega)
        obtain ⟨o, h4, _, _, h5⟩ := hop i h1
        have : i ∈ Region.ready .any l.toArray listed := mem_ready.2 ⟨hin (by omega) h2, o, by simpa using h4, fun e he hb => h3 _ (h5 e he hb)⟩
        rw [h0] at this
        cases this
      · obtain ⟨h1, o, ho, h2⟩ := mem_ready.1 hi
        have ho' : l[i]? = some o := by simpa using ho
        have hil : i < l.length := (List.getElem?_eq_some_iff.1 ho').1
        have hif : listed.getD i false = false := by
          simp [Array.getD_eq_getD_getElem?, show i < listed.size by omega] at h1 ⊢; exact h1
        by_cases him : i < m
        · obtain ⟨o2, h3, h4, h5, h6⟩ := hop i him
          rw [ho'] at h3
          cases h3
          have htk : (l.take m)[i]? = some o := by rw [List.getElem?_take_of_lt him]; exact ho'
          have next : ∀ v w'', Below w'.heap.size w' w'' → (ks i = none → D (FK m ks (fun j => listed.getD j false) vs) i v w'') → (∀ t z, ks i = some (t, z) → v = .pointer (some ⟨w'.heap.size, 0, none⟩) ∧ Blk w'' w'.heap.size t z) → wpAny Tryz.prog .any l.toArray Q (k + (l.length - m)) (listed.setIfInBounds i true) (a.put o.dst v) w'' := by
            intro v w'' hb hD hA
            have hfun : (fun j => (listed.setIfInBounds i true).getD j false) = upd (fun j => listed.getD j false) i true := by
              funext j
              by_cases hj : j = i
              · subst hj; simp [upd, Array.getD_eq_getD_getElem?, show j < listed.size by omega]
              · simp [upd, hj, Array.getD_eq_getD_getElem?, Ne.symm hj]
            have hup : ∀ j, upd (fun j => listed.getD j false) i true j = true → j ≠ i → listed.getD j false = true := fun j h hj => by simpa [upd, hj] using h
            have hlow := hI.below.size
            refine ih _ (upd vs i v) _ w'' (by simp [hsz]) (fun j hj => ?_) (hsh.put hi) ?_ ?_
            · have := congrFun hfun j
              rw [this, upd, if_neg (by omega)]
              exact hl2 j hj
            · rw [hfun]
              have := cnt_upd (fun j => listed.getD j false) i hif m
              rw [if_pos him] at this
              omega
            · rw [hfun]
              refine ⟨by rw [hI.a]; exact (putS_upd (l.take m) 0 i o _ vs v a0 hd hds (Nat.zero_le _) (by simpa using htk) hif).symm, hI.below.trans (hb.mono hlow), fun j hj hf hk => ?_, fun j hj hf t z hk => ?_, fun j j' hj hj' hf hf' hk hk' hne => ?_⟩
              · have hkk : ∀ k, k < w'.heap.size ∨ ks i = none → FK m ks (fun j => listed.getD j false) vs k → FK m ks (upd (fun j => listed.getD j false) i true) (upd vs i v) k := by
                  intro k hk0 hK j' hj' hf' hs'
                  by_cases hji' : j' = i
                  · subst hji'
                    obtain ⟨⟨t, z⟩, hks⟩ := Option.isSome_iff_exists.1 hs'
                    rw [show upd vs j' v j' = v by simp [upd], (hA t z hks).1]
                    intro e
                    simp at e
                    rcases hk0 with h | h
                    · omega
                    · rw [hks] at h; cases h
                  · rw [show upd vs i v j' = vs j' by simp [upd, hji']]
                    exact hK j' hj' (hup j' hf' hji') hs'
                by_cases hji : j = i
                · subst hji
                  rw [show upd vs j v j = v by simp [upd]]
                  exact hwk _ _ _ _ _ (hD hk) fun k _ => hkk k (.inr hk)
                · rw [show upd vs i v j = vs j by simp [upd, hji]]
                  exact hst _ _ _ _ _ (hwk _ _ _ _ _ (hI.d j hj (hup j hf hji) hk) fun k hk' => hkk k (.inl hk')) hb
              · by_cases hji : j = i
                · subst hji
                  obtain ⟨g1, g2⟩ := hA t z hk
                  exact ⟨w'.heap.size, by simp [upd, g1], g2, hlow⟩
                · obtain ⟨g, g1, g2, g3⟩ := hI.al j hj (hup j hf hji) t z hk
                  exact ⟨g, by simp [upd, hji, g1], g2.old hb, g3⟩
              · have key : ∀ j, j < m → j ≠ i → upd (fun j => listed.getD j false) i true j = true → (ks j).isSome = true → (ks i).isSome = true → vs j ≠ v := by
                  intro j hj hji hf hk hki
                  obtain ⟨⟨t, z⟩, hks⟩ := Option.isSome_iff_exists.1 hk
                  obtain ⟨⟨t', z'⟩, hks'⟩ := Option.isSome_iff_exists.1 hki
                  obtain ⟨g, g1, g2, _⟩ := hI.al j hj (hup j hf hji) t z hks
                  have g4 := g2.lt
                  rw [g1, (hA t' z' hks').1]
                  intro e
                  simp at e
                by_cases hji : j = i
                · subst hji
                  have : j' ≠ j := Ne.symm hne
                  rw [show upd vs j v j = v by simp [upd], show upd vs j v j' = vs j' by simp [upd, this]]
                  exact (key j' hj' this hf' hk' hk).symm
                · by_cases hji' : j' = i
                  · subst hji'
                    rw [show upd vs j' v j' = v by simp [upd], show upd vs j' v j = vs j by simp [upd, hji]]
                    exact key j hj hji hf hk hk'
                  · rw [show upd vs i v j = vs j by simp [upd, hji], show upd vs i v j' = vs j' by simp [upd, hji']]
                    exact hI.ne j j' hj hj' (hup j hf hji) (hup j' hf' hji') hk hk' hne
          cases hki : ks i with
          | none =>
            have hs := step (FK m ks (fun j => listed.getD j false) vs) i o him ho' hki vs a w' (fun k hk j hj hf hs => by
              obtain ⟨⟨t, z⟩, hks⟩ := Option.isSome_iff_exists.1 hs
              obtain ⟨g, g1, g2, g3⟩ := hI.al j hj hf t z hks
              have g4 := g2.lt
              rw [g1]
              intro e
              have e2 : g = k := by injection e with e; injection e with e; injection e
              omega) hI.below (fun e he hb hem => by
              have h7 := h2 e he hb
              refine ⟨hI.d e.on hem h7, fun o' ho'' d hdd => ?_⟩
              have htk' : (l.take m)[e.on]? = some o' := by rw [List.getElem?_take_of_lt hem]; exact ho''
              rw [hI.a]
              exact putS_in hd hds htk' hdd _ vs a0 (hdz o' (List.mem_of_getElem? htk') d hdd) h7) (fun d hdd => by rw [hI.a]; exact putS_out d _ _ _ _ _ hdd)
            have hw : wpOp Tryz.prog l.toArray (segQ Q fun a' w'' => ∃ v, a' = a.put o.dst v ∧ D (FK m ks (fun j => listed.getD j false) vs) i v w'' ∧ Below w'.heap.size w' w'') i (fun a' w'' => ∃ v, a' = a.put o.dst v ∧ D (FK m ks (fun j => listed.getD j false) vs) i v w'' ∧ Below w'.heap.size w' w'') a w' := by
              unfold wpOp
              simp only [ho]
              exact hs
            refine wpOp_mono (fun a' w'' h => ?_) (wpOp_seg hw)
            obtain ⟨v, rfl, hD, hb⟩ := h
            exact next v w'' hb (fun _ => hD) (fun t z h => by rw [hki] at h; cases h)
          | some tz =>
            obtain ⟨t, z⟩ := tz
            obtain ⟨g1, g2⟩ := hz i o t z him ho' hki
            have hs : wpList Tryz.prog l.toArray (segQ Q fun a' w'' => ∃ v, a' = a.put o.dst v ∧ (v = .pointer (some ⟨w'.heap.size, 0, none⟩) ∧ Blk w'' w'.heap.size t z) ∧ Below w'.heap.size w' w'') [o] a w' :=
              wpList_alloc_rowG w'.heap.size rfl h4 t g1 z g2 fun w'' k b _ => ⟨_, rfl, ⟨rfl, k⟩, b⟩
            have hw : wpOp Tryz.prog l.toArray (segQ Q fun a' w'' => ∃ v, a' = a.put o.dst v ∧ (v = .pointer (some ⟨w'.heap.size, 0, none⟩) ∧ Blk w'' w'.heap.size t z) ∧ Below w'.heap.size w' w'') i (fun a' w'' => ∃ v, a' = a.put o.dst v ∧ (v = .pointer (some ⟨w'.heap.size, 0, none⟩) ∧ Blk w'' w'.heap.size t z) ∧ Below w'.heap.size w' w'') a w' := by
              unfold wpOp
              simp only [ho]
              exact hs
            refine wpOp_mono (fun a' w'' h => ?_) (wpOp_seg hw)
            obtain ⟨v, rfl, hD, hb⟩ := h
            exact next v w'' hb (fun h => by rw [hki] at h; cases h) (fun t' z' h => by rw [hki] at h; cases h; exact hD)
        · exfalso
          obtain ⟨i', h3, h4, _⟩ := cnt_least (fun i => listed.getD i false) m (by omega)
          have h5 := hB2 i hil
          rcases h5 with h5 | h5
          · omega
          · have h6 := waits_listed hsh 9 i (fun o' ho'' e he hb => by rw [ho] at ho''; cases ho''; exact h2 e he hb) (h5 i' h3)
            have h4' : listed.getD i' false = false := h4
            rw [h6] at h4'
            cases h4'
  refine wp_region_any hm ?_
  have hcnt : ∀ m', cnt (fun i => (Array.replicate l.length false).getD i false) m' = m' := fun m' => by
    induction m' with
    | zero => rfl
    | succ m' ih =>
      rw [cnt, ih]
      have : (Array.replicate l.length false).getD m' false = false := by simp [Array.getD_eq_getD_getElem?, Array.getElem?_replicate]; split <;> rfl
      simp [this]
  have h9 := main m (Array.replicate l.length false) (fun _ => undef) a0 w.drew (by simp) (fun j _ => by simp [Array.getD_eq_getD_getElem?, Array.getElem?_replicate]; split <;> rfl) (shut_none _) (hcnt m).symm ⟨?_, Below.refl _ _, fun i _ h => ?_, fun i _ h => ?_, fun i j _ _ h => ?_⟩
  · rw [show m + (l.length - m) = l.length by omega] at h9
    simpa using h9
  · rw [putS_none]
    intro j
    simp [Array.getD_eq_getD_getElem?, Array.getElem?_replicate]; split <;> rfl
  all_goals
    exfalso
    simp [Array.getD_eq_getD_getElem?, Array.getElem?_replicate] at h
    split at h <;> cases h
end
end Go.Proofs.YtjgkdfghjeodeaaGreatDoor
