/- The search finds the least solution in a box, or there is none. -/
import Derived.Test.YtjienelkjpodkaaP2
namespace Go.Proofs.Ytjienelkjpodkaa

def InB (n : Nat) (lo hi : List Int) (x : List Int) : Prop := x.length = n ∧ ∀ i, i < n → lo.getD i 0 ≤ x.getD i 0 ∧ x.getD i 0 ≤ hi.getD i 0
def Sat (rows : List Row) (x : List Int) : Prop := ∀ r ∈ rows, 0 ≤ valR r x

theorem InB.tail {n : Nat} {a b x : Int} {lo hi l : List Int} (h : InB (n + 1) (a :: lo) (b :: hi) (x :: l)) : (a ≤ x ∧ x ≤ b) ∧ InB n lo hi l :=
  ⟨by simpa using h.2 0 (by omega), by simpa using h.1, fun i hi => by simpa using h.2 (i + 1) (by omega)⟩
theorem gr_ge : ∀ (a x lo hi : List Int) (n : Nat), InB n lo hi x → a.length = n → n ≤ lo.length → n ≤ hi.length → dot a x ≤ grF a lo hi
  | [], _, _, _, _, _, _, _, _ => by simp [dot, grF]
  | a :: l, [], _, _, _, h, h2, _, _ => by have := h.1; simp at this; subst this; simp at h2
  | a :: l, x :: s, [], _, _, h, h2, h3, _ => by subst h2; simp at h3
  | a :: l, x :: s, u :: lo, [], _, h, h2, _, h4 => by subst h2; simp at h4
  | a :: l, x :: s, u :: lo, v :: hi, 0, h, h2, _, _ => by simp at h2
  | a :: l, x :: s, u :: lo, v :: hi, n + 1, h, h2, h3, h4 => by
    obtain ⟨⟨g1, g2⟩, g3⟩ := h.tail
    have ih := gr_ge l s lo hi n g3 (by simpa using h2) (by simpa using h3) (by simpa using h4)
    rw [dot, grF]
    by_cases ha : 0 < a
    · rw [if_pos ha]
      have := Int.mul_le_mul_of_nonneg_left g2 (show 0 ≤ a by omega)
      omega
    · rw [if_neg ha]
      have := Int.mul_le_mul_of_nonpos_left (show a ≤ 0 by omega) g1
      omega
theorem gr_eq : ∀ (a x lo hi : List Int) (n : Nat), InB n lo hi x → a.length = n → n ≤ lo.length → n ≤ hi.length → (∀ i, i < n → lo.getD i 0 = hi.getD i 0) → grF a lo hi = dot a x
  | [], _, _, _, _, _, _, _, _, _ => by simp [dot, grF]
  | a :: l, [], _, _, _, h, h2, _, _, _ => by have := h.1; simp at this; subst this; simp at h2
  | a :: l, x :: s, [], _, _, h, h2, h3, _, _ => by subst h2; simp at h3
  | a :: l, x :: s, u :: lo, [], _, h, h2, _, h4, _ => by subst h2; simp at h4
  | a :: l, x :: s, u :: lo, v :: hi, 0, h, h2, _, _, _ => by simp at h2
  | a :: l, x :: s, u :: lo, v :: hi, n + 1, h, h2, h3, h4, h5 => by
    obtain ⟨⟨g1, g2⟩, g3⟩ := h.tail
    have ih := gr_eq l s lo hi n g3 (by simpa using h2) (by simpa using h3) (by simpa using h4) fun i hi => by simpa using h5 (i + 1) (by omega)
    have h0 : u = v := by simpa using h5 0 (by omega)
    have e1 : x = u := by omega
    rw [dot, grF, ih]
    subst h0
    subst e1
    by_cases ha : 0 < a
    · rw [if_pos ha]
    · rw [if_neg ha]

theorem fail_some : ∀ (rows : List Row) (at' : List Int) (b : Box) (r : Row) (a : Int), failF rows at' b = some (r, a) → ∃ k : Nat, rows[k]? = some r ∧ at'[k]? = some a ∧ greatestF r b < 0
  | [], _, _, _, _, h => by simp [failF] at h
  | _ :: _, [], _, _, _, h => by simp [failF] at h
  | r' :: rs, a' :: as, b, r, a, h => by
    rw [failF] at h
    by_cases hg : greatestF r' b < 0
    · rw [if_pos hg] at h
      cases h
      exact ⟨0, rfl, rfl, hg⟩
    · rw [if_neg hg] at h
      obtain ⟨k, h1, h2, h3⟩ := fail_some rs as b r a h
      exact ⟨k + 1, by simpa using h1, by simpa using h2, h3⟩
theorem fail_none : ∀ (rows : List Row) (at' : List Int) (b : Box), rows.length ≤ at'.length → failF rows at' b = none → ∀ r ∈ rows, 0 ≤ greatestF r b
  | [], _, _, _, _ => by simp
  | _ :: _, [], _, h, _ => by simp at h
  | r' :: rs, a' :: as, b, hl, h => by
    rw [failF] at h
    by_cases hg : greatestF r' b < 0
    · rw [if_pos hg] at h; cases h
    · rw [if_neg hg] at h
      intro r hr
      rcases List.mem_cons.1 hr with rfl | hr
      · omega
      · exact fail_none rs as b (by simpa using hl) h r hr

theorem less_at : ∀ (x y : List Int) (i : Nat), (∀ k, k < i → x.getD k 0 = y.getD k 0) → i < x.length → i < y.length → x.getD i 0 < y.getD i 0 → lessF y x = false
  | [], _, _, _, h, _, _ => by simp at h
  | _ :: _, [], _, _, _, h, _ => by simp at h
  | a :: x, b :: y, 0, _, _, _, h => by
    have h' : a < b := by simpa using h
    rw [lessF, if_pos (by simp; omega), decide_eq_false (by omega)]
  | a :: x, b :: y, i + 1, h, h1, h2, h3 => by
    have h0 : a = b := by simpa using h 0 (by omega)
    subst h0
    rw [lessF, if_neg (by simp)]
    exact less_at x y i (fun k hk => by simpa using h (k + 1) (by omega)) (by simpa using h1) (by simpa using h2) (by simpa using h3)
theorem less_irrefl : ∀ x : List Int, lessF x x = false
  | [] => rfl
  | a :: x => by rw [lessF, if_neg (by simp)]; exact less_irrefl x
theorem less_total : ∀ (x y : List Int), x.length = y.length → lessF x y = false → lessF y x = false → x = y
  | [], [], _, _, _ => rfl
  | [], _ :: _, h, _, _ => by simp at h
  | _ :: _, [], h, _, _ => by simp at h
  | a :: x, b :: y, h, h1, h2 => by
    by_cases e : a = b
    · subst e
      rw [lessF, if_neg (by simp)] at h1 h2
      rw [less_total x y (by simpa using h) h1 h2]
    · rw [lessF, if_pos (by simpa using e)] at h1
      rw [lessF, if_pos (by simpa using fun h => e h.symm)] at h2
      simp at h1 h2
      omega
theorem ext_getD {x y : List Int} (hl : x.length = y.length) (h : ∀ i, i < x.length → x.getD i 0 = y.getD i 0) : x = y := by
  apply List.ext_getElem hl
  intro i h1 h2
  have := h i h1
  rw [List.getD_eq_getElem?_getD, List.getD_eq_getElem?_getD, List.getElem?_eq_getElem h1, List.getElem?_eq_getElem h2] at this
  exact this

/-- the rows of a search fit its box -/
structure Fit (n : Nat) (rows : List Row) (at' : List Int) : Prop where
  len : ∀ r ∈ rows, r.1.length = n
  al : rows.length ≤ at'.length

theorem InB.low {n : Nat} {b : Box} {x : List Int} {i : Nat} {v : Int} (hb : BoxOk n b) (hi : i < n) (h : InB n b.lo b.hi x) (hx : x.getD i 0 ≤ v) : InB n (b.low i v).lo (b.low i v).hi x := by
  refine ⟨h.1, fun j hj => ⟨(h.2 j hj).1, ?_⟩⟩
  show x.getD j 0 ≤ (b.hi.set i v).getD j 0
  by_cases e : i = j
  · subst e
    have h12 := hb.n12
    rw [getD_set_eq (by rw [hb.wf.hi]; omega)]; exact hx
  · rw [getD_set_ne e]; exact (h.2 j hj).2
theorem InB.high {n : Nat} {b : Box} {x : List Int} {i : Nat} {v : Int} (hb : BoxOk n b) (hi : i < n) (h : InB n b.lo b.hi x) (hx : v < x.getD i 0) : InB n (b.high i v).lo (b.high i v).hi x := by
  refine ⟨h.1, fun j hj => ⟨?_, (h.2 j hj).2⟩⟩
  show (b.lo.set i (v + 1)).getD j 0 ≤ x.getD j 0
  by_cases e : i = j
  · subst e
    have h12 := hb.n12
    rw [getD_set_eq (by rw [hb.wf.lo]; omega)]; omega
  · rw [getD_set_ne e]; exact (h.2 j hj).1
theorem InB.of_low {n : Nat} {b : Box} {x : List Int} {i : Nat} {v : Int} (hb : BoxOk n b) (hi : i < n) (hv : v ≤ b.hi.getD i 0) (h : InB n (b.low i v).lo (b.low i v).hi x) : InB n b.lo b.hi x ∧ x.getD i 0 ≤ v := by
  have h12 := hb.n12
  have hvi : x.getD i 0 ≤ v := by
    have := (h.2 i hi).2
    change x.getD i 0 ≤ (b.hi.set i v).getD i 0 at this
    rwa [getD_set_eq (by rw [hb.wf.hi]; omega)] at this
  refine ⟨⟨h.1, fun j hj => ⟨(h.2 j hj).1, ?_⟩⟩, hvi⟩
  by_cases e : i = j
  · subst e; omega
  · have := (h.2 j hj).2
    change x.getD j 0 ≤ (b.hi.set i v).getD j 0 at this
    rwa [getD_set_ne e] at this
theorem InB.of_high {n : Nat} {b : Box} {x : List Int} {i : Nat} {v : Int} (hb : BoxOk n b) (hi : i < n) (hv : b.lo.getD i 0 ≤ v) (h : InB n (b.high i v).lo (b.high i v).hi x) : InB n b.lo b.hi x ∧ v < x.getD i 0 := by
  have h12 := hb.n12
  have hvi : v < x.getD i 0 := by
    have := (h.2 i hi).1
    change (b.lo.set i (v + 1)).getD i 0 ≤ x.getD i 0 at this
    rw [getD_set_eq (by rw [hb.wf.lo]; omega)] at this
    omega
  refine ⟨⟨h.1, fun j hj => ⟨?_, (h.2 j hj).2⟩⟩, hvi⟩
  by_cases e : i = j
  · subst e; omega
  · have := (h.2 j hj).1
    change (b.lo.set i (v + 1)).getD j 0 ≤ x.getD j 0 at this
    rwa [getD_set_ne e] at this

/-- what a search in a box answers -/
def Found (n : Nat) (rows : List Row) (lo hi : List Int) : Option (List Int) → Prop
  | some x => (InB n lo hi x ∧ Sat rows x) ∧ ∀ y, InB n lo hi y → Sat rows y → lessF y x = false
  | none => ∀ y, InB n lo hi y → ¬ Sat rows y

theorem visit_found {n : Nat} {rows : List Row} {at' : List Int} (hf : Fit n rows at') : ∀ (k : Nat) (b : Box) (p : List Step), BoxOk n b → b.wid n < k → Found n rows b.lo b.hi (visitF rows at' n k b p).1
  | 0, b, p, _, hk => by omega
  | k + 1, b, p, hb, hk => by
    have h12 := hb.n12
    have l1 : n ≤ b.lo.length := by rw [hb.wf.lo]; exact h12
    have l2 : n ≤ b.hi.length := by rw [hb.wf.hi]; exact h12
    unfold visitF
    cases hfa : failF rows at' b with
    | some ra =>
      obtain ⟨r, a⟩ := ra
      obtain ⟨j, hj, _, hg⟩ := fail_some rows at' b r a hfa
      have hr := List.mem_of_getElem? hj
      simp only
      intro y hy hs
      have h1 := hs r hr
      have h2 := gr_ge r.1 y b.lo b.hi n hy (hf.len r hr) l1 l2
      unfold valR at h1
      unfold greatestF at hg
      omega
    | none =>
      have hall := fail_none rows at' b hf.al hfa
      simp only
      cases hfr : freeF b.lo b.hi n 0 with
      | none =>
        have heq := free_none b.lo b.hi n 0 l1 l2 hfr
        simp only
        have hx : InB n b.lo b.hi (b.lo.take n) := by
          refine ⟨by simp; omega, fun i hi => ?_⟩
          have : (b.lo.take n).getD i 0 = b.lo.getD i 0 := by
            rw [List.getD_eq_getElem?_getD, List.getD_eq_getElem?_getD, List.getElem?_take, if_pos hi]
          rw [this, heq i hi]
          exact ⟨Int.le_refl _, Int.le_refl _⟩
        refine ⟨⟨hx, fun r hr => ?_⟩, fun y hy _ => ?_⟩
        · have := hall r hr
          unfold greatestF at this
          rw [gr_eq r.1 (b.lo.take n) b.lo b.hi n hx (hf.len r hr) l1 l2 heq] at this
          exact this
        · have : y = b.lo.take n := ext_getD (by rw [hy.1, hx.1]) fun i hi => by
            rw [hy.1] at hi
            have g1 := hy.2 i hi
            have g2 := hx.2 i hi
            have g3 := heq i hi
            omega
          rw [this]
          exact less_irrefl _
      | some i =>
        obtain ⟨j, rfl, hj, hne, hfix⟩ := free_some b.lo b.hi n 0 i l1 l2 hfr
        simp only [Nat.zero_add] at hfr ⊢
        obtain ⟨hw1, hw2, _⟩ := hb.parts hj hne
        obtain ⟨a1, a2, a3, a4⟩ := hb.mid hj hne
        have i1 := visit_found hf k _ (p ++ [{ kind := 3, x := j, k := (b.lo.getD j 0 + b.hi.getD j 0).tdiv 2, next := p.length + 1 }]) (hb.lowOk hj hne) (by omega)
        generalize hq : visitF rows at' n k (b.low j ((b.lo.getD j 0 + b.hi.getD j 0).tdiv 2)) (p ++ [{ kind := 3, x := j, k := (b.lo.getD j 0 + b.hi.getD j 0).tdiv 2, next := p.length + 1 }]) = q at i1
        obtain ⟨o, p2⟩ := q
        cases o with
        | some x =>
          simp only
          obtain ⟨⟨x1, x2⟩, x3⟩ := i1
          have x4 := x1.of_low hb hj (Int.le_of_lt a4)
          refine ⟨⟨x4.1, x2⟩, fun y hy hs => ?_⟩
          by_cases hc : y.getD j 0 ≤ (b.lo.getD j 0 + b.hi.getD j 0).tdiv 2
          · exact x3 y (hy.low hb hj hc) hs
          · refine less_at x y j (fun m hm => ?_) (by rw [x1.1]; exact hj) (by rw [hy.1]; exact hj) (by omega)
            have g1 := hy.2 m (by omega)
            have g2 := x4.1.2 m (by omega)
            have g3 := hfix m hm
            omega
        | none =>
          simp only
          have i2 := visit_found hf k _ (p2.set p.length { p2.getD p.length { kind := 0 } with els := p2.length }) (hb.highOk hj hne) (by omega)
          have hnl : ∀ y, InB n b.lo b.hi y → Sat rows y → (b.lo.getD j 0 + b.hi.getD j 0).tdiv 2 < y.getD j 0 := fun y hy hs => by
            rcases Int.lt_or_le ((b.lo.getD j 0 + b.hi.getD j 0).tdiv 2) (y.getD j 0) with h | h
            · exact h
            · exact absurd hs (i1 y (hy.low hb hj h))
          generalize hq2 : (visitF rows at' n k (b.high j ((b.lo.getD j 0 + b.hi.getD j 0).tdiv 2)) (p2.set p.length { p2.getD p.length { kind := 0 } with els := p2.length })).1 = o at i2
          cases o with
          | some x =>
            obtain ⟨⟨x1, x2⟩, x3⟩ := i2
            exact ⟨⟨(x1.of_high hb hj a3).1, x2⟩, fun y hy hs => x3 y (hy.high hb hj (hnl y hy hs)) hs⟩
          | none => exact fun y hy hs => i2 y (hy.high hb hj (hnl y hy hs)) hs
end Go.Proofs.Ytjienelkjpodkaa
namespace Go.Proofs.Ytjienelkjpodkaa

/-! ### weighted sums of rows -/
def wsum (f : Row → Int) : List Row → List Int → Int
  | r :: l, m :: ms => m * f r + wsum f l ms
  | _, _ => 0
def coef (j : Nat) (r : Row) : Int := r.1.getD j 0
abbrev nilR : Row := ([], 0)
theorem wsum_zero (f : Row → Int) : ∀ (l : List Row) (k : Nat), wsum f l (List.replicate k 0) = 0
  | [], k => by cases k <;> rfl
  | r :: l, 0 => rfl
  | r :: l, k + 1 => by rw [List.replicate_succ, wsum, wsum_zero f l k]; simp
theorem wsum_set (f : Row → Int) (x : Int) : ∀ (l : List Row) (m : List Int) (i : Nat), i < l.length → m.length = l.length → wsum f l (m.set i (m.getD i 0 + x)) = wsum f l m + x * f (l.getD i nilR)
  | [], _, _, h, _ => by simp at h
  | r :: l, [], _, _, h => by simp at h
  | r :: l, m :: ms, 0, _, _ => by
    simp only [List.set_cons_zero, List.getD_cons_zero, wsum]
    rw [Int.add_mul]; omega
  | r :: l, m :: ms, i + 1, h, h2 => by
    simp only [List.set_cons_succ, List.getD_cons_succ, wsum]
    rw [wsum_set f x l ms i (by simpa using h) (by simpa using h2)]
    omega
theorem wsum_add (f : Row → Int) (x : Int) (l : List Row) (m : List Int) (i : Int) (h : i.toNat < l.length) (h2 : m.length = l.length) : wsum f l (addAt m i x) = wsum f l m + x * f (l.getD i.toNat nilR) := wsum_set f x l m i.toNat h h2
theorem addAtP_len (m : List Int) (i x : Int) : (addAt m i x).length = m.length := by simp [addAt]
theorem mult_len' : ∀ (a below above m : List Int), (multF a below above m).length = m.length
  | [], _, _, _ => by simp [multF]
  | _ :: _, [], _, _ => by simp [multF]
  | _ :: _, _ :: _, [], _ => by simp [multF]
  | a :: l, u :: below, v :: above, m => by
    rw [multF, mult_len' l below above]
    split <;> simp [addAt]

def msum (f : Row → Int) (l : List Row) : List Int → List Int → List Int → Int
  | a :: r, u :: below, v :: above => (if 0 < a then a * f (l.getD v.toNat nilR) else (-a) * f (l.getD u.toNat nilR)) + msum f l r below above
  | _, _, _ => 0
theorem mult_sum (f : Row → Int) (l : List Row) : ∀ (a below above m : List Int), (∀ x ∈ below, x.toNat < l.length) → (∀ x ∈ above, x.toNat < l.length) → m.length = l.length → wsum f l (multF a below above m) = wsum f l m + msum f l a below above
  | [], _, _, _, _, _, _ => by simp [multF, msum]
  | _ :: _, [], _, _, _, _, _ => by simp [multF, msum]
  | _ :: _, _ :: _, [], _, _, _, _ => by simp [multF, msum]
  | a :: r, u :: below, v :: above, m, h1, h2, h3 => by
    rw [multF, msum, mult_sum f l r below above _ (fun x hx => h1 x (List.mem_cons_of_mem _ hx)) (fun x hx => h2 x (List.mem_cons_of_mem _ hx)) (by split <;> simp [addAt, h3])]
    by_cases ha : 0 < a
    · rw [if_pos ha, if_pos ha, wsum_add f a l m v (h2 v (List.mem_cons_self ..)) h3]; omega
    · rw [if_neg ha, if_neg ha, wsum_add f (-a) l m u (h1 u (List.mem_cons_self ..)) h3]; omega
def absum : List Int → Int
  | [] => 0
  | a :: r => a.natAbs + absum r
theorem eachB_add {m : List Int} {B : Int} (h : eachB m 0 B = true) (i x : Int) (hx : 0 ≤ x) (hB : 0 ≤ B) : eachB (addAt m i x) 0 (B + x) = true := by
  have h2 : eachB m 0 (B + x) = true := eachB_mono h (by omega) (by omega)
  refine eachB_set h2 ?_ ?_
  all_goals
    rw [List.getD_eq_getElem?_getD]
    cases hm : m[i.toNat]? with
    | none => simp; omega
    | some y =>
      have := List.all_eq_true.1 h y (List.mem_of_getElem? hm)
      simp only [bet, Bool.and_eq_true, decide_eq_true_eq] at this
      simp only [Option.getD_some]
      omega
theorem mult_each : ∀ (a below above m : List Int) (B : Int), eachB m 0 B = true → 0 ≤ B → eachB (multF a below above m) 0 (B + absum a) = true
  | [], _, _, m, B, h, _ => by simpa [multF, absum] using h
  | a :: r, [], _, m, B, h, hB => by
    rw [multF]
    · have : ∀ l, 0 ≤ absum l := fun l => by induction l <;> simp only [absum] <;> omega
      exact eachB_mono h (by omega) (by have := this (a :: r); omega)
    · simp
  | a :: r, _ :: _, [], m, B, h, hB => by
    rw [multF]
    · have : ∀ l, 0 ≤ absum l := fun l => by induction l <;> simp only [absum] <;> omega
      exact eachB_mono h (by omega) (by have := this (a :: r); omega)
    · simp
  | a :: r, u :: below, v :: above, m, B, h, hB => by
    rw [multF, absum]
    have e : B + (a.natAbs + absum r) = (B + a.natAbs) + absum r := by omega
    rw [e]
    refine mult_each r below above _ _ ?_ (by omega)
    by_cases ha : 0 < a
    · rw [if_pos ha, show ((a.natAbs : Nat) : Int) = a by omega]
      exact eachB_add h v a (by omega) hB
    · rw [if_neg ha, show ((a.natAbs : Nat) : Int) = -a by omega]
      exact eachB_add h u (-a) (by omega) hB
theorem absum_le : ∀ (l : List Int) (B : Int), eachB l (-B) B = true → absum l ≤ B * l.length
  | [], B, _ => by simp [absum]
  | a :: r, B, h => by
    unfold eachB at h
    rw [List.all_cons, Bool.and_eq_true] at h
    have h1 := h.1
    simp only [bet, Bool.and_eq_true, decide_eq_true_eq] at h1
    have := absum_le r B h.2
    rw [absum, List.length_cons, Int.natCast_add, Int.mul_add]
    simp
    omega

theorem coef_unit {n i : Nat} {a c : Int} {j : Nat} (hi : i < n) (hj : j < n) : coef j (unitR n i a c) = if i = j then a else 0 := by
  unfold coef unitR
  by_cases e : i = j
  · subst e
    rw [if_pos rfl]
    simp [List.getD_eq_getElem?_getD, hi]
  · rw [if_neg e]
    show ((List.replicate n (0 : Int)).set i a).getD j 0 = 0
    rw [getD_set_ne e]
    simp [List.getD_eq_getElem?_getD, hj]
theorem msum_coef (l : List Row) (n j : Nat) (hj : j < n) : ∀ (a below above lo hi : List Int) (k : Nat), a.length ≤ below.length → a.length ≤ above.length → k + a.length ≤ n →
    (∀ i, i < a.length → l.getD (below.getD i 0).toNat nilR = unitR n (k + i) 1 (-(lo.getD i 0)) ∧ l.getD (above.getD i 0).toNat nilR = unitR n (k + i) (-1) (hi.getD i 0)) →
    msum (coef j) l a below above = -(if k ≤ j then a.getD (j - k) 0 else 0)
  | [], _, _, _, _, k, _, _, _, _ => by simp [msum]
  | _ :: _, [], _, _, _, _, h, _, _, _ => by simp at h
  | _ :: _, _ :: _, [], _, _, _, _, h, _, _ => by simp at h
  | a :: r, u :: below, v :: above, lo, hi, k, h1, h2, h3, hu => by
    simp only [List.length_cons] at h1 h2 h3 hu
    have ih := msum_coef l n j hj r below above lo.tail hi.tail (k + 1) (by omega) (by omega) (by omega) fun i hi' => by
      have := hu (i + 1) (by omega)
      simp only [List.getD_cons_succ] at this
      have e : k + (i + 1) = k + 1 + i := by omega
      rw [e] at this
      refine ⟨?_, ?_⟩
      · rw [this.1]; cases lo <;> simp
      · rw [this.2]; cases hi <;> simp
    have h0 := hu 0 (by omega)
    simp only [List.getD_cons_zero, Nat.add_zero] at h0
    rw [msum, ih, h0.1, h0.2, coef_unit (by omega) hj, coef_unit (by omega) hj]
    by_cases e : k = j
    · subst e
      simp only [if_pos, Nat.le_refl, Nat.sub_self, List.getD_cons_zero]
      rw [if_neg (show ¬ k + 1 ≤ k by omega)]
      by_cases ha : 0 < a
      · rw [if_pos ha]; omega
      · rw [if_neg ha]; omega
    · rw [if_neg e, if_neg e]
      by_cases hk : k ≤ j
      · have hk1 : k + 1 ≤ j := by omega
        rw [if_pos hk, if_pos hk1]
        have e2 : j - k = (j - (k + 1)) + 1 := by omega
        rw [e2, List.getD_cons_succ]
        simp
      · rw [if_neg hk, if_neg (show ¬ k + 1 ≤ j by omega)]
        simp
theorem msum_snd (l : List Row) (n : Nat) : ∀ (a below above lo hi : List Int) (k : Nat), a.length ≤ below.length → a.length ≤ above.length → a.length ≤ lo.length → a.length ≤ hi.length →
    (∀ i, i < a.length → l.getD (below.getD i 0).toNat nilR = unitR n (k + i) 1 (-(lo.getD i 0)) ∧ l.getD (above.getD i 0).toNat nilR = unitR n (k + i) (-1) (hi.getD i 0)) →
    msum Prod.snd l a below above = grF a lo hi
  | [], _, _, _, _, k, _, _, _, _, _ => by simp [msum, grF]
  | _ :: _, [], _, _, _, _, h, _, _, _, _ => by simp at h
  | _ :: _, _ :: _, [], _, _, _, _, h, _, _, _ => by simp at h
  | _ :: _, _ :: _, _ :: _, [], _, _, _, _, h, _, _ => by simp at h
  | _ :: _, _ :: _, _ :: _, _ :: _, [], _, _, _, _, h, _ => by simp at h
  | a :: r, u :: below, v :: above, x :: lo, y :: hi, k, h1, h2, h3, h4, hu => by
    simp only [List.length_cons] at h1 h2 h3 h4 hu
    have ih := msum_snd l n r below above lo hi (k + 1) (by omega) (by omega) (by omega) (by omega) fun i hi' => by
      have := hu (i + 1) (by omega)
      simp only [List.getD_cons_succ] at this
      have e : k + (i + 1) = k + 1 + i := by omega
      rw [e] at this
      exact this
    have h0 := hu 0 (by omega)
    simp only [List.getD_cons_zero, Nat.add_zero] at h0
    rw [msum, grF, ih, h0.1, h0.2]
    by_cases ha : 0 < a
    · rw [if_pos ha, if_pos ha]; rfl
    · rw [if_neg ha, if_neg ha]
      simp only [unitR]
      rw [Int.neg_mul_neg]

/-! ### the checked sum -/
def RowBd (n : Nat) (r : Row) : Prop := r.1.length = n ∧ eachB r.1 (-1000) 1000 = true ∧ -1000 ≤ r.2 ∧ r.2 ≤ 1000
theorem mul_bd {m y : Int} (h1 : 0 ≤ m) (h2 : m ≤ 1000) (h3 : -1000 ≤ y) (h4 : y ≤ 1000) : -1000000 ≤ m * y ∧ m * y ≤ 1000000 := by
  have a1 := Int.mul_le_mul_of_nonneg_left h4 h1
  have a2 := Int.mul_le_mul_of_nonneg_left h3 h1
  omega
theorem addRow_at {n : Nat} {o a : List Int} {m : Int} (h1 : o.length = n) (h2 : a.length = n) {j : Nat} (hj : j < n) : (addRow o m a).getD j 0 = o.getD j 0 + m * a.getD j 0 := by
  simp [addRow, List.getD_eq_getElem?_getD, List.getElem?_zipWith, List.getElem?_eq_getElem (show j < o.length by omega), List.getElem?_eq_getElem (show j < a.length by omega)]
theorem addRowP_len {n : Nat} {o a : List Int} {m : Int} (h1 : o.length = n) (h2 : a.length = n) : (addRow o m a).length = n := by
  simp [addRow, h1, h2]
theorem eachB_getD {l : List Int} {lo hi : Int} : eachB l lo hi = true ↔ ∀ j, j < l.length → lo ≤ l.getD j 0 ∧ l.getD j 0 ≤ hi := by
  constructor
  · intro h j hj
    have h1 : l[j]? = some (l.getD j 0) := by simp [hj]
    have := List.all_eq_true.1 h _ (List.mem_of_getElem? h1)
    simpa [bet] using this
  · intro h
    unfold eachB
    rw [List.all_eq_true]
    intro x hx
    obtain ⟨j, hj⟩ := List.getElem?_of_mem hx
    have hlt := (List.getElem?_eq_some_iff.1 hj).1
    have := h j hlt
    rw [List.getD_eq_getElem?_getD, hj] at this
    simpa [bet] using this
theorem sumFrom_spec {n : Nat} : ∀ (l : List Row) (ms : List Int) (o : Row) (B : Int), (∀ r ∈ l, RowBd n r) → ms.length = l.length → eachB ms 0 1000 = true → o.1.length = n → eachB o.1 (-B) B = true → -B ≤ o.2 → o.2 ≤ B → B + 1000000 * l.length ≤ large →
    ∃ r, sumFrom l ms o = some r ∧ r.1.length = n ∧ (∀ j, j < n → r.1.getD j 0 = o.1.getD j 0 + wsum (coef j) l ms) ∧ r.2 = o.2 + wsum Prod.snd l ms
  | [], ms, o, B, _, _, _, ho, _, _, _, _ => ⟨o, by simp [sumFrom], ho, fun j _ => by simp [wsum], by simp [wsum]⟩
  | r :: l, [], o, B, _, h, _, _, _, _, _, _ => by simp at h
  | r :: l, m :: ms, o, B, hl, hm, he, ho, h1, h2, h3, h4 => by
    have hr := hl r (List.mem_cons_self ..)
    obtain ⟨r1, r2, r3, r4⟩ := hr
    unfold eachB at he
    rw [List.all_cons, Bool.and_eq_true] at he
    have hm0 := he.1
    simp only [bet, Bool.and_eq_true, decide_eq_true_eq] at hm0
    rw [List.length_cons, Int.natCast_add, Int.mul_add] at h4
    have b2 := mul_bd hm0.1 hm0.2 r3 r4
    have hal := addRowP_len (m := m) ho r1
    have e1 : eachB (addRow o.1 m r.1) (-(B + 1000000)) (B + 1000000) = true := eachB_getD.2 fun j hj => by
      rw [hal] at hj
      rw [addRow_at ho r1 hj]
      have := eachB_getD.1 h1 j (by omega)
      have := eachB_getD.1 r2 j (by omega)
      have := mul_bd hm0.1 hm0.2 this.1 this.2
      omega
    have e2 : eachB (addRow o.1 m r.1) (-large) large = true := eachB_mono e1 (by omega) (by omega)
    have e3 : bet (o.2 + m * r.2) (-large) large = true := by
      simp only [bet, Bool.and_eq_true, decide_eq_true_eq]; omega
    obtain ⟨t, t1, t2, t3, t4⟩ := sumFrom_spec l ms (addRow o.1 m r.1, o.2 + m * r.2) (B + 1000000) (fun r hr => hl r (List.mem_cons_of_mem _ hr)) (by simpa using hm) he.2 hal e1 (by simp only; omega) (by simp only; omega) (by omega)
    refine ⟨t, ?_, t2, fun j hj => ?_, ?_⟩
    · rw [sumFrom]
      simp only [e2, e3, Bool.and_self, if_true]
      exact t1
    · rw [t3 j hj, addRow_at ho r1 hj, wsum]
      unfold coef
      omega
    · rw [t4, wsum]; simp only; omega
theorem sum_spec {n : Nat} {l : List Row} {ms : List Int} (h0 : 1 ≤ l.length) (hl : ∀ r ∈ l, RowBd n r) (hm : ms.length = l.length) (he : eachB ms 0 1000 = true) (hL : l.length ≤ 100000) :
    ∃ r, sumF l ms = some r ∧ r.1.length = n ∧ (∀ j, j < n → r.1.getD j 0 = wsum (coef j) l ms) ∧ r.2 = wsum Prod.snd l ms := by
  have hn : (l.getD 0 ([], 0)).1.length = n := by
    cases l with
    | nil => simp at h0
    | cons r l => exact (hl r (List.mem_cons_self ..)).1
  obtain ⟨r, h1, h2, h3, h4⟩ := sumFrom_spec l ms (List.replicate n 0, 0) 0 hl hm he (by simp) (by unfold eachB; simp [bet]) (Int.le_refl _) (Int.le_refl _) (by unfold large; omega)
  refine ⟨r, ?_, h2, fun j hj => ?_, by rw [h4]; simp⟩
  · unfold sumF; rw [hn]; exact h1
  · rw [h3 j hj]
    simp [List.getD_eq_getElem?_getD, hj]
end Go.Proofs.Ytjienelkjpodkaa
namespace Go.Proofs.Ytjienelkjpodkaa

/-- what the rows of a branch are to a box -/
structure BrOk (n : Nat) (rows : List Row) (at' : List Int) (b : Box) (l : List Row) : Prop where
  len : (l.length : Int) = b.rows
  at' : ∀ (j : Nat) r a, rows[j]? = some r → at'[j]? = some a → a.toNat < l.length ∧ l.getD a.toNat nilR = r
  below : ∀ i, i < n → l.getD (b.below.getD i 0).toNat nilR = unitR n i 1 (-(b.lo.getD i 0))
  above : ∀ i, i < n → l.getD (b.above.getD i 0).toNat nilR = unitR n i (-1) (b.hi.getD i 0)
  ok : ∀ r ∈ l, RowBd n r
/-- the rows of a search are small -/
structure Fit2 (n : Nat) (rows : List Row) (at' : List Int) : Prop extends Fit n rows at' where
  n12 : n ≤ 12
  small : ∀ r ∈ rows, eachB r.1 (-80) 80 = true

theorem getD_left {l l' : List Row} {i : Nat} (h : i < l.length) : (l ++ l').getD i nilR = l.getD i nilR := by
  simp [List.getD_eq_getElem?_getD, List.getElem?_append_left h]
theorem getD_last {l : List Row} {r : Row} : (l ++ [r]).getD l.length nilR = r := by
  simp [List.getD_eq_getElem?_getD]
theorem each_idx {l : List Int} {b : Int} {n : Nat} (h : eachB l 0 (b - 1) = true) (hb : (n : Int) = b) : ∀ x ∈ l, x.toNat < n := fun x hx => by
  have := List.all_eq_true.1 h x hx
  simp only [bet, Bool.and_eq_true, decide_eq_true_eq] at this
  omega
theorem unit_bd {n i : Nat} {a c : Int} (ha : -1 ≤ a ∧ a ≤ 1) (h1 : -1000 ≤ c) (h2 : c ≤ 1000) : RowBd n (unitR n i a c) := by
  refine ⟨by simp [unitR], eachB_set ?_ (by omega) (by omega), h1, h2⟩
  unfold eachB
  rw [List.all_replicate]
  simp [bet]

theorem refute_closes {n : Nat} {rows : List Row} {at' : List Int} {b : Box} {l : List Row} {P : List Step} {r : Row} {a : Int} {k e f : Nat} (hf : Fit2 n rows at') (hb : BoxOk n b) (hl : BrOk n rows at' b l) (hr : rows[k]? = some r) (ha : at'[k]? = some a) (hg : greatestF r b < 0)
    (h1 : P[e]? = some { kind := 1, m := multF r.1 b.below b.above (addAt (List.replicate b.rows.toNat 0) a 1), next := ((e + 1 : Nat) : Int) }) (h2 : P[e + 1]? = some { kind := 4 }) (hL : l.length ≤ 100000) : closesF n P (f + 2) e l = true := by
  have hrm := List.mem_of_getElem? hr
  have h12 := hb.n12
  have hlen := hl.len
  have hrl := hf.len r hrm
  have hsm := hf.small r hrm
  obtain ⟨g1, g2⟩ := hl.at' k r a hr ha
  have hrep : (List.replicate b.rows.toNat (0 : Int)).length = l.length := by rw [List.length_replicate]; omega
  have hml : (multF r.1 b.below b.above (addAt (List.replicate b.rows.toNat 0) a 1)).length = l.length := by rw [mult_len', addAtP_len, hrep]
  have hme : eachB (multF r.1 b.below b.above (addAt (List.replicate b.rows.toNat 0) a 1)) 0 1000 = true := by
    have z : eachB (List.replicate b.rows.toNat (0 : Int)) 0 0 = true := by unfold eachB; rw [List.all_replicate]; simp [bet]
    have := mult_each r.1 b.below b.above _ _ (eachB_add z a 1 (by omega) (by omega)) (by omega)
    refine eachB_mono this (by omega) ?_
    have := absum_le r.1 80 hsm
    rw [hrl] at this
    omega
  have hB1 := each_idx hb.below hlen
  have hB2 := each_idx hb.above hlen
  have hws : ∀ f : Row → Int, wsum f l (multF r.1 b.below b.above (addAt (List.replicate b.rows.toNat 0) a 1)) = f r + msum f l r.1 b.below b.above := fun f => by
    rw [mult_sum f l r.1 b.below b.above _ hB1 hB2 (by rw [addAtP_len, hrep]), wsum_add f 1 l _ a g1 hrep, wsum_zero, g2]
    omega
  obtain ⟨t, t1, t2, t3, t4⟩ := sum_spec (by omega) hl.ok hml hme hL
  have hu : ∀ i, i < r.1.length → l.getD (b.below.getD i 0).toNat nilR = unitR n (0 + i) 1 (-(b.lo.getD i 0)) ∧ l.getD (b.above.getD i 0).toNat nilR = unitR n (0 + i) (-1) (b.hi.getD i 0) := fun i hi => by
    rw [Nat.zero_add]
    exact ⟨hl.below i (by omega), hl.above i (by omega)⟩
  have e1 := hb.wf.below
  have e2 := hb.wf.above
  have e3 := hb.wf.lo
  have e4 := hb.wf.hi
  have c1 : t.2 < 0 := by
    rw [t4, hws, msum_snd l n r.1 b.below b.above b.lo b.hi 0 (by omega) (by omega) (by omega) (by omega) hu]
    exact hg
  have c2 : (t.1.all fun a => decide (a ≤ 0)) = true := by
    rw [List.all_eq_true]
    intro y hy
    obtain ⟨j, hj⟩ := List.getElem?_of_mem hy
    have hlt := (List.getElem?_eq_some_iff.1 hj).1
    have h3 := t3 j (by omega)
    rw [hws, msum_coef l n j (by omega) r.1 b.below b.above b.lo b.hi 0 (by omega) (by omega) (by omega) hu, if_pos (Nat.zero_le _), Nat.sub_zero] at h3
    rw [List.getD_eq_getElem?_getD, hj] at h3
    unfold coef at h3
    simp only [Option.getD_some] at h3
    rw [decide_eq_true_eq]
    omega
  rw [closesF, h1]
  simp only [if_true, hml, decide_true, hme, t1, Bool.true_and, Int.toNat_natCast]
  rw [closesF, h2]
  simp [c1, c2]

theorem visit_pre (rows : List Row) (at' : List Int) (n : Nat) : ∀ (k : Nat) (b : Box) (p : List Step) (j : Nat), j < p.length → (visitF rows at' n k b p).2[j]? = p[j]?
  | 0, b, p, j, _ => rfl
  | k + 1, b, p, j, hj => by
    unfold visitF
    cases failF rows at' b with
    | some ra =>
      simp only [refuteF]
      rw [List.getElem?_append_left (by simp; omega), List.getElem?_append_left hj]
    | none =>
      simp only
      cases freeF b.lo b.hi n 0 with
      | none => rfl
      | some i =>
        simp only
        have i1 := visit_pre rows at' n k (b.low i ((b.lo.getD i 0 + b.hi.getD i 0).tdiv 2)) (p ++ [{ kind := 3, x := i, k := (b.lo.getD i 0 + b.hi.getD i 0).tdiv 2, next := p.length + 1 }])
        generalize hq : visitF rows at' n k (b.low i ((b.lo.getD i 0 + b.hi.getD i 0).tdiv 2)) (p ++ [{ kind := 3, x := i, k := (b.lo.getD i 0 + b.hi.getD i 0).tdiv 2, next := p.length + 1 }]) = q at i1
        obtain ⟨o, p2⟩ := q
        simp only [List.length_append, List.length_cons, List.length_nil] at i1
        have h1 := i1 j (by omega)
        rw [List.getElem?_append_left hj] at h1
        have hlt : j < p2.length := by
          have : (p[j]?).isSome = true := by simp [hj]
          rw [← h1] at this
          simpa using this
        cases o with
        | some x => exact h1
        | none =>
          simp only
          rw [visit_pre rows at' n k _ _ j (by rw [List.length_set]; exact hlt), List.getElem?_set_ne (by omega), h1]

/-- a search that refutes, with its steps in a list -/
structure Seg (rows : List Row) (at' : List Int) (n k : Nat) (b : Box) (p q : List Step) (P : List Step) : Prop where
  box : BoxOk n b
  wid : b.wid n < k
  res : visitF rows at' n k b p = (none, q)
  same : ∀ j, p.length ≤ j → j < q.length → P[j]? = q[j]?

inductive SegCase (rows : List Row) (at' : List Int) (n : Nat) (b : Box) (p q : List Step) (P : List Step) : Nat → Prop
  | leaf {k j : Nat} {r : Row} {a : Int} (hr : rows[j]? = some r) (ha : at'[j]? = some a) (hg : greatestF r b < 0)
      (h1 : P[p.length]? = some { kind := 1, m := multF r.1 b.below b.above (addAt (List.replicate b.rows.toNat 0) a 1), next := ((p.length + 1 : Nat) : Int) }) (h2 : P[p.length + 1]? = some { kind := 4 }) (hq : q.length = p.length + 2) : SegCase rows at' n b p q P (k + 1)
  | split {k j : Nat} {mid : Int} {p1 p2 p3 : List Step} (hj : j < n) (m1 : b.lo.getD j 0 ≤ mid) (m2 : mid < b.hi.getD j 0) (m3 : 0 ≤ mid ∧ mid ≤ 64) (hs : P[p.length]? = some { kind := 3, x := j, k := mid, next := ((p.length + 1 : Nat) : Int), els := (p2.length : Int) })
      (l1 : p1.length = p.length + 1) (l3 : p3.length = p2.length) (lo : Seg rows at' n k (b.low j mid) p1 p2 P) (hi : Seg rows at' n k (b.high j mid) p3 q P) : SegCase rows at' n b p q P (k + 1)
theorem Seg.cases {rows : List Row} {at' : List Int} {n k : Nat} {b : Box} {p q P : List Step} (_hf : Fit n rows at') (h : Seg rows at' n k b p q P) : SegCase rows at' n b p q P k := by
  obtain ⟨hb, hk, hres, hsame⟩ := h
  cases k with
  | zero => omega
  | succ k =>
    have h12 := hb.n12
    have l1 : n ≤ b.lo.length := by rw [hb.wf.lo]; exact h12
    have l2 : n ≤ b.hi.length := by rw [hb.wf.hi]; exact h12
    unfold visitF at hres
    cases hfa : failF rows at' b with
    | some ra =>
      obtain ⟨r, a⟩ := ra
      obtain ⟨j, hr, ha, hg⟩ := fail_some rows at' b r a hfa
      rw [hfa] at hres
      simp only [Prod.mk.injEq, true_and] at hres
      subst hres
      refine .leaf hr ha hg ?_ ?_ (by simp [refuteF])
      · rw [hsame p.length (Nat.le_refl _) (by simp [refuteF])]
        simp [refuteF]
      · rw [hsame (p.length + 1) (by omega) (by simp [refuteF])]
        simp [refuteF]
    | none =>
      rw [hfa] at hres
      simp only at hres
      cases hfr : freeF b.lo b.hi n 0 with
      | none => rw [hfr] at hres; simp at hres
      | some i =>
        obtain ⟨j, rfl, hj, hne, hfix⟩ := free_some b.lo b.hi n 0 i l1 l2 hfr
        rw [hfr] at hres
        simp only [Nat.zero_add] at hres
        obtain ⟨hw1, hw2, _⟩ := hb.parts hj hne
        obtain ⟨a1, a2, a3, a4⟩ := hb.mid hj hne
        have hlo := hb.lowOk hj hne
        have hhi := hb.highOk hj hne
        generalize hmid : (b.lo.getD j 0 + b.hi.getD j 0).tdiv 2 = mid at *
        have ipre := visit_pre rows at' n k (b.low j mid) (p ++ [{ kind := 3, x := j, k := mid, next := p.length + 1 }])
        have ilen := (visit_len rows at' n k (b.low j mid) (p ++ [{ kind := 3, x := j, k := mid, next := p.length + 1 }]) hlo).1
        generalize hq : visitF rows at' n k (b.low j mid) (p ++ [{ kind := 3, x := j, k := mid, next := p.length + 1 }]) = qq at ipre ilen hres
        obtain ⟨o, p2⟩ := qq
        cases o with
        | some x => simp at hres
        | none =>
          simp only at hres ipre ilen
          have hst : p2[p.length]? = some { kind := 3, x := j, k := mid, next := p.length + 1 } := by
            rw [ipre p.length (by simp)]; simp
          have hlt : p.length < p2.length := (List.getElem?_eq_some_iff.1 hst).1
          have hgd : p2.getD p.length { kind := 0 } = { kind := 3, x := j, k := mid, next := p.length + 1 } := by
            rw [List.getD_eq_getElem?_getD, hst]; rfl
          rw [hgd] at hres
          have hpre2 := visit_pre rows at' n k (b.high j mid) (p2.set p.length { kind := 3, x := j, k := mid, next := p.length + 1, els := p2.length })
          have hlen2 := (visit_len rows at' n k (b.high j mid) (p2.set p.length { kind := 3, x := j, k := mid, next := p.length + 1, els := p2.length }) hhi).1
          rw [hres] at hpre2 hlen2
          simp only [List.length_set] at hpre2 hlen2
          refine .split (p1 := p ++ [{ kind := 3, x := j, k := mid, next := p.length + 1 }]) (p2 := p2) (p3 := p2.set p.length { kind := 3, x := j, k := mid, next := p.length + 1, els := p2.length }) hj a3 a4 ⟨by omega, by omega⟩ ?_ (by simp) (by simp) ⟨hlo, by omega, hq, fun i g1 g2 => ?_⟩ ⟨hhi, by omega, hres, fun i g1 g2 => ?_⟩
          · rw [hsame p.length (Nat.le_refl _) (by omega), hpre2 p.length hlt, List.getElem?_set_self hlt]
            simp
          · simp only [List.length_append, List.length_cons, List.length_nil] at g1
            rw [hsame i (by omega) (by omega), hpre2 i g2, List.getElem?_set_ne (by omega)]
          · simp only [List.length_set] at g1
            exact hsame i (by omega) g2

theorem BrOk.low {n : Nat} {rows : List Row} {at' : List Int} {b : Box} {l : List Row} (hb : BoxOk n b) (hl : BrOk n rows at' b l) {j : Nat} {mid : Int} (hj : j < n) (hm : 0 ≤ mid ∧ mid ≤ 64) : BrOk n rows at' (b.low j mid) (l ++ [unitR n j (-1) mid]) := by
  have hlen := hl.len
  have h12 := hb.n12
  have hB1 := each_idx hb.below hlen
  have hB2 := each_idx hb.above hlen
  have w1 := hb.wf.below
  have w2 := hb.wf.above
  have w4 := hb.wf.hi
  have getm : ∀ (l : List Int) i, i < l.length → l.getD i 0 ∈ l := fun l i hi => by
    rw [List.getD_eq_getElem?_getD, List.getElem?_eq_getElem hi]; exact List.getElem_mem hi
  refine ⟨by simp [Box.low]; omega, fun i r a h1 h2 => ?_, fun i hi => ?_, fun i hi => ?_, fun r hr => ?_⟩
  · obtain ⟨g1, g2⟩ := hl.at' i r a h1 h2
    exact ⟨by simp; omega, by rw [getD_left g1]; exact g2⟩
  · show (l ++ _).getD (b.below.getD i 0).toNat nilR = unitR n i 1 (-(b.lo.getD i 0))
    rw [getD_left (hB1 _ (getm _ _ (by omega)))]
    exact hl.below i hi
  · show (l ++ _).getD ((b.above.set j b.rows).getD i 0).toNat nilR = unitR n i (-1) ((b.hi.set j mid).getD i 0)
    by_cases e : j = i
    · subst e
      rw [getD_set_eq (by omega), getD_set_eq (by omega), ← hlen, Int.toNat_natCast, getD_last]
    · rw [getD_set_ne e, getD_set_ne e, getD_left (hB2 _ (getm _ _ (by omega)))]
      exact hl.above i hi
  · rcases List.mem_append.1 hr with hr | hr
    · exact hl.ok r hr
    · rw [List.mem_singleton.1 hr]
      exact unit_bd (by omega) (by omega) (by omega)
theorem BrOk.high {n : Nat} {rows : List Row} {at' : List Int} {b : Box} {l : List Row} (hb : BoxOk n b) (hl : BrOk n rows at' b l) {j : Nat} {mid : Int} (hj : j < n) (hm : 0 ≤ mid ∧ mid ≤ 64) : BrOk n rows at' (b.high j mid) (l ++ [unitR n j 1 (-mid - 1)]) := by
  have hlen := hl.len
  have h12 := hb.n12
  have hB1 := each_idx hb.below hlen
  have hB2 := each_idx hb.above hlen
  have w1 := hb.wf.below
  have w2 := hb.wf.above
  have w4 := hb.wf.lo
  have getm : ∀ (l : List Int) i, i < l.length → l.getD i 0 ∈ l := fun l i hi => by
    rw [List.getD_eq_getElem?_getD, List.getElem?_eq_getElem hi]; exact List.getElem_mem hi
  refine ⟨by simp [Box.high]; omega, fun i r a h1 h2 => ?_, fun i hi => ?_, fun i hi => ?_, fun r hr => ?_⟩
  · obtain ⟨g1, g2⟩ := hl.at' i r a h1 h2
    exact ⟨by simp; omega, by rw [getD_left g1]; exact g2⟩
  · show (l ++ _).getD ((b.below.set j b.rows).getD i 0).toNat nilR = unitR n i 1 (-((b.lo.set j (mid + 1)).getD i 0))
    by_cases e : j = i
    · subst e
      rw [getD_set_eq (by omega), getD_set_eq (by omega), ← hlen, Int.toNat_natCast, getD_last]
      congr 1
      omega
    · rw [getD_set_ne e, getD_set_ne e, getD_left (hB1 _ (getm _ _ (by omega)))]
      exact hl.below i hi
  · show (l ++ _).getD (b.above.getD i 0).toNat nilR = unitR n i (-1) (b.hi.getD i 0)
    rw [getD_left (hB2 _ (getm _ _ (by omega)))]
    exact hl.above i hi
  · rcases List.mem_append.1 hr with hr | hr
    · exact hl.ok r hr
    · rw [List.mem_singleton.1 hr]
      exact unit_bd (by omega) (by omega) (by omega)

theorem seg_len {n : Nat} {rows : List Row} {at' : List Int} (hf : Fit n rows at') : ∀ (k : Nat) (b : Box) (p q P : List Step), Seg rows at' n k b p q P → p.length + 2 ≤ q.length := fun k => by
  induction k with
  | zero => intro b p q P h; have := h.wid; omega
  | succ k ih =>
    intro b p q P h
    cases h.cases hf with
    | leaf hr ha hg h1 h2 hq => omega
    | split hj m1 m2 m3 hs l1 l3 lo hi =>
      have := ih _ _ _ _ lo
      have := ih _ _ _ _ hi
      omega
theorem visit_closes {n : Nat} {rows : List Row} {at' : List Int} (hf : Fit2 n rows at') : ∀ (k : Nat) (b : Box) (p q P : List Step) (l : List Row) (f : Nat), Seg rows at' n k b p q P → BrOk n rows at' b l → q.length ≤ p.length + f → k + l.length ≤ 100000 → closesF n P f p.length l = true := fun k => by
  induction k with
  | zero => intro b p q P l f h; have := h.wid; omega
  | succ k ih =>
    intro b p q P l f h hl hfu hL
    have hb := h.box
    cases h.cases hf.toFit with
    | leaf hr ha hg h1 h2 hq =>
      obtain ⟨f', rfl⟩ : ∃ f', f = f' + 2 := ⟨f - 2, by omega⟩
      exact refute_closes hf hb hl hr ha hg h1 h2 (by omega)
    | @split _ j mid p1 p2 p3 hj m1 m2 m3 hs l1 l3 lo hi =>
      have q1 := seg_len hf.toFit _ _ _ _ _ lo
      have q2 := seg_len hf.toFit _ _ _ _ _ hi
      obtain ⟨f', rfl⟩ : ∃ f', f = f' + 1 := ⟨f - 1, by omega⟩
      rw [closesF, hs]
      have b1 : bet (j : Int) 0 ((n : Int) - 1) = true := by simp only [bet, Bool.and_eq_true, decide_eq_true_eq]; omega
      have b2 : bet mid (-side) side = true := by unfold side; simp only [bet, Bool.and_eq_true, decide_eq_true_eq]; exact ⟨by omega, by omega⟩
      have i1 := ih _ _ _ _ _ f' lo (hl.low hb hj m3) (by omega) (by simp; omega)
      have i2 := ih _ _ _ _ _ f' hi (hl.high hb hj m3) (by omega) (by simp; omega)
      rw [l1] at i1
      rw [l3] at i2
      simp only [b1, b2, Int.toNat_natCast, i1, i2, Bool.and_true]
      simp

/-! ### the tree -/
theorem child_ok {N e x : Nat} {par : List Int} (h1 : e < x) (h2 : x < N) (h3 : par.getD x 0 = 0) : childF N e (x : Int) par = some (par.set x 1) := by
  unfold childF
  have c : (decide ((x : Int) ≤ (e : Int)) || decide ((N : Int) ≤ (x : Int))) = false := by simp; omega
  rw [if_neg (by rw [c]; simp), Int.toNat_natCast, if_pos h3]
theorem drop_of {P : List Step} {e : Nat} {s : Step} (h : P[e]? = some s) : P.drop e = s :: P.drop (e + 1) := by
  obtain ⟨h1, h2⟩ := List.getElem?_eq_some_iff.1 h
  rw [List.drop_eq_getElem_cons h1, h2]
theorem visit_tree {n : Nat} {rows : List Row} {at' : List Int} (hf : Fit n rows at') (N : Nat) : ∀ (k : Nat) (b : Box) (p q P : List Step) (par : List Int), Seg rows at' n k b p q P → P.length = N → par.length = N → q.length ≤ N → (∀ j, p.length < j → j < q.length → par.getD j 0 = 0) →
    ∃ par', par'.length = N ∧ (∀ j, ¬ (p.length < j ∧ j < q.length) → par'.getD j 0 = par.getD j 0) ∧ (treeFrom N (P.drop q.length) q.length par' = true → treeFrom N (P.drop p.length) p.length par = true) := fun k => by
  induction k with
  | zero => intro b p q P par h; have := h.wid; omega
  | succ k ih =>
    intro b p q P par h hP hp hq hz
    cases h.cases hf with
    | leaf hr ha hg h1 h2 hq2 =>
      refine ⟨par.set (p.length + 1) 1, by simp [hp], fun j hj => ?_, fun ht => ?_⟩
      · rw [getD_set_ne (by omega)]
      · rw [hq2] at ht
        rw [drop_of h1, treeFrom]
        have s1 : ∀ ms, stepOk { kind := 1, m := ms, next := ((p.length + 1 : Nat) : Int) } = true := fun ms => by
          unfold stepOk; simp
        rw [s1, Bool.true_and, if_neg (by simp)]
        simp only
        rw [child_ok (by omega) (by omega) (hz _ (by omega) (by omega))]
        simp only
        rw [if_neg (by simp), drop_of h2, treeFrom]
        have s2 : stepOk { kind := 4 } = true := by unfold stepOk; simp
        rw [s2, Bool.true_and, if_pos rfl]
        exact ht
    | @split _ j mid p1 p2 p3 hj m1 m2 m3 hs l1 l3 lo hi =>
      have q1 := seg_len hf _ _ _ _ _ lo
      have q2 := seg_len hf _ _ _ _ _ hi
      have e0 : (par.set (p.length + 1) 1).getD p2.length 0 = 0 := by rw [getD_set_ne (by omega)]; exact hz _ (by omega) (by omega)
      obtain ⟨r1, u1, u2, u3⟩ := ih _ _ _ _ ((par.set (p.length + 1) 1).set p2.length 1) lo hP (by simp [hp]) (by omega) fun i g1 g2 => by
        rw [getD_set_ne (by omega), getD_set_ne (by omega)]; exact hz i (by omega) (by omega)
      obtain ⟨r2, v1, v2, v3⟩ := ih _ _ _ _ r1 hi hP u1 hq fun i g1 g2 => by
        rw [u2 i (by omega), getD_set_ne (by omega), getD_set_ne (by omega)]; exact hz i (by omega) (by omega)
      refine ⟨r2, v1, fun i hi' => ?_, fun ht => ?_⟩
      · rw [v2 i (by omega), u2 i (by omega), getD_set_ne (by omega), getD_set_ne (by omega)]
      · have t2 := v3 ht
        rw [l3] at t2
        have t1 := u3 t2
        rw [l1] at t1
        rw [drop_of hs, treeFrom]
        have s1 : stepOk { kind := 3, x := (j : Int), k := mid, next := ((p.length + 1 : Nat) : Int), els := (p2.length : Int) } = true := by
          unfold stepOk; simp
        rw [s1, Bool.true_and, if_neg (by simp)]
        simp only
        rw [child_ok (by omega) (by omega) (hz _ (by omega) (by omega))]
        simp only [if_true]
        rw [child_ok (by omega) (by omega) e0]
        exact t1
end Go.Proofs.Ytjienelkjpodkaa
