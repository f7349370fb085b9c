/- The search: widths and volumes of boxes. -/
import Derived.Test.YtjienelkjpodkaaP1
namespace Go.Proofs.Ytjienelkjpodkaa

def wid : List Int → List Int → Nat → Nat
  | x :: lo, y :: hi, n + 1 => (y - x).toNat + wid lo hi n
  | _, _, _ => 0
def vol : List Int → List Int → Nat → Nat
  | x :: lo, y :: hi, n + 1 => (y - x + 1).toNat * vol lo hi n
  | _, _, _ => 1
def LeB (lo hi : List Int) (n : Nat) : Prop := ∀ i, i < n → lo.getD i 0 ≤ hi.getD i 0
theorem LeB.tail {x y : Int} {lo hi : List Int} {n : Nat} (h : LeB (x :: lo) (y :: hi) (n + 1)) : x ≤ y ∧ LeB lo hi n :=
  ⟨by simpa using h 0 (by omega), fun i hi => by simpa using h (i + 1) (by omega)⟩

theorem vol_pos : ∀ (lo hi : List Int) (n : Nat), LeB lo hi n → 1 ≤ vol lo hi n
  | [], _, _, _ => by simp [vol]
  | _ :: _, [], _, _ => by simp [vol]
  | _ :: _, _ :: _, 0, _ => by simp [vol]
  | x :: lo, y :: hi, n + 1, h => by
    have ⟨h1, h2⟩ := h.tail
    have := vol_pos lo hi n h2
    unfold vol
    have h3 : 1 ≤ (y - x + 1).toNat := by omega
    exact Nat.le_trans h3 (Nat.le_mul_of_pos_right _ this)

theorem free_some : ∀ (lo hi : List Int) (n s i : Nat), n ≤ lo.length → n ≤ hi.length → freeF lo hi n s = some i → ∃ j, i = s + j ∧ j < n ∧ lo.getD j 0 ≠ hi.getD j 0 ∧ ∀ k, k < j → lo.getD k 0 = hi.getD k 0
  | [], _, 0, _, _, _, _, h => by simp [freeF] at h
  | [], _, n + 1, _, _, h, _, _ => by simp at h
  | _ :: _, [], 0, _, _, _, _, h => by simp [freeF] at h
  | _ :: _, [], n + 1, _, _, _, h, _ => by simp at h
  | _ :: _, _ :: _, 0, _, _, _, _, h => by simp [freeF] at h
  | x :: lo, y :: hi, n + 1, s, i, h1, h2, h => by
    unfold freeF at h
    by_cases e : x = y
    · rw [if_pos e] at h
      obtain ⟨j, rfl, hj, hne, hall⟩ := free_some lo hi n (s + 1) i (by simpa using h1) (by simpa using h2) h
      refine ⟨j + 1, by omega, by omega, by simpa using hne, fun k hk => ?_⟩
      cases k with
      | zero => simpa using e
      | succ k => simpa using hall k (by omega)
    · rw [if_neg e] at h
      cases h
      exact ⟨0, rfl, by omega, by simpa using e, fun k hk => by omega⟩
theorem free_none : ∀ (lo hi : List Int) (n s : Nat), n ≤ lo.length → n ≤ hi.length → freeF lo hi n s = none → ∀ k, k < n → lo.getD k 0 = hi.getD k 0
  | [], _, 0, _, _, _, _, _, hk => by omega
  | [], _, n + 1, _, h, _, _, _, _ => by simp at h
  | _ :: _, [], 0, _, _, _, _, _, hk => by omega
  | _ :: _, [], n + 1, _, _, h, _, _, _ => by simp at h
  | _ :: _, _ :: _, 0, _, _, _, _, _, hk => by omega
  | x :: lo, y :: hi, n + 1, s, h1, h2, h, k, hk => by
    unfold freeF at h
    by_cases e : x = y
    · rw [if_pos e] at h
      cases k with
      | zero => simpa using e
      | succ k => simpa using free_none lo hi n (s + 1) (by simpa using h1) (by simpa using h2) h k (by omega)
    · rw [if_neg e] at h; cases h

theorem wid_hi : ∀ (lo hi : List Int) (n i : Nat) (v : Int), n ≤ lo.length → n ≤ hi.length → i < n → lo.getD i 0 ≤ v → v < hi.getD i 0 → wid lo (hi.set i v) n < wid lo hi n
  | [], _, n, i, _, h, _, hi, _, _ => by simp at h; omega
  | _ :: _, [], n, i, _, _, h, hi, _, _ => by simp at h; omega
  | _ :: _, _ :: _, 0, i, _, _, _, hi, _, _ => by omega
  | x :: lo, y :: hi, n + 1, 0, v, _, _, _, h1, h2 => by
    simp at h1 h2
    simp only [List.set_cons_zero, wid]
    omega
  | x :: lo, y :: hi, n + 1, i + 1, v, hl, hh, h0, h1, h2 => by
    have := wid_hi lo hi n i v (by simpa using hl) (by simpa using hh) (by omega) (by simpa using h1) (by simpa using h2)
    simp only [List.set_cons_succ, wid]
    omega
theorem wid_lo : ∀ (lo hi : List Int) (n i : Nat) (v : Int), n ≤ lo.length → n ≤ hi.length → i < n → lo.getD i 0 < v → v ≤ hi.getD i 0 → wid (lo.set i v) hi n < wid lo hi n
  | [], _, n, i, _, h, _, hi, _, _ => by simp at h; omega
  | _ :: _, [], n, i, _, _, h, hi, _, _ => by simp at h; omega
  | _ :: _, _ :: _, 0, i, _, _, _, hi, _, _ => by omega
  | x :: lo, y :: hi, n + 1, 0, v, _, _, _, h1, h2 => by
    simp at h1 h2
    simp only [List.set_cons_zero, wid]
    omega
  | x :: lo, y :: hi, n + 1, i + 1, v, hl, hh, h0, h1, h2 => by
    have := wid_lo lo hi n i v (by simpa using hl) (by simpa using hh) (by omega) (by simpa using h1) (by simpa using h2)
    simp only [List.set_cons_succ, wid]
    omega
theorem vol_split : ∀ (lo hi : List Int) (n i : Nat) (v : Int), n ≤ lo.length → n ≤ hi.length → i < n → lo.getD i 0 ≤ v → v < hi.getD i 0 → vol lo (hi.set i v) n + vol (lo.set i (v + 1)) hi n = vol lo hi n
  | [], _, n, i, _, h, _, hi, _, _ => by simp at h; omega
  | _ :: _, [], n, i, _, _, h, hi, _, _ => by simp at h; omega
  | _ :: _, _ :: _, 0, i, _, _, _, hi, _, _ => by omega
  | x :: lo, y :: hi, n + 1, 0, v, _, _, _, h1, h2 => by
    simp at h1 h2
    simp only [List.set_cons_zero, vol]
    rw [← Nat.add_mul]
    congr 1
    omega
  | x :: lo, y :: hi, n + 1, i + 1, v, hl, hh, h0, h1, h2 => by
    have := vol_split lo hi n i v (by simpa using hl) (by simpa using hh) (by omega) (by simpa using h1) (by simpa using h2)
    simp only [List.set_cons_succ, vol]
    rw [← Nat.mul_add, this]

theorem mid_bounds {x y : Int} (hx : 0 ≤ x) (h : x < y) : x ≤ (x + y).tdiv 2 ∧ (x + y).tdiv 2 < y := by
  rw [Int.tdiv_eq_ediv_of_nonneg (by omega)]
  omega

theorem getD_set_ne {l : List Int} {i j : Nat} {v : Int} (h : i ≠ j) : (l.set i v).getD j 0 = l.getD j 0 := by
  simp [List.getD_eq_getElem?_getD, List.getElem?_set_ne h]
theorem getD_set_eq {l : List Int} {i : Nat} {v : Int} (h : i < l.length) : (l.set i v).getD i 0 = v := by
  simp [List.getD_eq_getElem?_getD, h]
theorem eachB_set {l : List Int} {i : Nat} {v a b : Int} (h : eachB l a b = true) (h1 : a ≤ v) (h2 : v ≤ b) : eachB (l.set i v) a b = true := by
  unfold eachB at *
  rw [List.all_eq_true] at *
  intro y hy
  rcases List.mem_or_eq_of_mem_set hy with h' | rfl
  · exact h y h'
  · simp [bet, h1, h2]
theorem eachB_mono {l : List Int} {a b c d : Int} (h : eachB l a b = true) (h1 : c ≤ a) (h2 : b ≤ d) : eachB l c d = true := by
  unfold eachB at *
  rw [List.all_eq_true] at *
  intro y hy
  have := h y hy
  simp [bet] at this ⊢
  omega

/-- what a box of a search is -/
structure BoxOk (n : Nat) (b : Box) : Prop where
  wf : b.Wf
  n12 : n ≤ 12
  lo : eachB b.lo 0 64 = true
  hi : eachB b.hi 0 64 = true
  below : eachB b.below 0 (b.rows - 1) = true
  above : eachB b.above 0 (b.rows - 1) = true
  pos : 0 ≤ b.rows
  le : LeB b.lo b.hi n

theorem low_wf {b : Box} (h : b.Wf) (i : Nat) (v : Int) : (b.low i v).Wf := ⟨h.lo, by simp [Box.low, h.hi], h.below, by simp [Box.low, h.above]⟩
theorem high_wf {b : Box} (h : b.Wf) (i : Nat) (v : Int) : (b.high i v).Wf := ⟨by simp [Box.high, h.lo], h.hi, by simp [Box.high, h.below], h.above⟩
theorem BoxOk.mid {n : Nat} {b : Box} (h : BoxOk n b) {i : Nat} (hi : i < n) (hne : b.lo.getD i 0 ≠ b.hi.getD i 0) :
    0 ≤ b.lo.getD i 0 ∧ b.hi.getD i 0 ≤ 64 ∧ b.lo.getD i 0 ≤ (b.lo.getD i 0 + b.hi.getD i 0).tdiv 2 ∧ (b.lo.getD i 0 + b.hi.getD i 0).tdiv 2 < b.hi.getD i 0 := by
  have h12 := h.n12
  have a1 : 0 ≤ b.lo.getD i 0 := by
    have : b.lo[i]? = some (b.lo.getD i 0) := by simp [show i < b.lo.length by rw [h.wf.lo]; omega]
    have := List.all_eq_true.1 h.lo _ (List.mem_of_getElem? this)
    simp only [bet, Bool.and_eq_true, decide_eq_true_eq] at this; omega
  have a2 : b.hi.getD i 0 ≤ 64 := by
    have : b.hi[i]? = some (b.hi.getD i 0) := by simp [show i < b.hi.length by rw [h.wf.hi]; omega]
    have := List.all_eq_true.1 h.hi _ (List.mem_of_getElem? this)
    simp only [bet, Bool.and_eq_true, decide_eq_true_eq] at this; omega
  have := h.le i hi
  have := mid_bounds a1 (show b.lo.getD i 0 < b.hi.getD i 0 by omega)
  exact ⟨a1, a2, this.1, this.2⟩
theorem BoxOk.lowOk {n : Nat} {b : Box} (h : BoxOk n b) {i : Nat} (hi : i < n) (hne : b.lo.getD i 0 ≠ b.hi.getD i 0) : BoxOk n (b.low i ((b.lo.getD i 0 + b.hi.getD i 0).tdiv 2)) := by
  obtain ⟨a1, a2, a3, a4⟩ := h.mid hi hne
  have h12 := h.n12
  refine ⟨low_wf h.wf _ _, h12, h.lo, eachB_set h.hi (by omega) (by omega), eachB_mono h.below (by omega) (by simp [Box.low]; try omega), eachB_set (eachB_mono h.above (by omega) (by simp [Box.low]; try omega)) h.pos (by simp [Box.low]), by have := h.pos; simp [Box.low]; omega, fun j hj => ?_⟩
  simp only [Box.low]
  by_cases e : i = j
  · subst e
    rw [getD_set_eq (by rw [h.wf.hi]; omega)]; exact a3
  · rw [getD_set_ne e]; exact h.le j hj
theorem BoxOk.highOk {n : Nat} {b : Box} (h : BoxOk n b) {i : Nat} (hi : i < n) (hne : b.lo.getD i 0 ≠ b.hi.getD i 0) : BoxOk n (b.high i ((b.lo.getD i 0 + b.hi.getD i 0).tdiv 2)) := by
  obtain ⟨a1, a2, a3, a4⟩ := h.mid hi hne
  have h12 := h.n12
  refine ⟨high_wf h.wf _ _, h12, eachB_set h.lo (by omega) (by omega), h.hi, eachB_set (eachB_mono h.below (by omega) (by simp [Box.high]; try omega)) h.pos (by simp [Box.high]), eachB_mono h.above (by omega) (by simp [Box.high]; try omega), by have := h.pos; simp [Box.high]; omega, fun j hj => ?_⟩
  simp only [Box.high]
  by_cases e : i = j
  · subst e
    rw [getD_set_eq (by rw [h.wf.lo]; omega)]; omega
  · rw [getD_set_ne e]; exact h.le j hj

def Box.wid (b : Box) (n : Nat) : Nat := Ytjienelkjpodkaa.wid b.lo b.hi n
def Box.vol (b : Box) (n : Nat) : Nat := Ytjienelkjpodkaa.vol b.lo b.hi n
theorem BoxOk.volPos {n : Nat} {b : Box} (h : BoxOk n b) : 1 ≤ b.vol n := vol_pos _ _ _ h.le
theorem BoxOk.parts {n : Nat} {b : Box} (h : BoxOk n b) {i : Nat} (hi : i < n) (hne : b.lo.getD i 0 ≠ b.hi.getD i 0) :
    (b.low i ((b.lo.getD i 0 + b.hi.getD i 0).tdiv 2)).wid n < b.wid n ∧ (b.high i ((b.lo.getD i 0 + b.hi.getD i 0).tdiv 2)).wid n < b.wid n ∧ (b.low i ((b.lo.getD i 0 + b.hi.getD i 0).tdiv 2)).vol n + (b.high i ((b.lo.getD i 0 + b.hi.getD i 0).tdiv 2)).vol n = b.vol n := by
  obtain ⟨a1, a2, a3, a4⟩ := h.mid hi hne
  have h12 := h.n12
  have l1 : n ≤ b.lo.length := by rw [h.wf.lo]; exact h12
  have l2 : n ≤ b.hi.length := by rw [h.wf.hi]; exact h12
  exact ⟨wid_hi _ _ n i _ l1 l2 hi a3 a4, wid_lo b.lo b.hi n i _ l1 l2 hi (by omega) (by omega), vol_split _ _ n i _ l1 l2 hi a3 a4⟩

theorem visit_len (rows : List Row) (at' : List Int) (n : Nat) : ∀ (k : Nat) (b : Box) (p : List Step), BoxOk n b → p.length ≤ (visitF rows at' n k b p).2.length ∧ (visitF rows at' n k b p).2.length + 1 ≤ p.length + 3 * b.vol n
  | 0, b, p, hb => by have := hb.volPos; simp only [visitF]; omega
  | k + 1, b, p, hb => by
    have hv := hb.volPos
    unfold visitF
    cases failF rows at' b with
    | some ra => simp only [refuteF, List.length_append, List.length_cons, List.length_nil]; omega
    | none =>
      simp only
      cases hf : freeF b.lo b.hi n 0 with
      | none => simp only; omega
      | some i =>
        have h12 := hb.n12
        obtain ⟨j, rfl, hj, hne, _⟩ := free_some b.lo b.hi n 0 i (by rw [hb.wf.lo]; exact h12) (by rw [hb.wf.hi]; exact h12) hf
        simp only [Nat.zero_add] at hf ⊢
        obtain ⟨_, _, hvs⟩ := hb.parts hj hne
        have i1 := visit_len rows at' n k _ (p ++ [{ kind := 3, x := j, k := (b.lo.getD j 0 + b.hi.getD j 0).tdiv 2, next := p.length + 1 }]) (hb.lowOk hj hne)
        have vp := (hb.highOk hj hne).volPos
        generalize hq : visitF rows at' n k (b.low j ((b.lo.getD j 0 + b.hi.getD j 0).tdiv 2)) (p ++ [{ kind := 3, x := j, k := (b.lo.getD j 0 + b.hi.getD j 0).tdiv 2, next := p.length + 1 }]) = q at i1
        obtain ⟨o, p2⟩ := q
        simp only [List.length_append, List.length_cons, List.length_nil] at i1
        cases o with
        | some x => simp only; omega
        | none =>
          simp only
          have i2 := visit_len rows at' n k _ (p2.set p.length { p2.getD p.length { kind := 0 } with els := p2.length }) (hb.highOk hj hne)
          simp only [List.length_set] at i2
          omega

end Go.Proofs.Ytjienelkjpodkaa
