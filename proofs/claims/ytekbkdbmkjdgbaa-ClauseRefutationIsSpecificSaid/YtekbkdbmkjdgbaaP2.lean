/- Plain laws of the search: its shape, its sizes, its decisions. -/
import Derived.Test.YtekbkdbmkjdgbaaP1
namespace Go.Proofs.Ytekbkdbmkjdgbaa

/-- what is left of the search when r of the two branches are still to come -/
def restF (n : Nat) (f : List (List Int)) (k : Nat) (d : List Int) (v : Nat) : Nat → List (List Int) → Option (List Int) × List (List Int)
  | 0, L => (none, L ++ [negs d])
  | r + 1, L =>
    match findF n f k L (d ++ [if r = 0 then (v : Int) else -(v : Int)]) with
    | (some m, L1) => (some m, L1)
    | (none, L1) => restF n f k d v r L1

theorem findF_step (n : Nat) (f : List (List Int)) (k : Nat) (L : List (List Int)) (d : List Int) :
    findF n f (k + 1) L d = match startF (f ++ L) d with
      | none => (none, L ++ [negs d])
      | some a => if firstF a n 17 1 > n then (some a, L) else restF n f k d (firstF a n 17 1) 2 L := by
  rw [findF]
  cases startF (f ++ L) d with
  | none => rfl
  | some a =>
    dsimp only
    split
    · rfl
    · show _ = restF n f k d (firstF a n 17 1) (1 + 1) L
      rw [restF]
      rw [if_neg (by omega)]
      cases findF n f k L (d ++ [-(firstF a n 17 1 : Int)]) with
      | mk o L1 =>
        cases o with
        | some m => rfl
        | none =>
          show (match findF n f k L1 (d ++ [(firstF a n 17 1 : Int)]) with
            | (some m, L2) => (some m, L2)
            | (none, L2) => (none, L2 ++ [negs d])) = restF n f k d (firstF a n 17 1) (0 + 1) L1
          rw [restF]
          rw [if_pos rfl]
          cases findF n f k L1 (d ++ [(firstF a n 17 1 : Int)]) with
          | mk o L2 =>
            cases o with
            | some m => rfl
            | none => rfl

theorem findF_len (n : Nat) (f : List (List Int)) : ∀ (k : Nat) (L : List (List Int)) (d : List Int), (findF n f k L d).2.length + 1 ≤ L.length + 2 ^ k
  | 0, L, d => by simp [findF]
  | k + 1, L, d => by
    have ih := findF_len n f k
    have hp : 1 ≤ 2 ^ k := Nat.one_le_two_pow
    rw [findF]
    cases startF (f ++ L) d with
    | none => simp only [List.length_append, List.length_singleton]; omega
    | some a =>
      dsimp only
      split
      · dsimp only; omega
      · have h1 := ih L (d ++ [-(firstF a n 17 1 : Int)])
        cases hf : findF n f k L (d ++ [-(firstF a n 17 1 : Int)]) with
        | mk o L1 =>
          rw [hf] at h1
          cases o with
          | some m => dsimp only at h1 ⊢; omega
          | none =>
            have h2 := ih L1 (d ++ [(firstF a n 17 1 : Int)])
            dsimp only at h1 ⊢
            cases hf2 : findF n f k L1 (d ++ [(firstF a n 17 1 : Int)]) with
            | mk o L2 =>
              rw [hf2] at h2
              cases o with
              | some m => dsimp only at h2 ⊢; omega
              | none => simp only [List.length_append, List.length_singleton] at h2 ⊢; omega

/-- where the search for an undecided variable stands -/
theorem firstF_stop {a : List Int} {n k v : Nat} (h : ¬ (v ≤ n ∧ a.getD v 0 ≠ 0)) : firstF a n k v = v := by
  cases k with
  | zero => rfl
  | succ k =>
    rw [firstF]
    have : (decide (v ≤ n) && a.getD v 0 != 0) = false := by
      by_cases h1 : v ≤ n
      · have : a.getD v 0 = 0 := by
          by_cases h2 : a.getD v 0 = 0
          · exact h2
          · exact absurd ⟨h1, h2⟩ h
        rw [this]; simp
      · simp [h1]
    rw [this]; rfl
theorem firstF_go {a : List Int} {n k v : Nat} (h1 : v ≤ n) (h2 : a.getD v 0 ≠ 0) : firstF a n (k + 1) v = firstF a n k (v + 1) := by
  rw [firstF]
  have : (decide (v ≤ n) && a.getD v 0 != 0) = true := by simp [h1]; simpa [List.getD_eq_getElem?_getD] using h2
  rw [this]; rfl

/-! ### the decisions -/
theorem beginF_app {l l' : List Int} : ∀ {r s : List Int} {a a' : List Int}, (∀ x ∈ r, hasB l' (-x) = false) → beginF l r a = some a' → beginF l' (r ++ s) a = beginF l' s a'
  | [], s, a, a', _, h => by simp only [beginF, Option.some.injEq] at h; rw [h]; rfl
  | x :: r, s, a, a', hx, h => by
    unfold beginF at h
    split at h
    · cases h
    · show beginF l' (x :: (r ++ s)) a = _
      rw [beginF, hx x List.mem_cons_self]
      exact beginF_app (fun y hy => hx y (List.mem_cons_of_mem _ hy)) h
theorem beginF_mem {l : List Int} : ∀ {r : List Int} {a a' : List Int}, beginF l r a = some a' → ∀ x ∈ r, ¬ -x ∈ l
  | [], _, _, _, x, hx => by cases hx
  | y :: r, a, a', h, x, hx => by
    unfold beginF at h
    split at h
    · cases h
    · rename_i hn
      rcases List.mem_cons.1 hx with rfl | hx
      · intro hm; exact hn (hasB_true.2 hm)
      · exact beginF_mem h x hx

/-- the literals of the start are true at the end -/
theorem beginF_val {l : List Int} : ∀ {r : List Int} {a a' : List Int}, Wf a → (∀ x ∈ r, wi 16 x = true) → (∀ x ∈ r, x ∈ l) → beginF l r a = some a' → (∀ x, x ∈ r ∨ (val a x = 1 ∧ ¬ -x ∈ r) → val a' x = 1)
  | [], a, a', _, _, _, h, x, hx => by
    simp only [beginF, Option.some.injEq] at h
    rcases hx with hx | hx
    · cases hx
    · rw [← h]; exact hx.1
  | y :: r, a, a', ha, hw, hl, h, x, hx => by
    have hmem := beginF_mem h
    unfold beginF at h
    split at h
    · cases h
    · refine beginF_val (ha.setL y) (fun z hz => hw z (List.mem_cons_of_mem _ hz)) (fun z hz => hl z (List.mem_cons_of_mem _ hz)) h x ?_
      have hyw := hw y List.mem_cons_self
      rcases hx with hx | ⟨hx, hn⟩
      · rcases List.mem_cons.1 hx with rfl | hx
        · exact .inr ⟨val_set_same ha hyw, fun hm => hmem x List.mem_cons_self (hl _ (List.mem_cons_of_mem _ hm))⟩
        · exact .inl hx
      · by_cases e1 : x = y
        · subst e1
          exact .inr ⟨val_set_same ha hyw, fun hm => hn (List.mem_cons_of_mem _ hm)⟩
        · have e2 : x ≠ -y := fun e => hn (by rw [e]; simp)
          exact .inr ⟨by rw [val_set_other e1 e2]; exact hx, fun hm => hn (List.mem_cons_of_mem _ hm)⟩

/-- a further decision on an undecided variable -/
theorem begin_snoc {d a : List Int} {l : Int} (hd : d.all (wi 16) = true) (hl : wi 16 l = true) (h : beginF d d zeros = some a) (h0 : val a l = 0) :
    beginF (d ++ [l]) (d ++ [l]) zeros = some (setL a l) := by
  have hv := beginF_val Wf.zeros (List.all_eq_true.1 hd) (fun _ hx => hx) h
  have n1 : ¬ l ∈ d := fun hm => by have := hv l (.inl hm); omega
  have n2 : ¬ -l ∈ d := fun hm => by
    have := hv (-l) (.inl hm)
    rw [val_neg (wi_facts hl).1] at this
    omega
  have hm := beginF_mem h
  have hl0 := (wi_facts hl).1
  rw [beginF_app (l := d) (l' := d ++ [l]) (s := [l]) (fun x hx => hasB_false.2 fun hmm => ?_) h]
  · have : hasB (d ++ [l]) (-l) = false := hasB_false.2 fun hmm => by
      rcases List.mem_append.1 hmm with h1 | h1
      · exact n2 h1
      · simp only [List.mem_singleton] at h1; omega
    rw [beginF, this, beginF]; rfl
  · rcases List.mem_append.1 hmm with h1 | h1
    · exact hm x hx h1
    · simp only [List.mem_singleton] at h1
      exact n2 (by rw [← h1]; simpa using hx)

/-! ### propagation extends -/
theorem passF_ext : ∀ {f : List (List Int)} {a a' : List Int} {ch ch' : Bool}, Lits f → Wf a → passF f a ch = some (a', ch') → ∀ x, val a x = 1 → val a' x = 1
  | [], a, a', ch, ch', _, _, h, x, hx => by
    simp only [passF, Option.some.injEq, Prod.mk.injEq] at h
    rw [← h.1]; exact hx
  | c :: f, a, a', ch, ch', hf, ha, h, x, hx => by
    have hf' : Lits f := fun c hc => hf c (List.mem_cons_of_mem _ hc)
    unfold passF at h
    cases hs : scanF a c 0 with
    | none => rw [hs] at h; exact passF_ext hf' ha h x hx
    | some u =>
      rw [hs] at h
      dsimp only at h
      by_cases hu : u = 0
      · rw [if_pos hu] at h; cases h
      · rw [if_neg hu] at h
        rcases scanF_some hs with e | ⟨e1, e2⟩
        · exact absurd e hu
        · have hw := hf c List.mem_cons_self u e1
          refine passF_ext hf' (ha.setL u) h x ?_
          rw [val_set_other]
          · exact hx
          · rintro rfl; omega
          · rintro rfl
            rw [val_neg (wi_facts hw).1] at hx
            omega
theorem propF_ext : ∀ {k : Nat} {f : List (List Int)} {a a' : List Int}, Lits f → Wf a → propF k f a = some a' → ∀ x, val a x = 1 → val a' x = 1
  | 0, _, _, _, _, _, e, _, _ => by rw [propF] at e; cases e
  | k + 1, f, a, a', hf, ha, e, x, hx => by
    rw [propF] at e
    cases hp : passF f a false with
    | none => rw [hp] at e; cases e
    | some y =>
      obtain ⟨a1, ch⟩ := y
      rw [hp] at e
      have h1 := passF_ext hf ha hp x hx
      obtain ⟨hw, _, _⟩ := passF_some hf ha hp
      cases ch with
      | false => cases e; exact h1
      | true => exact propF_ext hf hw e x h1
theorem prop_undecided {f : List (List Int)} {a a' : List Int} (hf : Lits f) (ha : Wf a) (h : propA f a = some a') {x : Int} (hx0 : x ≠ 0) (hx : val a' x = 0) : val a x = 0 := by
  have h1 := ha.val x
  have h2 : val a x ≠ 1 := fun e => by have := propF_ext hf ha h x e; omega
  have h3 : val a (-x) ≠ 1 := fun e => by
    have := propF_ext hf ha h (-x) e
    rw [val_neg hx0] at this
    omega
  rw [val_neg hx0] at h3
  omega

/-! ### what is learned stays within -/
theorem firstF_ge {a : List Int} {n : Nat} : ∀ {k v : Nat}, v ≤ firstF a n k v
  | 0, v => by rw [firstF]; exact Nat.le_refl _
  | k + 1, v => by
    rw [firstF]
    split
    · exact Nat.le_trans (Nat.le_succ v) firstF_ge
    · exact Nat.le_refl _
theorem negs_wi {d : List Int} {n : Int} (h : d.all (wi n) = true) : (negs d).all (wi n) = true := by
  rw [List.all_eq_true] at h ⊢
  intro x hx
  obtain ⟨y, hy, rfl⟩ := List.mem_map.1 hx
  exact wi_neg (h y hy)
def Within (n : Nat) (f : List (List Int)) : Prop := f.all (fun c => c.all (wi n)) = true
theorem Within.snoc {n : Nat} {f : List (List Int)} {c : List Int} (h : Within n f) (hc : c.all (wi n) = true) : Within n (f ++ [c]) := by
  unfold Within at *
  rw [List.all_append, h]
  simp [hc]
theorem Within.app {n : Nat} {f g : List (List Int)} : Within n (f ++ g) ↔ Within n f ∧ Within n g := by
  unfold Within
  rw [List.all_append, Bool.and_eq_true]
theorem snoc_wi {d : List Int} {n : Int} {l : Int} (h : d.all (wi n) = true) (hl : wi n l = true) : (d ++ [l]).all (wi n) = true := by
  rw [List.all_append, h]; simp [hl]

theorem findF_wi {n : Nat} {f : List (List Int)} : ∀ {k : Nat} {L : List (List Int)} {d : List Int}, Within n L → d.all (wi n) = true → Within n (findF n f k L d).2
  | 0, L, d, h, _ => by rw [findF]; exact h
  | k + 1, L, d, h, hd => by
    rw [findF]
    cases startF (f ++ L) d with
    | none => exact h.snoc (negs_wi hd)
    | some a =>
      dsimp only
      by_cases hv : firstF a n 17 1 > n
      · rw [if_pos hv]; exact h
      · rw [if_neg hv]
        have hge : 1 ≤ firstF a n 17 1 := firstF_ge
        have w1 : wi n (firstF a n 17 1 : Int) = true := wi_of (by omega) (by omega) (by omega)
        have w2 : wi n (-(firstF a n 17 1 : Int)) = true := wi_neg w1
        have h1 := findF_wi (k := k) (f := f) h (snoc_wi hd w2)
        cases hf : findF n f k L (d ++ [-(firstF a n 17 1 : Int)]) with
        | mk o L1 =>
          rw [hf] at h1
          cases o with
          | some m => exact h1
          | none =>
            have h2 := findF_wi (k := k) (f := f) h1 (snoc_wi hd w1)
            dsimp only at h2 ⊢
            cases hf2 : findF n f k L1 (d ++ [(firstF a n 17 1 : Int)]) with
            | mk o L2 =>
              rw [hf2] at h2
              cases o with
              | some m => exact h2
              | none => exact Within.snoc h2 (negs_wi hd)

end Go.Proofs.Ytekbkdbmkjdgbaa
