/- Plain laws: the reference's counting through the assignments. -/
import Derived.Test.YtekbkdbmkjdgbaaP3
namespace Go.Proofs.Ytekbkdbmkjdgbaa

def rank : List Bool → Nat
  | [] => 0
  | b :: r => (if b then 2 ^ r.length else 0) + rank r

def succL : List Bool → List Bool × Bool
  | [] => ([], false)
  | b :: r => if (succL r).2 then (b :: (succL r).1, true) else if b then (false :: (succL r).1, false) else (true :: (succL r).1, true)

theorem rank_lt : ∀ (m : List Bool), rank m < 2 ^ m.length
  | [] => by simp [rank]
  | b :: r => by
    have := rank_lt r
    rw [rank, List.length_cons, Nat.pow_succ]
    cases b <;> simp <;> omega
theorem succL_length : ∀ (m : List Bool), (succL m).1.length = m.length
  | [] => rfl
  | b :: r => by
    have := succL_length r
    rw [succL]
    split
    · simp [this]
    · split <;> simp [this]
theorem succL_false : ∀ {m : List Bool}, (succL m).2 = false → rank m + 1 = 2 ^ m.length ∧ rank (succL m).1 = 0
  | [], _ => ⟨rfl, rfl⟩
  | b :: r, h => by
    rw [succL] at h
    have hl := succL_length r
    cases hs : (succL r).2 with
    | true => rw [hs] at h; simp at h
    | false =>
      rw [hs] at h
      cases b with
      | false => simp at h
      | true =>
        obtain ⟨i1, i2⟩ := succL_false hs
        rw [succL, hs]
        simp only [rank, List.length_cons, Nat.pow_succ]
        simp [rank, i2]
        omega
theorem succL_true : ∀ {m : List Bool}, (succL m).2 = true → rank (succL m).1 = rank m + 1
  | [], h => by simp [succL] at h
  | b :: r, h => by
    rw [succL] at h ⊢
    have hl := succL_length r
    cases hs : (succL r).2 with
    | true =>
      have := succL_true hs
      simp [rank, this, hl]
      omega
    | false =>
      obtain ⟨i1, i2⟩ := succL_false hs
      cases b with
      | true => rw [hs] at h; simp at h
      | false => simp [rank, i2, hl, i1]
theorem succL_snoc : ∀ (p : List Bool) (b : Bool), succL (p ++ [b]) = if b then ((succL p).1 ++ [false], (succL p).2) else (p ++ [true], true)
  | [], b => by cases b <;> rfl
  | a :: p, b => by
    rw [List.cons_append, succL, succL_snoc p b, succL]
    cases b with
    | false => rfl
    | true =>
      cases hs : (succL p).2 with
      | true => simp
      | false => cases a <;> simp
theorem nextF_succ : ∀ (i : Nat) (p t : List Bool), p.length = i → nextF (p ++ t) i = ((succL p).1 ++ t, (succL p).2)
  | 0, p, t, h => by
    have : p = [] := List.eq_nil_of_length_eq_zero h
    subst this; rfl
  | i + 1, p, t, h => by
    have hne : p ≠ [] := by intro e; subst e; simp at h
    obtain ⟨q, b, rfl⟩ : ∃ q b, p = q ++ [b] := ⟨p.dropLast, p.getLast hne, (List.dropLast_concat_getLast hne).symm⟩
    have hq : q.length = i := by simp at h; exact h
    have hget : (q ++ [b] ++ t).getD i false = b := by
      simp [List.getD_eq_getElem?_getD, ← hq]
    have hset : ∀ x, (q ++ [b] ++ t).set i x = q ++ (x :: t) := fun x => by
      rw [List.append_assoc, ← hq, List.set_append_right _ _ (Nat.le_refl _)]; simp
    rw [nextF, hget, hset, hset, succL_snoc]
    cases b with
    | true =>
      rw [if_pos rfl, if_pos rfl, nextF_succ i q (false :: t) hq]
      simp
    | false => simp
theorem nextF_eq (m : List Bool) : nextF m m.length = succL m := by
  have := nextF_succ m.length m [] rfl
  simpa using this

end Go.Proofs.Ytekbkdbmkjdgbaa
