/- Plain facts of closes. -/
import Derived.Test.YtjienelkjpodkaaW22
namespace Go.Proofs.Ytjienelkjpodkaa
open Go.RowKit

structure TreeOk (p : List Step) : Prop where
  ok : ∀ (k : Nat) (s : Step), p[k]? = some s → stepOk s = true ∧ (s.kind ≠ 4 → (k : Int) < s.next ∧ s.next < p.length) ∧ (s.kind = 3 → (k : Int) < s.els ∧ s.els < p.length)
theorem child_lt {n k : Nat} {x : Int} {par par1 : List Int} (h : childF n k x par = some par1) : (k : Int) < x ∧ x < n := by
  unfold childF at h
  split at h
  · cases h
  · rename_i hc
    simp at hc
    omega
theorem treeFrom_ok {n : Nat} : ∀ (p : List Step) (k : Nat) (par : List Int), treeFrom n p k par = true → ∀ (j : Nat) (s : Step), p[j]? = some s → stepOk s = true ∧ (s.kind ≠ 4 → ((k + j : Nat) : Int) < s.next ∧ s.next < n) ∧ (s.kind = 3 → ((k + j : Nat) : Int) < s.els ∧ s.els < n)
  | [], k, par, h, j, s, hs => by simp at hs
  | s0 :: p, k, par, h, j, s, hs => by
    have hso : stepOk s0 = true := by
      rw [treeFrom] at h
      simp only [Bool.and_eq_true] at h
      exact h.1
    have key : ∀ par', treeFrom n p (k + 1) par' = true → ∀ j', j = j' + 1 → stepOk s = true ∧ (s.kind ≠ 4 → ((k + j : Nat) : Int) < s.next ∧ s.next < n) ∧ (s.kind = 3 → ((k + j : Nat) : Int) < s.els ∧ s.els < n) := fun par' hp j' hj => by
      subst hj
      have := treeFrom_ok p (k + 1) par' hp j' s (by simpa using hs)
      rw [show k + 1 + j' = k + (j' + 1) by omega] at this
      exact this
    by_cases h4 : s0.kind = 4
    · rw [tree_close hso h4] at h
      cases j with
      | zero =>
        have e : s0 = s := by simpa using hs
        subst e
        exact ⟨hso, fun h' => absurd h4 h', fun h' => by omega⟩
      | succ j' => exact key par h j' rfl
    · cases hc : childF n k s0.next par with
      | none => rw [tree_none h4 hc] at h; cases h
      | some par1 =>
        by_cases h3 : s0.kind = 3
        · cases hc2 : childF n k s0.els par1 with
          | none => rw [tree_two_none h3 hc hc2] at h; cases h
          | some par2 =>
            rw [tree_two hso h3 hc hc2] at h
            cases j with
            | zero =>
              have e : s0 = s := by simpa using hs
              subst e
              exact ⟨hso, fun _ => child_lt hc, fun _ => child_lt hc2⟩
            | succ j' => exact key par2 h j' rfl
        · rw [tree_one hso h4 h3 hc] at h
          cases j with
          | zero =>
            have e : s0 = s := by simpa using hs
            subst e
            exact ⟨hso, fun _ => child_lt hc, fun h' => absurd h' h3⟩
          | succ j' => exact key par1 h j' rfl
theorem tree_ok {p : List Step} (h : treeF p = true) : TreeOk p := ⟨fun k s hs => by
  have := treeFrom_ok p 0 _ h k s hs
  rwa [Nat.zero_add] at this⟩
theorem stepOk_kind {s : Step} (h : stepOk s = true) : s.kind = 1 ∨ s.kind = 2 ∨ s.kind = 3 ∨ s.kind = 4 := by
  by_cases h1 : s.kind = 1
  · exact .inl h1
  by_cases h2 : s.kind = 2
  · exact .inr (.inl h2)
  by_cases h3 : s.kind = 3
  · exact .inr (.inr (.inl h3))
  by_cases h4 : s.kind = 4
  · exact .inr (.inr (.inr h4))
  rw [stepOk_false h1 h2 h3 h4] at h; cases h

theorem sumFrom_ok {n : Nat} : ∀ (l : List Row) (ms : List Int) (o r : Row), RowsOk n l → (o.1.length = n ∧ eachB o.1 (-large) large = true ∧ -large ≤ o.2 ∧ o.2 ≤ large) → sumFrom l ms o = some r → r.1.length = n ∧ eachB r.1 (-large) large = true ∧ -large ≤ r.2 ∧ r.2 ≤ large
  | [], ms, o, r, _, ho, h => by
    have e : o = r := Option.some.inj (by simpa [sumFrom] using h)
    subst e; exact ho
  | x :: l, [], o, r, _, ho, h => by
    have e : o = r := Option.some.inj (by simpa [sumFrom] using h)
    subst e; exact ho
  | x :: l, m :: ms, o, r, hl, ho, h => by
    cases h1 : eachB (addRow o.1 m x.1) (-large) large with
    | false => rw [sum_step_none (by rw [h1]; rfl)] at h; cases h
    | true =>
      cases h2 : bet (o.2 + m * x.2) (-large) large with
      | false => rw [sum_step_none (by rw [h2]; simp)] at h; cases h
      | true =>
        rw [sum_step h1 h2] at h
        have hx := hl x List.mem_cons_self
        have hb := bet_iff.1 h2
        exact sumFrom_ok l ms _ r (fun y hy => hl y (List.mem_cons_of_mem _ hy)) ⟨by rw [addRow_len (by rw [ho.1, hx.1]), ho.1], h1, hb.1, hb.2⟩ h
theorem sum_ok {n : Nat} {l : List Row} {ms : List Int} {r : Row} (hl : RowsOk n l) (h0 : 1 ≤ l.length) (h : sumF l ms = some r) : r.1.length = n ∧ eachB r.1 (-large) large = true ∧ -large ≤ r.2 ∧ r.2 ≤ large := by
  unfold sumF at h
  refine sumFrom_ok l ms _ r hl ⟨?_, ?_, ?_, ?_⟩ h
  · cases l with
    | nil => simp at h0
    | cons x l => simpa using (hl x List.mem_cons_self).1
  · unfold eachB; rw [List.all_replicate]; simp [bet, large]
  · show -large ≤ 0; decide
  · show 0 ≤ large; decide
theorem cut_ok {n : Nat} {r : Row} {d : Int} (hd : 2 ≤ d) (hr : r.1.length = n ∧ eachB r.1 (-large) large = true ∧ -large ≤ r.2 ∧ r.2 ≤ large) : (cutR r d).1.length = n ∧ eachB (cutR r d).1 (-large) large = true ∧ -large ≤ (cutR r d).2 ∧ (cutR r d).2 ≤ large := by
  obtain ⟨h1, h2, h3, h4⟩ := hr
  have hq : (r.2.tdiv d).natAbs ≤ r.2.natAbs / 2 := by
    rw [Int.natAbs_tdiv]
    exact Nat.div_le_div_left (by omega) (by omega)
  refine ⟨by simpa [cutR] using h1, ?_, ?_, ?_⟩
  · unfold eachB cutR
    rw [List.all_eq_true]
    intro x hx
    obtain ⟨a, ha, rfl⟩ := List.mem_map.1 hx
    have := bet_iff.1 (List.all_eq_true.1 h2 a ha)
    have := Int.natAbs_tdiv_le_natAbs a d
    exact bet_iff.2 (by omega)
  · show -large ≤ floorF r.2 d
    unfold floorF large at *
    split <;> omega
  · show floorF r.2 d ≤ large
    unfold floorF large at *
    split <;> omega
theorem unit_ok {n i : Nat} {a c : Int} (ha : -1 ≤ a ∧ a ≤ 1) (hc : -1048577 ≤ c ∧ c ≤ 1048577) : (unitR n i a c).1.length = n ∧ eachB (unitR n i a c).1 (-large) large = true ∧ -large ≤ (unitR n i a c).2 ∧ (unitR n i a c).2 ≤ large := by
  refine ⟨by simp [unitR], ?_, ?_, ?_⟩
  · refine eachB_set ?_ (by unfold large; omega) (by unfold large; omega)
    unfold eachB; rw [List.all_replicate]; simp [bet, large]
  · show -large ≤ c; unfold large; omega
  · show c ≤ large; unfold large; omega

section
variable {n fu k : Nat} {p : List Step} {s : Step} {l : List Row}
theorem closes_1 (hs : p[k]? = some s) (h : s.kind = 1) : closesF n p (fu + 1) k l = (decide (s.m.length = l.length) && (eachB s.m 0 1000 && match sumF l s.m with | none => false | some r => closesF n p fu s.next.toNat (l ++ [r]))) := by
  rw [closesF, hs]; simp [h]; cases sumF l s.m <;> rfl
theorem closes_2 (hs : p[k]? = some s) (h : s.kind = 2) : closesF n p (fu + 1) k l = (bet s.r 0 (l.length - 1) && (decide (2 ≤ s.d) && ((l.getD s.r.toNat ([], 0)).1.all (fun a => a.tmod s.d == 0) && closesF n p fu s.next.toNat (l ++ [cutR (l.getD s.r.toNat ([], 0)) s.d])))) := by
  rw [closesF, hs]; simp [h]
theorem closes_3 (hs : p[k]? = some s) (h : s.kind = 3) : closesF n p (fu + 1) k l = (bet s.x 0 (n - 1) && (bet s.k (-side) side && (closesF n p fu s.next.toNat (l ++ [unitR n s.x.toNat (-1) s.k]) && closesF n p fu s.els.toNat (l ++ [unitR n s.x.toNat 1 (-s.k - 1)])))) := by
  rw [closesF, hs]; simp [h]
theorem closes_4 {r : Row} (hs : p[k]? = some s) (h : s.kind = 4) (hr : l[l.length - 1]? = some r) : closesF n p (fu + 1) k l = (decide (r.2 < 0) && r.1.all (fun a => decide (a ≤ 0))) := by
  rw [closesF, hs]
  have : l.getLast? = some r := by rw [List.getLast?_eq_getElem?]; exact hr
  simp [h, this]
end
end Go.Proofs.Ytjienelkjpodkaa
