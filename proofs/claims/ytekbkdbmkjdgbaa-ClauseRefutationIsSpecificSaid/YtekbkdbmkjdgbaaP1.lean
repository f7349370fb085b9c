/- Plain laws of unit propagation: how it ends. -/
import Derived.Test.YtekbkdbmkjdgbaaDefs
namespace Go.Proofs.Ytekbkdbmkjdgbaa

def Wf (a : List Int) : Prop := a.length = 17 ∧ ∀ x ∈ a, -1 ≤ x ∧ x ≤ 1
theorem wi_facts {n l : Int} (h : wi n l = true) : l ≠ 0 ∧ l ≤ n ∧ -n ≤ l := by
  simp only [wi, Bool.and_eq_true, decide_eq_true_eq] at h; exact h
theorem wi_of {n l : Int} (h0 : l ≠ 0) (h1 : l ≤ n) (h2 : -n ≤ l) : wi n l = true := by
  simp only [wi, Bool.and_eq_true, decide_eq_true_eq]; exact ⟨h0, h1, h2⟩
theorem wi_neg {n l : Int} (h : wi n l = true) : wi n (-l) = true := by
  obtain ⟨h0, h1, h2⟩ := wi_facts h
  exact wi_of (by omega) (by omega) (by omega)
theorem wi_mono {n m l : Int} (h : wi n l = true) (hnm : n ≤ m) : wi m l = true := by
  obtain ⟨h0, h1, h2⟩ := wi_facts h
  exact wi_of (by omega) (by omega) (by omega)
theorem Wf.zeros : Wf zeros := ⟨rfl, fun x hx => by simp [Go.Proofs.Ytekbkdbmkjdgbaa.zeros] at hx; omega⟩
theorem Wf.setL {a : List Int} (h : Wf a) (l : Int) : Wf (setL a l) := by
  unfold Go.Proofs.Ytekbkdbmkjdgbaa.setL
  split
  · exact ⟨by simp [h.1], fun x hx => by
      rcases List.mem_or_eq_of_mem_set hx with h1 | h1
      · exact h.2 x h1
      · omega⟩
  · exact ⟨by simp [h.1], fun x hx => by
      rcases List.mem_or_eq_of_mem_set hx with h1 | h1
      · exact h.2 x h1
      · omega⟩
theorem Wf.getD {a : List Int} (h : Wf a) (i : Nat) : -1 ≤ a.getD i 0 ∧ a.getD i 0 ≤ 1 := by
  rw [List.getD_eq_getElem?_getD]
  cases hx : a[i]? with
  | none => simp
  | some x => exact h.2 x (List.mem_of_getElem? hx)
theorem Wf.val {a : List Int} (h : Wf a) (l : Int) : -1 ≤ val a l ∧ val a l ≤ 1 := by
  unfold Go.Proofs.Ytekbkdbmkjdgbaa.val
  split
  · have := h.getD (-l).toNat; omega
  · exact h.getD l.toNat

theorem val_neg {a : List Int} {l : Int} (h : l ≠ 0) : val a (-l) = - val a l := by
  unfold val
  by_cases hl : l < 0
  · rw [if_neg (by omega), if_pos hl]; omega
  · rw [if_pos (by omega), if_neg hl]; simp

theorem getD_set_same {a : List Int} {i : Nat} (x : Int) (h : i < a.length) : (a.set i x).getD i 0 = x := by
  simp [List.getD_eq_getElem?_getD, h]
theorem getD_set_ne {a : List Int} {i j : Nat} (x : Int) (h : i ≠ j) : (a.set i x).getD j 0 = a.getD j 0 := by
  simp [List.getD_eq_getElem?_getD, List.getElem?_set_ne h]

theorem val_set_same {a : List Int} {l : Int} (ha : Wf a) (hl : wi 16 l = true) : val (setL a l) l = 1 := by
  obtain ⟨h0, h1, h2⟩ := wi_facts hl
  have hlen := ha.1
  unfold val setL
  by_cases hn : l < 0
  · rw [if_pos hn, if_pos hn, getD_set_same _ (by omega)]; rfl
  · rw [if_neg hn, if_neg hn, getD_set_same _ (by omega)]
theorem val_set_neg {a : List Int} {l : Int} (ha : Wf a) (hl : wi 16 l = true) : val (setL a l) (-l) = -1 := by
  rw [val_neg (wi_facts hl).1, val_set_same ha hl]
theorem val_set_other {a : List Int} {l x : Int} (h1 : x ≠ l) (h2 : x ≠ -l) : val (setL a l) x = val a x := by
  unfold val setL
  by_cases hn : l < 0
  · rw [if_pos hn]
    by_cases hx : x < 0
    · rw [if_pos hx, if_pos hx, getD_set_ne _ (by omega)]
    · rw [if_neg hx, if_neg hx, getD_set_ne _ (by omega)]
  · rw [if_neg hn]
    by_cases hx : x < 0
    · rw [if_pos hx, if_pos hx, getD_set_ne _ (by omega)]
    · rw [if_neg hx, if_neg hx, getD_set_ne _ (by omega)]

/-- how many are undecided -/
def zc (a : List Int) : Nat := a.countP (· == 0)
theorem zc_le {a : List Int} (h : Wf a) : zc a ≤ 17 := by
  have := List.countP_le_length (p := fun x : Int => x == 0) (l := a)
  rw [h.1] at this; exact this
theorem zc_setAt {a : List Int} {i : Nat} {x : Int} (hi : i < a.length) (h0 : a.getD i 0 = 0) (hx : x ≠ 0) : zc (a.set i x) < zc a := by
  have hg : a[i] = 0 := by simpa [List.getD_eq_getElem?_getD, hi] using h0
  have hpos : 0 < zc a := by
    unfold zc; rw [List.countP_pos_iff]; exact ⟨a[i], List.getElem_mem hi, by simp [hg]⟩
  unfold zc at *
  rw [List.countP_set hi]
  simp [hg, hx]
  omega
theorem zc_setL {a : List Int} {u : Int} (ha : Wf a) (hu : wi 16 u = true) (h0 : val a u = 0) : zc (setL a u) < zc a := by
  obtain ⟨h1, h2, h3⟩ := wi_facts hu
  have hlen := ha.1
  unfold val at h0
  unfold setL
  by_cases hn : u < 0
  · rw [if_pos hn] at h0 ⊢
    exact zc_setAt (by omega) (by omega) (by omega)
  · rw [if_neg hn] at h0 ⊢
    exact zc_setAt (by omega) h0 (by omega)

/-- what a scan that does not pass over hands back -/
theorem scanF_some {a : List Int} : ∀ {c : List Int} {u0 u : Int}, scanF a c u0 = some u → u = u0 ∨ (u ∈ c ∧ val a u = 0)
  | [], u0, u, h => by simp only [scanF, Option.some.injEq] at h; exact .inl h.symm
  | l :: r, u0, u, h => by
    unfold scanF at h
    split at h
    · cases h
    · rcases scanF_some h with e | ⟨e1, e2⟩
      · by_cases hv : val a l == 0
        · rw [if_pos hv] at e
          subst e
          exact .inr ⟨List.mem_cons_self, by simpa using hv⟩
        · rw [if_neg hv] at e; exact .inl e
      · exact .inr ⟨List.mem_cons_of_mem _ e1, e2⟩

def Lits (f : List (List Int)) : Prop := ∀ c ∈ f, ∀ l ∈ c, wi 16 l = true
theorem Lits.of_all {f : List (List Int)} (h : f.all (fun l => l.all (wi 16)) = true) : Lits f := fun c hc l hl => by
  rw [List.all_eq_true] at h
  exact List.all_eq_true.1 (h c hc) l hl

theorem passF_some : ∀ {f : List (List Int)} {a a' : List Int} {ch ch' : Bool}, Lits f → Wf a → passF f a ch = some (a', ch') → Wf a' ∧ zc a' ≤ zc a ∧ (ch' = true → ch = true ∨ zc a' < zc a)
  | [], a, a', ch, ch', _, ha, h => by
    simp only [passF, Option.some.injEq, Prod.mk.injEq] at h
    obtain ⟨rfl, rfl⟩ := h
    exact ⟨ha, Nat.le_refl _, fun h => .inl h⟩
  | c :: f, a, a', ch, ch', hf, ha, h => by
    have hf' : Lits f := fun c hc => hf c (List.mem_cons_of_mem _ hc)
    unfold passF at h
    cases hs : scanF a c 0 with
    | none => rw [hs] at h; exact passF_some hf' ha h
    | some u =>
      rw [hs] at h
      dsimp only at h
      by_cases hu : u = 0
      · rw [if_pos hu] at h; cases h
      · rw [if_neg hu] at h
        rcases scanF_some hs with e | ⟨e1, e2⟩
        · exact absurd e hu
        · have hw := hf c List.mem_cons_self u e1
          have hz := zc_setL ha hw e2
          obtain ⟨h1, h2, h3⟩ := passF_some hf' (ha.setL u) h
          exact ⟨h1, by omega, fun _ => .inr (by omega)⟩

theorem nextP_congr {g g' : List Int → Option (List Int)} {r : Option (List Int × Bool)} (h : ∀ a', r = some (a', true) → g a' = g' a') : nextP g r = nextP g' r := by
  cases r with
  | none => rfl
  | some x =>
    obtain ⟨a', ch⟩ := x
    cases ch with
    | false => rfl
    | true => exact h a' rfl

theorem propF_fuel : ∀ {k k' : Nat} {f : List (List Int)} {a : List Int}, Lits f → Wf a → zc a < k → zc a < k' → propF k f a = propF k' f a
  | 0, _, _, _, _, _, h, _ => absurd h (Nat.not_lt_zero _)
  | _ + 1, 0, _, _, _, _, _, h => absurd h (Nat.not_lt_zero _)
  | k + 1, k' + 1, f, a, hf, ha, h, h' => by
    rw [propF, propF]
    refine nextP_congr fun a' hp => ?_
    obtain ⟨h1, h2, h3⟩ := passF_some hf ha hp
    have : zc a' < zc a := by
      rcases h3 rfl with e | e
      · cases e
      · exact e
    exact propF_fuel hf h1 (by omega) (by omega)

/-- one round of propagation -/
theorem propA_step {f : List (List Int)} {a : List Int} (hf : Lits f) (ha : Wf a) : propA f a = nextP (propA f) (passF f a false) := by
  have h17 := zc_le ha
  have e : propA f a = nextP (propF 17 f) (passF f a false) := by unfold propA; rw [propF]
  rw [e]
  refine nextP_congr fun a' hp => ?_
  obtain ⟨h1, h2, h3⟩ := passF_some hf ha hp
  have : zc a' < zc a := by
    rcases h3 rfl with e | e
    · cases e
    · exact e
  exact propF_fuel hf h1 (by omega) (by omega)

theorem beginF_wf {l : List Int} : ∀ {r a a' : List Int}, Wf a → beginF l r a = some a' → Wf a'
  | [], a, a', h, e => by simp only [beginF, Option.some.injEq] at e; rw [← e]; exact h
  | x :: r, a, a', h, e => by
    unfold beginF at e
    split at e
    · cases e
    · exact beginF_wf (h.setL x) e
theorem propF_wf : ∀ {k : Nat} {f : List (List Int)} {a a' : List Int}, Lits f → Wf a → propF k f a = some a' → Wf a'
  | 0, _, _, _, _, _, e => by rw [propF] at e; cases e
  | k + 1, f, a, a', hf, ha, e => by
    rw [propF] at e
    cases hp : passF f a false with
    | none => rw [hp] at e; cases e
    | some x =>
      obtain ⟨a1, ch⟩ := x
      rw [hp] at e
      obtain ⟨h1, _, _⟩ := passF_some hf ha hp
      cases ch with
      | false => cases e; exact h1
      | true => exact propF_wf hf h1 e
theorem getD_wf {r : Option (List Int)} (h : ∀ a, r = some a → Wf a) : Wf (r.getD zeros) := by
  cases r with
  | none => exact Wf.zeros
  | some a => exact h a rfl
theorem litsF_zeros : litsF zeros 0 = [] := by decide

end Go.Proofs.Ytekbkdbmkjdgbaa
