/- Plain laws: the reference's sets of literals and the program's assignments go side by side. -/
import Derived.Test.YtekbkdbmkjdgbaaP2
namespace Go.Proofs.Ytekbkdbmkjdgbaa

/-- a set of literals and an assignment say the same -/
structure Rel (s a : List Int) : Prop where
  wf : Wf a
  lit : ∀ x ∈ s, wi 16 x = true
  same : ∀ x, wi 16 x = true → (x ∈ s ↔ val a x = 1)
  zero : a.getD 0 0 = 0

theorem Rel.start : Rel [] zeros := ⟨Wf.zeros, by simp, fun x _ => by
  have : val zeros x = 0 := by
    have h : ∀ i, zeros.getD i 0 = 0 := fun i => by
      simp only [zeros, List.getD_eq_getElem?_getD, List.getElem?_replicate]
      split <;> rfl
    unfold val; split
    · rw [h]; rfl
    · exact h _
  simp [this], rfl⟩

theorem setL_zero {a : List Int} {l : Int} (hl : wi 16 l = true) (h : a.getD 0 0 = 0) : (setL a l).getD 0 0 = 0 := by
  obtain ⟨h0, _, _⟩ := wi_facts hl
  unfold setL
  split
  · rw [getD_set_ne _ (by omega)]; exact h
  · rw [getD_set_ne _ (by omega)]; exact h

theorem Rel.hasT {s a : List Int} (h : Rel s a) {x : Int} (hx : wi 16 x = true) : hasB s x = decide (0 < val a x) := by
  have hv := h.wf.val x
  by_cases e : val a x = 1
  · rw [hasB_true.2 ((h.same x hx).2 e), e]; rfl
  · rw [hasB_false.2 (fun hm => e ((h.same x hx).1 hm))]
    symm; simp; omega
theorem Rel.hasN {s a : List Int} (h : Rel s a) {x : Int} (hx : wi 16 x = true) : hasB s (-x) = decide (val a x < 0) := by
  rw [h.hasT (wi_neg hx), val_neg (wi_facts hx).1]
  by_cases e : val a x < 0
  · rw [decide_eq_true e, decide_eq_true (by omega)]
  · rw [decide_eq_false e, decide_eq_false (by omega)]

theorem Rel.add {s a : List Int} (h : Rel s a) {x : Int} (hx : wi 16 x = true) (h0 : val a x = 0) : Rel (s ++ [x]) (setL a x) :=
  ⟨h.wf.setL x, fun y hy => by
    rcases List.mem_append.1 hy with h1 | h1
    · exact h.lit y h1
    · simp only [List.mem_singleton] at h1; rw [h1]; exact hx,
   fun y hy => by
    rw [List.mem_append, List.mem_singleton]
    by_cases e1 : y = x
    · subst e1; simp [val_set_same h.wf hx]
    · by_cases e2 : y = -x
      · subst e2
        rw [val_set_neg h.wf hx]
        constructor
        · rintro (h1 | h1)
          · have := (h.same _ hy).1 h1
            rw [val_neg (wi_facts hx).1] at this; omega
          · exact absurd h1 e1
        · intro h1; omega
      · rw [val_set_other e1 e2, ← h.same y hy]
        constructor
        · rintro (h1 | h1)
          · exact h1
          · exact absurd h1 e1
        · exact .inl,
   setL_zero hx h.zero⟩

theorem unit_scan {s a : List Int} (h : Rel s a) : ∀ {c : List Int} {u : Int}, (∀ x ∈ c, wi 16 x = true) →
    unitF s c u = match scanF a c u with
      | none => (0, false)
      | some v => (v, v == 0)
  | [], u, _ => rfl
  | l :: r, u, hc => by
    have hl := hc l List.mem_cons_self
    have ih := fun u => unit_scan h (c := r) (u := u) fun x hx => hc x (List.mem_cons_of_mem _ hx)
    have hv := h.wf.val l
    rw [unitF, scanF, h.hasT hl, h.hasN hl]
    have hcases : val a l = 1 ∨ val a l = 0 ∨ val a l = -1 := by omega
    rcases hcases with e | e | e
    · rw [e]; rfl
    · rw [e]
      by_cases hu : u = 0
      · subst hu; simpa using ih l
      · by_cases hul : u = l
        · subst hul; simpa using ih u
        · have b1 : (u != 0) = true := by simpa using hu
          have b2 : (u != l) = true := by simpa using hul
          rw [b1, b2]; rfl
    · rw [e]
      have := ih u
      simpa using this

theorem rpass_pass : ∀ {f : List (List Int)} {s a : List Int} {ch : Bool}, Lits f → Rel s a →
    match rpassF f s ch, passF f a ch with
    | none, none => True
    | some (s', b), some (a', b') => b = b' ∧ Rel s' a' ∧ s'.length + zc a' ≤ s.length + zc a
    | _, _ => False
  | [], s, a, ch, _, h => ⟨rfl, h, Nat.le_refl _⟩
  | c :: f, s, a, ch, hf, h => by
    have hf' : Lits f := fun c hc => hf c (List.mem_cons_of_mem _ hc)
    have hus := unit_scan h (c := c) (u := 0) (hf c List.mem_cons_self)
    rw [rpassF, passF]
    cases hs : scanF a c 0 with
    | none =>
      rw [hs] at hus
      rw [hus]
      exact rpass_pass hf' h
    | some u =>
      rw [hs] at hus
      dsimp only at hus
      rw [hus]
      by_cases hu : u = 0
      · subst hu; exact trivial
      · have b1 : (u == 0) = false := by simpa using hu
        rw [b1]
        dsimp only
        rw [if_neg (by simp), if_neg hu, if_neg hu]
        rcases scanF_some hs with e | ⟨e1, e2⟩
        · exact absurd e hu
        · have hw := hf c List.mem_cons_self u e1
          have ih := rpass_pass (ch := true) hf' (h.add hw e2)
          have hz := zc_setL h.wf hw e2
          revert ih
          cases rpassF f (s ++ [u]) true with
          | none => cases passF f (setL a u) true <;> exact fun x => x
          | some x =>
            cases passF f (setL a u) true with
            | none => exact fun x => x
            | some y =>
              rintro ⟨i1, i2, i3⟩
              refine ⟨i1, i2, ?_⟩
              simp at i3
              omega

theorem rprop_prop : ∀ {k : Nat} {f : List (List Int)} {s a : List Int}, Lits f → Rel s a →
    match rpropF k f s, propF k f a with
    | none, none => True
    | some s', some a' => Rel s' a' ∧ s'.length + zc a' ≤ s.length + zc a
    | _, _ => False
  | 0, _, _, _, _, _ => trivial
  | k + 1, f, s, a, hf, h => by
    have hp := rpass_pass (ch := false) hf h
    rw [rpropF, propF]
    revert hp
    cases rpassF f s false with
    | none =>
      cases passF f a false with
      | none => exact fun _ => trivial
      | some y => exact fun x => x.elim
    | some x =>
      cases passF f a false with
      | none => exact fun x => x.elim
      | some y =>
        obtain ⟨s', b⟩ := x
        obtain ⟨a', b'⟩ := y
        rintro ⟨rfl, i2, i3⟩
        cases b with
        | false => exact ⟨i2, i3⟩
        | true =>
          have ih := rprop_prop (k := k) hf i2
          show match rpropF k f s', propF k f a' with
            | none, none => True
            | some s', some a' => Rel s' a' ∧ s'.length + zc a' ≤ s.length + zc a
            | _, _ => False
          revert ih
          cases rpropF k f s' with
          | none => cases propF k f a' <;> exact fun x => x
          | some x =>
            cases propF k f a' with
            | none => exact fun x => x
            | some y => exact fun ⟨j1, j2⟩ => ⟨j1, Nat.le_trans j2 i3⟩

/-- fuel: as for the assignments -/
theorem rpropF_fuel {k k' : Nat} {f : List (List Int)} {s a : List Int} (hf : Lits f) (h : Rel s a) (hk : zc a < k) (hk' : zc a < k') : rpropF k f s = rpropF k' f s := by
  induction k generalizing k' s a with
  | zero => omega
  | succ k ih =>
    cases k' with
    | zero => omega
    | succ k' =>
      rw [rpropF, rpropF]
      refine nextP_congr fun s' hp => ?_
      have hpp := rpass_pass (ch := false) hf h
      rw [hp] at hpp
      cases hq : passF f a false with
      | none => rw [hq] at hpp; exact hpp.elim
      | some y =>
        obtain ⟨a', b'⟩ := y
        rw [hq] at hpp
        obtain ⟨hb, i2, _⟩ := hpp
        subst hb
        obtain ⟨_, _, h3⟩ := passF_some hf h.wf hq
        have : zc a' < zc a := by
          rcases h3 rfl with e | e
          · cases e
          · exact e
        exact ih i2 (by omega) (by omega)

theorem rpropA_step {f : List (List Int)} {s a : List Int} (hf : Lits f) (h : Rel s a) : rpropA f s = nextP (rpropA f) (rpassF f s false) := by
  have h17 := zc_le h.wf
  have e : rpropA f s = nextP (rpropF 17 f) (rpassF f s false) := by unfold rpropA; rw [rpropF]
  rw [e]
  refine nextP_congr fun s' hp => ?_
  have hpp := rpass_pass (ch := false) hf h
  rw [hp] at hpp
  cases hq : passF f a false with
  | none => rw [hq] at hpp; exact hpp.elim
  | some y =>
    obtain ⟨a', b'⟩ := y
    rw [hq] at hpp
    obtain ⟨hb, i2, _⟩ := hpp
    subst hb
    obtain ⟨_, _, h3⟩ := passF_some hf h.wf hq
    have : zc a' < zc a := by
      rcases h3 rfl with e | e
      · cases e
      · exact e
    exact rpropF_fuel hf i2 (by omega) (by omega)

end Go.Proofs.Ytekbkdbmkjdgbaa
