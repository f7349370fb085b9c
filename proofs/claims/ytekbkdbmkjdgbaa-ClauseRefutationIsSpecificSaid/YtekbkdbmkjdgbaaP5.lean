/- Plain laws: propagation leads to the least closed assignment; the reference's propagation is the same. -/
import Derived.Test.YtekbkdbmkjdgbaaP4
namespace Go.Proofs.Ytekbkdbmkjdgbaa

/-- a says no more than b -/
def Ext (a b : List Int) : Prop := ∀ x, wi 16 x = true → val a x = 1 → val b x = 1
theorem Ext.refl (a : List Int) : Ext a a := fun _ _ h => h
theorem Ext.trans {a b c : List Int} (h : Ext a b) (h' : Ext b c) : Ext a c := fun x hx h1 => h' x hx (h x hx h1)
theorem Ext.neg {a b : List Int} (h : Ext a b) {x : Int} (hx : wi 16 x = true) (h1 : val a x = -1) : val b x = -1 := by
  have h0 := (wi_facts hx).1
  have := h (-x) (wi_neg hx) (by rw [val_neg h0, h1]; rfl)
  rw [val_neg h0] at this
  omega
theorem Ext.set {a b : List Int} (h : Ext a b) (ha : Wf a) {x : Int} (hx : wi 16 x = true) (hb : val b x = 1) : Ext (setL a x) b := fun y hy h1 => by
  by_cases e1 : y = x
  · rw [e1]; exact hb
  · by_cases e2 : y = -x
    · subst e2; rw [val_set_neg ha hx] at h1; omega
    · rw [val_set_other e1 e2] at h1; exact h y hy h1
theorem val_zeros (x : Int) : val zeros x = 0 := by
  have h : ∀ i, zeros.getD i 0 = 0 := fun i => by
    simp only [zeros, List.getD_eq_getElem?_getD, List.getElem?_replicate]
    split <;> rfl
  unfold val; split
  · rw [h]; rfl
  · exact h _
theorem Ext.zeros (b : List Int) : Ext zeros b := fun x _ h => by rw [val_zeros] at h; omega
theorem Ext.antisymm {a b : List Int} (ha : Wf a) (hb : Wf b) (ha0 : a.getD 0 0 = 0) (hb0 : b.getD 0 0 = 0) (h : Ext a b) (h' : Ext b a) : a = b := by
  have hal := ha.1
  have hbl := hb.1
  apply List.ext_getElem (by omega)
  intro i h1 h2
  have e1 : a.getD i 0 = a[i] := by simp [h1]
  have e2 : b.getD i 0 = b[i] := by simp [h2]
  by_cases hi : i = 0
  · subst hi; rw [← e1, ← e2, ha0, hb0]
  · have hw : wi 16 (i : Int) = true := wi_of (by omega) (by omega) (by omega)
    have v1 : val a (i : Int) = a.getD i 0 := by unfold val; rw [if_neg (by omega)]; rfl
    have v2 : val b (i : Int) = b.getD i 0 := by unfold val; rw [if_neg (by omega)]; rfl
    have r1 := ha.val (i : Int)
    have r2 := hb.val (i : Int)
    have i1 := h _ hw
    have i2 := h' _ hw
    have n1 := fun e => Ext.neg h hw e
    have n2 := fun e => Ext.neg h' hw e
    rw [← e1, ← e2, ← v1, ← v2]
    have : val a (i : Int) = -1 ∨ val a (i : Int) = 0 ∨ val a (i : Int) = 1 := by omega
    rcases this with e | e | e
    · rw [n1 e, e]
    · by_cases f1 : val b (i : Int) = 1
      · rw [i2 f1] at e; omega
      · by_cases f2 : val b (i : Int) = -1
        · rw [n2 f2] at e; omega
        · omega
    · rw [i1 e, e]

/-! ### scans -/
theorem scan_spec {a : List Int} (ha : Wf a) : ∀ {c : List Int} {u v : Int}, (∀ x ∈ c, wi 16 x = true) → scanF a c u = some v → (∀ x ∈ c, val a x = -1 ∨ x = v) ∧ (u ≠ 0 → v = u)
  | [], u, v, _, h => ⟨by simp, fun _ => by rw [scanF] at h; cases h; rfl⟩
  | l :: r, u, v, hc, h => by
    rw [scanF] at h
    split at h
    · cases h
    · rename_i hn
      have hl := hc l List.mem_cons_self
      have hv := ha.val l
      obtain ⟨h0, _, _⟩ := wi_facts hl
      obtain ⟨i1, i2⟩ := scan_spec ha (fun x hx => hc x (List.mem_cons_of_mem _ hx)) h
      simp only [Bool.or_eq_true, decide_eq_true_eq, Bool.and_eq_true, beq_iff_eq, bne_iff_ne, not_or, not_and] at hn
      by_cases e : val a l = 0
      · rw [if_pos (by simp [e])] at i2
        have hvl := i2 h0
        refine ⟨fun x hx => ?_, fun hu => ?_⟩
        · rcases List.mem_cons.1 hx with rfl | hx
          · exact .inr hvl.symm
          · exact i1 x hx
        · have := hn.2 e hu
          rw [hvl]
          exact (Classical.not_not.1 this).symm
      · rw [if_neg (by simp [e])] at i2
        refine ⟨fun x hx => ?_, i2⟩
        rcases List.mem_cons.1 hx with rfl | hx
        · left; omega
        · exact i1 x hx
theorem scan_some_of {b : List Int} {v : Int} (hb : Wf b) (hv : val b v ≠ 1) : ∀ {c : List Int} {u : Int}, (u = 0 ∨ u = v) → (∀ x ∈ c, val b x = -1 ∨ x = v) → scanF b c u ≠ none
  | [], u, _, _ => by simp [scanF]
  | l :: r, u, hu, h => by
    have hcond : (decide (0 < val b l) || (val b l == 0 && (u != 0 && u != l))) = false := by
      rcases h l List.mem_cons_self with e | e
      · rw [e]; rfl
      · subst e
        have hv3 := hb.val l
        have : decide (0 < val b l) = false := by simp; omega
        rw [this]
        rcases hu with rfl | rfl <;> simp
    rw [scanF, if_neg (by rw [hcond]; simp)]
    apply scan_some_of hb hv
    · split
      · rename_i h0
        rcases h l List.mem_cons_self with e | e
        · rw [e] at h0; simp at h0
        · exact .inr e
      · exact hu
    · exact fun x hx => h x (List.mem_cons_of_mem _ hx)
theorem scan_none_of {a : List Int} : ∀ {c : List Int} {u : Int}, (∃ x ∈ c, 0 < val a x) → scanF a c u = none
  | [], _, h => by obtain ⟨x, hx, _⟩ := h; simp at hx
  | l :: r, u, h => by
    obtain ⟨x, hx, h1⟩ := h
    rw [scanF]
    rcases List.mem_cons.1 hx with rfl | hx
    · rw [if_pos (by simp [h1])]
    · split
      · rfl
      · exact scan_none_of ⟨x, hx, h1⟩
/-- a clause without undecided literals that is passed over has a true one -/
theorem scan_none_true {a : List Int} : ∀ {c : List Int} {u : Int}, (∀ x ∈ c, val a x ≠ 0) → scanF a c u = none → ∃ x ∈ c, 0 < val a x
  | [], u, _, h => by rw [scanF] at h; cases h
  | l :: r, u, hc, h => by
    have hl := hc l List.mem_cons_self
    by_cases e : 0 < val a l
    · exact ⟨l, List.mem_cons_self, e⟩
    · rw [scanF, if_neg (by simp [e, hl])] at h
      obtain ⟨x, hx, h1⟩ := scan_none_true (fun x hx => hc x (List.mem_cons_of_mem _ hx)) h
      exact ⟨x, List.mem_cons_of_mem _ hx, h1⟩

/-! ### closed assignments -/
def Closed (f : List (List Int)) (a : List Int) : Prop := ∀ c ∈ f, scanF a c 0 = none

theorem pass_true : ∀ {f : List (List Int)} {a a' : List Int} {ch' : Bool}, passF f a true = some (a', ch') → ch' = true
  | [], a, a', ch', h => by rw [passF] at h; cases h; rfl
  | c :: f, a, a', ch', h => by
    rw [passF] at h
    split at h
    · exact pass_true h
    · split at h
      · cases h
      · exact pass_true h
theorem pass_closed : ∀ {f : List (List Int)} {a a' : List Int} {ch : Bool}, passF f a ch = some (a', false) → a' = a ∧ Closed f a
  | [], a, a', ch, h => by rw [passF] at h; cases h; exact ⟨rfl, fun c hc => by simp at hc⟩
  | c :: f, a, a', ch, h => by
    rw [passF] at h
    split at h
    · rename_i hs
      obtain ⟨i1, i2⟩ := pass_closed h
      refine ⟨i1, fun c' hc => ?_⟩
      rcases List.mem_cons.1 hc with rfl | hc
      · exact hs
      · exact i2 c' hc
    · split at h
      · cases h
      · exact absurd (pass_true h) (by simp)
theorem pass_of_closed {a : List Int} : ∀ {f : List (List Int)} {ch : Bool}, Closed f a → passF f a ch = some (a, ch)
  | [], ch, _ => by rw [passF]
  | c :: f, ch, h => by
    rw [passF, h c List.mem_cons_self]
    exact pass_of_closed fun c' hc => h c' (List.mem_cons_of_mem _ hc)
theorem prop_closed : ∀ {k : Nat} {f : List (List Int)} {a a' : List Int}, propF k f a = some a' → Closed f a'
  | 0, _, _, _, h => by rw [propF] at h; cases h
  | k + 1, f, a, a', h => by
    rw [propF] at h
    cases hp : passF f a false with
    | none => rw [hp] at h; cases h
    | some y =>
      obtain ⟨b, ch⟩ := y
      rw [hp] at h
      cases ch with
      | false =>
        have e : b = a' := by simpa [nextP] using h
        subst e
        obtain ⟨e1, e2⟩ := pass_closed hp
        rw [e1]; exact e2
      | true => exact prop_closed (show propF k f b = some a' from h)
theorem prop_of_closed {f : List (List Int)} {a : List Int} (hf : Lits f) (ha : Wf a) (h : Closed f a) : propA f a = some a := by
  rw [propA_step hf ha, pass_of_closed h]; rfl

theorem pass_least {b : List Int} (hb : Wf b) : ∀ {f : List (List Int)} {a : List Int} {ch : Bool}, Lits f → Wf a → Closed f b → Ext a b → ∃ a' ch', passF f a ch = some (a', ch') ∧ Ext a' b
  | [], a, ch, _, _, _, h => ⟨a, ch, by rw [passF], h⟩
  | c :: f, a, ch, hf, ha, hcl, h => by
    have hf' : Lits f := fun c hc => hf c (List.mem_cons_of_mem _ hc)
    have hcl' : Closed f b := fun c hc => hcl c (List.mem_cons_of_mem _ hc)
    have hc := hf c List.mem_cons_self
    rw [passF]
    cases hs : scanF a c 0 with
    | none => exact pass_least hb hf' ha hcl' h
    | some v =>
      dsimp only
      obtain ⟨s1, _⟩ := scan_spec ha hc hs
      have hbv : val b v = 1 := Classical.byContradiction fun hne => by
        refine scan_some_of hb hne (.inl rfl) (fun x hx => ?_) (hcl c List.mem_cons_self)
        rcases s1 x hx with e | e
        · exact .inl (h.neg (hc x hx) e)
        · exact .inr e
      have hmem : v = 0 ∨ v ∈ c := by
        rcases scanF_some hs with e | e
        · exact .inl e
        · exact .inr e.1
      by_cases hv0 : v = 0
      · exfalso
        subst hv0
        refine scan_some_of (v := 17) hb ?_ (.inl rfl) (fun x hx => ?_) (hcl c List.mem_cons_self)
        · have : val b 17 = 0 := by
            unfold val
            rw [if_neg (by omega)]
            have := hb.1
            simp [this]
          omega
        · rcases s1 x hx with e | e
          · exact .inl (h.neg (hc x hx) e)
          · exact absurd e (wi_facts (hc x hx)).1
      · rw [if_neg hv0]
        rcases hmem with e | e
        · exact absurd e hv0
        · exact pass_least hb hf' (ha.setL v) hcl' (h.set ha (hc v e) hbv)
theorem prop_least {b : List Int} (hb : Wf b) {f : List (List Int)} (hf : Lits f) (hcl : Closed f b) : ∀ {k : Nat} {a : List Int}, Wf a → Ext a b → zc a < k → ∃ a', propF k f a = some a' ∧ Ext a' b
  | 0, _, _, _, hk => by omega
  | k + 1, a, ha, h, hk => by
    obtain ⟨a', ch', hp, he⟩ := pass_least (ch := false) hb hf ha hcl h
    obtain ⟨w1, w2, w3⟩ := passF_some hf ha hp
    rw [propF, hp]
    cases ch' with
    | false => exact ⟨a', rfl, he⟩
    | true =>
      have : zc a' < k := by
        rcases w3 rfl with e | e
        · cases e
        · omega
      exact prop_least hb hf hcl w1 he this

/-! ### beginnings -/
theorem begin_some {l : List Int} : ∀ {r a : List Int}, (∀ x ∈ r, ¬ -x ∈ l) → ∃ a', beginF l r a = some a'
  | [], a, _ => ⟨a, by rw [beginF]⟩
  | x :: r, a, h => by
    rw [beginF, if_neg (by rw [hasB_false.2 (h x List.mem_cons_self)]; simp)]
    exact begin_some fun y hy => h y (List.mem_cons_of_mem _ hy)
theorem begin_least {l b : List Int} : ∀ {r a a' : List Int}, (∀ x ∈ r, wi 16 x = true ∧ val b x = 1) → Wf a → Ext a b → beginF l r a = some a' → Ext a' b
  | [], a, a', _, _, h, e => by rw [beginF] at e; cases e; exact h
  | x :: r, a, a', hr, ha, h, e => by
    rw [beginF] at e
    split at e
    · cases e
    · obtain ⟨h1, h2⟩ := hr x List.mem_cons_self
      exact begin_least (fun y hy => hr y (List.mem_cons_of_mem _ hy)) (ha.setL x) (h.set ha h1 h2) e
theorem begin_true {l a : List Int} (hl : l.all (wi 16) = true) (h : beginF l l zeros = some a) : ∀ x ∈ l, val a x = 1 := fun x hx =>
  beginF_val Wf.zeros (fun y hy => List.all_eq_true.1 hl y hy) (fun _ hy => hy) h x (.inl hx)

theorem start_spec {f : List (List Int)} {l a : List Int} (hf : Lits f) (hl : l.all (wi 16) = true) (h : startF f l = some a) : Wf a ∧ Closed f a ∧ ∀ x ∈ l, val a x = 1 := by
  rw [startF] at h
  cases hb : beginF l l zeros with
  | none => rw [hb] at h; cases h
  | some a0 =>
    rw [hb] at h
    have hp : propF 18 f a0 = some a := h
    have w0 := beginF_wf Wf.zeros hb
    exact ⟨propF_wf hf w0 hp, prop_closed hp, fun x hx => propF_ext hf w0 hp x (begin_true hl hb x hx)⟩
theorem start_least {f : List (List Int)} {l b : List Int} (hf : Lits f) (hl : l.all (wi 16) = true) (hb : Wf b) (hcl : Closed f b) (h : ∀ x ∈ l, val b x = 1) : ∃ a, startF f l = some a ∧ Ext a b := by
  have hl' := List.all_eq_true.1 hl
  obtain ⟨a0, hb0⟩ : ∃ a0, beginF l l zeros = some a0 := begin_some fun x hx hn => by
    have h1 := h x hx
    have h2 := h (-x) hn
    rw [val_neg (wi_facts (hl' x hx)).1] at h2
    omega
  have w0 := beginF_wf Wf.zeros hb0
  have he := begin_least (fun x hx => ⟨hl' x hx, h x hx⟩) Wf.zeros (Ext.zeros b) hb0
  have hz := zc_le w0
  obtain ⟨a, hp, hx⟩ := prop_least hb hf hcl (k := 18) w0 he (by omega)
  exact ⟨a, by rw [startF, hb0]; exact hp, hx⟩

/-! ### the reference's beginnings -/
theorem rbegin_conf : ∀ {r s : List Int} {y : Int}, y ∈ r → -y ∈ s → rbeginF r s = none
  | [], _, _, h, _ => by simp at h
  | z :: r, s, y, h, hs => by
    rw [rbeginF]
    rcases List.mem_cons.1 h with rfl | h
    · rw [hasB_true.2 hs]; rfl
    · split
      · rfl
      · apply rbegin_conf h
        split
        · exact hs
        · exact List.mem_append_left _ hs
theorem setL_same {a : List Int} {x : Int} (ha : Wf a) (hx : wi 16 x = true) (h : val a x = 1) : setL a x = a := by
  obtain ⟨h0, h1, h2⟩ := wi_facts hx
  have hl := ha.1
  unfold setL
  unfold val at h
  split
  · rename_i hn
    rw [if_pos hn] at h
    have hlt : (-x).toNat < a.length := by omega
    have e : a.getD (-x).toNat 0 = a[(-x).toNat] := by simp [hlt]
    have : a[(-x).toNat] = -1 := by omega
    rw [← this, List.set_getElem_self]
  · rename_i hn
    rw [if_neg hn] at h
    have hlt : x.toNat < a.length := by omega
    have e : a.getD x.toNat 0 = a[x.toNat] := by simp [hlt]
    have : a[x.toNat] = 1 := by omega
    rw [← this, List.set_getElem_self]
theorem rel_none {s a : List Int} (h : Rel s a) {x : Int} (hx : wi 16 x = true) (h1 : ¬ x ∈ s) (h2 : ¬ -x ∈ s) : val a x = 0 := by
  have e1 := h.hasT hx
  have e2 := h.hasN hx
  rw [hasB_false.2 h1] at e1
  rw [hasB_false.2 h2] at e2
  have e1' := of_decide_eq_false e1.symm
  have e2' := of_decide_eq_false e2.symm
  omega

theorem rbegin_begin {l : List Int} (hl : ∀ x ∈ l, wi 16 x = true) : ∀ {r s a : List Int}, (∀ x ∈ r, x ∈ l) → (∀ x ∈ s, x ∈ l) → (∀ x ∈ l, x ∈ r ∨ x ∈ s) → Rel s a →
    match rbeginF r s, beginF l r a with
    | none, none => True
    | some s', some a' => Rel s' a'
    | _, _ => False
  | [], s, a, _, _, _, h => by rw [rbeginF, beginF]; exact h
  | x :: r, s, a, hr, hs, hall, h => by
    have hxl := hr x List.mem_cons_self
    have hx := hl x hxl
    have hx0 := (wi_facts hx).1
    have hr' : ∀ y ∈ r, y ∈ l := fun y hy => hr y (List.mem_cons_of_mem _ hy)
    rw [rbeginF, beginF]
    by_cases hn : -x ∈ l
    · rw [if_pos (show hasB l (-x) = true from hasB_true.2 hn)]
      have hnone : (if hasB s (-x) = true then none else rbeginF r (if hasB s x = true then s else s ++ [x])) = none := by
        split
        · rfl
        · rename_i hsn
          have hin : -x ∈ r := by
            rcases hall _ hn with e | e
            · rcases List.mem_cons.1 e with e | e
              · omega
              · exact e
            · exact absurd (hasB_true.2 e) hsn
          apply rbegin_conf hin
          rw [Int.neg_neg]
          split
          · rename_i hsx; exact hasB_true.1 hsx
          · simp
      rw [hnone]
      trivial
    · rw [if_neg (show ¬ hasB l (-x) = true from fun e => hn (hasB_true.1 e))]
      have hns : ¬ -x ∈ s := fun e => hn (hs _ e)
      rw [if_neg (show ¬ hasB s (-x) = true from fun e => hns (hasB_true.1 e))]
      by_cases hsx : x ∈ s
      · rw [if_pos (hasB_true.2 hsx)]
        have e : setL a x = a := setL_same h.wf hx ((h.same x hx).1 hsx)
        rw [e]
        refine rbegin_begin hl hr' hs (fun y hy => ?_) h
        rcases hall y hy with e | e
        · rcases List.mem_cons.1 e with rfl | e
          · exact .inr hsx
          · exact .inl e
        · exact .inr e
      · rw [if_neg (show ¬ hasB s x = true from fun e => hsx (hasB_true.1 e))]
        refine rbegin_begin hl hr' (fun y hy => ?_) (fun y hy => ?_) (h.add hx (rel_none h hx hsx hns))
        · rcases List.mem_append.1 hy with e | e
          · exact hs y e
          · simp only [List.mem_singleton] at e; rw [e]; exact hxl
        · rcases hall y hy with e | e
          · rcases List.mem_cons.1 e with rfl | e
            · exact .inr (by simp)
            · exact .inl e
          · exact .inr (List.mem_append_left _ e)

theorem clos_start {f : List (List Int)} {l : List Int} (hf : Lits f) (hl : l.all (wi 16) = true) :
    match closF f l, startF f l with
    | none, none => True
    | some s, some a => Rel s a
    | _, _ => False := by
  have hb := rbegin_begin (l := l) (List.all_eq_true.1 hl) (r := l) (s := []) (a := zeros) (fun _ h => h) (by simp) (fun _ h => .inl h) Rel.start
  rw [closF, startF]
  revert hb
  cases rbeginF l [] with
  | none =>
    cases beginF l l zeros with
    | none => exact fun _ => trivial
    | some y => exact fun x => x.elim
  | some s =>
    cases beginF l l zeros with
    | none => exact fun x => x.elim
    | some a =>
      intro h
      have hp := rprop_prop (k := 18) hf h
      show match rpropF 18 f s, propF 18 f a with
        | none, none => True
        | some s, some a => Rel s a
        | _, _ => False
      revert hp
      cases rpropF 18 f s with
      | none => cases propF 18 f a <;> exact fun x => x
      | some s' =>
        cases propF 18 f a with
        | none => exact fun x => x
        | some a' => exact fun x => x.1
theorem clos_none {f : List (List Int)} {l : List Int} (hf : Lits f) (hl : l.all (wi 16) = true) : (closF f l).isNone = (startF f l).isNone := by
  have h := clos_start hf hl
  revert h
  cases closF f l <;> cases startF f l <;> simp
theorem start_zero {f : List (List Int)} {l a : List Int} (hf : Lits f) (hl : l.all (wi 16) = true) (h : startF f l = some a) : a.getD 0 0 = 0 := by
  have hc := clos_start hf hl
  rw [h] at hc
  cases hq : closF f l with
  | none => rw [hq] at hc; exact hc.elim
  | some s => rw [hq] at hc; exact hc.zero

theorem sorted_lits {s a : List Int} (h : Rel s a) : ∀ (k : Nat) (out : List Int), k ≤ 16 → sortedF s k out = out ++ litsF (a.drop (17 - k)) (17 - k)
  | 0, out, _ => by
    rw [sortedF, List.drop_eq_nil_of_le (by have := h.wf.1; omega), litsF, List.append_nil]
  | k + 1, out, hk => by
    have hl := h.wf.1
    obtain ⟨v, hv⟩ : ∃ v : Nat, v = 16 - k := ⟨_, rfl⟩
    have hlt : v < a.length := by omega
    have e0 : 17 - (k + 1) = v := by omega
    have e1 : v + 1 = 17 - k := by omega
    have hw : wi 16 (v : Int) = true := wi_of (by omega) (by omega) (by omega)
    have hva : val a (v : Int) = a[v] := by
      unfold val
      rw [if_neg (by omega)]
      show a.getD v 0 = a[v]
      simp [hlt]
    have hr := h.wf.val (v : Int)
    rw [e0, List.drop_eq_getElem_cons hlt, litsF, sortedF, ← hv, e1, h.hasT hw, h.hasN hw, hva]
    rw [hva] at hr
    have ih := fun o => sorted_lits h k o (by omega)
    have hc : a[v] = -1 ∨ a[v] = 0 ∨ a[v] = 1 := by omega
    rcases hc with e | e | e
    · rw [e]; simp [ih]
    · rw [e]; simp [ih]
    · rw [e]; simp [ih]

theorem rpropagate_eq (f : List (List Int)) (l : List Int) : rpropagateF f l = propagateF f l := by
  rw [rpropagateF, propagateF]
  by_cases hc : (validB f 16 && l.all (wi 16)) = true
  · rw [if_pos hc, if_pos hc]
    rw [Bool.and_eq_true] at hc
    have hf : Lits f := by
      apply Lits.of_all
      have := hc.1
      simp only [validB, Bool.and_eq_true] at this
      have := this.2.2.2
      rw [List.all_eq_true] at this ⊢
      exact fun c hc => by have := this c hc; simp only [okC, Bool.and_eq_true] at this; exact this.2
    have h := clos_start hf hc.2
    have h0 := fun a e => start_zero (a := a) hf hc.2 e
    revert h h0
    cases closF f l with
    | none =>
      cases startF f l with
      | none => intros; rfl
      | some a => exact fun x => x.elim
    | some s =>
      cases startF f l with
      | none => exact fun x => x.elim
      | some a =>
        intro h h0
        dsimp only
        rw [sorted_lits h 16 [] (Nat.le_refl _), List.nil_append]
        have hl := h.wf.1
        have e : litsF a 0 = litsF (a.drop 1) 1 := by
          cases a with
          | nil => simp at hl
          | cons y r =>
            have hy : y = 0 := by simpa using h.zero
            rw [litsF, if_pos hy]; rfl
        rw [e]
  · rw [if_neg hc, if_neg hc]

end Go.Proofs.Ytekbkdbmkjdgbaa
