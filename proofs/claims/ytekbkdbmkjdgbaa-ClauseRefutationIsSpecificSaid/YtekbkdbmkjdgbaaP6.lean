/- Plain laws: models as assignments; the search finds the least model; what it learns is accepted by the check. -/
import Derived.Test.YtekbkdbmkjdgbaaP5
namespace Go.Proofs.Ytekbkdbmkjdgbaa

/-! ### models as assignments -/
def asgM (m : List Bool) : List Int := 0 :: (m.map (fun b => if b then 1 else -1) ++ List.replicate (16 - m.length) 0)
theorem asg_wf {m : List Bool} (h : m.length ≤ 16) : Wf (asgM m) := by
  refine ⟨by simp [asgM]; omega, fun x hx => ?_⟩
  simp only [asgM, List.mem_cons, List.mem_append, List.mem_map, List.mem_replicate] at hx
  rcases hx with rfl | ⟨b, _, rfl⟩ | ⟨_, rfl⟩
  · omega
  · cases b <;> simp
  · omega
theorem asg_get {m : List Bool} {i : Nat} (h : i < m.length) : (asgM m).getD (i + 1) 0 = if m.getD i false then 1 else -1 := by
  simp [asgM, List.getElem?_append_left, h]
theorem val_asg {m : List Bool} {x : Int} (hx : wi m.length x = true) : val (asgM m) x = if litB m x then 1 else -1 := by
  obtain ⟨h0, h1, h2⟩ := wi_facts hx
  unfold val litB
  by_cases e : 0 < x
  · rw [if_neg (by omega), if_pos e, show x.toNat = (x - 1).toNat + 1 by omega, asg_get (by omega)]
  · rw [if_pos (by omega), if_neg e, show (-x).toNat = (-x - 1).toNat + 1 by omega, asg_get (by omega)]
    cases m.getD (-x - 1).toNat false <;> rfl
theorem asg_true {m : List Bool} {x : Int} (hx : wi m.length x = true) : val (asgM m) x = 1 ↔ litB m x = true := by
  rw [val_asg hx]
  cases litB m x <;> simp
theorem litB_neg {m : List Bool} {x : Int} (hx : x ≠ 0) : litB m (-x) = !litB m x := by
  unfold litB
  by_cases e : 0 < x
  · rw [if_neg (by omega), if_pos e, Int.neg_neg]
  · rw [if_pos (by omega), if_neg e, Bool.not_not]

theorem Within.lits {n : Nat} {f : List (List Int)} (h : Within n f) (hn : n ≤ 16) : Lits f := fun c hc l hl => by
  have := List.all_eq_true.1 (List.all_eq_true.1 h c hc) l hl
  exact wi_mono this (by omega)
theorem Within.of {n : Nat} {f : List (List Int)} (h : Within n f) {c : List Int} (hc : c ∈ f) {x : Int} (hx : x ∈ c) : wi n x = true :=
  List.all_eq_true.1 (List.all_eq_true.1 h c hc) x hx
theorem all_mono {n : Nat} {d : List Int} (h : d.all (wi n) = true) (hn : n ≤ 16) : d.all (wi 16) = true := by
  rw [List.all_eq_true] at h ⊢
  exact fun x hx => wi_mono (h x hx) (by omega)

theorem closed_of_sat {f : List (List Int)} {m : List Bool} (hf : Within m.length f) (h : satF m f = true) : Closed f (asgM m) := fun c hc => by
  have h1 := List.all_eq_true.1 h c hc
  obtain ⟨x, hx, hb⟩ := List.any_eq_true.1 h1
  exact scan_none_of ⟨x, hx, by rw [val_asg (hf.of hc hx), hb]; simp⟩

def Agrees (m : List Bool) (d : List Int) : Prop := ∀ x ∈ d, litB m x = true
def Mod (n : Nat) (f : List (List Int)) (m : List Bool) : Prop := m.length = n ∧ satF m f = true

theorem satF_app {m : List Bool} {f g : List (List Int)} : satF m (f ++ g) = true ↔ satF m f = true ∧ satF m g = true := by
  unfold satF; rw [List.all_append, Bool.and_eq_true]

theorem start_sound {n : Nat} {f : List (List Int)} {d : List Int} {m : List Bool} (hn : n ≤ 16) (hf : Within n f) (hd : d.all (wi n) = true) (hm : Mod n f m) (ha : Agrees m d) : ∃ a, startF f d = some a ∧ Ext a (asgM m) := by
  obtain ⟨rfl, hs⟩ := hm
  exact start_least (hf.lits hn) (all_mono hd hn) (asg_wf hn) (closed_of_sat hf hs) fun x hx => (asg_true (List.all_eq_true.1 hd x hx)).2 (ha x hx)
theorem ext_lit {a : List Int} {m : List Bool} (hn : m.length ≤ 16) (h : Ext a (asgM m)) {x : Int} (hx : wi m.length x = true) (h1 : val a x = 1) : litB m x = true :=
  (asg_true hx).1 (h x (wi_mono hx (by omega)) h1)

theorem satC_negs {d : List Int} {m : List Bool} (hd : ∀ x ∈ d, x ≠ 0) (h : ¬ Agrees m d) : satC m (negs d) = true := by
  rw [satC, List.any_eq_true]
  refine Classical.byContradiction fun hno => h fun x hx => ?_
  cases hb : litB m x
  · exfalso
    refine hno ⟨-x, List.mem_map.2 ⟨x, hx, rfl⟩, ?_⟩
    rw [litB_neg (hd x hx), hb]; rfl
  · rfl
theorem agrees_negs {c : List Int} {m : List Bool} (hc : ∀ x ∈ c, x ≠ 0) (h : satC m c = false) : Agrees m (negs c) := fun y hy => by
  obtain ⟨x, hx, rfl⟩ := List.mem_map.1 hy
  show litB m (-x) = true
  rw [litB_neg (hc x hx)]
  have : litB m x = false := by
    cases hb : litB m x
    · rfl
    · have : satC m c = true := List.any_eq_true.2 ⟨x, hx, hb⟩
      rw [h] at this; cases this
  rw [this]; rfl
theorem negs_negs (d : List Int) : negs (negs d) = d := by
  unfold negs
  rw [List.map_map]
  have : ((fun x : Int => -x) ∘ fun x => -x) = id := by funext x; simp
  rw [this, List.map_id]
theorem negs_app (d e : List Int) : negs (d ++ e) = negs d ++ negs e := by unfold negs; rw [List.map_append]

/-! ### assignments as models -/
theorem modelF_length (n : Nat) (a : List Int) : (modelF n a).length = n := by simp [modelF]
theorem modelF_get {n i : Nat} {a : List Int} (h : i < n) : (modelF n a).getD i false = decide (0 < a.getD (i + 1) 0) := by
  simp [modelF, h]
theorem lit_model {n : Nat} {a : List Int} {x : Int} (ha : Wf a) (hx : wi n x = true) (h : val a x ≠ 0) : litB (modelF n a) x = decide (val a x = 1) := by
  obtain ⟨h0, h1, h2⟩ := wi_facts hx
  have hv := ha.val x
  by_cases e : 0 < x
  · have ev : val a x = a.getD x.toNat 0 := by unfold val; rw [if_neg (show ¬ x < 0 by omega)]
    rw [ev] at h hv ⊢
    unfold litB
    rw [if_pos e, modelF_get (by omega), show (x - 1).toNat + 1 = x.toNat by omega]
    by_cases e2 : 0 < a.getD x.toNat 0
    · rw [decide_eq_true e2, decide_eq_true (by omega)]
    · rw [decide_eq_false e2, decide_eq_false (by omega)]
  · have ev : val a x = -a.getD (-x).toNat 0 := by unfold val; rw [if_pos (show x < 0 by omega)]
    rw [ev] at h hv ⊢
    unfold litB
    rw [if_neg e, modelF_get (by omega), show (-x - 1).toNat + 1 = (-x).toNat by omega]
    by_cases e2 : 0 < a.getD (-x).toNat 0
    · rw [decide_eq_true e2, decide_eq_false (by omega)]; rfl
    · rw [decide_eq_false e2, decide_eq_true (by omega)]; rfl
theorem full_val {n : Nat} {a : List Int} {x : Int} (hx : wi n x = true) (h : ∀ i, 1 ≤ i → i ≤ n → a.getD i 0 ≠ 0) : val a x ≠ 0 := by
  obtain ⟨h0, h1, h2⟩ := wi_facts hx
  unfold val
  split
  · have := h (-x).toNat (by omega) (by omega)
    omega
  · exact h x.toNat (by omega) (by omega)
theorem sat_of_full {n : Nat} {f : List (List Int)} {a : List Int} (ha : Wf a) (hf : Within n f) (hc : Closed f a) (h : ∀ i, 1 ≤ i → i ≤ n → a.getD i 0 ≠ 0) : satF (modelF n a) f = true := by
  rw [satF, List.all_eq_true]
  intro c hcf
  obtain ⟨x, hx, h1⟩ := scan_none_true (fun x hx => full_val (hf.of hcf hx) h) (hc c hcf)
  rw [satC, List.any_eq_true]
  have hv := ha.val x
  exact ⟨x, hx, by rw [lit_model ha (hf.of hcf hx) (by omega), decide_eq_true (by omega)]⟩
/-- what an assignment decides, a model that it goes into has -/
theorem ext_get {a : List Int} {m : List Bool} (ha : Wf a) (hn : m.length ≤ 16) (h : Ext a (asgM m)) {i : Nat} (hi : i < m.length) (h0 : a.getD (i + 1) 0 ≠ 0) : m.getD i false = decide (0 < a.getD (i + 1) 0) := by
  have hw : wi m.length ((i + 1 : Nat) : Int) = true := wi_of (by omega) (by omega) (by omega)
  have hv : val a ((i + 1 : Nat) : Int) = a.getD (i + 1) 0 := by unfold val; rw [if_neg (by omega)]; rfl
  have hl : litB m ((i + 1 : Nat) : Int) = m.getD i false := by
    unfold litB; rw [if_pos (by omega), show (((i + 1 : Nat) : Int) - 1).toNat = i by omega]
  have hr := ha.val ((i + 1 : Nat) : Int)
  rw [hv] at hr
  by_cases e : a.getD (i + 1) 0 = 1
  · rw [← hl, ext_lit hn h hw (by rw [hv]; exact e), e]; rfl
  · have h1 : val a (-((i + 1 : Nat) : Int)) = 1 := by rw [val_neg (by omega), hv]; omega
    have := ext_lit hn h (wi_neg hw) h1
    rw [litB_neg (by omega), hl] at this
    rw [decide_eq_false (by omega)]
    simpa using this

theorem firstF_spec {a : List Int} {n : Nat} : ∀ {k v : Nat}, n < k + v → (∀ u, v ≤ u → u < firstF a n k v → a.getD u 0 ≠ 0 ∧ u ≤ n) ∧ (firstF a n k v ≤ n → a.getD (firstF a n k v) 0 = 0)
  | 0, v, h => by rw [firstF]; exact ⟨fun u h1 h2 => by omega, fun h' => by omega⟩
  | k + 1, v, h => by
    rw [firstF]
    by_cases hc : (decide (v ≤ n) && a.getD v 0 != 0) = true
    · rw [if_pos hc]
      obtain ⟨i1, i2⟩ := firstF_spec (a := a) (n := n) (k := k) (v := v + 1) (by omega)
      simp only [Bool.and_eq_true, decide_eq_true_eq, bne_iff_ne] at hc
      refine ⟨fun u h1 h2 => ?_, i2⟩
      by_cases e : u = v
      · subst e; exact ⟨hc.2, hc.1⟩
      · exact i1 u (by omega) h2
    · rw [if_neg hc]
      simp only [Bool.and_eq_true, decide_eq_true_eq, bne_iff_ne, not_and, Classical.not_not] at hc
      exact ⟨fun u h1 h2 => by omega, fun h' => hc h'⟩

/-! ### the order -/
theorem rank_inj : ∀ {m m' : List Bool}, m.length = m'.length → rank m = rank m' → m = m'
  | [], [], _, _ => rfl
  | [], _ :: _, h, _ => by simp at h
  | _ :: _, [], h, _ => by simp at h
  | b :: r, b' :: r', hl, h => by
    have hl' : r.length = r'.length := by simpa using hl
    have h1 := rank_lt r
    have h2 := rank_lt r'
    rw [rank, rank, hl'] at h
    rw [hl'] at h1
    cases b <;> cases b'
    · simp at h; rw [rank_inj hl' h]
    · simp at h; omega
    · simp at h; omega
    · simp at h; rw [rank_inj hl' h]
theorem rank_prefix : ∀ {m m' : List Bool} {i : Nat}, m.length = m'.length → i < m.length → (∀ j, j < i → m.getD j false = m'.getD j false) → m.getD i false = false → m'.getD i false = true → rank m < rank m'
  | [], _, _, _, hi, _, _, _ => by simp at hi
  | _ :: _, [], _, h, _, _, _, _ => by simp at h
  | b :: r, b' :: r', 0, hl, _, _, h1, h2 => by
    have hl' : r.length = r'.length := by simpa using hl
    have hb : b = false := by simpa using h1
    have hb' : b' = true := by simpa using h2
    subst hb hb'
    have h1 := rank_lt r
    rw [rank, rank, ← hl']
    simp; omega
  | b :: r, b' :: r', i + 1, hl, hi, h, h1, h2 => by
    have hl' : r.length = r'.length := by simpa using hl
    have hb : b = b' := by simpa using h 0 (by omega)
    subst hb
    have := rank_prefix (i := i) hl' (by simpa using hi) (fun j hj => by simpa using h (j + 1) (by omega)) (by simpa using h1) (by simpa using h2)
    rw [rank, rank, hl']
    omega
theorem rank_rep : ∀ (n : Nat), rank (List.replicate n false) = 0
  | 0 => rfl
  | n + 1 => by simp [List.replicate_succ, rank, rank_rep n]

/-! ### the reference's least model -/
theorem rmodel_spec {f : List (List Int)} {n : Nat} : ∀ {k : Nat} {m : List Bool}, m.length = n → rank m + k = 2 ^ n →
    match rmodelF f k m with
    | none => ∀ m', Mod n f m' → rank m' < rank m
    | some y => Mod n f y ∧ ∀ m', Mod n f m' → rank m ≤ rank m' → rank y ≤ rank m'
  | 0, m, hl, hk => by
    have := rank_lt m
    rw [hl] at this
    omega
  | k + 1, m, hl, hk => by
    rw [rmodelF]
    by_cases hs : satF m f = true
    · rw [if_pos hs]
      exact ⟨⟨hl, hs⟩, fun _ _ h => h⟩
    · rw [if_neg hs]
      have hne : ∀ m', Mod n f m' → rank m' ≠ rank m := fun m' hm e => hs (by rw [← rank_inj (by rw [hm.1, hl]) e]; exact hm.2)
      rw [nextF_eq]
      cases hn : (succL m).2 with
      | false =>
        rw [if_neg (by simp)]
        obtain ⟨e1, _⟩ := succL_false hn
        intro m' hm
        have h1 := hne m' hm
        have h2 := rank_lt m'
        rw [hm.1] at h2
        rw [hl] at e1
        omega
      | true =>
        rw [if_pos rfl]
        have e1 := succL_true hn
        have ih := rmodel_spec (f := f) (k := k) (m := (succL m).1) (by rw [succL_length, hl]) (by omega)
        revert ih
        cases rmodelF f k (succL m).1 with
        | none =>
          intro ih m' hm
          have := ih m' hm
          have := hne m' hm
          omega
        | some y =>
          intro ih
          refine ⟨ih.1, fun m' hm h => ih.2 m' hm ?_⟩
          have := hne m' hm
          omega
theorem rleast_spec (f : List (List Int)) (n : Nat) :
    match rleast f n with
    | none => ∀ m, ¬ Mod n f m
    | some y => Mod n f y ∧ ∀ m, Mod n f m → rank y ≤ rank m := by
  have h := rmodel_spec (f := f) (n := n) (k := 2 ^ n) (m := List.replicate n false) (by simp) (by rw [rank_rep]; omega)
  rw [rleast]
  revert h
  cases rmodelF f (2 ^ n) (List.replicate n false) with
  | none =>
    intro h m hm
    have := h m hm
    rw [rank_rep] at this
    omega
  | some y => exact fun h => ⟨h.1, fun m hm => h.2 m hm (by rw [rank_rep]; omega)⟩

/-! ### the search -/
theorem checkFrom_app {n : Int} : ∀ {K p q : List (List Int)}, checkFrom n K (p ++ q) = (checkFrom n K p && checkFrom n (K ++ p) q)
  | K, [], q => by simp [checkFrom]
  | K, c :: p, q => by
    rw [List.cons_append, checkFrom, checkFrom, checkFrom_app, Bool.and_assoc, List.append_assoc]; rfl

structure FindOk (n : Nat) (f L : List (List Int)) (d : List Int) (r : Option (List Int) × List (List Int)) : Prop where
  imp : ∀ m, Mod n f m → satF m r.2 = true
  none : r.1 = none → (∀ m, Mod n f m → ¬ Agrees m d) ∧ ∃ N, r.2 = L ++ (N ++ [negs d]) ∧ checkFrom n (f ++ L) (N ++ [negs d]) = true
  some : ∀ a, r.1 = some a → Mod n f (modelF n a) ∧ Agrees (modelF n a) d ∧ ∀ m, Mod n f m → Agrees m d → rank (modelF n a) ≤ rank m

theorem agrees_snoc {m : List Bool} {d : List Int} {x : Int} (h : Agrees m d) (hx : litB m x = true) : Agrees m (d ++ [x]) := fun y hy => by
  rcases List.mem_append.1 hy with e | e
  · exact h y e
  · simp only [List.mem_singleton] at e; rw [e]; exact hx
theorem zc_pos {a : List Int} (ha : Wf a) (h : a.getD 0 0 = 0) : 1 ≤ zc a := by
  have hl := ha.1
  cases a with
  | nil => simp at hl
  | cons y r =>
    have : y = 0 := by simpa using h
    subst this
    simp [zc]
theorem check_one {n : Nat} {K : List (List Int)} {d : List Int} (hd : d.all (wi n) = true) (hl : d.length ≤ 16) (h : startF K d = none) : checkFrom n K [negs d] = true := by
  rw [checkFrom, checkFrom, checkStep, negs_negs, h, negs_wi hd, decide_eq_true (by simp [negs]; omega)]; rfl

theorem find_spec {n : Nat} {f : List (List Int)} (hn : n ≤ 16) (hf : Within n f) : ∀ (k : Nat) (L : List (List Int)) (d a0 : List Int), Within n L → d.all (wi n) = true → beginF d d zeros = some a0 → a0.getD 0 0 = 0 → d.length + zc a0 ≤ 17 → zc a0 < k →
    (∀ m, Mod n f m → satF m L = true) → FindOk n f L d (findF n f k L d)
  | 0, _, _, _, _, _, _, _, _, hk, _ => by omega
  | k + 1, L, d, a0, hL, hd, hb, h00, hlen, hk, himp => by
    have hfl : Within n (f ++ L) := Within.app.2 ⟨hf, hL⟩
    have hd16 := all_mono hd hn
    have hnz : ∀ x ∈ d, x ≠ 0 := fun x hx => (wi_facts (List.all_eq_true.1 hd x hx)).1
    have w0 := beginF_wf Wf.zeros hb
    have hd17 : d.length ≤ 16 := by have := zc_pos w0 h00; omega
    have hmod : ∀ m, Mod n f m → Mod n (f ++ L) m := fun m hm => ⟨hm.1, satF_app.2 ⟨hm.2, himp m hm⟩⟩
    rw [findF]
    cases hs : startF (f ++ L) d with
    | none =>
      have hno : ∀ m, Mod n f m → ¬ Agrees m d := fun m hm ha => by
        obtain ⟨a, e, _⟩ := start_sound hn hfl hd (hmod m hm) ha
        rw [hs] at e; cases e
      refine ⟨fun m hm => satF_app.2 ⟨himp m hm, ?_⟩, fun _ => ⟨hno, [], rfl, check_one hd hd17 hs⟩, fun a e => by cases e⟩
      rw [satF, List.all_cons, satC_negs hnz (hno m hm)]; rfl
    | some a =>
      obtain ⟨wa, hcl, hda⟩ := start_spec (hfl.lits hn) hd16 hs
      have hext : ∀ m, Mod n f m → Agrees m d → Ext a (asgM m) := fun m hm ha => by
        obtain ⟨a', e, h⟩ := start_sound hn hfl hd (hmod m hm) ha
        rw [hs] at e; cases e
        exact h
      have hpr : propA (f ++ L) a0 = some a := by rw [startF, hb] at hs; exact hs
      obtain ⟨v1, v2⟩ := firstF_spec (a := a) (n := n) (k := 17) (v := 1) (by omega)
      have v0 : 1 ≤ firstF a n 17 1 := firstF_ge
      dsimp only
      generalize firstF a n 17 1 = v at *
      by_cases hv : v > n
      · rw [if_pos hv]
        have hfull : ∀ i, 1 ≤ i → i ≤ n → a.getD i 0 ≠ 0 := fun i h1 h2 => (v1 i h1 (by omega)).1
        refine ⟨himp, fun e => (by cases e), fun a' e => ?_⟩
        cases e
        have hsat := sat_of_full wa hfl hcl hfull
        refine ⟨⟨modelF_length n a, (satF_app.1 hsat).1⟩, fun x hx => ?_, fun m hm ha => ?_⟩
        · have hw := List.all_eq_true.1 hd x hx
          rw [lit_model wa hw (full_val hw hfull), hda x hx]; rfl
        · have he := hext m hm ha
          have : modelF n a = m := by
            obtain ⟨hml, _⟩ := hm
            apply List.ext_getElem (by rw [modelF_length, hml])
            intro i h1 h2
            have g1 : (modelF n a).getD i false = (modelF n a)[i] := by simp [h1]
            have g2 : m.getD i false = m[i] := by simp [h2]
            rw [← g1, ← g2, ext_get wa (by omega) he h2 (hfull (i + 1) (by omega) (by omega)), modelF_get (by omega)]
          rw [this]
          exact Nat.le_refl _
      · rw [if_neg hv]
        have hw1 : wi n (v : Int) = true := wi_of (by omega) (by omega) (by omega)
        have hw2 := wi_neg hw1
        have hw16 : wi 16 (v : Int) = true := wi_mono hw1 (by omega)
        have hva : val a (v : Int) = 0 := by unfold val; rw [if_neg (by omega)]; exact v2 (by omega)
        have hv0 : val a0 (v : Int) = 0 := prop_undecided (hfl.lits hn) w0 hpr (by omega) hva
        have hv0n : val a0 (-(v : Int)) = 0 := by rw [val_neg (by omega), hv0]; rfl
        have b1 := begin_snoc hd16 (wi_neg hw16) hb hv0n
        have b2 := begin_snoc hd16 hw16 hb hv0
        have z1 := zc_setL w0 (wi_neg hw16) hv0n
        have z2 := zc_setL w0 hw16 hv0
        have hvlit : ∀ m : List Bool, litB m (-(v : Int)) = !litB m (v : Int) := fun m => litB_neg (by omega)
        have hvget : ∀ m : List Bool, litB m (v : Int) = m.getD (v - 1) false := fun m => by
          unfold litB; rw [if_pos (by omega), show ((v : Int) - 1).toNat = v - 1 by omega]
        have ok1 := find_spec hn hf k L (d ++ [-(v : Int)]) _ hL (snoc_wi hd hw2) b1 (setL_zero (wi_neg hw16) h00) (by rw [List.length_append, List.length_singleton]; omega) (by omega) himp
        have wi1 := findF_wi (k := k) (f := f) hL (snoc_wi hd hw2)
        cases hr1 : findF n f k L (d ++ [-(v : Int)]) with
        | mk o1 L1 =>
          rw [hr1] at ok1 wi1
          cases o1 with
          | some x1 =>
            obtain ⟨s1, s2, s3⟩ := ok1.some x1 rfl
            refine ⟨ok1.imp, fun e => (by cases e), fun a' e => ?_⟩
            cases e
            have hag : Agrees (modelF n x1) d := fun x hx => s2 x (List.mem_append_left _ hx)
            refine ⟨s1, hag, fun m hm ha => ?_⟩
            cases hl : litB m (v : Int)
            · exact s3 m hm (agrees_snoc ha (by rw [hvlit, hl]; rfl))
            · have e1 := hext _ s1 hag
              have e2 := hext m hm ha
              have hlen1 := modelF_length n x1
              refine Nat.le_of_lt (rank_prefix (i := v - 1) (by rw [hlen1, hm.1]) (by rw [hlen1]; omega) (fun j hj => ?_) ?_ (by rw [← hvget]; exact hl))
              · have hj0 := (v1 (j + 1) (by omega) (by omega)).1
                rw [ext_get wa (by rw [hlen1]; exact hn) e1 (by rw [hlen1]; omega) hj0, ext_get wa (by rw [hm.1]; exact hn) e2 (by rw [hm.1]; omega) hj0]
              · rw [← hvget]
                have := s2 (-(v : Int)) (by simp)
                rw [hvlit] at this
                simpa using this
          | none =>
            obtain ⟨n1, N1, e1, c1⟩ := ok1.none rfl
            dsimp only
            have ok2 := find_spec hn hf k L1 (d ++ [(v : Int)]) _ wi1 (snoc_wi hd hw1) b2 (setL_zero hw16 h00) (by rw [List.length_append, List.length_singleton]; omega) (by omega) ok1.imp
            have wi2 := findF_wi (k := k) (f := f) (L := L1) wi1 (snoc_wi hd hw1)
            cases hr2 : findF n f k L1 (d ++ [(v : Int)]) with
            | mk o2 L2 =>
              rw [hr2] at ok2 wi2
              cases o2 with
              | some x2 =>
                obtain ⟨s1, s2, s3⟩ := ok2.some x2 rfl
                refine ⟨ok2.imp, fun e => (by cases e), fun a' e => ?_⟩
                cases e
                refine ⟨s1, fun x hx => s2 x (List.mem_append_left _ hx), fun m hm ha => ?_⟩
                cases hl : litB m (v : Int)
                · exact absurd (agrees_snoc ha (by rw [hvlit, hl]; rfl)) (n1 m hm)
                · exact s3 m hm (agrees_snoc ha hl)
              | none =>
                obtain ⟨n2, N2, e2, c2⟩ := ok2.none rfl
                dsimp only at e1 e2
                have hno : ∀ m, Mod n f m → ¬ Agrees m d := fun m hm ha => by
                  cases hl : litB m (v : Int)
                  · exact n1 m hm (agrees_snoc ha (by rw [hvlit, hl]; rfl))
                  · exact n2 m hm (agrees_snoc ha hl)
                have hfl2 : Within n (f ++ L2) := Within.app.2 ⟨hf, wi2⟩
                have hlast : startF (f ++ L2) d = none := by
                  cases hq : startF (f ++ L2) d with
                  | none => rfl
                  | some b =>
                    exfalso
                    obtain ⟨wb, hcb, hdb⟩ := start_spec (hfl2.lits hn) hd16 hq
                    have key : ∀ x : Int, x ≠ 0 → negs d ++ [x] ∈ f ++ L2 → val b x = 1 := fun x hx0 hm => Classical.byContradiction fun hne => by
                      refine scan_some_of wb hne (.inl rfl) (fun y hy => ?_) (hcb _ hm)
                      rcases List.mem_append.1 hy with e | e
                      · obtain ⟨z, hz, rfl⟩ := List.mem_map.1 e
                        left
                        show val b (-z) = -1
                        rw [val_neg (hnz z hz), hdb z hz]
                      · simp only [List.mem_singleton] at e; exact .inr e
                    have k1 := key (v : Int) (by omega) (by
                      have : negs (d ++ [-(v : Int)]) = negs d ++ [(v : Int)] := by rw [negs_app]; simp [negs]
                      rw [← this, e2, e1]; simp)
                    have k2 := key (-(v : Int)) (by omega) (by
                      have : negs (d ++ [(v : Int)]) = negs d ++ [-(v : Int)] := by rw [negs_app]; simp [negs]
                      rw [← this, e2]; simp)
                    rw [val_neg (by omega)] at k2
                    omega
                refine ⟨fun m hm => satF_app.2 ⟨ok2.imp m hm, ?_⟩, fun _ => ⟨hno, (N1 ++ [negs (d ++ [-(v : Int)])]) ++ (N2 ++ [negs (d ++ [(v : Int)])]), ?_, ?_⟩, fun a e => by cases e⟩
                · rw [satF, List.all_cons, satC_negs hnz (hno m hm)]; rfl
                · dsimp only
                  rw [e2, e1]; simp
                · rw [checkFrom_app, checkFrom_app, c1]
                  have t1 : f ++ L ++ (N1 ++ [negs (d ++ [-(v : Int)])]) = f ++ L1 := by rw [e1, List.append_assoc]
                  have t2 : f ++ L ++ (N1 ++ [negs (d ++ [-(v : Int)])] ++ (N2 ++ [negs (d ++ [(v : Int)])])) = f ++ L2 := by rw [← List.append_assoc, t1, List.append_assoc, ← e2]
                  rw [t1, c2, t2, check_one hd hd17 hlast]; rfl

theorem find_top_spec {n : Nat} {f : List (List Int)} (hn : n ≤ 16) (hf : Within n f) : FindOk n f [] [] (findF n f 18 [] []) :=
  find_spec hn hf 18 [] [] zeros (by simp [Within]) rfl rfl rfl (by decide) (by decide) (fun _ _ => rfl)

/-! ### Solve, Check -/
theorem valid_nat {f : List (List Int)} {n : Int} (h : validB f n = true) : n = (n.toNat : Int) ∧ n.toNat ≤ 16 ∧ Within n.toNat f := by
  simp only [validB, Bool.and_eq_true, decide_eq_true_eq] at h
  refine ⟨by omega, by omega, ?_⟩
  have e : ((n.toNat : Nat) : Int) = n := by omega
  unfold Within
  rw [e, List.all_eq_true]
  intro c hc
  have := List.all_eq_true.1 h.2.2.2 c hc
  simp only [okC, Bool.and_eq_true] at this
  exact this.2

/-- what Solve answers for a valid formula -/
theorem solve_spec {f : List (List Int)} {n : Int} (hv : validB f n = true) :
    (∃ m, solveF f n = (m, [], true, 0) ∧ Mod n.toNat f m ∧ ∀ m', Mod n.toNat f m' → rank m ≤ rank m') ∨
    (∃ L, solveF f n = ([], L, false, 0) ∧ (∀ m, ¬ Mod n.toNat f m) ∧ checkF f n L = true) := by
  obtain ⟨e, h16, hw⟩ := valid_nat hv
  have h := find_top_spec h16 hw
  rw [solveF, if_pos hv]
  cases hr : findF n.toNat f 18 [] [] with
  | mk o L =>
    rw [hr] at h
    cases o with
    | some a =>
      obtain ⟨s1, _, s3⟩ := h.some a rfl
      exact .inl ⟨_, rfl, s1, fun m' hm => s3 m' hm (fun x hx => by simp at hx)⟩
    | none =>
      obtain ⟨n1, N, e1, c1⟩ := h.none rfl
      refine .inr ⟨L, rfl, fun m hm => n1 m hm (fun x hx => by simp at hx), ?_⟩
      dsimp only at e1
      rw [List.nil_append] at e1
      rw [List.append_nil, ← e] at c1
      rw [checkF, hv, e1, c1]
      simp [negs]
theorem solve_invalid {f : List (List Int)} {n : Int} (hv : validB f n = false) : solveF f n = ([], [], false, 1) := by
  rw [solveF, hv]; rfl

theorem mod_unique {n : Nat} {f : List (List Int)} {m m' : List Bool} (h : Mod n f m) (hl : ∀ x, Mod n f x → rank m ≤ rank x) (h' : Mod n f m') (hl' : ∀ x, Mod n f x → rank m' ≤ rank x) : m = m' :=
  rank_inj (by rw [h.1, h'.1]) (Nat.le_antisymm (hl _ h') (hl' _ h))

/-- the reference's Solve: model, decision, error -/
def rsolveF (f : List (List Int)) (n : Int) : List Bool × Bool × Int :=
  if validB f n then
    match rleast f n.toNat with
    | some m => (m, true, 0)
    | none => ([], false, 0)
  else ([], false, 1)
theorem rsolve_eq (f : List (List Int)) (n : Int) : rsolveF f n = ((solveF f n).1, (solveF f n).2.2.1, (solveF f n).2.2.2) := by
  rw [rsolveF]
  cases hv : validB f n
  · rw [solve_invalid hv]; rfl
  · rw [if_pos rfl]
    have hr := rleast_spec f n.toNat
    rcases solve_spec hv with ⟨m, e, h1, h2⟩ | ⟨L, e, h1, _⟩
    · rw [e]
      cases hq : rleast f n.toNat with
      | none => rw [hq] at hr; exact absurd h1 (hr m)
      | some y =>
        rw [hq] at hr
        rw [mod_unique h1 h2 hr.1 hr.2]
    · rw [e]
      cases hq : rleast f n.toNat with
      | none => rfl
      | some y => rw [hq] at hr; exact absurd hr.1 (h1 y)
theorem rleast_ok {f : List (List Int)} {n : Int} (hv : validB f n = true) : (rleast f n.toNat).isSome = (solveF f n).2.2.1 := by
  have h := rsolve_eq f n
  rw [rsolveF, if_pos hv] at h
  have h2 := congrArg (fun x => x.2.1) h
  dsimp only at h2
  rw [← h2]
  cases rleast f n.toNat <;> rfl

theorem checkFrom_sound {n : Nat} {m : List Bool} (hn : n ≤ 16) (hm : m.length = n) : ∀ {p known : List (List Int)}, Within n known → checkFrom n known p = true → satF m known = true → ∀ c ∈ p, satC m c = true
  | [], _, _, _, _ => by simp
  | c :: p, known, hw, h, hs => by
    rw [checkFrom, Bool.and_eq_true, checkStep, Bool.and_eq_true, Bool.and_eq_true] at h
    obtain ⟨⟨_, h1, h2⟩, h3⟩ := h
    have hc : satC m c = true := by
      cases hc : satC m c
      · exfalso
        obtain ⟨a, e, _⟩ := start_sound hn hw (negs_wi h1) ⟨hm, hs⟩ (agrees_negs (fun x hx => (wi_facts (List.all_eq_true.1 h1 x hx)).1) hc)
        rw [e] at h2; cases h2
      · rfl
    intro c' hc'
    rcases List.mem_cons.1 hc' with rfl | hc'
    · exact hc
    · exact checkFrom_sound hn hm (hw.snoc h1) h3 (satF_app.2 ⟨hs, by rw [satF, List.all_cons, hc]; rfl⟩) c' hc'
theorem check_sound {f p : List (List Int)} {n : Int} {m : List Bool} (h : checkF f n p = true) (hm : Mod n.toNat f m) : False := by
  rw [checkF, Bool.and_eq_true, Bool.and_eq_true] at h
  obtain ⟨hv, h1, h2⟩ := h
  obtain ⟨e, h16, hw⟩ := valid_nat hv
  rw [e] at h2
  have hall := checkFrom_sound h16 hm.1 hw h2 hm.2
  cases hl : p.getLast? with
  | none => rw [hl] at h1; cases h1
  | some c =>
    rw [hl] at h1
    have hc : c = [] := by simpa using h1
    subst hc
    have := hall [] (List.mem_of_getLast? hl)
    simp [satC] at this

theorem rcheckFrom_eq {n : Nat} (hn : n ≤ 16) : ∀ {p known : List (List Int)}, Within n known → rcheckFrom n known p = checkFrom n known p
  | [], _, _ => rfl
  | c :: p, known, hw => by
    rw [rcheckFrom, checkFrom, rcheckStep, checkStep]
    cases h1 : c.all (wi n)
    · simp
    · rw [rcheckFrom_eq hn (hw.snoc h1), clos_none (hw.lits hn) (all_mono (negs_wi h1) hn)]
theorem rcheck_eq (f : List (List Int)) (n : Int) (p : List (List Int)) : rcheckF f n p = checkF f n p := by
  rw [rcheckF, checkF]
  cases hv : validB f n
  · rw [Bool.false_and, Bool.false_and]
  · obtain ⟨e, h16, hw⟩ := valid_nat hv
    have := rcheckFrom_eq h16 (p := p) hw
    rw [← e] at this
    rw [this]

end Go.Proofs.Ytekbkdbmkjdgbaa
