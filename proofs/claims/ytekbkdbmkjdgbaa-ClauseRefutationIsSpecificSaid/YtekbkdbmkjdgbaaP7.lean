/- Plain laws: the core, the order, propagation's closure and monotony. -/
import Derived.Test.YtekbkdbmkjdgbaaP6
namespace Go.Proofs.Ytekbkdbmkjdgbaa

/-! ### parts of a formula -/
theorem valid_part {f g : List (List Int)} {n : Int} (hv : validB f n = true) (hl : g.length ≤ 200) (hm : ∀ c ∈ g, c ∈ f) : validB g n = true := by
  simp only [validB, Bool.and_eq_true, decide_eq_true_eq] at hv ⊢
  refine ⟨hv.1, hv.2.1, hl, ?_⟩
  rw [List.all_eq_true]
  exact fun c hc => List.all_eq_true.1 hv.2.2.2 c (hm c hc)
theorem valid_len {f : List (List Int)} {n : Int} (hv : validB f n = true) : f.length ≤ 200 := by
  simp only [validB, Bool.and_eq_true, decide_eq_true_eq] at hv
  exact hv.2.2.1
theorem sat_part {n : Nat} {f g : List (List Int)} {m : List Bool} (hm : ∀ c ∈ g, c ∈ f) (h : Mod n f m) : Mod n g m :=
  ⟨h.1, List.all_eq_true.2 fun c hc => List.all_eq_true.1 h.2 c (hm c hc)⟩

/-- Solve says yes where there is a model -/
theorem solve_iff {f : List (List Int)} {n : Int} (hv : validB f n = true) : (solveF f n).2.2.1 = true ↔ ∃ m, Mod n.toNat f m := by
  rcases solve_spec hv with ⟨m, e, h1, _⟩ | ⟨L, e, h1, _⟩
  · rw [e]; exact ⟨fun _ => ⟨m, h1⟩, fun _ => rfl⟩
  · rw [e]
    exact ⟨fun h => (by cases h), fun ⟨m, hm⟩ => absurd hm (h1 m)⟩
theorem solve_err {f : List (List Int)} {n : Int} (hv : validB f n = true) : (solveF f n).2.2.2 = 0 := by
  rcases solve_spec hv with ⟨m, e, _⟩ | ⟨L, e, _⟩ <;> rw [e]

/-! ### the core of the reference -/
theorem stay_bound : ∀ {g : List Bool} {b : Nat} {x : Int}, x ∈ stayF g b → (b : Int) ≤ x ∧ x < b + g.length
  | [], _, _, h => by simp [stayF] at h
  | y :: r, b, x, h => by
    rw [stayF] at h
    have ih := fun h => stay_bound (g := r) (b := b + 1) (x := x) h
    rw [List.length_cons]
    split at h
    · have := ih h; omega
    · rcases List.mem_cons.1 h with e | e
      · omega
      · have := ih e; omega
theorem stay_set : ∀ {g : List Bool} {i b : Nat}, i < g.length → stayF (g.set i true) b = (stayF g b).filter (· != ((b + i : Nat) : Int))
  | [], _, _, h => by simp at h
  | y :: r, 0, b, _ => by
    have hk : (stayF r (b + 1)).filter (· != ((b + 0 : Nat) : Int)) = stayF r (b + 1) := by
      rw [List.filter_eq_self]
      intro x hx
      have := (stay_bound hx).1
      simp only [bne_iff_ne]
      omega
    rw [List.set_cons_zero, stayF, if_pos rfl, stayF]
    split
    · exact hk.symm
    · rw [List.filter_cons_of_neg (by simp), hk]
  | y :: r, i + 1, b, h => by
    have ih := stay_set (g := r) (i := i) (b := b + 1) (by simpa using h)
    rw [List.set_cons_succ, stayF, stayF, ih, show b + 1 + i = b + (i + 1) by omega]
    split
    · rfl
    · rw [List.filter_cons_of_pos (by simp only [bne_iff_ne]; omega)]
theorem pick_stay {F : List (List Int)} : ∀ {g : List Bool} {f : List (List Int)} {b : Nat}, f.length = g.length → F.drop b = f → pickF F (stayF g b) = leftF f g
  | [], f, b, hl, _ => by
    have : f = [] := List.eq_nil_of_length_eq_zero (by simpa using hl)
    subst this; rfl
  | y :: r, [], b, hl, _ => by simp at hl
  | y :: r, c :: f, b, hl, hd => by
    have hd' : F.drop (b + 1) = f := by rw [← List.drop_drop, hd]; rfl
    have hb : F.getD b [] = c := by
      have : (F.drop b)[0]? = some c := by rw [hd]; rfl
      rw [List.getElem?_drop] at this
      rw [List.getD_eq_getElem?_getD, show b = b + 0 from rfl, this]; rfl
    have ih := pick_stay (F := F) (g := r) (f := f) (b := b + 1) (by simpa using hl) hd'
    rw [stayF]
    cases y
    · rw [if_neg (by simp), pickF, List.map_cons]
      show F.getD (b : Int).toNat [] :: pickF F (stayF r (b + 1)) = _
      rw [ih, show (b : Int).toNat = b from rfl, hb]
      simp [leftF]
    · rw [if_pos rfl, ih]
      simp [leftF]
theorem left_mem {f : List (List Int)} {g : List Bool} : ∀ c ∈ leftF f g, c ∈ f := fun c hc => by
  rw [leftF, List.mem_map] at hc
  obtain ⟨⟨x, y⟩, h, rfl⟩ := hc
  exact (List.of_mem_zip (List.mem_filter.1 h).1).1
theorem left_len (f : List (List Int)) (g : List Bool) : (leftF f g).length ≤ f.length := by
  rw [leftF, List.length_map]
  exact Nat.le_trans (List.length_filter_le _ _) (by rw [List.length_zip]; exact Nat.min_le_left _ _)
theorem stay_rep : ∀ (k b : Nat), stayF (List.replicate k false) b = (List.range' b k).map fun i : Nat => (i : Int)
  | 0, _ => rfl
  | k + 1, b => by
    rw [List.replicate_succ, stayF, if_neg (by simp), stay_rep k (b + 1), List.range'_succ]; rfl

theorem core_gone {f : List (List Int)} {n : Int} (hv : validB f n = true) : ∀ {i : Nat} {g : List Bool}, g.length = f.length → i ≤ f.length → (∀ j, j < i → g.getD j true = false) → coreFrom f n i (stayF g 0) = stayF (goneFrom f n.toNat i g) 0
  | 0, g, _, _, _ => by rw [coreFrom, goneFrom]
  | i + 1, g, hl, hi, hg => by
    have hrest : (stayF g 0).filter (· != (i : Int)) = stayF (g.set i true) 0 := by
      rw [stay_set (by omega), Nat.zero_add]
    have hpick : pickF f (stayF (g.set i true) 0) = leftF f (g.set i true) := pick_stay (by simp [hl]) rfl
    have hv' : validB (leftF f (g.set i true)) n = true := valid_part hv (Nat.le_trans (left_len _ _) (valid_len hv)) left_mem
    have hok := rleast_ok hv'
    have hnone : (rleast (leftF f (g.set i true)) n.toNat).isNone = !(solveF (leftF f (g.set i true)) n).2.2.1 := by
      rw [← hok]; cases rleast (leftF f (g.set i true)) n.toNat <;> rfl
    rw [coreFrom, goneFrom]
    rw [hrest, hpick, hnone]
    cases hs : (solveF (leftF f (g.set i true)) n).2.2.1
    · rw [if_neg (by simp)]
      exact core_gone hv (by simp [hl]) (by omega) fun j hj => by
        have := hg j (by omega)
        rw [List.getD_eq_getElem?_getD] at this ⊢
        rw [List.getElem?_set_ne (by omega)]; exact this
    · rw [if_pos rfl]
      have hgi : g.set i (!true) = g := by
        have h1 := hg i (by omega)
        have hlt : i < g.length := by omega
        rw [List.getD_eq_getElem?_getD, List.getElem?_eq_getElem hlt] at h1
        have h1' : g[i] = false := h1
        show g.set i false = g
        rw [← h1', List.set_getElem_self]
      rw [hgi]
      exact core_gone hv hl (by omega) fun j hj => hg j (by omega)

theorem rcore_eq (f : List (List Int)) (n : Int) : rcoreF f n = coreF f n := by
  rw [rcoreF, coreF]
  cases hv : validB f n
  · rw [solve_invalid hv]; rfl
  · rw [if_pos rfl]
    have hok := rleast_ok hv
    have her := solve_err hv
    cases hs : solveF f n with
    | mk m x =>
      obtain ⟨L, ok, e⟩ := x
      rw [hs] at hok her
      dsimp only at hok her ⊢
      subst her
      cases hr : rleast f n.toNat with
      | some y =>
        rw [hr] at hok
        have : ok = true := hok.symm
        subst this; rfl
      | none =>
        rw [hr] at hok
        have : ok = false := hok.symm
        subst this
        rw [if_neg (by decide)]
        have h := core_gone hv (i := f.length) (g := List.replicate f.length false) (by simp) (Nat.le_refl _) (fun j hj => by
          rw [List.getD_eq_getElem?_getD, List.getElem?_replicate, if_pos hj]; rfl)
        rw [← h, stay_rep, ← List.range_eq_range']

/-! ### the core is minimal -/
structure CoreInv (f : List (List Int)) (n : Nat) (i : Nat) (is : List Int) : Prop where
  inc : is.Pairwise (· < ·)
  rng : ∀ x ∈ is, 0 ≤ x ∧ x < f.length
  len : is.length ≤ f.length
  un : ∀ m, ¬ Mod n (pickF f is) m
  min : ∀ x ∈ is, (i : Int) ≤ x → ∃ m, Mod n (pickF f (is.filter (· != x))) m

theorem pick_mem {f : List (List Int)} {is : List Int} (h : ∀ x ∈ is, 0 ≤ x ∧ x < f.length) : ∀ c ∈ pickF f is, c ∈ f := fun c hc => by
  rw [pickF, List.mem_map] at hc
  obtain ⟨x, hx, rfl⟩ := hc
  obtain ⟨h0, h1⟩ := h x hx
  have hlt : x.toNat < f.length := by omega
  rw [List.getD_eq_getElem?_getD, List.getElem?_eq_getElem hlt]
  exact List.getElem_mem hlt
theorem pick_sub {f : List (List Int)} {is js : List Int} (h : ∀ x ∈ is, x ∈ js) : ∀ c ∈ pickF f is, c ∈ pickF f js := fun c hc => by
  rw [pickF, List.mem_map] at hc ⊢
  obtain ⟨x, hx, e⟩ := hc
  exact ⟨x, h x hx, e⟩
theorem pick_valid {f : List (List Int)} {n : Int} {is : List Int} (hv : validB f n = true) (h : ∀ x ∈ is, 0 ≤ x ∧ x < f.length) (hl : is.length ≤ f.length) : validB (pickF f is) n = true :=
  valid_part hv (by rw [pickF, List.length_map]; exact Nat.le_trans hl (valid_len hv)) (pick_mem h)

theorem core_inv {f : List (List Int)} {n : Int} (hv : validB f n = true) : ∀ {i : Nat} {is : List Int}, CoreInv f n.toNat i is → CoreInv f n.toNat 0 (coreFrom f n i is)
  | 0, is, h => by rw [coreFrom]; exact h
  | i + 1, is, h => by
    rw [coreFrom]
    have hsub : ∀ x ∈ is.filter (· != (i : Int)), x ∈ is := fun x hx => (List.mem_filter.1 hx).1
    have hl2 : (is.filter (· != (i : Int))).length ≤ f.length := Nat.le_trans (List.length_filter_le _ _) h.len
    have hv' := pick_valid hv (fun x hx => h.rng x (hsub x hx)) hl2
    have hs := solve_iff hv'
    cases hok : (solveF (pickF f (is.filter (· != (i : Int)))) n).2.2.1
    · rw [if_neg (by simp)]
      refine core_inv hv ⟨h.inc.filter _, fun x hx => h.rng x (hsub x hx), hl2, fun m hm => ?_, fun x hx hi => ?_⟩
      · have := hs.2 ⟨m, hm⟩
        rw [hok] at this; cases this
      · obtain ⟨hx1, hx2⟩ := List.mem_filter.1 hx
        have hne : x ≠ (i : Int) := by simpa using hx2
        obtain ⟨m, hm⟩ := h.min x hx1 (by omega)
        refine ⟨m, sat_part (pick_sub fun y hy => ?_) hm⟩
        obtain ⟨hy1, hy2⟩ := List.mem_filter.1 hy
        exact List.mem_filter.2 ⟨hsub y hy1, hy2⟩
    · rw [if_pos rfl]
      refine core_inv hv ⟨h.inc, h.rng, h.len, h.un, fun x hx hi => ?_⟩
      by_cases e : x = (i : Int)
      · rw [e]; exact hs.1 hok
      · exact h.min x hx (by omega)

theorem core_spec {f : List (List Int)} {n : Int} (hv : validB f n = true) :
    ((solveF f n).2.2.1 = true ∧ coreF f n = ([], false, 0)) ∨ ((solveF f n).2.2.1 = false ∧ ∃ C, coreF f n = (C, true, 0) ∧ CoreInv f n.toNat 0 C) := by
  have her := solve_err hv
  have hs := solve_iff hv
  rw [coreF]
  cases hq : solveF f n with
  | mk m x =>
    obtain ⟨L, ok, e⟩ := x
    rw [hq] at her hs
    dsimp only at her hs ⊢
    subst her
    cases ok
    · right
      refine ⟨rfl, _, rfl, core_inv hv ⟨?_, fun x hx => ?_, by simp, fun m hm => ?_, fun x hx hi => ?_⟩⟩
      · rw [List.pairwise_map]
        exact List.pairwise_lt_range.imp (fun h => by omega)
      · obtain ⟨i, hi, rfl⟩ := List.mem_map.1 hx
        have := List.mem_range.1 hi
        omega
      · have : Mod n.toNat f m := sat_part (fun c hc => by
          obtain ⟨i, hi, e⟩ := List.getElem_of_mem hc
          rw [pickF, List.mem_map]
          refine ⟨(i : Int), List.mem_map.2 ⟨i, List.mem_range.2 hi, rfl⟩, ?_⟩
          rw [List.getD_eq_getElem?_getD, show (i : Int).toNat = i from rfl, List.getElem?_eq_getElem hi, ← e]; rfl) hm
        have := hs.2 ⟨m, this⟩
        cases this
      · obtain ⟨j, hj, rfl⟩ := List.mem_map.1 hx
        have := List.mem_range.1 hj
        omega
    · exact .inl ⟨rfl, rfl⟩

/-- without any one of its clauses it has a model -/
theorem core_min {f : List (List Int)} {n : Nat} {C : List Int} (h : CoreInv f n 0 C) {i : Nat} (hi : i < C.length) : ∃ m, Mod n (pickF f (C.eraseIdx i)) m := by
  obtain ⟨m, hm⟩ := h.min C[i] (List.getElem_mem hi) (by have := (h.rng C[i] (List.getElem_mem hi)).1; omega)
  refine ⟨m, sat_part (pick_sub fun y hy => ?_) hm⟩
  obtain ⟨j, hj, hne, e⟩ := List.mem_eraseIdx_iff_getElem.1 hy
  refine List.mem_filter.2 ⟨by rw [← e]; exact List.getElem_mem _, ?_⟩
  simp only [bne_iff_ne]
  intro he
  have hp := List.pairwise_iff_getElem.1 h.inc
  rcases Nat.lt_or_gt_of_ne hne with hlt | hlt
  · have := hp j i hj hi hlt
    omega
  · have := hp i j hi hj hlt
    omega

theorem core_nonempty {f : List (List Int)} {n : Nat} {C : List Int} (h : CoreInv f n 0 C) : 0 < C.length := by
  cases C with
  | nil => exact absurd (show Mod n (pickF f []) (List.replicate n false) from ⟨by simp, rfl⟩) (h.un _)
  | cons x r => simp

/-! ### the order of assignments -/
theorem less_rank : ∀ {a b : List Bool}, a.length = b.length → lessF a b = true → rank a < rank b
  | [], b, _, h => by cases b <;> simp [lessF] at h
  | _ :: _, [], h, _ => by simp at h
  | x :: r, y :: s, hl, h => by
    have hl' : r.length = s.length := by simpa using hl
    rw [lessF] at h
    have h1 := rank_lt r
    rw [rank, rank, hl']
    rw [hl'] at h1
    cases x <;> cases y
    · have := less_rank hl' (by simpa using h)
      simpa using this
    · simp; omega
    · simp at h
    · have := less_rank hl' (by simpa using h)
      simp; omega

theorem solve_same {f g : List (List Int)} {n : Int} (hf : validB f n = true) (hg : validB g n = true) (h : ∀ m, Mod n.toNat f m ↔ Mod n.toNat g m) :
    (solveF f n).1 = (solveF g n).1 ∧ (solveF f n).2.2.1 = (solveF g n).2.2.1 ∧ (solveF g n).2.2.2 = 0 := by
  refine ⟨?_, ?_, solve_err hg⟩
  · rcases solve_spec hf with ⟨m, e, h1, h2⟩ | ⟨L, e, h1, _⟩
    · rcases solve_spec hg with ⟨m', e', h1', h2'⟩ | ⟨L', e', h1', _⟩
      · rw [e, e']
        exact mod_unique h1 h2 ((h m').2 h1') (fun x hx => h2' x ((h x).1 hx))
      · exact absurd ((h m).1 h1) (h1' m)
    · rcases solve_spec hg with ⟨m', e', h1', h2'⟩ | ⟨L', e', h1', _⟩
      · exact absurd ((h m').2 h1') (h1 m')
      · rw [e, e']
  · have i1 := solve_iff hf
    have i2 := solve_iff hg
    have : (solveF f n).2.2.1 = true ↔ (solveF g n).2.2.1 = true := by
      rw [i1, i2]
      exact ⟨fun ⟨m, hm⟩ => ⟨m, (h m).1 hm⟩, fun ⟨m, hm⟩ => ⟨m, (h m).2 hm⟩⟩
    cases h1 : (solveF f n).2.2.1 <;> cases h2 : (solveF g n).2.2.1 <;> simp [h1, h2] at this <;> rfl

/-! ### propagation -/
theorem lits_mem : ∀ {r : List Int} {v : Nat} {x : Int}, (∀ y ∈ r, -1 ≤ y ∧ y ≤ 1) → (x ∈ litsF r v ↔ ∃ i, i < r.length ∧ ((r.getD i 0 = 1 ∧ x = ((v + i : Nat) : Int)) ∨ (r.getD i 0 = -1 ∧ x = -((v + i : Nat) : Int))))
  | [], v, x, _ => by simp [litsF]
  | s :: r, v, x, h => by
    have hs := h s List.mem_cons_self
    have ih := lits_mem (r := r) (v := v + 1) (x := x) fun y hy => h y (List.mem_cons_of_mem _ hy)
    have key : (∃ i, i < (s :: r).length ∧ (((s :: r).getD i 0 = 1 ∧ x = ((v + i : Nat) : Int)) ∨ ((s :: r).getD i 0 = -1 ∧ x = -((v + i : Nat) : Int)))) ↔
        ((s = 1 ∧ x = (v : Int)) ∨ (s = -1 ∧ x = -(v : Int))) ∨ x ∈ litsF r (v + 1) := by
      rw [ih]
      constructor
      · rintro ⟨i, hi, h⟩
        cases i with
        | zero => left; simpa using h
        | succ i => right; exact ⟨i, by simpa using hi, by rw [show v + 1 + i = v + (i + 1) by omega]; simpa using h⟩
      · rintro (h | ⟨i, hi, h⟩)
        · exact ⟨0, by simp, by simpa using h⟩
        · exact ⟨i + 1, by simpa using hi, by rw [show v + 1 + i = v + (i + 1) by omega] at h; simpa using h⟩
    rw [key, litsF]
    have hc : s = -1 ∨ s = 0 ∨ s = 1 := by omega
    rcases hc with rfl | rfl | rfl
    · rw [if_neg (by omega), List.mem_cons]
      have : (v : Int) * -1 = -(v : Int) := by omega
      rw [this]; simp
    · rw [if_pos rfl]; simp
    · rw [if_neg (by omega), List.mem_cons]
      have : (v : Int) * 1 = (v : Int) := by omega
      rw [this]; simp
theorem lits_val {a : List Int} (ha : Wf a) (h0 : a.getD 0 0 = 0) {x : Int} : x ∈ litsF a 0 ↔ wi 16 x = true ∧ val a x = 1 := by
  have hl := ha.1
  rw [lits_mem ha.2]
  constructor
  · rintro ⟨i, hi, ⟨h1, h2⟩ | ⟨h1, h2⟩⟩
    · have hi0 : i ≠ 0 := fun e => by rw [e, h0] at h1; omega
      rw [Nat.zero_add] at h2
      refine ⟨wi_of (by omega) (by omega) (by omega), ?_⟩
      unfold val; rw [if_neg (by omega), h2]; exact h1
    · have hi0 : i ≠ 0 := fun e => by rw [e, h0] at h1; omega
      rw [Nat.zero_add] at h2
      refine ⟨wi_of (by omega) (by omega) (by omega), ?_⟩
      unfold val; rw [if_pos (by omega), h2, Int.neg_neg]
      show - a.getD i 0 = 1
      omega
  · rintro ⟨hw, hv⟩
    obtain ⟨w0, w1, w2⟩ := wi_facts hw
    unfold val at hv
    split at hv
    · exact ⟨(-x).toNat, by omega, .inr ⟨by omega, by omega⟩⟩
    · exact ⟨x.toNat, by omega, .inl ⟨hv, by omega⟩⟩

/-- what propagation answers -/
theorem propagate_some {f : List (List Int)} {l a : List Int} (hf : validB f 16 = true) (hl : l.all (wi 16) = true) (h : startF f l = some a) : propagateF f l = (litsF a 0, true) := by
  rw [propagateF, hf, hl, h]; rfl
theorem propagate_none {f : List (List Int)} {l : List Int} (h : startF f l = none) : propagateF f l = ([], false) := by
  rw [propagateF, h]; split <;> rfl
theorem valid_lits {f : List (List Int)} {n : Int} (hv : validB f n = true) : Lits f := by
  obtain ⟨_, h16, hw⟩ := valid_nat hv
  exact hw.lits h16
theorem valid_up {f : List (List Int)} {n : Int} (hv : validB f n = true) : validB f 16 = true := by
  simp only [validB, Bool.and_eq_true, decide_eq_true_eq] at hv ⊢
  refine ⟨by omega, by omega, hv.2.2.1, ?_⟩
  rw [List.all_eq_true]
  intro c hc
  have := List.all_eq_true.1 hv.2.2.2 c hc
  simp only [okC, Bool.and_eq_true, decide_eq_true_eq] at this ⊢
  refine ⟨this.1, ?_⟩
  rw [List.all_eq_true]
  exact fun x hx => wi_mono (List.all_eq_true.1 this.2 x hx) hv.2.1

theorem lits_ok {a : List Int} (ha : Wf a) (h0 : a.getD 0 0 = 0) : (litsF a 0).all (wi 16) = true := by
  rw [List.all_eq_true]
  exact fun x hx => ((lits_val ha h0).1 hx).1
/-- propagating what has been propagated changes nothing -/
theorem propagate_idem {f : List (List Int)} {l a : List Int} (hf : validB f 16 = true) (hl : l.all (wi 16) = true) (h : startF f l = some a) : propagateF f (litsF a 0) = (litsF a 0, true) := by
  have hL := valid_lits hf
  obtain ⟨wa, ca, _⟩ := start_spec hL hl h
  have h0 := start_zero hL hl h
  have hla := lits_ok wa h0
  obtain ⟨b, hb, he⟩ := start_least hL hla wa ca (fun x hx => ((lits_val wa h0).1 hx).2)
  obtain ⟨wb, cb, hbt⟩ := start_spec hL hla hb
  have e : b = a := Ext.antisymm wb wa (start_zero hL hla hb) h0 he fun x hx h1 => hbt x ((lits_val wa h0).2 ⟨hx, h1⟩)
  rw [propagate_some hf hla hb, e]

theorem asg_within {m : List Bool} {x : Int} (hx : wi 16 x = true) (h : val (asgM m) x = 1) : wi m.length x = true := by
  obtain ⟨h0, h1, h2⟩ := wi_facts hx
  have hz : ∀ i, m.length < i → (asgM m).getD i 0 = 0 := fun i hi => by
    cases i with
    | zero => omega
    | succ i =>
      simp only [asgM, List.getD_eq_getElem?_getD, List.getElem?_cons_succ]
      rw [List.getElem?_append_right (by simp; omega), List.getElem?_replicate]
      split <;> rfl
  refine Classical.byContradiction fun hn => ?_
  have hor : (m.length : Int) < x ∨ x < -(m.length : Int) := by
    refine Classical.byContradiction fun hn' => hn (wi_of h0 (by omega) (by omega))
  unfold val at h
  split at h
  · rw [hz _ (by omega)] at h; omega
  · rw [hz _ (by omega)] at h; omega

/-- a model that has the literals has what is propagated -/
theorem propagate_model {n : Nat} {f : List (List Int)} {l : List Int} {m : List Bool} (hn : n ≤ 16) (hf : validB f n = true) (hl : l.all (wi n) = true) (hm : Mod n f m) (ha : Agrees m l) :
    ∃ a, startF f l = some a ∧ Wf a ∧ a.getD 0 0 = 0 ∧ ∀ x ∈ litsF a 0, wi n x = true ∧ litB m x = true := by
  obtain ⟨_, _, hw⟩ := valid_nat hf
  obtain ⟨a, e, he⟩ := start_sound hn hw hl hm ha
  have hl16 := all_mono hl hn
  have wa := (start_spec (valid_lits hf) hl16 e).1
  have h0 := start_zero (valid_lits hf) hl16 e
  refine ⟨a, e, wa, h0, fun x hx => ?_⟩
  obtain ⟨hx1, hx2⟩ := (lits_val wa h0).1 hx
  have hxm := he x hx1 hx2
  have hxw := asg_within hx1 hxm
  obtain ⟨hml, _⟩ := hm
  refine ⟨by rw [← hml]; exact hxw, (asg_true hxw).1 hxm⟩

/-- a further literal, a further clause -/
theorem start_more {f : List (List Int)} {l a : List Int} {x : Int} (hf : Lits f) (hl : l.all (wi 16) = true) (hx : wi 16 x = true) (h : startF f (x :: l) = some a) : ∃ b, startF f l = some b ∧ Ext b a := by
  obtain ⟨wa, ca, h1⟩ := start_spec hf (by rw [List.all_cons, hx, hl]; rfl) h
  exact start_least hf hl wa ca fun y hy => h1 y (List.mem_cons_of_mem _ hy)
theorem start_unit {f : List (List Int)} {l : List Int} {x : Int} (hf : Lits f) (hl : l.all (wi 16) = true) (hx : wi 16 x = true) : startF ([x] :: f) l = startF f (x :: l) := by
  have hxl : (x :: l).all (wi 16) = true := by rw [List.all_cons, hx, hl]; rfl
  have hf2 : Lits ([x] :: f) := fun c hc y hy => by
    rcases List.mem_cons.1 hc with rfl | hc
    · simp only [List.mem_singleton] at hy; rw [hy]; exact hx
    · exact hf c hc y hy
  have d1 : ∀ a, startF f (x :: l) = some a → ∃ b, startF ([x] :: f) l = some b ∧ Ext b a := fun a h => by
    obtain ⟨wa, ca, h1⟩ := start_spec hf hxl h
    refine start_least hf2 hl wa (fun c hc => ?_) fun y hy => h1 y (List.mem_cons_of_mem _ hy)
    rcases List.mem_cons.1 hc with rfl | hc
    · exact scan_none_of ⟨x, by simp, by rw [h1 x List.mem_cons_self]; omega⟩
    · exact ca c hc
  have d2 : ∀ a, startF ([x] :: f) l = some a → ∃ b, startF f (x :: l) = some b ∧ Ext b a := fun a h => by
    obtain ⟨wa, ca, h1⟩ := start_spec hf2 hl h
    refine start_least hf hxl wa (fun c hc => ca c (List.mem_cons_of_mem _ hc)) fun y hy => ?_
    rcases List.mem_cons.1 hy with rfl | hy
    · have := ca [y] List.mem_cons_self
      refine Classical.byContradiction fun hne => ?_
      exact scan_some_of wa hne (.inl rfl) (fun z hz => by simp only [List.mem_singleton] at hz; exact .inr hz) this
    · exact h1 y hy
  cases h1 : startF f (x :: l) with
  | some a =>
    obtain ⟨b, e1, e2⟩ := d1 a h1
    obtain ⟨c, e3, e4⟩ := d2 b e1
    rw [h1] at e3; cases e3
    rw [e1]
    have wa := (start_spec hf hxl h1).1
    have wb := (start_spec hf2 hl e1).1
    rw [Ext.antisymm wb wa (start_zero hf2 hl e1) (start_zero hf hxl h1) e2 e4]
  | none =>
    cases h2 : startF ([x] :: f) l with
    | none => rfl
    | some b =>
      obtain ⟨c, e3, _⟩ := d2 b h2
      rw [h1] at e3; cases e3
theorem valid_cons {f : List (List Int)} {n x : Int} (hf : validB f n = true) (hl : f.length < 200) (hx : wi n x = true) : validB ([x] :: f) n = true := by
  simp only [validB, Bool.and_eq_true, decide_eq_true_eq] at hf ⊢
  refine ⟨hf.1, hf.2.1, by rw [List.length_cons]; omega, ?_⟩
  rw [List.all_cons, hf.2.2.2]
  simp [okC, hx]

/-! ### what is made -/
theorem madeL_wi (x : Int) : wi 4 (madeL x) = true := by
  unfold madeL
  split
  · assumption
  · split
    · exact wi_of (by omega) (by omega) (by omega)
    · exact wi_of (by omega) (by omega) (by omega)
theorem madeC_wi (l : List Int) : (madeC l).all (wi 4) = true := by
  rw [List.all_eq_true]
  intro x hx
  obtain ⟨y, _, rfl⟩ := List.mem_map.1 hx
  exact madeL_wi y
theorem madeC_len (l : List Int) : (madeC l).length ≤ 4 := by
  rw [madeC, List.length_map, List.length_take]; omega
theorem madeF_len (f : List (List Int)) : (madeF f).length ≤ 12 := by
  rw [madeF, List.length_map, List.length_take]; omega
theorem madeF_valid (f : List (List Int)) : validB (madeF f) 4 = true := by
  simp only [validB, Bool.and_eq_true, decide_eq_true_eq]
  refine ⟨by omega, by omega, by have := madeF_len f; omega, ?_⟩
  rw [List.all_eq_true]
  intro c hc
  obtain ⟨y, _, rfl⟩ := List.mem_map.1 hc
  simp only [okC, Bool.and_eq_true, decide_eq_true_eq]
  exact ⟨by have := madeC_len y; omega, madeC_wi y⟩
theorem madeM_len (n : Nat) : (madeM n).length = 4 := rfl

end Go.Proofs.Ytekbkdbmkjdgbaa
