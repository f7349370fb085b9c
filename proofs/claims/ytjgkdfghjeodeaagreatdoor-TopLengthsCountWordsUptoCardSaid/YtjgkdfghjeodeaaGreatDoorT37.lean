/- Constructions give valid automata; expressions as lists of nodes. -/
import Derived.Test.YtjgkdfghjeodeaaGreatDoorT28
import Derived.Test.YtjgkdfghjeodeaaGreatDoorT36
namespace Go.Proofs.YtjgkdfghjeodeaaGreatDoor

theorem limited_vd {t : Tbl} (ht : WT t) (h : (limited t).2 = 0) : VD (limited t).1 := by
  unfold limited at h ⊢
  split at h
  · cases h
  · rename_i h1
    rw [if_neg h1]
    exact (canonB_spec (canonical_cb ht)).1.vd (by show (canonical t).nxt.length ≤ 64; omega)
theorem limited_err (t : Tbl) : (limited t).2 = 0 ∨ (limited t).2 = 2 := by
  unfold limited
  split <;> simp
theorem combineD_vd {a b : Dfa} (ha : VD a) (hb : VD b) (h : Bool → Bool → Bool) (he : (combineD a b h).2 = 0) : VD (combineD a b h).1 := by
  obtain ⟨t, h1, h2⟩ := product_spec ha hb h
  unfold combineD at he ⊢
  rw [h1] at he ⊢
  exact limited_vd h2 he
theorem combineD_err (a b : Dfa) (h : Bool → Bool → Bool) : (combineD a b h).2 = 0 ∨ (combineD a b h).2 = 2 := by
  unfold combineD
  split
  · exact limited_err _
  · exact .inr rfl
theorem concatD_vd {a b : Dfa} (ha : VD a) (hb : VD b) (he : (concatD a b).2 = 0) : VD (concatD a b).1 := by
  have va := canonical_vd ha
  have vb := canonical_vd hb
  unfold concatD at he ⊢
  dsimp only at he ⊢
  generalize canonical (tableOf a) = ca at *
  generalize canonical (tableOf b) = cb at *
  have wa := tableOf_wt va
  have wb := tableOf_wt vb
  have hjs := joint_spec (tableOf ca).cell (tableOf cb).cell
  have hwt := explore_spec (J := JC (tableOf ca)) (next := ccNext (tableOf ca) (tableOf cb)) (accept := fun s => some_ (tableOf cb) s.s) (most := 4096) (start := ccEnter (tableOf ca) ⟨0, 0, 0⟩) (jc_enter ⟨wa.pos, rfl, by decide⟩) (by decide) (fun s b hs hb => jc_next wa wb vb.top hs (hjs.2.2.2 b hb)) (fun l h => h.le) hjs.1 hjs.2.1
  generalize explore (joint (tableOf ca).cell (tableOf cb).cell).1 (joint (tableOf ca).cell (tableOf cb).cell).2 (ccEnter (tableOf ca) ⟨0, 0, 0⟩) (ccNext (tableOf ca) (tableOf cb)) (fun s => some_ (tableOf cb) s.s) 4096 5000 = R at *
  cases R with
  | none => cases he
  | some t => exact limited_vd hwt he
theorem concatD_err (a b : Dfa) : (concatD a b).2 = 0 ∨ (concatD a b).2 = 2 := by
  unfold concatD
  dsimp only
  split
  · exact limited_err _
  · exact .inr rfl
theorem starD_vd {a : Dfa} (ha : VD a) (he : (starD a).2 = 0) : VD (starD a).1 := by
  have va := canonical_vd ha
  unfold starD at he ⊢
  dsimp only at he ⊢
  generalize canonical (tableOf a) = ca at *
  have wa := tableOf_wt va
  have hjs := joint_spec (tableOf ca).cell (tableOf ca).cell
  have hwt := explore_spec (J := JS_) (next := stNext (tableOf ca)) (accept := fun s => s.p == 1 || some_ (tableOf ca) s.s) (most := 4096) (start := ⟨1, 0, 1⟩) (by exact ⟨by decide, rfl, by decide⟩) (by decide) (fun s b _ hb => js_next wa va.top (hjs.2.2.2 b hb)) (fun l h => h.le) hjs.1 hjs.2.1
  generalize explore (joint (tableOf ca).cell (tableOf ca).cell).1 (joint (tableOf ca).cell (tableOf ca).cell).2 ⟨1, 0, 1⟩ (stNext (tableOf ca)) (fun s => s.p == 1 || some_ (tableOf ca) s.s) 4096 5000 = R at *
  cases R with
  | none => cases he
  | some t => exact limited_vd hwt he
theorem starD_err (a : Dfa) : (starD a).2 = 0 ∨ (starD a).2 = 2 := by
  unfold starD
  dsimp only
  split
  · exact limited_err _
  · exact .inr rfl
theorem notD_vd {a : Dfa} (ha : VD a) : VD (notD a).1 := by
  have wa := tableOf_wt ha
  have h1 : WT { tableOf a with acc := a.acc.map (!·) } := ⟨wa.cell, wa.cl, wa.pos, wa.top, by show (a.acc.map (!·)).length = a.nxt.length; rw [List.length_map]; exact ha.acc, wa.row⟩
  have h2 := canonB_spec (canonical_cb h1)
  exact h2.1.vd (Nat.le_trans h2.2 ha.top)
theorem wordD_vd : VD (wordD []).1 := by
  have h2 := canonB_spec (canonical_cb wordT_wt)
  exact h2.1.vd (Nat.le_trans h2.2 (by decide))
theorem noneD_vd : VD noneD.1 := canonical_vd none0_vd

theorem allC_bit {b : Nat} (hb : b < 256) : allC.testBit b = true := by
  unfold allC
  rw [Nat.testBit_two_pow_sub_one]
  simp [hb]
theorem notC_bit' (c : Nat) {b : Nat} (hb : b < 256) : (notC c).testBit b = !c.testBit b := by
  unfold notC
  rw [Nat.testBit_xor, allC_bit hb]
  simp
def letters0 (c : Nat) : Dfa := ⟨cells1 c, [(cells1 c).map (fun k => if c.testBit (leastC k) then 1 else 2), (cells1 c).map (fun _ => 2), (cells1 c).map (fun _ => 2)], [false, true, false]⟩
theorem cells1_cases {c : Nat} (h0 : c ≠ 0) : (cells1 c = [c] ∧ notC c = 0) ∨ (notC c ≠ 0 ∧ (cells1 c = [c, notC c] ∨ cells1 c = [notC c, c])) := by
  unfold cells1
  rw [if_neg h0]
  split
  · rename_i h; exact .inl ⟨rfl, h⟩
  · rename_i h
    split
    · exact .inr ⟨h, .inl rfl⟩
    · exact .inr ⟨h, .inr rfl⟩
theorem cells1_len {c : Nat} (h0 : c ≠ 0) : 1 ≤ (cells1 c).length ∧ (cells1 c).length ≤ 2 := by
  rcases cells1_cases h0 with ⟨e, _⟩ | ⟨_, e | e⟩ <;> rw [e] <;> simp
theorem letters0_vd {c : Nat} (hc : c < 2 ^ 256) (h0 : c ≠ 0) : VD (letters0 c) := by
  have hl := cells1_len h0
  refine ⟨by simp [letters0], by simp [letters0], rfl, hl.1, by show (cells1 c).length ≤ 256; omega, fun r hr => ?_, fun b hb => ?_, fun x hx => ?_⟩
  · have hr : r ∈ [(cells1 c).map (fun k => if c.testBit (leastC k) then 1 else 2), (cells1 c).map (fun _ => 2), (cells1 c).map (fun _ => 2)] := hr
    simp only [List.mem_cons, List.not_mem_nil, or_false] at hr
    rcases hr with rfl | rfl | rfl
    · refine ⟨by simp [letters0], fun x hx => ?_⟩
      obtain ⟨k, _, rfl⟩ := List.mem_map.1 hx
      show (if c.testBit (leastC k) then 1 else 2) < 3
      split <;> decide
    · refine ⟨by simp [letters0], fun x hx => ?_⟩
      obtain ⟨k, _, rfl⟩ := List.mem_map.1 hx
      show 2 < 3
      decide
    · refine ⟨by simp [letters0], fun x hx => ?_⟩
      obtain ⟨k, _, rfl⟩ := List.mem_map.1 hx
      show 2 < 3
      decide
  · have hn := notC_bit' c hb
    show ∃ i, i < (cells1 c).length ∧ ∀ j, ((cells1 c).getD j 0).testBit b = decide (j = i)
    rcases cells1_cases h0 with ⟨e, h1⟩ | ⟨_, e | e⟩
    · rw [e]
      rw [h1] at hn
      refine ⟨0, by simp, fun j => ?_⟩
      cases j with
      | zero => simpa using hn
      | succ j => simp
    · rw [e]
      cases hb1 : c.testBit b with
      | true =>
        refine ⟨0, by simp, fun j => ?_⟩
        rcases j with _ | _ | j <;> simp [hn, hb1]
      | false =>
        refine ⟨1, by simp, fun j => ?_⟩
        rcases j with _ | _ | j <;> simp [hn, hb1]
    · rw [e]
      cases hb1 : c.testBit b with
      | true =>
        refine ⟨1, by simp, fun j => ?_⟩
        rcases j with _ | _ | j <;> simp [hn, hb1]
      | false =>
        refine ⟨0, by simp, fun j => ?_⟩
        rcases j with _ | _ | j <;> simp [hn, hb1]
  · have hx : x ∈ cells1 c := hx
    rcases cells1_cases h0 with ⟨e, h1⟩ | ⟨hn, e | e⟩ <;> rw [e] at hx <;> simp at hx
    · subst hx; exact ⟨h0, hc⟩
    · rcases hx with rfl | rfl
      · exact ⟨h0, hc⟩
      · exact ⟨hn, notC_lt _ hc⟩
    · rcases hx with rfl | rfl
      · exact ⟨hn, notC_lt _ hc⟩
      · exact ⟨h0, hc⟩
theorem lettersD_eq {c : Nat} (h0 : c ≠ 0) : lettersD c = (canonical (tableOf (letters0 c)), 0) := by
  unfold lettersD
  rw [if_neg h0]
  rfl
theorem lettersD_zero : lettersD 0 = noneD := by unfold lettersD; rw [if_pos rfl]
theorem lettersD_vd {c : Nat} (hc : c < 2 ^ 256) : VD (lettersD c).1 := by
  by_cases h0 : c = 0
  · subst h0; rw [lettersD_zero]; exact noneD_vd
  · rw [lettersD_eq h0]; exact canonical_vd (letters0_vd hc h0)
theorem lettersD_err (c : Nat) : (lettersD c).2 = 0 := by
  unfold lettersD noneD canonD
  split <;> rfl

theorem errD_2 (e : Nat) : (errD e).2 = e := rfl
theorem powerD_pos {n : Nat} {p d : Dfa} (h : (concatD p d).2 = 0) : powerD (n + 1) p d = powerD n (concatD p d).1 d := if_pos h
theorem powerD_neg {n : Nat} {p d : Dfa} (h : (concatD p d).2 ≠ 0) : powerD (n + 1) p d = errD (concatD p d).2 := if_neg h
theorem powerD_err : ∀ (n : Nat) (p d : Dfa), (powerD n p d).2 = 0 ∨ (powerD n p d).2 = 2
  | 0, _, _ => .inl rfl
  | n + 1, p, d => by
    by_cases h : (concatD p d).2 = 0
    · rw [powerD_pos h]
      exact powerD_err n _ d
    · rw [powerD_neg h, errD_2]
      exact concatD_err p d
theorem powerD_vd (n : Nat) {p d : Dfa} (hp : VD p) (hd : VD d) (he : (powerD n p d).2 = 0) : VD (powerD n p d).1 := by
  induction n generalizing p with
  | zero => exact hp
  | succ n ih =>
    by_cases h : (concatD p d).2 = 0
    · rw [powerD_pos h] at he ⊢
      exact ih (concatD_vd hp hd h) he
    · rw [powerD_neg h, errD_2] at he
      exact absurd he h
theorem repeatD_err (d : Dfa) (low : Nat) (high : Option Nat) : (repeatD d low high).2 = 0 ∨ (repeatD d low high).2 = 2 := by
  have h1 := powerD_err low (wordD []).1 d
  have h2 := starD_err d
  have h3 := concatD_err (powerD low (wordD []).1 d).1 (starD d).1
  have h4 := combineD_err d (wordD []).1 (· || ·)
  have h5 := fun h => powerD_err (h - low) (powerD low (wordD []).1 d).1 (combineD d (wordD []).1 (· || ·)).1
  unfold repeatD
  dsimp only
  generalize powerD low (wordD []).1 d = P at *
  generalize starD d = S at *
  generalize concatD P.1 S.1 = C at *
  generalize combineD d (wordD []).1 (· || ·) = B at *
  by_cases g1 : P.2 ≠ 0
  · rw [if_pos g1]; exact h1
  · rw [if_neg g1]
    by_cases g2 : high = some low
    · rw [if_pos g2]; exact h1
    · rw [if_neg g2]
      cases high with
      | none =>
        dsimp only
        by_cases g3 : S.2 ≠ 0
        · rw [if_pos g3]; exact h2
        · rw [if_neg g3]; exact h3
      | some h =>
        dsimp only
        by_cases g3 : B.2 ≠ 0
        · rw [if_pos g3]; exact h4
        · rw [if_neg g3]; exact h5 h
theorem repeatD_vd {d : Dfa} (hd : VD d) (low : Nat) (high : Option Nat) (he : (repeatD d low high).2 = 0) : VD (repeatD d low high).1 := by
  unfold repeatD at he ⊢
  dsimp only at he ⊢
  by_cases h1 : (powerD low (wordD []).1 d).2 ≠ 0
  · rw [if_pos h1, errD_2] at he
    exact absurd he h1
  · rw [if_neg h1] at he ⊢
    have hp := powerD_vd low wordD_vd hd (Decidable.not_not.1 h1)
    by_cases h2 : high = some low
    · rw [if_pos h2]
      exact hp
    · rw [if_neg h2] at he ⊢
      cases high with
      | none =>
        dsimp only at he ⊢
        by_cases h3 : (starD d).2 ≠ 0
        · rw [if_pos h3, errD_2] at he
          exact absurd he h3
        · rw [if_neg h3] at he ⊢
          exact concatD_vd hp (starD_vd hd (Decidable.not_not.1 h3)) he
      | some h =>
        dsimp only at he ⊢
        by_cases h3 : (combineD d (wordD []).1 (· || ·)).2 ≠ 0
        · rw [if_pos h3, errD_2] at he
          exact absurd he h3
        · rw [if_neg h3] at he ⊢
          exact powerD_vd _ hp (combineD_vd hd wordD_vd _ (Decidable.not_not.1 h3)) he

/-- operands of a kind -/
def arN (k : Nat) : Nat := if k = 4 ∨ k = 5 ∨ k = 6 then 2 else if k = 7 ∨ k = 8 then 1 else 0
/-- what a node asks of itself -/
structure NodeOk (i : Nat) (n : Nd) : Prop where
  k1 : 1 ≤ n.kind
  k8 : n.kind ≤ 8
  hl : (1 ≤ arN n.kind → n.l < i) ∧ (arN n.kind = 0 → n.l = 0)
  hr : (arN n.kind = 2 → n.r < i) ∧ (arN n.kind ≠ 2 → n.r = 0)
  hc : n.kind ≠ 3 → n.c = 0
  c256 : n.c < 2 ^ 256
  hm : n.kind ≠ 8 → n.min = 0 ∧ n.max = some 0
  h8 : n.kind = 8 → n.min ≤ 16 ∧ ∀ m, n.max = some m → m ≤ 16 ∧ n.min ≤ m
theorem nodeD_err (n : Nd) (l : List Dfa) : (nodeD n l).2 = 0 ∨ (nodeD n l).2 = 2 := by
  unfold nodeD
  split
  · exact .inl rfl
  split
  · exact .inl rfl
  split
  · exact .inl (lettersD_err _)
  split
  · exact concatD_err _ _
  split
  · exact combineD_err _ _ _
  split
  · exact combineD_err _ _ _
  split
  · exact .inl rfl
  · exact repeatD_err _ _ _
theorem nodeD_vd {n : Nd} {l : List Dfa} (hn : NodeOk l.length n) (hl : ∀ d ∈ l, VD d) (he : (nodeD n l).2 = 0) : VD (nodeD n l).1 := by
  have gl : 1 ≤ arN n.kind → VD (l.getD n.l nil3) := fun h => by
    have h1 := hn.hl.1 h
    rw [List.getD_eq_getElem?_getD, List.getElem?_eq_getElem h1]
    exact hl _ (List.getElem_mem h1)
  have gr : arN n.kind = 2 → VD (l.getD n.r nil3) := fun h => by
    have h1 := hn.hr.1 h
    rw [List.getD_eq_getElem?_getD, List.getElem?_eq_getElem h1]
    exact hl _ (List.getElem_mem h1)
  have k1 := hn.k1
  have k8 := hn.k8
  have c256 := hn.c256
  unfold arN at gl gr
  unfold nodeD at he ⊢
  split
  · exact noneD_vd
  split
  · exact wordD_vd
  split
  · exact lettersD_vd c256
  rename_i g1 g2 g3
  rw [if_neg g1, if_neg g2, if_neg g3] at he
  split
  · rename_i h
    rw [if_pos h] at he
    exact concatD_vd (gl (by simp [h])) (gr (by simp [h])) he
  rename_i g4
  rw [if_neg g4] at he
  split
  · rename_i h
    rw [if_pos h] at he
    exact combineD_vd (gl (by simp [h])) (gr (by simp [h])) _ he
  rename_i g5
  rw [if_neg g5] at he
  split
  · rename_i h
    rw [if_pos h] at he
    exact combineD_vd (gl (by simp [h])) (gr (by simp [h])) _ he
  rename_i g6
  rw [if_neg g6] at he
  split
  · rename_i h
    exact notD_vd (gl (by simp [h]))
  rename_i g7
  rw [if_neg g7] at he
  have h8 : n.kind = 8 := by omega
  exact repeatD_vd (gl (by simp [h8])) _ _ he
theorem buildLoop_err : ∀ (r : List Nd) (l : List Dfa), (buildLoop r l).2 = 0 ∨ (buildLoop r l).2 = 2
  | [], _ => .inl rfl
  | n :: r, l => by
    rw [buildLoop]
    split
    · exact buildLoop_err r _
    · exact (nodeD_err n l).imp id id
theorem buildLoop_vd : ∀ (r : List Nd) (l : List Dfa), (∀ d ∈ l, VD d) → (∀ j n, r[j]? = some n → NodeOk (l.length + j) n) → 0 < l.length + r.length → (buildLoop r l).2 = 0 → VD (buildLoop r l).1
  | [], l, hl, _, hp, _ => by
    rw [buildLoop]
    have h1 : l ≠ [] := fun h => by subst h; simp at hp
    show VD (l.getLastD nil3)
    rw [List.getLastD_eq_getLast?, List.getLast?_eq_some_getLast h1]
    exact hl _ (List.getLast_mem h1)
  | n :: r, l, hl, hr, hp, he => by
    rw [buildLoop] at he ⊢
    split at he
    · rename_i h
      rw [if_pos h]
      refine buildLoop_vd r _ (fun d hd => ?_) (fun j m hj => ?_) (by simp; omega) he
      · rcases List.mem_append.1 hd with h1 | h1
        · exact hl d h1
        · rw [List.mem_singleton.1 h1]
          exact nodeD_vd (by simpa using hr 0 n rfl) hl h
      · have := hr (j + 1) m (by simpa using hj)
        rw [List.length_append, List.length_singleton]
        rwa [Nat.add_assoc, Nat.add_comm 1 j]
    · rename_i h
      exact absurd he h
theorem buildD_err (x : List Nd) : (buildD x).2 = 0 ∨ (buildD x).2 = 2 := buildLoop_err x []
theorem buildD_vd {x : List Nd} (hx : ∀ j n, x[j]? = some n → NodeOk j n) (hp : 0 < x.length) (he : (buildD x).2 = 0) : VD (buildD x).1 :=
  buildLoop_vd x [] (fun d h => by cases h) (fun j n h => by simpa using hx j n h) (by simpa using hp) he

/-- how often a node is referred to -/
def useN (i : Nat) (n : Nd) : Nat := (if 1 ≤ arN n.kind ∧ n.l = i then 1 else 0) + (if arN n.kind = 2 ∧ n.r = i then 1 else 0)
def useX (i : Nat) : List Nd → Nat
  | [] => 0
  | n :: r => useN i n + useX i r
theorem useX_append (i : Nat) : ∀ a b : List Nd, useX i (a ++ b) = useX i a + useX i b
  | [], b => by simp [useX]
  | n :: a, b => by rw [List.cons_append, useX, useX, useX_append i a b]; omega
/-- operands k further up -/
def moveN (k : Nat) (n : Nd) : Nd := { n with l := if 1 ≤ arN n.kind then n.l + k else n.l, r := if arN n.kind = 2 then n.r + k else n.r }
inductive GoodX : List Nd → Prop
  | leaf (k c : Nat) (hk : k = 1 ∨ k = 2 ∨ k = 3) (hc : k ≠ 3 → c = 0) (h256 : c < 2 ^ 256) : GoodX [⟨k, c, 0, 0, 0, some 0⟩]
  | unary {x : List Nd} (h : GoodX x) (k mn : Nat) (mx : Option Nat) (hk : (k = 7 ∧ mn = 0 ∧ mx = some 0) ∨ (k = 8 ∧ mn ≤ 16 ∧ ∀ m, mx = some m → m ≤ 16 ∧ mn ≤ m)) : GoodX (x ++ [⟨k, 0, x.length - 1, 0, mn, mx⟩])
  | binary {x y : List Nd} (hx : GoodX x) (hy : GoodX y) (k : Nat) (hk : k = 4 ∨ k = 5 ∨ k = 6) : GoodX (x ++ y.map (moveN x.length) ++ [⟨k, 0, x.length - 1, x.length + y.length - 1, 0, some 0⟩])
theorem GoodX.pos {x : List Nd} (h : GoodX x) : 0 < x.length := by cases h <;> simp <;> omega
theorem get_one {α : Type} {a b : α} {i : Nat} (h : [a][i]? = some b) : i = 0 ∧ a = b := by
  cases i with
  | zero => exact ⟨rfl, by simpa using h⟩
  | succ i => simp at h
theorem NodeOk.move {i k : Nat} {n : Nd} (h : NodeOk i n) : NodeOk (k + i) (moveN k n) := by
  refine ⟨h.k1, h.k8, ⟨fun h1 => ?_, fun h1 => ?_⟩, ⟨fun h1 => ?_, fun h1 => ?_⟩, h.hc, h.c256, h.hm, h.h8⟩
  · have h1 : 1 ≤ arN n.kind := h1
    have := h.hl.1 h1
    show (if 1 ≤ arN n.kind then n.l + k else n.l) < k + i
    rw [if_pos h1]; omega
  · have h1 : arN n.kind = 0 := h1
    show (if 1 ≤ arN n.kind then n.l + k else n.l) = 0
    rw [if_neg (by omega)]
    exact h.hl.2 h1
  · have h1 : arN n.kind = 2 := h1
    have := h.hr.1 h1
    show (if arN n.kind = 2 then n.r + k else n.r) < k + i
    rw [if_pos h1]; omega
  · have h1 : arN n.kind ≠ 2 := h1
    show (if arN n.kind = 2 then n.r + k else n.r) = 0
    rw [if_neg h1]
    exact h.hr.2 h1
theorem GoodX.node {x : List Nd} (h : GoodX x) : ∀ i n, x[i]? = some n → NodeOk i n := by
  induction h with
  | leaf k c hk hc h256 =>
    intro i n hi
    cases i with
    | zero =>
      cases hi
      refine ⟨by show 1 ≤ k; omega, by show k ≤ 8; omega, ⟨fun h => ?_, fun _ => rfl⟩, ⟨fun h => ?_, fun _ => rfl⟩, hc, h256, fun _ => ⟨rfl, rfl⟩, fun h => ?_⟩
      · have h : 1 ≤ arN k := h
        rcases hk with rfl | rfl | rfl <;> exact absurd h (by decide)
      · have h : arN k = 2 := h
        rcases hk with rfl | rfl | rfl <;> exact absurd h (by decide)
      · have h : k = 8 := h
        omega
    | succ i => simp at hi
  | @unary x h k mn mx hk ih =>
    intro i n hi
    by_cases hl : i < x.length
    · rw [List.getElem?_append_left hl] at hi
      exact ih i n hi
    · rw [List.getElem?_append_right (by omega)] at hi
      obtain ⟨h1, rfl⟩ := get_one hi
      have hp := h.pos
      refine ⟨by show 1 ≤ k; omega, by show k ≤ 8; omega, ⟨fun _ => by show x.length - 1 < i; omega, fun h => ?_⟩, ⟨fun h => ?_, fun _ => rfl⟩, fun _ => rfl, by show 0 < 2 ^ 256; decide, fun h => ?_, fun h => ?_⟩
      · have h : arN k = 0 := h
        rcases hk with ⟨rfl, _⟩ | ⟨rfl, _⟩ <;> exact absurd h (by decide)
      · have h : arN k = 2 := h
        rcases hk with ⟨rfl, _⟩ | ⟨rfl, _⟩ <;> exact absurd h (by decide)
      · have h : k ≠ 8 := h
        rcases hk with ⟨_, h1, h2⟩ | ⟨h1, _⟩
        · exact ⟨h1, h2⟩
        · exact absurd h1 h
      · have h : k = 8 := h
        rcases hk with ⟨h1, _⟩ | ⟨_, h1⟩
        · omega
        · exact h1
  | @binary x y hx hy k hk ihx ihy =>
    intro i n hi
    have hpx := hx.pos
    have hpy := hy.pos
    by_cases hl : i < x.length
    · rw [List.append_assoc, List.getElem?_append_left hl] at hi
      exact ihx i n hi
    · rw [List.append_assoc, List.getElem?_append_right (by omega)] at hi
      by_cases hl2 : i - x.length < y.length
      · rw [List.getElem?_append_left (by simpa using hl2), List.getElem?_map] at hi
        obtain ⟨m, hm, rfl⟩ := Option.map_eq_some_iff.1 hi
        have := (ihy _ m hm).move (k := x.length)
        rwa [show x.length + (i - x.length) = i by omega] at this
      · rw [List.getElem?_append_right (by simp; omega)] at hi
        obtain ⟨h1, rfl⟩ := get_one hi
        rw [List.length_map] at h1
        refine ⟨by show 1 ≤ k; omega, by show k ≤ 8; omega, ⟨fun _ => by show x.length - 1 < i; omega, fun h => ?_⟩, ⟨fun _ => by show x.length + y.length - 1 < i; omega, fun h => ?_⟩, fun _ => rfl, by show 0 < 2 ^ 256; decide, fun _ => ⟨rfl, rfl⟩, fun h => ?_⟩
        · have h : arN k = 0 := h
          rcases hk with rfl | rfl | rfl <;> exact absurd h (by decide)
        · have h : arN k ≠ 2 := h
          rcases hk with rfl | rfl | rfl <;> exact absurd rfl h
        · have h : k = 8 := h
          omega
theorem useX_move (k i : Nat) : ∀ y : List Nd, useX i (y.map (moveN k)) = if k ≤ i then useX (i - k) y else 0
  | [] => by simp [useX]
  | n :: y => by
    rw [List.map_cons, useX, useX_move k i y]
    have e : useN i (moveN k n) = if k ≤ i then useN (i - k) n else 0 := by
      unfold useN moveN
      dsimp only
      by_cases h1 : 1 ≤ arN n.kind <;> by_cases h2 : arN n.kind = 2 <;> by_cases hk : k ≤ i <;> simp only [h1, h2, hk, if_true, if_false, true_and, false_and] <;> (repeat' split) <;> omega
    rw [e]
    split
    · rw [useX]
    · rfl
theorem GoodX.use {x : List Nd} (h : GoodX x) : ∀ i, useX i x = if i + 1 < x.length then 1 else 0 := by
  induction h with
  | leaf k c hk hc h256 =>
    intro i
    have e : arN k = 0 := by rcases hk with rfl | rfl | rfl <;> rfl
    simp [useX, useN, e]
  | @unary x h k mn mx hk ih =>
    intro i
    have hp := h.pos
    have e : arN k = 1 := by rcases hk with ⟨rfl, _⟩ | ⟨rfl, _⟩ <;> rfl
    rw [useX_append, ih]
    simp only [useX, useN, e, List.length_append, List.length_singleton]
    repeat' split
    all_goals omega
  | @binary x y hx hy k hk ihx ihy =>
    intro i
    have hpx := hx.pos
    have hpy := hy.pos
    have e : arN k = 2 := by rcases hk with rfl | rfl | rfl <;> rfl
    rw [useX_append, useX_append, useX_move, ihx, ihy]
    simp only [useX, useN, e, List.length_append, List.length_singleton, List.length_map, true_and, show (1 : Nat) ≤ 2 from by decide]
    by_cases h1 : i + 1 < x.length
    · rw [if_pos h1, if_neg (by omega), if_neg (by omega), if_neg (by omega), if_pos (by omega)]
    · rw [if_neg h1]
      by_cases h2 : x.length ≤ i
      · rw [if_pos h2]
        repeat' split
        all_goals omega
      · rw [if_neg h2, if_pos (by omega), if_neg (by omega), if_pos (by omega)]
end Go.Proofs.YtjgkdfghjeodeaaGreatDoor
namespace Go.Proofs.YtjgkdfghjeodeaaGreatDoor
open Go.RowKit

/-- as GD, the automaton within K -/
def GK (K : Nat → Prop) (X : Dfa × Nat) (w : World) (e : Ending) (w' : World) : Prop := ∃ v, e = .returned (.tuple #[v, vi X.2]) ∧ RD w' K v X.1 ∧ Below w.heap.size w w'
theorem powerD_errD (n : Nat) (p d : Dfa) (h : (powerD n p d).2 ≠ 0) : powerD n p d = errD (powerD n p d).2 := by
  induction n generalizing p with
  | zero => exact absurd (show (powerD 0 p d).2 = 0 from rfl) h
  | succ n ih =>
    by_cases h1 : (concatD p d).2 = 0
    · rw [powerD_pos h1] at h ⊢
      exact ih _ h
    · rw [powerD_neg h1, errD_2]
/-- what power holds -/
structure PW (w wr : World) (K1 : Nat → Prop) (cs cs2 : Array Value) (q : Dfa) : Prop where
  below : Below w.heap.size w wr
  kp : Blk wr w.heap.size 28 cs
  kd : Blk wr (w.heap.size + 1) 28 cs2
  kr : Blk wr (w.heap.size + 1 + 1) 28 nil28
  rd : RD wr (fun k => (K1 k ∧ k < w.heap.size) ∨ w.heap.size + 3 ≤ k) (.agg cs) q
  vd : VD q
  z : cs.size = 3
  o : cs.all (·.oneCell') = true
set_option maxRecDepth 100000 in
set_option maxHeartbeats 4000000 in
theorem power_c (K1 K2 : Nat → Prop) (v1 v2 : Value) (p d : Dfa) (n : Nat) (hn : n ≤ 1000) (w : World) (hd1 : RD w K1 v1 p) (hv1 : VD p) (hd2 : RD w K2 v2 d) (hv2 : VD d) (hT : Tab w) (hh : 0 < w.heap.size) :
    Calls Tryz.prog 90 #[v1, v2, vi n] w (GK (fun k => K1 k ∨ w.heap.size ≤ k) (powerD n p d) w) := by
  obtain ⟨cs1, rfl, z1, o1⟩ := hd1.cells
  obtain ⟨cs2, rfl, z2, o2⟩ := hd2.cells
  obtain ⟨R, hR⟩ : ∃ R, powerD n p d = R := ⟨_, rfl⟩
  rw [hR]
  have HD2 := Lib.hid (And.intro hd2 hv2)
  have HT := Lib.hid (And.intro hT hh)
  have HD1 := Lib.hid (And.intro hd1 (And.intro hv1 hR))
  clear hd1 hv1 hd2 hv2 hT hh hR
  go_enter Tryz.func90, Tryz.ntmps90
  go_upto_region 1 with (first
    | (with_reducible refine at_oper (.box 28 (.tmp 0)) rfl ?_
       refine wpList_box_rowG w.heap.size rfl rfl 28 (.tmp 0) rfl cs1 rfl ?_
       intro w1 k1 b1 s1)
    | (with_reducible refine at_oper (.box 28 (.tmp 1)) rfl ?_
       refine wpList_box_rowG (w.heap.size + 1) s1 rfl 28 (.tmp 1) rfl cs2 rfl ?_
       intro w2 k2 b2 s2)
    | (with_reducible refine at_oper (.alloc 28) rfl ?_
       refine wpList_alloc_rowG (w.heap.size + 1 + 1) s2 rfl 28 rfl _ zero28 ?_
       intro w3 k3 b3 s3
       have hb3 : Below w.heap.size w w3 := (b1.trans (b2.mono b1.size)).trans (b3.mono (by omega))
       have H3 := Lib.hid (show PW w w3 K1 cs1 cs2 p from
         ⟨hb3, (k1.old b2).old b3, k2.old b3, k3, ((HD1.out.1.weak (K' := fun k => (K1 k ∧ k < w.heap.size) ∨ w.heap.size + 3 ≤ k) fun k h1 h2 => .inl ⟨h2, h1⟩).below hb3), HD1.out.2.1, z1, o1⟩)
       clear k1 k2 k3 b1 b2 b3 hb3))
  clear s1 s2 s3
  go_wp2_with fail
  go_loopw [8, 10] (fun s8 s10 wr => ∃ (i : Nat) (cs : Array Value) (q : Dfa), i ≤ n ∧ s8 = vi 0 ∧ s10 = vi i ∧ powerD (n - i) q d = R ∧ PW w wr K1 cs cs2 q) (fun _ s10 _ => n - (intOf s10).toNat)
  case atStart => exact ⟨0, cs1, p, Nat.zero_le _, rfl, rfl, HD1.out.2.2, H3.out⟩
  case round =>
    clear H3
    obtain ⟨i, cs, q, hi, rfl, rfl, hq, hP⟩ := hrel
    have HP := Lib.hid (And.intro hq hP)
    have z3 := hP.z
    have o3 := hP.o
    clear hq hP
    by_cases hlt : i < n
    · have d1 : decide ((i : Int) < n) = true := by simp; omega
      have hsz := HP.out.2.kr.lt
      have hc := concat_c _ _ _ _ q d wr HP.out.2.rd HP.out.2.vd (HD2.out.1.below HP.out.2.below) HD2.out.2 (HT.out.1.mono HT.out.2 HP.out.2.below) (by omega)
      rcases concatD_err q d with he | he
      · rw [he] at hc
        have HC := Lib.hid (And.intro hc he)
        clear hc he
        go_wp2_with (first
          | (with_reducible refine at_oper (.load 28 (.tmp 3)) rfl ?_
             refine wpList_load_blk rfl 28 (.tmp 3) rfl w.heap.size rfl 28 cs _ HP.out.2.kp Tryz.underlying28 rfl (by rw [z3]; exact size28) ?_)
          | (with_reducible refine at_oper (.load 28 (.tmp 4)) rfl ?_
             refine wpList_load_blk rfl 28 (.tmp 4) rfl (w.heap.size + 1) rfl 28 cs2 _ HP.out.2.kd Tryz.underlying28 rfl (by rw [z2]; exact size28) ?_)
          | (go_at_call 37
             refine HC.out.1.mono ?_
             rintro e w4 ⟨v4, rfl, hd4, hb4⟩
             obtain ⟨c4, rfl, z4, o4⟩ := hd4.cells
             have H4 := Lib.hid (And.intro hd4 hb4)
             clear hd4 hb4)
          | (with_reducible refine at_oper (.store 28 (.tmp 3) (.tmp 16)) rfl ?_
             refine wpList_store_blk rfl 28 (.tmp 3) (.tmp 16) rfl rfl w.heap.size c4 cs 28 rfl rfl (HP.out.2.kp.old H4.out.2) (by rw [z4]; exact size28) (by rw [z4, z3]) o4 ?_
             intro w5 k5 o5
             have H5 := Lib.hid (show PW w w5 K1 c4 cs2 (concatD q d).1 from
               ⟨below_only (HP.out.2.below.trans (H4.out.2.mono HP.out.2.below.size)) o5 (Nat.le_refl _), k5, (HP.out.2.kd.old H4.out.2).only o5 (by omega), (HP.out.2.kr.old H4.out.2).only o5 (by omega),
                (H4.out.1.old fun k hk _ => o5.block k (by have hk : wr.heap.size ≤ k := hk; omega)).weak fun k _ hk => .inr (by have hk : wr.heap.size ≤ k := hk; omega), concatD_vd HP.out.2.vd HD2.out.2 HC.out.2, z4, o4⟩)
             clear k5 o5))
        go_roundw
        case rel =>
          refine ⟨i + 1, c4, (concatD q d).1, by omega, rfl, by go_num, ?_, H5.out⟩
          have h := HP.out.1
          rw [show n - i = (n - (i + 1)) + 1 by omega, powerD_pos HC.out.2] at h
          exact h
        case measure => simp [intOf]; omega
      · rw [he] at hc
        have HC := Lib.hid (And.intro hc he)
        clear hc he
        have hb28 : Tryz.prog.built 28 [] = some nil28 := by kernel_rfl
        go_wp2_with (first
          | (with_reducible refine at_oper (.load 28 (.tmp 3)) rfl ?_
             refine wpList_load_blk rfl 28 (.tmp 3) rfl w.heap.size rfl 28 cs _ HP.out.2.kp Tryz.underlying28 rfl (by rw [z3]; exact size28) ?_)
          | (with_reducible refine at_oper (.load 28 (.tmp 4)) rfl ?_
             refine wpList_load_blk rfl 28 (.tmp 4) rfl (w.heap.size + 1) rfl 28 cs2 _ HP.out.2.kd Tryz.underlying28 rfl (by rw [z2]; exact size28) ?_)
          | (go_at_call 37
             refine HC.out.1.mono ?_
             rintro e w4 ⟨v4, rfl, hd4, hb4⟩
             obtain ⟨c4, rfl, z4, o4⟩ := hd4.cells
             have H4 := Lib.hid (And.intro hd4 hb4)
             clear hd4 hb4)
          | (with_reducible refine at_oper (.store 28 (.tmp 3) (.tmp 16)) rfl ?_
             refine wpList_store_blk rfl 28 (.tmp 3) (.tmp 16) rfl rfl w.heap.size c4 cs 28 rfl rfl (HP.out.2.kp.old H4.out.2) (by rw [z4]; exact size28) (by rw [z4, z3]) o4 ?_
             intro w5 k5 o5
             have H5 := Lib.hid (show Below w.heap.size w w5 ∧ Blk w5 (w.heap.size + 1 + 1) 28 nil28 from
               ⟨below_only (HP.out.2.below.trans (H4.out.2.mono HP.out.2.below.size)) o5 (Nat.le_refl _), (HP.out.2.kr.old H4.out.2).only o5 (by omega)⟩)
             clear k5 o5)
          | (with_reducible refine at_oper (.store 28 (.tmp 6) (.tmp 20)) rfl ?_
             refine wpList_store_blk rfl 28 (.tmp 6) (.tmp 20) rfl rfl (w.heap.size + 1 + 1) nil28 nil28 28 rfl rfl H5.out.2 size28 rfl (by simp [Value.oneCell']) ?_
             intro w8 k8 o8
             have K8 := Lib.hid k8
             have O8 := Lib.hid o8
             clear k8 o8))
        refine bodyPost_ret (results_ct rfl _ _ _ rfl (w.heap.size + 1 + 1) rfl 28 _ K8.out Tryz.underlying28 rfl size28) rfl ?_
        have h := HP.out.1
        rw [show n - i = (n - (i + 1)) + 1 by omega, powerD_neg (by rw [HC.out.2]; decide), HC.out.2] at h
        rw [← h]
        exact ⟨_, rfl, RD.nil_ _ _, below_only H5.out.1 O8.out (by omega)⟩
    · have d1 : decide ((i : Int) < n) = false := by simp; omega
      go_wp2_with (first
        | (with_reducible refine at_oper (.load 28 (.tmp 3)) rfl ?_
           refine wpList_load_blk rfl 28 (.tmp 3) rfl w.heap.size rfl 28 cs _ HP.out.2.kp Tryz.underlying28 rfl (by rw [z3]; exact size28) ?_)
        | (with_reducible refine at_oper (.store 28 (.tmp 6) (.tmp 23)) rfl ?_
           refine wpList_store_blk rfl 28 (.tmp 6) (.tmp 23) rfl rfl (w.heap.size + 1 + 1) cs nil28 28 rfl rfl HP.out.2.kr (by rw [z3]; exact size28) (by rw [z3]; rfl) o3 ?_
           intro w8 k8 o8
           have K8 := Lib.hid k8
           have O8 := Lib.hid o8
           clear k8 o8))
      refine bodyPost_ret (results_ct rfl _ _ _ rfl (w.heap.size + 1 + 1) rfl 28 _ K8.out Tryz.underlying28 rfl (by rw [z3]; exact size28)) rfl ?_
      have h := HP.out.1
      rw [show n - i = 0 by omega, powerD] at h
      rw [← h]
      exact ⟨_, rfl, (HP.out.2.rd.old fun k hk _ => O8.out.block k (by omega)).weak fun k _ hk => by
        rcases hk with hk | hk
        · exact .inl hk.1
        · exact .inr (by omega), below_only HP.out.2.below O8.out (by omega)⟩
end Go.Proofs.YtjgkdfghjeodeaaGreatDoor
