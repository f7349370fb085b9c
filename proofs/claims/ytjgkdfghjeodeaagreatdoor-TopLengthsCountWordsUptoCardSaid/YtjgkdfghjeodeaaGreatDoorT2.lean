/- Walks in a graph of at most N vertices: the set reached after n steps is periodic from early on. -/

namespace Go.Proofs.Orb

/-- a walk of n steps -/
inductive Walk (E : Nat → Nat → Prop) : Nat → Nat → Nat → Prop
  | nil (u : Nat) : Walk E 0 u u
  | cons {n u v t : Nat} (h : E u v) (r : Walk E n v t) : Walk E (n + 1) u t
section
variable {E : Nat → Nat → Prop}
theorem Walk.trans {n m u v t : Nat} (h : Walk E n u v) (k : Walk E m v t) : Walk E (n + m) u t := by
  induction h with
  | nil u => rw [Nat.zero_add]; exact k
  | cons e r ih => rw [Nat.add_right_comm]; exact .cons e (ih k)
theorem Walk.split {u t : Nat} : ∀ {n m : Nat}, Walk E (n + m) u t → ∃ v, Walk E n u v ∧ Walk E m v t := by
  intro n
  induction n generalizing u with
  | zero => intro m h; rw [Nat.zero_add] at h; exact ⟨u, .nil u, h⟩
  | succ n ih =>
    intro m h
    rw [Nat.add_right_comm] at h
    cases h with
    | cons e r =>
      obtain ⟨v, h1, h2⟩ := ih r
      exact ⟨v, .cons e h1, h2⟩
theorem Walk.zero {u t : Nat} (h : Walk E 0 u t) : u = t := by cases h; rfl
/-- the set reached after n steps is one at n and at m -/
def Same (E : Nat → Nat → Prop) (u n m : Nat) : Prop := ∀ t, Walk E n u t ↔ Walk E m u t
theorem Same.symm {u n m : Nat} (h : Same E u n m) : Same E u m n := fun t => (h t).symm
theorem Same.trans {u n m k : Nat} (h : Same E u n m) (h' : Same E u m k) : Same E u n k := fun t => (h t).trans (h' t)
theorem Same.add {u n m : Nat} (h : Same E u n m) (k : Nat) : Same E u (n + k) (m + k) := fun t => by
  constructor
  · intro hw
    obtain ⟨v, h1, h2⟩ := hw.split
    exact ((h v).1 h1).trans h2
  · intro hw
    obtain ⟨v, h1, h2⟩ := hw.split
    exact ((h v).2 h1).trans h2
theorem Same.refl (u n : Nat) : Same E u n n := fun _ => Iff.rfl
theorem Same.mul {u c M : Nat} (h : ∀ n, M ≤ n → Same E u (n + c) n) : ∀ (k n : Nat), M ≤ n → Same E u (n + k * c) n
  | 0, n, _ => by rw [Nat.zero_mul]; exact Same.refl u n
  | k + 1, n, hn => by
    rw [Nat.succ_mul, ← Nat.add_assoc]
    exact (h (n + k * c) (by omega)).trans (Same.mul h k n hn)

/-! ### counting -/
theorem count_lt {N : Nat} {p q : Nat → Bool} (hpq : ∀ t, p t = true → q t = true) {t : Nat} (ht : t < N) (h1 : p t = false) (h2 : q t = true) : ((List.range N).filter p).length < ((List.range N).filter q).length := by
  induction N with
  | zero => omega
  | succ N ih =>
    rw [List.range_succ, List.filter_append, List.filter_append, List.length_append, List.length_append]
    have hle : ∀ M : Nat, ((List.range M).filter p).length ≤ ((List.range M).filter q).length := fun M => by
      induction M with
      | zero => simp
      | succ M ihM =>
        rw [List.range_succ, List.filter_append, List.filter_append, List.length_append, List.length_append]
        have : ([M].filter p).length ≤ ([M].filter q).length := by
          by_cases hp : p M = true
          · simp [hp, hpq M hp]
          · simp [hp]
        omega
    have hone : ([N].filter p).length ≤ ([N].filter q).length := by
      by_cases hp : p N = true
      · simp [hp, hpq N hp]
      · simp [hp]
    by_cases e : t = N
    · subst e
      have := hle t
      simp [h1, h2]
      omega
    · have := ih (by omega)
      omega

open Classical in
/-- **From a vertex on a closed walk of c steps the sets are c-periodic from N * c on.** -/
theorem cyc_periodic {N u c : Nat} (hN : ∀ v t, E v t → t < N) (hu : u < N) (hc : Walk E c u u) : ∀ n, N * c ≤ n → Same E u (n + c) n := by
  let A : Nat → Nat → Bool := fun n t => decide (Walk E n u t)
  let K : Nat → Nat := fun j => ((List.range N).filter (A (j * c))).length
  have hlt : ∀ {n t}, Walk E n u t → t < N := fun {n t} h => by
    have : ∀ {n v t}, Walk E n v t → v < N → t < N := fun {n v t} h => by
      induction h with
      | nil v => exact id
      | cons e r ih => exact fun _ => ih (hN _ _ e)
    exact this h hu
  have hmono : ∀ n t, Walk E n u t → Walk E (n + c) u t := fun n t h => by rw [Nat.add_comm]; exact hc.trans h
  have hsame : ∀ j, Same E u (j * c + c) (j * c) ∨ K j < K (j + 1) := fun j => by
    by_cases h : Same E u (j * c + c) (j * c)
    · exact .inl h
    · right
      have : ∃ t, Walk E (j * c + c) u t ∧ ¬ Walk E (j * c) u t := by
        refine Classical.byContradiction fun hno => h fun t => ⟨fun hw => ?_, fun hw => hmono _ t hw⟩
        exact Classical.byContradiction fun hn => hno ⟨t, hw, hn⟩
      obtain ⟨t, h1, h2⟩ := this
      have e : (j + 1) * c = j * c + c := Nat.succ_mul j c
      refine count_lt (p := A (j * c)) (q := A ((j + 1) * c)) (fun t ht => ?_) (hlt h1) (decide_eq_false h2) (decide_eq_true (by rw [e]; exact h1))
      have := of_decide_eq_true ht
      exact decide_eq_true (by rw [e]; exact hmono _ t this)
  have hex : ∃ j, j ≤ N ∧ Same E u (j * c + c) (j * c) := by
    refine Classical.byContradiction fun hno => ?_
    have hall : ∀ j, j ≤ N → K j < K (j + 1) := fun j hj => (hsame j).resolve_left fun h => hno ⟨j, hj, h⟩
    have hge : ∀ j, j ≤ N + 1 → j ≤ K j := fun j => by
      induction j with
      | zero => exact fun _ => Nat.zero_le _
      | succ j ih =>
        intro hj
        have := ih (by omega)
        have := hall j (by omega)
        omega
    have h1 := hge (N + 1) (Nat.le_refl _)
    have h2 : K (N + 1) ≤ N := by
      have := List.length_filter_le (A ((N + 1) * c)) (List.range N)
      rw [List.length_range] at this
      exact this
    omega
  obtain ⟨j, hj, hs⟩ := hex
  intro n hn
  have h1 : j * c ≤ n := Nat.le_trans (Nat.mul_le_mul_right c hj) hn
  have := hs.add (n - j * c)
  rw [show j * c + c + (n - j * c) = n + c by omega, show j * c + (n - j * c) = n by omega] at this
  exact this
/-- **.. from a vertex that reaches one on a closed walk of c steps and is reached by it: c-periodic.** -/
theorem near_periodic {N u z a b c : Nat} (hN : ∀ v t, E v t → t < N) (hu : u < N) (h1 : Walk E a u z) (h2 : Walk E b z u) (h3 : Walk E c z z) : ∀ n, N * (a + b + c) + (a + b) ≤ n → Same E u (n + c) n := by
  have w1 : Walk E (a + b) u u := h1.trans h2
  have w2 : Walk E (a + b + c) u u := by
    have := (h1.trans h3).trans h2
    rwa [show a + c + b = a + b + c by omega] at this
  have p1 := cyc_periodic hN hu w1
  have p2 := cyc_periodic hN hu w2
  intro n hn
  have hm : N * (a + b) ≤ N * (a + b + c) := Nat.mul_le_mul_left N (by omega)
  have q1 := p1 (n - (a + b)) (by omega)
  have q2 := p2 (n - (a + b)) (by omega)
  rw [show n - (a + b) + (a + b) = n by omega] at q1
  rw [show n - (a + b) + (a + b + c) = n + c by omega] at q2
  exact q2.trans q1.symm
end
end Go.Proofs.Orb
namespace Go.Proofs.Orb

theorem pigeon : ∀ (N : Nat) (f : Nat → Nat), (∀ i, i ≤ N → f i < N) → ∃ i j, i < j ∧ j ≤ N ∧ f i = f j
  | 0, f, h => by have := h 0 (Nat.le_refl _); omega
  | N + 1, f, h => by
    by_cases hl : ∃ i, i ≤ N ∧ f i = f (N + 1)
    · obtain ⟨i, h1, h2⟩ := hl
      exact ⟨i, N + 1, by omega, Nat.le_refl _, h2⟩
    · have hne : ∀ i, i ≤ N → f i ≠ f (N + 1) := fun i hi e => hl ⟨i, hi, e⟩
      obtain ⟨i, j, h1, h2, h3⟩ := pigeon N (fun i => if f i = N then f (N + 1) else f i) (fun i hi => by
        have a1 := h i (by omega)
        have a2 := h (N + 1) (Nat.le_refl _)
        have a3 := hne i hi
        split <;> omega)
      have a1 := hne i (by omega)
      have a2 := hne j h2
      refine ⟨i, j, h1, by omega, ?_⟩
      split at h3 <;> split at h3 <;> omega
theorem pigeon_in (L : List Nat) (f : Nat → Nat) (h : ∀ i, i ≤ L.length → f i ∈ L) : ∃ i j, i < j ∧ j ≤ L.length ∧ f i = f j := by
  obtain ⟨i, j, h1, h2, h3⟩ := pigeon L.length (fun i => L.idxOf (f i)) (fun i hi => List.idxOf_lt_length_of_mem (h i hi))
  refine ⟨i, j, h1, h2, ?_⟩
  have e1 := List.getElem_idxOf (List.idxOf_lt_length_of_mem (h i (by omega)))
  have e2 := List.getElem_idxOf (List.idxOf_lt_length_of_mem (h j h2))
  rw [← e1, ← e2]
  congr 1

section
variable {E : Nat → Nat → Prop}
/-- the vertices of a walk -/
theorem Walk.verts {n u v : Nat} (h : Walk E n u v) : ∃ f : Nat → Nat, ∀ i, i ≤ n → Walk E i u (f i) ∧ ∀ j, i ≤ j → j ≤ n → Walk E (j - i) (f i) (f j) ∧ f n = v ∧ f 0 = u := by
  induction h with
  | nil u => exact ⟨fun _ => u, fun i hi => by
      obtain rfl : i = 0 := by omega
      exact ⟨.nil u, fun j _ hj => by
        obtain rfl : j = 0 := by omega
        exact ⟨.nil u, rfl, rfl⟩⟩⟩
  | @cons n u v t e r ih =>
    obtain ⟨f, hf⟩ := ih
    have hend := (hf n (Nat.le_refl _)).2 n (Nat.le_refl _) (Nat.le_refl _)
    refine ⟨fun i => match i with | 0 => u | i + 1 => f i, fun i hi => ?_⟩
    cases i with
    | zero =>
      refine ⟨.nil u, fun j _ hj => ?_⟩
      cases j with
      | zero => exact ⟨.nil u, hend.2.1, rfl⟩
      | succ j => exact ⟨.cons e ((hf j (by omega)).1), hend.2.1, rfl⟩
    | succ i =>
      refine ⟨.cons e (hf i (by omega)).1, fun j hij hj => ?_⟩
      cases j with
      | zero => omega
      | succ j =>
        have := (hf i (by omega)).2 j (by omega) (by omega)
        rw [show j + 1 - (i + 1) = j - i by omega]
        exact ⟨this.1, hend.2.1, rfl⟩
theorem Walk.lt {N n u v : Nat} (hN : ∀ v t, E v t → t < N) (h : Walk E n u v) (hu : u < N) : v < N := by
  induction h with
  | nil v => exact hu
  | cons e r ih => exact ih (hN _ _ e)
/-- a walk of N steps or more meets a vertex on a closed walk within its first N steps -/
theorem Walk.meets {N n u t : Nat} (hN : ∀ v t, E v t → t < N) (hu : u < N) (h : Walk E n u t) (hn : N ≤ n) : ∃ i c v, 0 < c ∧ i + c ≤ N ∧ Walk E i u v ∧ Walk E c v v ∧ Walk E (n - i) v t ∧ Walk E (n - (i + c)) v t := by
  obtain ⟨f, hf⟩ := h.verts
  have hend := (hf n (Nat.le_refl _)).2 n (Nat.le_refl _) (Nat.le_refl _)
  obtain ⟨i, j, h1, h2, h3⟩ := pigeon N f (fun i hi => (hf i (by omega)).1.lt hN hu)
  refine ⟨i, j - i, f i, by omega, by omega, (hf i (by omega)).1, ?_, ?_, ?_⟩
  · have := ((hf i (by omega)).2 j (by omega) (by omega)).1
    rwa [← h3] at this
  · have := ((hf i (by omega)).2 n (by omega) (Nat.le_refl _)).1
    rwa [hend.2.1] at this
  · have := ((hf j (by omega)).2 n (by omega) (Nat.le_refl _)).1
    rw [hend.2.1, ← h3] at this
    rwa [show i + (j - i) = j by omega]
theorem Walk.short {N u t : Nat} (hN : ∀ v t, E v t → t < N) (hu : u < N) : ∀ n, Walk E n u t → ∃ m, m ≤ N ∧ Walk E m u t := fun n => by
  induction n using Nat.strongRecOn with
  | _ n ih =>
    intro h
    by_cases hn : n ≤ N
    · exact ⟨n, hn, h⟩
    · obtain ⟨i, c, v, hc, hic, h1, h2, h3, h4⟩ := h.meets hN hu (by omega)
      exact ih (i + (n - (i + c))) (by omega) (h1.trans h4)

def Mut (E : Nat → Nat → Prop) (u v : Nat) : Prop := (∃ a, Walk E a u v) ∧ ∃ b, Walk E b v u
theorem Mut.symm {u v : Nat} (h : Mut E u v) : Mut E v u := ⟨h.2, h.1⟩
theorem Mut.trans {u v t : Nat} (h : Mut E u v) (k : Mut E v t) : Mut E u t := by
  obtain ⟨⟨a, h1⟩, b, h2⟩ := h
  obtain ⟨⟨c, k1⟩, d, k2⟩ := k
  exact ⟨⟨a + c, h1.trans k1⟩, d + b, k2.trans h2⟩
def Cyc (E : Nat → Nat → Prop) (u : Nat) : Prop := ∃ c, 0 < c ∧ Walk E c u u
open Classical in
noncomputable def cls (E : Nat → Nat → Prop) (N z : Nat) : List Nat := (List.range N).filter fun t => decide (Mut E z t)
theorem mem_cls {N z t : Nat} : t ∈ cls E N z ↔ t < N ∧ Mut E z t := by
  classical
  unfold cls
  rw [List.mem_filter, List.mem_range, decide_eq_true_iff]
/-- a closed walk no longer than the class -/
theorem cls_cycle {N z : Nat} (hN : ∀ v t, E v t → t < N) (hz : z < N) : ∀ n, 0 < n → Walk E n z z → ∃ c, 0 < c ∧ c ≤ (cls E N z).length ∧ Walk E c z z := fun n => by
  induction n using Nat.strongRecOn with
  | _ n ih =>
    intro h0 h
    by_cases hn : n ≤ (cls E N z).length
    · exact ⟨n, h0, hn, h⟩
    · obtain ⟨f, hf⟩ := h.verts
      have hend := (hf n (Nat.le_refl _)).2 n (Nat.le_refl _) (Nat.le_refl _)
      obtain ⟨i, j, h1, h2, h3⟩ := pigeon_in (cls E N z) f (fun i hi => by
        have a1 := (hf i (by omega)).1
        have a2 := ((hf i (by omega)).2 n (by omega) (Nat.le_refl _)).1
        rw [hend.2.1] at a2
        exact mem_cls.2 ⟨a1.lt hN hz, ⟨_, a1⟩, _, a2⟩)
      have a1 := (hf i (by omega)).1
      have a2 := ((hf j (by omega)).2 n (by omega) (Nat.le_refl _)).1
      rw [hend.2.1, ← h3] at a2
      exact ih (i + (n - j)) (by omega) (by omega) (a1.trans a2)
/-- representatives of the classes with closed walks -/
structure Reps (E : Nat → Nat → Prop) (m : Nat) (Z : List Nat) : Prop where
  cyc : ∀ z ∈ Z, Cyc E z ∧ z < m
  apart : Z.Pairwise fun z z' => ¬ Mut E z z'
  cover : ∀ u, u < m → Cyc E u → ∃ z ∈ Z, Mut E u z
theorem reps (E : Nat → Nat → Prop) : ∀ m, ∃ Z, Reps E m Z
  | 0 => ⟨[], fun z h => (by cases h), .nil, fun u h => by omega⟩
  | m + 1 => by
    obtain ⟨Z, h⟩ := reps E m
    by_cases hc : Cyc E m ∧ ∀ z ∈ Z, ¬ Mut E m z
    · refine ⟨m :: Z, fun z hz => ?_, List.Pairwise.cons hc.2 h.apart, fun u hu hcu => ?_⟩
      · rcases List.mem_cons.1 hz with rfl | hz
        · exact ⟨hc.1, by omega⟩
        · have := h.cyc z hz; exact ⟨this.1, by omega⟩
      · by_cases e : u = m
        · subst e; exact ⟨u, List.mem_cons_self .., ⟨0, .nil u⟩, 0, .nil u⟩
        · obtain ⟨z, hz, hm⟩ := h.cover u (by omega) hcu
          exact ⟨z, List.mem_cons_of_mem _ hz, hm⟩
    · refine ⟨Z, fun z hz => ?_, h.apart, fun u hu hcu => ?_⟩
      · have := h.cyc z hz; exact ⟨this.1, by omega⟩
      · by_cases e : u = m
        · subst e
          refine Classical.byContradiction fun hno => hc ⟨hcu, fun z hz hm => hno ⟨z, hz, hm⟩⟩
        · exact h.cover u (by omega) hcu
open Classical in
theorem cls_sum {Z : List Nat} (hap : Z.Pairwise fun z z' => ¬ Mut E z z') : ∀ N, (Z.map fun z => (cls E N z).length).sum ≤ N
  | 0 => by
    have : (Z.map fun z => (cls E 0 z).length) = Z.map fun _ => 0 := by simp [cls]
    rw [this]
    induction Z with
    | nil => simp
    | cons z Z ih => simpa using ih (List.Pairwise.of_cons hap) (by simp [cls])
  | N + 1 => by
    have ih := cls_sum hap N
    have hstep : ∀ z, (cls E (N + 1) z).length = (cls E N z).length + if Mut E z N then 1 else 0 := fun z => by
      unfold cls
      rw [List.range_succ, List.filter_append, List.length_append]
      by_cases h : Mut E z N <;> simp [h]
    have hone : ∀ Z : List Nat, (Z.Pairwise fun z z' => ¬ Mut E z z') → (Z.map fun z => if Mut E z N then 1 else 0).sum ≤ 1 := fun Z => by
      induction Z with
      | nil => intro _; simp
      | cons z Z ihz =>
        intro hp
        have hp1 := (List.pairwise_cons.1 hp).1
        have hp2 := List.Pairwise.of_cons hp
        rw [List.map_cons, List.sum_cons]
        by_cases hz : Mut E z N
        · have : (Z.map fun z => if Mut E z N then 1 else 0).sum = 0 := by
            have hall : ∀ t ∈ Z, ¬ Mut E t N := fun t ht hm => hp1 t ht (hz.trans hm.symm)
            clear ihz hp hp1 hp2
            induction Z with
            | nil => simp
            | cons t Z iht =>
              rw [List.map_cons, List.sum_cons, if_neg (hall t (List.mem_cons_self ..)), iht fun t ht => hall t (List.mem_cons_of_mem _ ht)]
          rw [this, if_pos hz]
          exact Nat.le_refl _
        · rw [if_neg hz]
          have := ihz hp2
          omega
    have hadd : ∀ Z : List Nat, (Z.map fun z => (cls E (N + 1) z).length).sum = (Z.map fun z => (cls E N z).length).sum + (Z.map fun z => if Mut E z N then 1 else 0).sum := fun Z => by
      induction Z with
      | nil => simp
      | cons z Z ihz =>
        rw [List.map_cons, List.sum_cons, List.map_cons, List.sum_cons, List.map_cons, List.sum_cons, ihz, hstep z]
        omega
    rw [hadd]
    have := hone Z hap
    omega
end

/-! ### the product -/
def prod : List Nat → Nat
  | [] => 1
  | c :: l => c * prod l
theorem dvd_prod {c : Nat} : ∀ {l : List Nat}, c ∈ l → ∃ k, prod l = k * c
  | [], h => by cases h
  | d :: l, h => by
    rcases List.mem_cons.1 h with rfl | h
    · exact ⟨prod l, by rw [prod, Nat.mul_comm]⟩
    · obtain ⟨k, hk⟩ := dvd_prod h
      exact ⟨d * k, by rw [prod, hk, Nat.mul_assoc]⟩
theorem prod_pos : ∀ {l : List Nat}, (∀ c ∈ l, 0 < c) → 0 < prod l
  | [], _ => Nat.one_pos
  | c :: _, h => Nat.mul_pos (h c (List.mem_cons_self ..)) (prod_pos fun d hd => h d (List.mem_cons_of_mem _ hd))
theorem cube_le : ∀ c : Nat, c * c * c ≤ 3 ^ c
  | 0 => by simp
  | 1 => by simp
  | 2 => by simp
  | 3 => by simp
  | c + 4 => by
    have ih := cube_le (c + 3)
    rw [Nat.pow_succ]
    refine Nat.le_trans ?_ (Nat.mul_le_mul_right 3 ih)
    have h : ∀ x : Nat, 3 ≤ x → (x + 1) * (x + 1) * (x + 1) ≤ x * x * x * 3 := fun x hx => by
      have h1 : 3 * (x * x) ≤ x * (x * x) := Nat.mul_le_mul_right (x * x) hx
      have h2 : 3 * x ≤ x * x := Nat.mul_le_mul_right x hx
      have h3 : x * x * x = x * (x * x) := Nat.mul_assoc x x x
      have h4 : (x + 1) * (x + 1) * (x + 1) = x * (x * x) + 3 * (x * x) + 3 * x + 1 := by
        simp only [Nat.add_mul, Nat.mul_add, Nat.one_mul, Nat.mul_one, Nat.mul_assoc]
        omega
      rw [h3, h4]
      omega
    exact h (c + 3) (by omega)
theorem prod_cube : ∀ {l : List Nat} {ks : List Nat}, l.length = ks.length → (∀ p ∈ l.zip ks, p.1 ≤ p.2) → prod l * prod l * prod l ≤ 3 ^ ks.sum
  | [], [], _, _ => by simp [prod]
  | [], _ :: _, h, _ => by simp at h
  | _ :: _, [], h, _ => by simp at h
  | c :: l, k :: ks, h, hp => by
    have ih := prod_cube (l := l) (ks := ks) (by simpa using h) (fun p hp' => hp p (by rw [List.zip_cons_cons]; exact List.mem_cons_of_mem _ hp'))
    have h1 : c ≤ k := hp (c, k) (by rw [List.zip_cons_cons]; exact List.mem_cons_self ..)
    have h2 : c * c * c ≤ 3 ^ k := Nat.le_trans (cube_le c) (Nat.pow_le_pow_right (by omega) h1)
    rw [List.sum_cons, Nat.pow_add, prod]
    calc c * prod l * (c * prod l) * (c * prod l) = c * c * c * (prod l * prod l * prod l) := by ac_rfl
      _ ≤ 3 ^ k * 3 ^ ks.sum := Nat.mul_le_mul h2 ih

/-- **The set comes again.** -/
theorem orbit {E : Nat → Nat → Prop} {N u : Nat} (hN : ∀ v t, E v t → t < N) (hu : u < N) (h64 : N ≤ 64) : ∃ i j, i < j ∧ j ≤ 20000000000 ∧ Same E u i j := by
  obtain ⟨Z, hZ⟩ := reps E N
  have hc : ∀ z ∈ Z, ∃ c, 0 < c ∧ c ≤ (cls E N z).length ∧ Walk E c z z := fun z hz => by
    obtain ⟨⟨n, h0, h⟩, hzN⟩ := hZ.cyc z hz
    exact cls_cycle hN hzN n h0 h
  have hcs : ∃ C : List Nat, C.length = Z.length ∧ (∀ p ∈ Z.zip C, 0 < p.2 ∧ p.2 ≤ (cls E N p.1).length ∧ Walk E p.2 p.1 p.1) := by
    clear hZ
    induction Z with
    | nil => exact ⟨[], rfl, fun p hp => by simp at hp⟩
    | cons z Z ih =>
      obtain ⟨C, h1, h2⟩ := ih fun z hz => hc z (List.mem_cons_of_mem _ hz)
      obtain ⟨c, h3⟩ := hc z (List.mem_cons_self ..)
      refine ⟨c :: C, by simp [h1], fun p hp => ?_⟩
      rw [List.zip_cons_cons] at hp
      rcases List.mem_cons.1 hp with rfl | hp
      · exact h3
      · exact h2 p hp
  obtain ⟨C, hl, hC⟩ := hcs
  have hfind : ∀ (Z C : List Nat), C.length = Z.length → ∀ z ∈ Z, ∃ c ∈ C, (z, c) ∈ Z.zip C := fun Z => by
    induction Z with
    | nil => intro C _ z hz; cases hz
    | cons y Z ih =>
      intro C hl z hz
      cases C with
      | nil => simp at hl
      | cons c C =>
        rw [List.zip_cons_cons]
        rcases List.mem_cons.1 hz with rfl | hz
        · exact ⟨c, List.mem_cons_self .., List.mem_cons_self ..⟩
        · obtain ⟨d, h1, h2⟩ := ih C (by simpa using hl) z hz
          exact ⟨d, List.mem_cons_of_mem _ h1, List.mem_cons_of_mem _ h2⟩
  have hpos : 0 < prod C := by
    refine prod_pos fun c hcm => ?_
    have : ∀ (Z C : List Nat), C.length = Z.length → ∀ c ∈ C, ∃ z, (z, c) ∈ Z.zip C := fun Z => by
      induction Z with
      | nil => intro C hl c hc; have : C = [] := List.eq_nil_of_length_eq_zero (by simpa using hl); rw [this] at hc; cases hc
      | cons y Z ih =>
        intro C hl c hc
        cases C with
        | nil => cases hc
        | cons d C =>
          rw [List.zip_cons_cons]
          rcases List.mem_cons.1 hc with rfl | hc
          · exact ⟨y, List.mem_cons_self ..⟩
          · obtain ⟨z, h⟩ := ih C (by simpa using hl) c hc
            exact ⟨z, List.mem_cons_of_mem _ h⟩
    obtain ⟨z, hz⟩ := this Z C hl c hcm
    exact (hC _ hz).1
  have hbig : prod C ≤ 15100000000 := by
    have h1 := prod_cube (l := C) (ks := Z.map fun z => (cls E N z).length) (by simp [hl]) (fun p hp => by
      have : ∀ (Z C : List Nat), (∀ p ∈ Z.zip C, p.2 ≤ (cls E N p.1).length) → ∀ p ∈ C.zip (Z.map fun z => (cls E N z).length), p.1 ≤ p.2 := fun Z => by
        induction Z with
        | nil => intro C _ p hp; simp at hp
        | cons y Z ih =>
          intro C h p hp
          cases C with
          | nil => simp at hp
          | cons c C =>
            rw [List.map_cons, List.zip_cons_cons] at hp
            rcases List.mem_cons.1 hp with rfl | hp
            · exact h (y, c) (by rw [List.zip_cons_cons]; exact List.mem_cons_self ..)
            · exact ih C (fun q hq => h q (by rw [List.zip_cons_cons]; exact List.mem_cons_of_mem _ hq)) p hp
      exact this Z C (fun q hq => (hC q hq).2.1) p hp)
    have h2 := cls_sum hZ.apart N
    have h3 : prod C * prod C * prod C ≤ 3 ^ 64 := Nat.le_trans h1 (Nat.pow_le_pow_right (by omega) (by omega))
    rcases Nat.lt_or_ge 15100000000 (prod C) with hlt | hge
    · have h4 : 15100000001 * 15100000001 * 15100000001 ≤ prod C * prod C * prod C := Nat.mul_le_mul (Nat.mul_le_mul hlt hlt) hlt
      have h5 : (3 : Nat) ^ 64 < 15100000001 * 15100000001 * 15100000001 := by decide
      omega
    · exact hge
  have hN2 : N * (N + N + N) ≤ 64 * (64 + 64 + 64) := Nat.mul_le_mul h64 (by omega)
  have hper : ∀ v, v < N → Cyc E v → ∀ m, N * (N + N + N) + (N + N) ≤ m → Same E v (m + prod C) m := fun v hv hcv m hm => by
    obtain ⟨z, hz, ⟨a, w1⟩, b, w2⟩ := hZ.cover v hv hcv
    obtain ⟨a', ha, w1'⟩ := Walk.short hN hv a w1
    obtain ⟨b', hb, w2'⟩ := Walk.short hN (hZ.cyc z hz).2 b w2
    obtain ⟨c, hcC, hzc⟩ := hfind Z C hl z hz
    obtain ⟨c0, c1, c2⟩ := hC _ hzc
    have hcN : c ≤ N := by
      have : (cls E N z).length ≤ N := by
        classical
        unfold cls
        exact Nat.le_trans (List.length_filter_le _ _) (by rw [List.length_range]; exact Nat.le_refl _)
      simp only at c1
      omega
    have hp := near_periodic (c := c) hN hv w1' w2' c2
    have hmm : N * (a' + b' + c) + (a' + b') ≤ N * (N + N + N) + (N + N) := Nat.add_le_add (Nat.mul_le_mul_left N (by omega)) (by omega)
    obtain ⟨k, hk⟩ := dvd_prod hcC
    rw [hk]
    exact Same.mul (fun n hn => hp n (by omega)) k m hm
  refine ⟨N + (N * (N + N + N) + (N + N)), N + (N * (N + N + N) + (N + N)) + prod C, by omega, by omega, fun t => ⟨fun hw => ?_, fun hw => ?_⟩⟩
  · obtain ⟨i, c, v, hc0, hic, h1, h2, h3, _⟩ := hw.meets hN hu (by omega)
    have hv := h1.lt hN hu
    have := (hper v hv ⟨c, hc0, h2⟩ (N + (N * (N + N + N) + (N + N)) - i) (by omega) t).2 h3
    have h5 := h1.trans this
    rwa [show i + (N + (N * (N + N + N) + (N + N)) - i + prod C) = N + (N * (N + N + N) + (N + N)) + prod C by omega] at h5
  · obtain ⟨i, c, v, hc0, hic, h1, h2, h3, _⟩ := hw.meets hN hu (by omega)
    have hv := h1.lt hN hu
    rw [show N + (N * (N + N + N) + (N + N)) + prod C - i = N + (N * (N + N + N) + (N + N)) - i + prod C by omega] at h3
    have := (hper v hv ⟨c, hc0, h2⟩ (N + (N * (N + N + N) + (N + N)) - i) (by omega) t).1 h3
    have h5 := h1.trans this
    rwa [show i + (N + (N * (N + N + N) + (N + N)) - i) = N + (N * (N + N + N) + (N + N)) by omega] at h5
end Go.Proofs.Orb
