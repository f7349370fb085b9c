/- Words of an automaton by their length: counts; the shortest word. -/
import Derived.Test.YtjgkdfghjeodeaaGreatDoorT19
namespace Go.Proofs.YtjgkdfghjeodeaaGreatDoor
open Go.Proofs.Orb

theorem class_bytes {c : Nat} (h0 : c ≠ 0) (h : c < 2 ^ 256) : ∃ b, b < 256 ∧ c.testBit b = true := by
  obtain ⟨b, hb⟩ := Nat.exists_testBit_of_ne_zero h0
  refine ⟨b, ?_, hb⟩
  rcases Nat.lt_or_ge b 256 with h1 | h1
  · exact h1
  · have : c < 2 ^ b := Nat.lt_of_lt_of_le h (Nat.pow_le_pow_right (by decide) h1)
    rw [Nat.testBit_lt_two_pow this] at hb
    cases hb
def sizeC (c : Nat) : Nat := (bytesC c).length
theorem sizeC_pos {c : Nat} (h0 : c ≠ 0) (h : c < 2 ^ 256) : 1 ≤ sizeC c := by
  obtain ⟨b, h1, h2⟩ := class_bytes h0 h
  have : b ∈ bytesC c := mem_bytesC.2 ⟨h1, h2⟩
  exact List.length_pos_of_mem this
def sumC : List Nat → Nat
  | [] => 0
  | c :: r => sizeC c + sumC r
theorem sumC_len : ∀ l : List Nat, sumC l = (l.flatMap bytesC).length
  | [] => rfl
  | c :: r => by rw [sumC, sumC_len r, List.flatMap_cons, List.length_append]; rfl
theorem flat_nodup : ∀ l : List Nat, (∀ b, b < 256 → ∀ i j, i < l.length → j < l.length → (l.getD i 0).testBit b = true → (l.getD j 0).testBit b = true → i = j) → (l.flatMap bytesC).Nodup
  | [], _ => by simp
  | c :: r, h => by
    rw [List.flatMap_cons, List.nodup_append]
    refine ⟨List.Nodup.sublist List.filter_sublist List.nodup_range, flat_nodup r fun b hb i j hi hj h1 h2 => ?_, ?_⟩
    · have := h b hb (i + 1) (j + 1) (by simp; omega) (by simp; omega) (by simpa using h1) (by simpa using h2)
      omega
    · intro x hx y hy e
      subst e
      obtain ⟨c', hc', hb'⟩ := List.mem_flatMap.1 hy
      obtain ⟨k, hk⟩ := List.getElem?_of_mem hc'
      have hkl := (List.getElem?_eq_some_iff.1 hk).1
      obtain ⟨h1, h2⟩ := mem_bytesC.1 hx
      obtain ⟨_, h3⟩ := mem_bytesC.1 hb'
      have := h x h1 0 (k + 1) (by simp) (by simp; omega) (by simpa using h2) (by rw [List.getD_eq_getElem?_getD, List.getElem?_cons_succ, hk]; exact h3)
      omega
theorem sumC_le {d : Dfa} (h : VD d) : sumC d.cls ≤ 256 := by
  rw [sumC_len]
  refine nodup_le 256 _ (flat_nodup d.cls fun b hb i j hi hj h1 h2 => ?_) fun x hx => ?_
  · obtain ⟨k, _, hk⟩ := h.part b hb
    rw [hk i] at h1
    rw [hk j] at h2
    have e1 : i = k := by simpa using h1
    have e2 : j = k := by simpa using h2
    omega
  · obtain ⟨c, _, hc⟩ := List.mem_flatMap.1 hx
    exact (mem_bytesC.1 hc).1

def mostW : Nat := 1099511627776
/-- one cell of a row of counts: the classes from k on -/
def cntCell (prev : List Nat) : List Nat → List Nat → Nat → Nat
  | c :: cs, t :: ts, o => cntCell prev cs ts (min (o + sizeC c * prev.getD t 0) (mostW + 1))
  | _, _, o => o
def cntRow (d : Dfa) (prev : List Nat) : List Nat := (List.range d.nxt.length).map fun s => cntCell prev d.cls (d.nxt.getD s []) 0
def cntZero (d : Dfa) : List Nat := (List.range d.nxt.length).map fun s => if d.acc.getD s false then 1 else 0
def cntAt (d : Dfa) : Nat → List Nat
  | 0 => cntZero d
  | i + 1 => cntRow d (cntAt d i)
def countD (d : Dfa) (n : Nat) : Nat := (cntAt d n).getD 0 0

theorem cntAt_len (d : Dfa) (i : Nat) : (cntAt d i).length = d.nxt.length := by cases i <;> simp [cntAt, cntZero, cntRow]
theorem cntCell_le {prev : List Nat} {B : Nat} (hp : ∀ t, prev.getD t 0 ≤ B) : ∀ (cs ts : List Nat) (o : Nat), cntCell prev cs ts o ≤ o + sumC cs * B
  | [], _, o => by simp [cntCell]
  | c :: cs, [], o => by simp [cntCell]
  | c :: cs, t :: ts, o => by
    rw [cntCell, sumC]
    have ih := cntCell_le hp cs ts (min (o + sizeC c * prev.getD t 0) (mostW + 1))
    have h1 : sizeC c * prev.getD t 0 ≤ sizeC c * B := Nat.mul_le_mul_left _ (hp t)
    have h2 : min (o + sizeC c * prev.getD t 0) (mostW + 1) ≤ o + sizeC c * prev.getD t 0 := Nat.min_le_left _ _
    rw [Nat.add_mul]
    omega
theorem cntCell_pos {prev : List Nat} : ∀ (cs ts : List Nat) (o : Nat), cs.length = ts.length → (∀ c ∈ cs, 1 ≤ sizeC c) → (1 ≤ cntCell prev cs ts o ↔ 1 ≤ o ∨ ∃ t ∈ ts, 1 ≤ prev.getD t 0)
  | [], [], o, _, _ => by simp [cntCell]
  | c :: cs, t :: ts, o, hl, hc => by
    rw [cntCell, cntCell_pos cs ts _ (by simpa using hl) fun x hx => hc x (List.mem_cons_of_mem _ hx)]
    have h1 := hc c List.mem_cons_self
    have h2 : 1 ≤ min (o + sizeC c * prev.getD t 0) (mostW + 1) ↔ 1 ≤ o ∨ 1 ≤ prev.getD t 0 := by
      rw [Nat.le_min]
      constructor
      · rintro ⟨h, _⟩
        rcases Nat.eq_zero_or_pos (prev.getD t 0) with h0 | h0
        · rw [h0, Nat.mul_zero] at h; exact .inl h
        · exact .inr h0
      · intro h
        refine ⟨?_, by unfold mostW; omega⟩
        rcases h with h | h
        · omega
        · have : 1 ≤ sizeC c * prev.getD t 0 := Nat.mul_pos h1 h
          omega
    rw [h2]
    constructor
    · rintro ((h | h) | ⟨x, hx, h⟩)
      · exact .inl h
      · exact .inr ⟨t, List.mem_cons_self, h⟩
      · exact .inr ⟨x, List.mem_cons_of_mem _ hx, h⟩
    · rintro (h | ⟨x, hx, h⟩)
      · exact .inl (.inl h)
      · rcases List.mem_cons.1 hx with rfl | hx
        · exact .inl (.inr h)
        · exact .inr ⟨x, hx, h⟩
  | [], _ :: _, _, hl, _ => by simp at hl
  | _ :: _, [], _, hl, _ => by simp at hl
theorem map_range_getD (n s : Nat) (f : Nat → Nat) : ((List.range n).map f).getD s 0 = if s < n then f s else 0 := by
  rw [List.getD_eq_getElem?_getD, List.getElem?_map]
  split
  · rename_i h; rw [List.getElem?_range h]; rfl
  · rename_i h; rw [List.getElem?_eq_none (by simp; omega)]; rfl
theorem cntAt_le {d : Dfa} (h : VD d) : ∀ i s, (cntAt d i).getD s 0 ≤ 256 ^ i
  | 0, s => by
    rw [cntAt, cntZero, map_range_getD]
    split
    · split <;> simp
    · simp
  | i + 1, s => by
    rw [cntAt, cntRow, map_range_getD]
    split
    · have := cntCell_le (cntAt_le h i) d.cls (d.nxt.getD s []) 0
      have h2 : sumC d.cls * 256 ^ i ≤ 256 * 256 ^ i := Nat.mul_le_mul_right _ (sumC_le h)
      rw [Nat.pow_succ, Nat.mul_comm (256 ^ i)]
      omega
    · exact Nat.zero_le _
theorem cntAt_pos {d : Dfa} (h : VD d) : ∀ i s, s < d.nxt.length → (1 ≤ (cntAt d i).getD s 0 ↔ ∃ t, Walk (EdgeD d) i s t ∧ d.acc.getD t false = true)
  | 0, s, hs => by
    rw [cntAt, cntZero, map_range_getD, if_pos hs]
    constructor
    · intro h1
      split at h1
      · exact ⟨s, .nil s, by assumption⟩
      · omega
    · rintro ⟨t, hw, ha⟩
      rw [hw.zero, if_pos ha]
      exact Nat.le_refl _
  | i + 1, s, hs => by
    have hr := h.row _ (getD_mem' (d := []) hs)
    rw [cntAt, cntRow, map_range_getD, if_pos hs, cntCell_pos _ _ _ hr.1.symm fun c hc => sizeC_pos (h.ne c hc).1 (h.ne c hc).2]
    constructor
    · rintro (h1 | ⟨t, ht, h1⟩)
      · omega
      · obtain ⟨u, hw, ha⟩ := (cntAt_pos h i t (hr.2 t ht)).1 h1
        exact ⟨u, .cons ht hw, ha⟩
    · rintro ⟨u, hw, ha⟩
      cases hw with
      | cons e r => exact .inr ⟨_, e, (cntAt_pos h i _ (hr.2 _ e)).2 ⟨u, r, ha⟩⟩
theorem count_le {d : Dfa} (h : VD d) {n : Nat} (hn : n ≤ 4) : countD d n ≤ 4294967296 := by
  have h1 := cntAt_le h n 0
  have h2 : 256 ^ n ≤ 256 ^ 4 := Nat.pow_le_pow_right (by decide) hn
  unfold countD
  have : (256 : Nat) ^ 4 = 4294967296 := by decide
  omega
theorem count_pos {d : Dfa} (h : VD d) (n : Nat) : 1 ≤ countD d n ↔ HasLen d n := cntAt_pos h n 0 (by have := h.pos; omega)

/-! ### the shortest word -/
/-- a step of a table by a byte -/
def tgT (t : Tbl) (s b : Nat) : Nat := (t.nxt.getD s []).getD (t.cell.getD b 0) 0
theorem tg_edge {d : Dfa} (h : VD d) {s b : Nat} (hs : s < d.nxt.length) (hb : b < 256) : EdgeD d s (tgT (tableOf d) s b) := by
  obtain ⟨i, hi, hp⟩ := h.part b hb
  unfold tgT EdgeD
  rw [tableOf_get b i hb hi hp]
  have hr := h.row _ (getD_mem' (d := []) hs)
  exact getD_mem' (by rw [hr.1]; exact hi)
theorem edge_tg {d : Dfa} (h : VD d) {s u : Nat} (hs : s < d.nxt.length) (he : EdgeD d s u) : ∃ b, b < 256 ∧ tgT (tableOf d) s b = u := by
  obtain ⟨k, hk⟩ := List.getElem?_of_mem he
  have hr := h.row _ (getD_mem' (d := []) hs)
  have hkl : k < d.cls.length := by rw [← hr.1]; exact (List.getElem?_eq_some_iff.1 hk).1
  have hc := h.ne _ (getD_mem' (l := d.cls) (d := 0) hkl)
  obtain ⟨b, hb, hbit⟩ := class_bytes hc.1 hc.2
  obtain ⟨i, hi, hp⟩ := h.part b hb
  have hik : k = i := by rw [hp k] at hbit; simpa using hbit
  subst hik
  refine ⟨b, hb, ?_⟩
  unfold tgT
  rw [tableOf_get b k hb hi hp]
  show (d.nxt.getD s []).getD k 0 = u
  rw [List.getD_eq_getElem?_getD, hk]; rfl

/-- what the search has found when it looks at the i-th state -/
structure BF (d : Dfa) (i : Nat) (fr : List Int) (l : List Nat) (dep : Nat → Nat) : Prop where
  fl : fr.length = d.nxt.length
  nd : l.Nodup
  lt : Lt d.nxt.length l
  zero : l.getD 0 0 = 0
  pos : 1 ≤ l.length
  seen : ∀ u, u < d.nxt.length → (0 ≤ fr.getD u 0 ↔ u ∈ l)
  d0 : dep 0 = 0
  walk : ∀ u ∈ l, Walk (EdgeD d) (dep u) 0 u
  back : ∀ u ∈ l, u ≠ 0 → ∃ v ∈ l, fr.getD u 0 = (v : Nat) ∧ dep u = dep v + 1
  z0 : fr.getD 0 0 = 0
  mono : ∀ a b, a ≤ b → b < l.length → dep (l.getD a 0) ≤ dep (l.getD b 0)
  last : i < l.length → ∀ u ∈ l, dep u ≤ dep (l.getD i 0) + 1
  closed : ∀ j, j < i → ∀ u, EdgeD d (l.getD j 0) u → u ∈ l ∧ dep u ≤ dep (l.getD j 0) + 1
  noacc : ∀ j, j < i → d.acc.getD (l.getD j 0) false = false
  il : i ≤ l.length

theorem BF.start {d : Dfa} (h : VD d) : BF d 0 ((List.replicate d.nxt.length (-1)).set 0 0) [0] (fun _ => 0) := by
  have hp := h.pos
  have hget : ∀ u, u < d.nxt.length → ((List.replicate d.nxt.length (-1 : Int)).set 0 0).getD u 0 = if u = 0 then 0 else -1 := fun u hu => by
    rw [getD_set]
    by_cases h0 : u = 0
    · subst h0; rw [if_pos ⟨rfl, by simpa using hu⟩, if_pos rfl]
    · rw [if_neg (by omega), if_neg h0, List.getD_eq_getElem?_getD, List.getElem?_replicate, if_pos hu]; rfl
  refine ⟨by simp, by simp, fun x hx => by simp at hx; omega, rfl, by simp, fun u hu => ?_, rfl, fun u hu => ?_, fun u hu h0 => ?_, ?_, fun a b h1 h2 => Nat.le_refl _, fun _ u _ => by simp, fun j hj => by omega, fun j hj => by omega, by simp⟩
  · rw [hget u hu]
    by_cases h0 : u = 0
    · subst h0; simp
    · simp [h0]
  · have : u = 0 := by simpa using hu
    subst this; exact .nil 0
  · have : u = 0 := by simpa using hu
    exact absurd this h0
  · rw [hget 0 (by omega)]; simp

/-- between two bytes -/
structure BB (d : Dfa) (i b : Nat) (fr : List Int) (l : List Nat) (dep : Nat → Nat) : Prop where
  bf : BF d i fr l dep
  ii : i < l.length
  na : d.acc.getD (l.getD i 0) false = false
  done : ∀ x, x < b → tgT (tableOf d) (l.getD i 0) x ∈ l

theorem getD_snoc {l : List Nat} {a x : Nat} (h : a < l.length) : (l ++ [x]).getD a 0 = l.getD a 0 := by
  rw [List.getD_eq_getElem?_getD, List.getD_eq_getElem?_getD, List.getElem?_append_left h]
theorem getD_snoc' {l : List Nat} {x : Nat} : (l ++ [x]).getD l.length 0 = x := by
  rw [List.getD_eq_getElem?_getD, List.getElem?_append_right (Nat.le_refl _)]; simp

theorem BB.hit {d : Dfa} (h : VD d) {i b : Nat} {fr : List Int} {l : List Nat} {dep : Nat → Nat} (hB : BB d i b fr l dep) (hb : b < 256) (hf : 0 ≤ fr.getD (tgT (tableOf d) (l.getD i 0) b) 0) : BB d i (b + 1) fr l dep :=
  ⟨hB.bf, hB.ii, hB.na, fun x hx => by
    rcases Nat.lt_or_ge x b with h1 | h1
    · exact hB.done x h1
    · have hs : l.getD i 0 < d.nxt.length := hB.bf.lt _ (getD_mem' hB.ii)
      rw [show x = b by omega]
      exact (hB.bf.seen _ (edge_lt h _ _ (tg_edge h hs hb))).1 hf⟩
theorem BB.miss {d : Dfa} (h : VD d) {i b : Nat} {fr : List Int} {l : List Nat} {dep : Nat → Nat} (hB : BB d i b fr l dep) (hb : b < 256) (hf : fr.getD (tgT (tableOf d) (l.getD i 0) b) 0 < 0) :
    BB d i (b + 1) (fr.set (tgT (tableOf d) (l.getD i 0) b) (l.getD i 0 : Nat)) (l ++ [tgT (tableOf d) (l.getD i 0) b]) (fun u => if u = tgT (tableOf d) (l.getD i 0) b then dep (l.getD i 0) + 1 else dep u) := by
  have hsm : l.getD i 0 ∈ l := getD_mem' hB.ii
  have hs : l.getD i 0 < d.nxt.length := hB.bf.lt _ hsm
  have he := tg_edge h hs hb
  have hgl := edge_lt h _ _ he
  obtain ⟨s, hS⟩ : ∃ s, l.getD i 0 = s := ⟨_, rfl⟩
  rw [hS] at hsm hs he hgl hf ⊢
  obtain ⟨g, hg⟩ : ∃ g, tgT (tableOf d) s b = g := ⟨_, rfl⟩
  rw [hg] at he hgl hf ⊢
  have hB' := hB.bf
  have hnm : g ∉ l := fun hm => by have := (hB'.seen g hgl).2 hm; omega
  have hne : ∀ u ∈ l, u ≠ g := fun u hu e => hnm (e ▸ hu)
  have hii := hB.ii
  have hpos := hB'.pos
  have h0 : (0 : Nat) ≠ g := fun e => hnm (by
    have := getD_mem' (d := 0) (i := 0) (l := l) hpos
    rw [hB'.zero] at this
    rw [← e]; exact this)
  have hset : ∀ u, u ≠ g → (fr.set g (s : Int)).getD u 0 = fr.getD u 0 := fun u hu => by rw [getD_set, if_neg (fun h => hu h.1.symm)]
  have hgi : ∀ a, a < l.length → (l ++ [g]).getD a 0 = l.getD a 0 := fun a ha => getD_snoc ha
  refine ⟨⟨by simp [hB'.fl], ?_, ?_, ?_, by simp, fun u hu => ?_, ?_, fun u hu => ?_, fun u hu hu0 => ?_, ?_, fun a b' h1 h2 => ?_, fun hi u hu => ?_, fun j hj u hE => ?_, fun j hj => ?_, by simp; omega⟩, by simp; omega, ?_, fun x hx => ?_⟩
  · rw [List.nodup_append]
    exact ⟨hB'.nd, by simp, fun x hx y hy e => hnm (by rw [List.mem_singleton.1 hy] at e; exact e ▸ hx)⟩
  · intro x hx
    rcases List.mem_append.1 hx with hx | hx
    · exact hB'.lt x hx
    · rw [List.mem_singleton.1 hx]; exact hgl
  · rw [hgi 0 hpos]; exact hB'.zero
  · by_cases e : u = g
    · subst e
      rw [getD_set, if_pos ⟨rfl, by rw [hB'.fl]; exact hgl⟩]
      simp
    · rw [hset u e, hB'.seen u hu]
      simp [e]
  · rw [if_neg h0]; exact hB'.d0
  · rcases List.mem_append.1 hu with hu | hu
    · rw [if_neg (hne u hu)]; exact hB'.walk u hu
    · rw [List.mem_singleton.1 hu, if_pos rfl]
      exact walk_snoc.2 ⟨s, hB'.walk s hsm, he⟩
  · rcases List.mem_append.1 hu with hu | hu
    · obtain ⟨v, h1, h2, h3⟩ := hB'.back u hu hu0
      exact ⟨v, List.mem_append_left _ h1, by rw [hset u (hne u hu)]; exact h2, by rw [if_neg (hne u hu), if_neg (hne v h1)]; exact h3⟩
    · have e := List.mem_singleton.1 hu
      subst e
      refine ⟨s, List.mem_append_left _ hsm, ?_, ?_⟩
      · rw [getD_set, if_pos ⟨rfl, by rw [hB'.fl]; exact hgl⟩]
      · rw [if_pos rfl, if_neg (hne s hsm)]
  · rw [hset 0 h0]; exact hB'.z0
  · rw [List.length_append, List.length_singleton] at h2
    rcases Nat.lt_or_ge b' l.length with h3 | h3
    · rw [hgi a (by omega), hgi b' h3, if_neg (hne _ (getD_mem' (by omega))), if_neg (hne _ (getD_mem' h3))]
      exact hB'.mono a b' h1 h3
    · obtain rfl : b' = l.length := by omega
      rw [getD_snoc', if_pos rfl]
      rcases Nat.lt_or_ge a l.length with h4 | h4
      · rw [hgi a h4, if_neg (hne _ (getD_mem' h4))]
        have := hB'.last hii _ (getD_mem' (d := 0) h4)
        rw [hS] at this
        exact this
      · obtain rfl : a = l.length := by omega
        rw [getD_snoc', if_pos rfl]
        exact Nat.le_refl _
  · rw [hgi i hii, hS, if_neg (hne s hsm)]
    rcases List.mem_append.1 hu with hu | hu
    · rw [if_neg (hne u hu)]
      have := hB'.last hii u hu
      rw [hS] at this
      exact this
    · rw [List.mem_singleton.1 hu, if_pos rfl]
      exact Nat.le_refl _
  · rw [hgi j (by omega)] at hE
    obtain ⟨c1, c2⟩ := hB'.closed j hj u hE
    refine ⟨List.mem_append_left _ c1, ?_⟩
    rw [hgi j (by omega), if_neg (hne u c1), if_neg (hne _ (getD_mem' (by omega)))]
    exact c2
  · rw [hgi j (by omega)]
    exact hB'.noacc j hj
  · rw [hgi i hii]; exact hB.na
  · rw [hgi i hii, hS]
    rcases Nat.lt_or_ge x b with h1 | h1
    · have := hB.done x h1
      rw [hS] at this
      exact List.mem_append_left _ this
    · rw [show x = b by omega, hg]
      exact List.mem_append_right _ (List.mem_singleton.2 rfl)
theorem BB.next {d : Dfa} (h : VD d) {i : Nat} {fr : List Int} {l : List Nat} {dep : Nat → Nat} (hB : BB d i 256 fr l dep) : BF d (i + 1) fr l dep := by
  have hb := hB.bf
  have hii := hB.ii
  refine ⟨hb.fl, hb.nd, hb.lt, hb.zero, hb.pos, hb.seen, hb.d0, hb.walk, hb.back, hb.z0, hb.mono, fun hi u hu => ?_, fun j hj u hE => ?_, fun j hj => ?_, by omega⟩
  · have h1 := hb.last hii u hu
    have h2 := hb.mono i (i + 1) (by omega) hi
    omega
  · rcases Nat.lt_or_ge j i with h1 | h1
    · exact hb.closed j h1 u hE
    · obtain rfl : j = i := by omega
      obtain ⟨b, hbb, e⟩ := edge_tg h (hb.lt _ (getD_mem' hii)) hE
      have hm := hB.done b hbb
      rw [e] at hm
      exact ⟨hm, hb.last hii u hm⟩
  · rcases Nat.lt_or_ge j i with h1 | h1
    · exact hb.noacc j h1
    · obtain rfl : j = i := by omega
      exact hB.na
theorem BF.all {d : Dfa} {i : Nat} {fr : List Int} {l : List Nat} {dep : Nat → Nat} (hb : BF d i fr l dep) {D : Nat} (hD : ∀ u ∈ l, dep u < D → ∃ j, j < i ∧ l.getD j 0 = u) : ∀ k, k ≤ D → ∀ t, Walk (EdgeD d) k 0 t → t ∈ l ∧ dep t ≤ k
  | 0, _, t, hw => by
    have := hw.zero
    subst this
    refine ⟨?_, by rw [hb.d0]; exact Nat.le_refl _⟩
    have := getD_mem' (d := 0) (i := 0) (l := l) hb.pos
    rw [hb.zero] at this
    exact this
  | k + 1, hk, t, hw => by
    obtain ⟨v, hv, he⟩ := walk_snoc.1 hw
    obtain ⟨h1, h2⟩ := hb.all hD k (by omega) v hv
    obtain ⟨j, hj, e⟩ := hD v h1 (by omega)
    obtain ⟨c1, c2⟩ := hb.closed j hj t (by rw [e]; exact he)
    rw [e] at c2
    exact ⟨c1, by omega⟩
/-- **the first accepting state is a nearest one** -/
theorem BF.found {d : Dfa} {i : Nat} {fr : List Int} {l : List Nat} {dep : Nat → Nat} (hb : BF d i fr l dep) (hi : i < l.length) (ha : d.acc.getD (l.getD i 0) false = true) :
    HasLen d (dep (l.getD i 0)) ∧ ∀ k, k < dep (l.getD i 0) → ¬ HasLen d k := by
  refine ⟨⟨_, hb.walk _ (getD_mem' hi), ha⟩, fun k hk ⟨t, hw, hat⟩ => ?_⟩
  have hD : ∀ u ∈ l, dep u < dep (l.getD i 0) → ∃ j, j < i ∧ l.getD j 0 = u := fun u hu hlt => by
    obtain ⟨j, hj⟩ := List.getElem?_of_mem hu
    have hjl := (List.getElem?_eq_some_iff.1 hj).1
    have e : l.getD j 0 = u := by rw [List.getD_eq_getElem?_getD, hj]; rfl
    refine ⟨j, ?_, e⟩
    rcases Nat.lt_or_ge j i with h1 | h1
    · exact h1
    · have := hb.mono i j h1 hjl
      rw [e] at this
      omega
  obtain ⟨h1, h2⟩ := hb.all hD k (by omega) t hw
  obtain ⟨j, hj, e⟩ := hD t h1 (by omega)
  have := hb.noacc j hj
  rw [e, hat] at this
  cases this
theorem BF.none_ {d : Dfa} {fr : List Int} {l : List Nat} {dep : Nat → Nat} (hb : BF d l.length fr l dep) (k : Nat) : ¬ HasLen d k := by
  rintro ⟨t, hw, hat⟩
  have hD : ∀ u ∈ l, dep u < k + 1 → ∃ j, j < l.length ∧ l.getD j 0 = u := fun u hu _ => by
    obtain ⟨j, hj⟩ := List.getElem?_of_mem hu
    exact ⟨j, (List.getElem?_eq_some_iff.1 hj).1, by rw [List.getD_eq_getElem?_getD, hj]; rfl⟩
  obtain ⟨h1, h2⟩ := hb.all hD k (by omega) t hw
  obtain ⟨j, hj, e⟩ := hD t h1 (by omega)
  have := hb.noacc j hj
  rw [e, hat] at this
  cases this
/-- the depth is small -/
theorem BF.small {d : Dfa} {i : Nat} {fr : List Int} {l : List Nat} {dep : Nat → Nat} (hb : BF d i fr l dep) : ∀ j, j < l.length → dep (l.getD j 0) ≤ j := by
  intro j
  induction j using Nat.strongRecOn with
  | _ j ih =>
    intro hj
    by_cases h0 : l.getD j 0 = 0
    · rw [h0, hb.d0]; exact Nat.zero_le _
    · obtain ⟨v, hv, _, hd⟩ := hb.back _ (getD_mem' (d := 0) hj) h0
      obtain ⟨a, hav⟩ := List.getElem?_of_mem hv
      have hal := (List.getElem?_eq_some_iff.1 hav).1
      have ea : l.getD a 0 = v := by rw [List.getD_eq_getElem?_getD, hav]; rfl
      have haj : a < j := by
        rcases Nat.lt_or_ge a j with h1 | h1
        · exact h1
        · have := hb.mono j a h1 hal
          rw [ea] at this
          omega
      have := ih a haj hal
      rw [ea] at this
      omega
end Go.Proofs.YtjgkdfghjeodeaaGreatDoor
