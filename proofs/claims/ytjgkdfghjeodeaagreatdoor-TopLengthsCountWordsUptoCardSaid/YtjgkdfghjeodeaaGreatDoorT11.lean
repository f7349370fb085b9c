/- The plain functions on automata: blocks of equivalent states, classes, the canonical form. -/
import Derived.Test.YtjgkdfghjeodeaaGreatDoorT8
namespace Go.Proofs.YtjgkdfghjeodeaaGreatDoor

theorem two_len (x : Nat) : (two x).length = 2 := rfl
theorem two_inj {x y : Nat} (hx : x < 65536) (hy : y < 65536) (h : two x = two y) : x = y := by
  simp only [two, List.cons.injEq, and_true] at h
  omega

/-- between two states of a pass: rest are still tg come -/
structure RP (block : List Nat) (nxt : List (List Nat)) (n : Nat) (done : List Nat) (keys : List (List Nat)) (next reps : List Nat) : Prop where
  kl : keys.length = reps.length
  nl : next.length = n
  sub : ∀ s ∈ reps, s ∈ done
  le : reps.length ≤ done.length
  nd : done.Nodup
  is : ∀ s ∈ done, keys[next.getD s 0]? = some (keyS block nxt s)
  back : ∀ i s, reps[i]? = some s → next.getD s 0 = i
theorem RP.lt {block : List Nat} {nxt : List (List Nat)} {n : Nat} {done : List Nat} {keys : List (List Nat)} {next reps : List Nat} (h : RP block nxt n done keys next reps) {s : Nat} (hs : s ∈ done) : next.getD s 0 < reps.length := by
  have := (List.getElem?_eq_some_iff.1 (h.is s hs)).1
  have := h.kl
  omega
theorem RP.hit {block : List Nat} {nxt : List (List Nat)} {n : Nat} {done : List Nat} {keys : List (List Nat)} {next reps : List Nat} (h : RP block nxt n done keys next reps) {s id : Nat} (hs : s < n) (hd : s ∉ done) (hk : idxK (keyS block nxt s) keys 0 = some id) : RP block nxt n (done ++ [s]) keys (next.set s id) reps := by
  obtain ⟨h1, h2⟩ := idxK_is _ _ hk
  refine ⟨h.kl, by rw [List.length_set, h.nl], fun x hx => List.mem_append_left _ (h.sub x hx), by rw [List.length_append]; exact Nat.le_add_right_of_le h.le, ?_, fun x hx => ?_, fun i x hx => ?_⟩
  · rw [List.nodup_append]
    exact ⟨h.nd, by simp, fun a ha b hb => by simp at hb; subst hb; exact fun e => hd (e ▸ ha)⟩
  · rw [getD_set, h.nl]
    rcases List.mem_append.1 hx with hx | hx
    · rw [if_neg (by rintro ⟨rfl, _⟩; exact hd hx)]; exact h.is x hx
    · simp at hx; subst hx
      rw [if_pos ⟨rfl, hs⟩]; exact h1
  · have hxd := h.sub x (List.mem_of_getElem? hx)
    rw [getD_set, if_neg (by rintro ⟨rfl, _⟩; exact hd hxd)]
    exact h.back i x hx
theorem RP.miss {block : List Nat} {nxt : List (List Nat)} {n : Nat} {done : List Nat} {keys : List (List Nat)} {next reps : List Nat} (h : RP block nxt n done keys next reps) {s : Nat} (hs : s < n) (hd : s ∉ done) : RP block nxt n (done ++ [s]) (keys ++ [keyS block nxt s]) (next.set s reps.length) (reps ++ [s]) := by
  refine ⟨by simp [h.kl], by rw [List.length_set, h.nl], fun x hx => ?_, by simp [h.le], ?_, fun x hx => ?_, fun i x hx => ?_⟩
  · rcases List.mem_append.1 hx with hx | hx
    · exact List.mem_append_left _ (h.sub x hx)
    · exact List.mem_append_right _ hx
  · rw [List.nodup_append]
    exact ⟨h.nd, by simp, fun a ha b hb => by simp at hb; subst hb; exact fun e => hd (e ▸ ha)⟩
  · rw [getD_set, h.nl]
    rcases List.mem_append.1 hx with hx | hx
    · rw [if_neg (by rintro ⟨rfl, _⟩; exact hd hx)]
      have h1 := h.is x hx
      rw [List.getElem?_append_left (List.getElem?_eq_some_iff.1 h1).1]; exact h1
    · simp at hx; subst hx
      rw [if_pos ⟨rfl, hs⟩, ← h.kl]; simp
  · rw [getD_set, h.nl]
    by_cases hi : i < reps.length
    · rw [List.getElem?_append_left hi] at hx
      have hxd := h.sub x (List.mem_of_getElem? hx)
      rw [if_neg (by rintro ⟨rfl, _⟩; exact hd hxd)]
      exact h.back i x hx
    · rw [List.getElem?_append_right (by omega)] at hx
      have h0 : i - reps.length = 0 := by have := (List.getElem?_eq_some_iff.1 hx).1; simp at this; omega
      rw [h0] at hx
      simp at hx
      rw [if_pos ⟨hx, hs⟩]; omega
theorem refPass_spec {block : List Nat} {nxt : List (List Nat)} {n : Nat} : ∀ (r done : List Nat) (keys : List (List Nat)) (next reps : List Nat), RP block nxt n done keys next reps → Lt n r → (done ++ r).Nodup →
    ∃ keys', RP block nxt n (done ++ r) keys' (refPass block nxt r keys next reps).1 (refPass block nxt r keys next reps).2
  | [], done, keys, next, reps, h, _, _ => ⟨keys, by simpa [refPass] using h⟩
  | s :: r, done, keys, next, reps, h, hl, hd => by
    have hd' : s ∉ done := by
      rw [List.nodup_append] at hd
      exact fun hm => hd.2.2 s hm s (by simp) rfl
    have hs : s < n := hl s (by simp)
    have hl' : Lt n r := fun x hx => hl x (List.mem_cons_of_mem _ hx)
    have e : done ++ s :: r = (done ++ [s]) ++ r := by simp
    rw [e] at hd ⊢
    rw [refPass]
    cases hk : idxK (keyS block nxt s) keys 0 with
    | some id => exact refPass_spec r _ keys _ reps (h.hit hs hd' hk) hl' hd
    | none => exact refPass_spec r _ _ _ _ (h.miss hs hd') hl' hd
theorem RP.start (block : List Nat) (nxt : List (List Nat)) (n : Nat) : RP block nxt n [] [] (List.replicate n 0) [] :=
  ⟨rfl, by simp, fun s hs => by simp at hs, Nat.le_refl _, List.nodup_nil, fun s hs => by simp at hs, fun i s hs => by simp at hs⟩

/-- between two passes -/
structure RF (nxt : List (List Nat)) (l : List Nat) (f : Nat) (block : List Nat) (count : Nat) : Prop where
  bl : block.length = nxt.length
  fuel : l.length + 2 ≤ f + count
  le : count ≤ l.length
  ex : ∃ reps : List Nat, reps.length = count ∧ (∀ s ∈ reps, s ∈ l) ∧ ∀ i s, reps[i]? = some s → block.getD s 0 = i
/-- what the last pass gives -/
structure Ref (nxt : List (List Nat)) (l block reps : List Nat) : Prop where
  bl : block.length = nxt.length
  sub : ∀ s ∈ reps, s ∈ l
  le : reps.length ≤ l.length
  lt : ∀ s ∈ l, block.getD s 0 < reps.length
  back : ∀ i s, reps[i]? = some s → block.getD s 0 = i
theorem pass_ref {nxt : List (List Nat)} {l : List Nat} (hl : Lt nxt.length l) (hd : l.Nodup) {block : List Nat} (hb : block.length = nxt.length) : ∃ keys', RP block nxt nxt.length l keys' (refPass block nxt l [] (List.replicate block.length 0) []).1 (refPass block nxt l [] (List.replicate block.length 0) []).2 := by
  have := refPass_spec l [] [] _ [] (RP.start block nxt nxt.length) hl (by simpa using hd)
  rw [← hb] at this ⊢
  simpa using this
theorem ref_of {nxt : List (List Nat)} {l block next reps : List Nat} {keys : List (List Nat)} (h : RP block nxt nxt.length l keys next reps) : Ref nxt l next reps := ⟨h.nl, h.sub, h.le, fun _ hs => h.lt hs, h.back⟩
/-- the number of blocks does not fall -/
theorem ref_mono {nxt : List (List Nat)} {l block next reps : List Nat} {keys : List (List Nat)} (h : RP block nxt nxt.length l keys next reps) (hlen : l.length ≤ 4096) {f count : Nat} (hf : RF nxt l f block count) : count ≤ reps.length := by
  obtain ⟨rs, h1, h2, h3⟩ := hf.ex
  have hc : count ≤ 4096 := Nat.le_trans hf.le hlen
  have hnd : (rs.map (keyS block nxt)).Nodup := by
    refine List.pairwise_iff_getElem.2 fun i j hi hj hij e1 => ?_
    rw [List.length_map] at hi hj
    rw [List.getElem_map, List.getElem_map] at e1
    unfold keyS at e1
    have e2 := List.append_inj_left e1 rfl
    rw [h3 i _ (List.getElem?_eq_getElem (by omega)), h3 j _ (List.getElem?_eq_getElem hj)] at e2
    have := two_inj (by omega) (by omega) e2
    omega
  have := nodup_sub _ keys hnd fun x hx => by
    obtain ⟨s, hs, rfl⟩ := List.mem_map.1 hx
    exact List.mem_of_getElem? (h.is s (h2 s hs))
  rw [List.length_map, h1, h.kl] at this
  exact this
theorem RF.pos {nxt : List (List Nat)} {l : List Nat} {f : Nat} {block : List Nat} {count : Nat} (h : RF nxt l f block count) : 0 < f := by
  have := h.fuel; have := h.le; omega
theorem RF.next {nxt : List (List Nat)} {l block next reps : List Nat} {keys : List (List Nat)} (h : RP block nxt nxt.length l keys next reps) (hlen : l.length ≤ 4096) {f count : Nat} (hf : RF nxt l (f + 1) block count) (hne : reps.length ≠ count) : RF nxt l f next reps.length := by
  have := ref_mono h hlen hf
  have := hf.fuel
  exact ⟨h.nl, by omega, h.le, reps, rfl, h.sub, h.back⟩
theorem refLoop_spec {nxt : List (List Nat)} {l : List Nat} (hl : Lt nxt.length l) (hd : l.Nodup) (hlen : l.length ≤ 4096) : ∀ (f : Nat) (block : List Nat) (count : Nat), RF nxt l f block count → Ref nxt l (refLoop nxt l f block count).1 (refLoop nxt l f block count).2
  | 0, _, _, h => by have := h.pos; omega
  | f + 1, block, count, h => by
    obtain ⟨keys, hp⟩ := pass_ref hl hd h.bl
    rw [refLoop]
    by_cases hc : (refPass block nxt l [] (List.replicate block.length 0) []).2.length = count
    · rw [if_pos hc]; exact ref_of hp
    · rw [if_neg hc]; exact refLoop_spec hl hd hlen f _ _ (RF.next hp hlen h hc)
theorem accBlock_len (acc : List Bool) : ∀ (l b : List Nat), (accBlock acc l b).length = b.length
  | [], _ => rfl
  | s :: r, b => by rw [accBlock, accBlock_len]; split <;> simp
theorem RF.start {t : Tbl} (l : List Nat) : RF t.nxt l (l.length + 2) (accBlock t.acc l (List.replicate t.nxt.length 0)) 0 :=
  ⟨by rw [accBlock_len]; simp, by omega, by omega, [], rfl, fun s hs => by simp at hs, fun i s hs => by simp at hs⟩
theorem refine_spec {t : Tbl} {l : List Nat} (hl : Lt t.nxt.length l) (hd : l.Nodup) (hlen : l.length ≤ 4096) : Ref t.nxt l (refine t l).1 (refine t l).2 := refLoop_spec hl hd hlen _ _ _ (RF.start l)
end Go.Proofs.YtjgkdfghjeodeaaGreatDoor
namespace Go.Proofs.YtjgkdfghjeodeaaGreatDoor

/-- behind the bytes below b; the class id may still be empty -/
structure M0 (t : Tbl) (b id : Nat) (m : Mg) : Prop where
  kl : m.keys.length = m.cells.length
  cl : m.classes.length = m.cells.length
  ol : m.of_.length = t.cells
  ce : Lt t.cells m.cells
  oi : ∀ c, c < t.cells → m.of_.getD c 0 = -1 ∨ (0 ≤ m.of_.getD c 0 ∧ (m.of_.getD c 0).toNat < m.cells.length)
  le : m.cells.length ≤ b + 1
  part : ∀ x, x < b → ∃ i, i < m.cells.length ∧ ∀ j, (m.classes.getD j 0).testBit x = decide (j = i)
  hi : ∀ x, b ≤ x → ∀ j, (m.classes.getD j 0).testBit x = false
  ne : ∀ j, j < m.cells.length → j ≠ id → m.classes.getD j 0 ≠ 0
structure MI (t : Tbl) (b : Nat) (m : Mg) : Prop where
  kl : m.keys.length = m.cells.length
  cl : m.classes.length = m.cells.length
  ol : m.of_.length = t.cells
  ce : Lt t.cells m.cells
  oi : ∀ c, c < t.cells → m.of_.getD c 0 = -1 ∨ (0 ≤ m.of_.getD c 0 ∧ (m.of_.getD c 0).toNat < m.cells.length)
  le : m.cells.length ≤ b
  part : ∀ x, x < b → ∃ i, i < m.cells.length ∧ ∀ j, (m.classes.getD j 0).testBit x = decide (j = i)
  hi : ∀ x, b ≤ x → ∀ j, (m.classes.getD j 0).testBit x = false
  ne : ∀ j, j < m.cells.length → m.classes.getD j 0 ≠ 0
theorem MI.weak {t : Tbl} {b : Nat} {m : Mg} (h : MI t b m) (id : Nat) : M0 t b id m := ⟨h.kl, h.cl, h.ol, h.ce, h.oi, by have := h.le; omega, h.part, h.hi, fun j hj _ => h.ne j hj⟩
theorem mgAdd_spec {t : Tbl} {b id : Nat} {m : Mg} (h : M0 t b id m) (hid : id < m.cells.length) : MI t (b + 1) (mgAdd m b id) := by
  have hg : ∀ j, (mgAdd m b id).classes.getD j 0 = if j = id then m.classes.getD id 0 ||| 2 ^ b else m.classes.getD j 0 := fun j => by
    unfold mgAdd
    simp only
    rw [getD_set, h.cl]
    by_cases hj : id = j
    · subst hj; simp [hid]
    · rw [if_neg (by simp [hj]), if_neg (Ne.symm hj)]
  refine ⟨h.kl, by unfold mgAdd; simp [h.cl], h.ol, h.ce, h.oi, h.le, fun x hx => ?_, fun x hx j => ?_, fun j hj => ?_⟩
  · by_cases hxb : x = b
    · subst hxb
      refine ⟨id, hid, fun j => ?_⟩
      rw [hg]
      by_cases hj : j = id
      · subst hj; simp
      · rw [if_neg hj, h.hi x (Nat.le_refl _)]; simp [hj]
    · obtain ⟨i, hi, hp⟩ := h.part x (by omega)
      refine ⟨i, hi, fun j => ?_⟩
      rw [hg]
      by_cases hj : j = id
      · subst hj
        rw [if_pos rfl, Nat.testBit_or, Nat.testBit_two_pow, hp]
        simp [Ne.symm hxb]
      · rw [if_neg hj]; exact hp j
  · rw [hg]
    split
    · rw [Nat.testBit_or, Nat.testBit_two_pow, h.hi x (by omega)]
      simp; omega
    · exact h.hi x (by omega) j
  · rw [hg]
    split
    · intro e
      have : (m.classes.getD id 0 ||| 2 ^ b).testBit b = true := by simp
      rw [e] at this
      simp at this
    · exact h.ne j hj (by assumption)
theorem mgStep_spec {t : Tbl} (ht : WT t) {block reps : List Nat} {b : Nat} {m : Mg} (hb : b < 256) (h : MI t b m) : MI t (b + 1) (mgStep t block reps m b) := by
  have hc : t.cell.getD b 0 < t.cells := getD_lt ht.cl (by rw [ht.cell]; exact hb)
  unfold mgStep
  simp only
  generalize t.cell.getD b 0 = c at *
  by_cases ho : 0 ≤ m.of_.getD c 0
  · rw [if_pos ho]
    refine mgAdd_spec (h.weak _) ?_
    rcases h.oi c hc with h1 | h1
    · omega
    · exact h1.2
  · rw [if_neg ho]
    cases hk : idxK (keyM t.nxt block reps c) m.keys 0 with
    | some id =>
      have hid : id < m.cells.length := by have := (idxK_is _ _ hk).2; rw [h.kl] at this; exact this
      refine mgAdd_spec (m := { m with of_ := m.of_.set c id }) ⟨h.kl, h.cl, by simp [h.ol], h.ce, fun c' hc' => ?_, by have := h.le; simp only; omega, h.part, h.hi, fun j hj _ => h.ne j hj⟩ hid
      simp only
      rw [getD_set]
      split
      · right; exact ⟨by omega, by simpa using hid⟩
      · exact h.oi c' hc'
    | none =>
      simp only
      refine mgAdd_spec (m := ⟨m.keys ++ [keyM t.nxt block reps c], m.cells ++ [c], m.classes ++ [0], m.of_.set c (m.cells.length : Nat)⟩) ⟨by simp [h.kl], by simp [h.cl], by simp [h.ol], fun x hx => ?_, fun c' hc' => ?_, by simp [h.le], fun x hx => ?_, fun x hx j => ?_, fun j hj hne => ?_⟩ (by simp)
      · rcases List.mem_append.1 hx with hx | hx
        · exact h.ce x hx
        · simp at hx; subst hx; exact hc
      · simp only
        rw [getD_set]
        split
        · right; exact ⟨by omega, by simp⟩
        · rcases h.oi c' hc' with h1 | h1
          · exact .inl h1
          · exact .inr ⟨h1.1, by rw [List.length_append]; exact Nat.lt_of_lt_of_le h1.2 (Nat.le_add_right _ _)⟩
      · obtain ⟨i, hi, hp⟩ := h.part x hx
        refine ⟨i, by simp; omega, fun j => ?_⟩
        rw [← hp j]
        simp only
        rw [List.getD_eq_getElem?_getD, List.getD_eq_getElem?_getD]
        by_cases hj : j < m.classes.length
        · rw [List.getElem?_append_left hj]
        · rw [List.getElem?_append_right (by omega), List.getElem?_eq_none (by omega : m.classes.length ≤ j)]
          cases j - m.classes.length <;> simp
      · simp only
        rw [← h.hi x hx j, List.getD_eq_getElem?_getD, List.getD_eq_getElem?_getD]
        by_cases hj : j < m.classes.length
        · rw [List.getElem?_append_left hj]
        · rw [List.getElem?_append_right (by omega), List.getElem?_eq_none (by omega : m.classes.length ≤ j)]
          cases j - m.classes.length <;> simp
      · simp only at hj ⊢
        simp at hj
        have hj' : j < m.classes.length := by rw [h.cl]; omega
        rw [List.getD_eq_getElem?_getD, List.getElem?_append_left hj', ← List.getD_eq_getElem?_getD]
        exact h.ne j (by omega)
theorem mgLoop_spec {t : Tbl} (ht : WT t) {block reps : List Nat} : ∀ (f b : Nat) (m : Mg), f + b = 256 → MI t b m → MI t 256 (mgLoop t block reps f b m)
  | 0, b, m, hf, h => by
    obtain rfl : b = 256 := by omega
    exact h
  | f + 1, b, m, hf, h => mgLoop_spec ht f (b + 1) _ (by omega) (mgStep_spec ht (by omega) h)
theorem MI.start (t : Tbl) : MI t 0 ⟨[], [], [], List.replicate t.cells (-1)⟩ := by
  refine ⟨rfl, rfl, List.length_replicate, fun x hx => by simp at hx, fun c hc => .inl ?_, Nat.le_refl _, fun x hx => by omega, fun x _ j => by simp, fun j hj => by simp at hj⟩
  simp only
  rw [List.getD_eq_getElem?_getD, List.getElem?_replicate, if_pos hc]; rfl
theorem mergeT_spec {t : Tbl} (ht : WT t) (block reps : List Nat) : MI t 256 (mergeT t block reps) := mgLoop_spec ht _ _ _ rfl (MI.start t)

/-- places of blocks -/
structure PI (n : Nat) (place : List Int) (order : List Nat) : Prop where
  pl : place.length = n
  lt : Lt n order
  nd : order.Nodup
  is : ∀ o, o < n → (place.getD o 0 < 0 ∧ o ∉ order) ∨ ∃ k : Nat, place.getD o 0 = k ∧ order[k]? = some o
theorem PI.len {n : Nat} {place : List Int} {order : List Nat} (h : PI n place order) : order.length ≤ n := nodup_le _ _ h.nd h.lt
theorem PI.snoc {n : Nat} {place : List Int} {order : List Nat} (h : PI n place order) {o : Nat} (ho : o < n) (hp : place.getD o 0 < 0) : PI n (place.set o (order.length : Nat)) (order ++ [o]) := by
  have hno : o ∉ order := by
    rcases h.is o ho with h1 | ⟨k, h1, _⟩
    · exact h1.2
    · omega
  refine ⟨by simp [h.pl], fun x hx => ?_, ?_, fun x hx => ?_⟩
  · rcases List.mem_append.1 hx with hx | hx
    · exact h.lt x hx
    · simp at hx; subst hx; exact ho
  · rw [List.nodup_append]
    exact ⟨h.nd, by simp, fun a ha b hb => by simp at hb; subst hb; exact fun e => hno (e ▸ ha)⟩
  · rw [getD_set, h.pl]
    by_cases hxo : o = x
    · subst hxo
      rw [if_pos ⟨rfl, ho⟩]
      exact .inr ⟨order.length, rfl, by simp⟩
    · rw [if_neg (by simp [hxo])]
      rcases h.is x hx with h1 | ⟨k, h1, h2⟩
      · exact .inl ⟨h1.1, by simp [h1.2, Ne.symm hxo]⟩
      · exact .inr ⟨k, h1, by rw [List.getElem?_append_left (List.getElem?_eq_some_iff.1 h2).1]; exact h2⟩
theorem cnRow_spec {nxt : List (List Nat)} {block : List Nat} {s n : Nat} : ∀ (cs : List Nat) (place : List Int) (order row : List Nat), PI n place order → (∀ c ∈ cs, block.getD ((nxt.getD s []).getD c 0) 0 < n) → Lt order.length row →
    PI n (cnRow nxt block s cs place order row).1 (cnRow nxt block s cs place order row).2.1 ∧ (∃ m, (cnRow nxt block s cs place order row).2.1 = order ++ m) ∧ (cnRow nxt block s cs place order row).2.2.length = row.length + cs.length ∧ Lt (cnRow nxt block s cs place order row).2.1.length (cnRow nxt block s cs place order row).2.2
  | [], place, order, row, h, _, hr => ⟨h, ⟨[], by simp [cnRow]⟩, by simp [cnRow], hr⟩
  | c :: r, place, order, row, h, hc, hr => by
    have hto := hc c (by simp)
    have hc' : ∀ c ∈ r, block.getD ((nxt.getD s []).getD c 0) 0 < n := fun x hx => hc x (List.mem_cons_of_mem _ hx)
    rw [cnRow]
    generalize block.getD ((nxt.getD s []).getD c 0) 0 = tg at *
    by_cases hp : place.getD tg 0 < 0
    · rw [if_pos hp]
      obtain ⟨h1, ⟨m, h2⟩, h3, h4⟩ := cnRow_spec r _ _ (row ++ [order.length]) (h.snoc hto hp) hc' (fun x hx => by
        rw [List.length_append]
        rcases List.mem_append.1 hx with hx | hx
        · have := hr x hx; simp; omega
        · simp at hx; subst hx; simp)
      exact ⟨h1, ⟨tg :: m, by rw [h2]; simp⟩, by rw [h3]; simp; omega, h4⟩
    · rw [if_neg hp]
      obtain ⟨k, hk1, hk2⟩ : ∃ k : Nat, place.getD tg 0 = k ∧ order[k]? = some tg := by
        rcases h.is tg hto with h1 | h1
        · exact absurd h1.1 hp
        · exact h1
      obtain ⟨h1, h2, h3, h4⟩ := cnRow_spec r place order (row ++ [(place.getD tg 0).toNat]) h hc' (fun x hx => by
        rcases List.mem_append.1 hx with hx | hx
        · exact hr x hx
        · simp at hx; subst hx
          have := (List.getElem?_eq_some_iff.1 hk2).1
          have e : (place[tg]?.getD 0) = place.getD tg 0 := by simp
          rw [e, hk1]; simpa using this)
      exact ⟨h1, h2, by rw [h3]; simp; omega, h4⟩
/-- between two rows -/
structure CN (t : Tbl) (n k f i : Nat) (place : List Int) (order : List Nat) (ns : List (List Nat)) (acs : List Bool) : Prop where
  pi : PI n place order
  fuel : f + i = n + 1
  le : i ≤ order.length
  pos : 1 ≤ order.length
  nl : ns.length = i
  al : acs.length = i
  row : ∀ r ∈ ns, r.length = k ∧ Lt order.length r
theorem CN.some_ {t : Tbl} {n k f i : Nat} {place : List Int} {order : List Nat} {ns : List (List Nat)} {acs : List Bool} (h : CN t n k f i place order ns acs) (hi : i < order.length) : 0 < f := by
  have := h.pi.len; have := h.fuel; omega
theorem CN.step {t : Tbl} {block cells : List Nat} {n s f i : Nat} {place : List Int} {order : List Nat} {ns : List (List Nat)} {acs : List Bool} (h : CN t n cells.length (f + 1) i place order ns acs) (hi : i < order.length) (hs : ∀ c ∈ cells, block.getD ((t.nxt.getD s []).getD c 0) 0 < n) (x : Bool) :
    CN t n cells.length f (i + 1) (cnRow t.nxt block s cells place order []).1 (cnRow t.nxt block s cells place order []).2.1 (ns ++ [(cnRow t.nxt block s cells place order []).2.2]) (acs ++ [x]) := by
  obtain ⟨h1, ⟨m, h2⟩, h3, h4⟩ := cnRow_spec cells place order [] h.pi hs (fun x hx => by simp at hx)
  have hl : order.length ≤ (cnRow t.nxt block s cells place order []).2.1.length := by rw [h2]; simp
  refine ⟨h1, by have := h.fuel; omega, by omega, by have := h.pos; omega, by simp [h.nl], by simp [h.al], fun r hr => ?_⟩
  rcases List.mem_append.1 hr with hr | hr
  · exact ⟨(h.row r hr).1, fun x hx => Nat.lt_of_lt_of_le ((h.row r hr).2 x hx) hl⟩
  · simp at hr; subst hr
    exact ⟨by rw [h3]; simp, h4⟩
theorem cnLoop_spec {t : Tbl} {block reps cells : List Nat} {n : Nat} (hs : ∀ o, o < n → ∀ c ∈ cells, block.getD ((t.nxt.getD (reps.getD o 0) []).getD c 0) 0 < n) : ∀ (f i : Nat) (place : List Int) (order : List Nat) (ns : List (List Nat)) (acs : List Bool), CN t n cells.length f i place order ns acs →
    ∃ L, 1 ≤ L ∧ L ≤ n ∧ (cnLoop t block reps cells f i place order ns acs).1.length = L ∧ (cnLoop t block reps cells f i place order ns acs).2.length = L ∧ ∀ r ∈ (cnLoop t block reps cells f i place order ns acs).1, r.length = cells.length ∧ Lt L r
  | 0, i, place, order, ns, acs, h => by
    have := h.pi.len; have := h.fuel; have := h.le; omega
  | f + 1, i, place, order, ns, acs, h => by
    rw [cnLoop]
    cases ho : order[i]? with
    | none =>
      simp only
      have hle : order.length ≤ i := List.getElem?_eq_none_iff.1 ho
      have := h.le
      exact ⟨order.length, h.pos, h.pi.len, by rw [h.nl]; omega, by rw [h.al]; omega, h.row⟩
    | some o =>
      simp only
      have hi := (List.getElem?_eq_some_iff.1 ho).1
      exact cnLoop_spec hs f (i + 1) _ _ _ _ (h.step hi (hs o (h.pi.lt o (List.mem_of_getElem? ho))) _)
theorem CN.start {t : Tbl} {n k b0 : Nat} (hb : b0 < n) : CN t n k (n + 1) 0 ((List.replicate n (-1)).set b0 0) [b0] [] [] := by
  refine ⟨⟨by simp, fun x hx => by simp at hx; omega, by simp, fun o ho => ?_⟩, rfl, by simp, by simp, rfl, rfl, fun r hr => by simp at hr⟩
  rw [getD_set]
  by_cases hob : b0 = o
  · subst hob
    rw [if_pos ⟨rfl, by simpa using hb⟩]
    exact .inr ⟨0, rfl, by simp⟩
  · rw [if_neg (by simp [hob]), List.getD_eq_getElem?_getD, List.getElem?_replicate, if_pos ho]
    exact .inl ⟨by simp, by simp [Ne.symm hob]⟩

/-- what canonB asks -/
structure CB (t : Tbl) (block reps : List Nat) : Prop where
  wt : WT t
  bl : block.length = t.nxt.length
  rl : reps.length ≤ t.nxt.length
  b0 : block.getD 0 0 < reps.length
  rs : Lt t.nxt.length reps
  tg : ∀ o, o < reps.length → ∀ c, c < t.cells → block.getD ((t.nxt.getD (reps.getD o 0) []).getD c 0) 0 < reps.length
theorem CB.of {t : Tbl} (ht : WT t) {l block reps : List Nat} (hl : Reach t.nxt l) (h : Ref t.nxt l block reps) : CB t block reps := by
  have hll := nodup_le _ _ hl.nd hl.lt
  refine ⟨ht, h.bl, Nat.le_trans h.le hll, h.lt 0 hl.zero, fun s hs => hl.lt s (h.sub s hs), fun o ho c hc => h.lt _ ?_⟩
  have hm : reps.getD o 0 ∈ l := h.sub _ (getD_mem' ho)
  refine hl.closed _ hm _ (getD_mem' ?_)
  rw [(ht.row _ (getD_mem' (hl.lt _ hm))).1]
  exact hc
theorem canonical_cb {t : Tbl} (ht : WT t) : CB t (refine t (reached t.nxt)).1 (refine t (reached t.nxt)).2 := by
  have hr := reached_spec ht.pos fun r hr => (ht.row r hr).2
  have hl := nodup_le _ _ hr.nd hr.lt
  exact CB.of ht hr (refine_spec hr.lt hr.nd (Nat.le_trans hl ht.top))
/-- all but the number of states -/
structure VD0 (d : Dfa) : Prop where
  pos : 1 ≤ d.nxt.length
  acc : d.acc.length = d.nxt.length
  cpos : 1 ≤ d.cls.length
  ctop : d.cls.length ≤ 256
  row : ∀ r ∈ d.nxt, r.length = d.cls.length ∧ Lt d.nxt.length r
  part : ∀ b, b < 256 → ∃ i, i < d.cls.length ∧ ∀ j, (d.cls.getD j 0).testBit b = decide (j = i)
  ne : ∀ c ∈ d.cls, c ≠ 0 ∧ c < 2 ^ 256
theorem VD0.vd {d : Dfa} (h : VD0 d) (ht : d.nxt.length ≤ 64) : VD d := ⟨h.pos, ht, h.acc, h.cpos, h.ctop, h.row, h.part, h.ne⟩
theorem canonB_spec {t : Tbl} {block reps : List Nat} (h : CB t block reps) : VD0 (canonB t block reps) ∧ (canonB t block reps).nxt.length ≤ t.nxt.length := by
  have hm := mergeT_spec h.wt block reps
  obtain ⟨L, h1, h2, h3, h4, h5⟩ := cnLoop_spec (t := t) (block := block) (reps := reps) (cells := (mergeT t block reps).cells) (fun o ho c hc => h.tg o ho c (hm.ce c hc)) (reps.length + 1) 0 _ _ _ _ (CN.start h.b0)
  have e1 : (canonB t block reps).nxt = (cnLoop t block reps (mergeT t block reps).cells (reps.length + 1) 0 ((List.replicate reps.length (-1)).set (block.getD 0 0) 0) [block.getD 0 0] [] []).1 := by unfold canonB; dsimp only
  have e2 : (canonB t block reps).acc = (cnLoop t block reps (mergeT t block reps).cells (reps.length + 1) 0 ((List.replicate reps.length (-1)).set (block.getD 0 0) 0) [block.getD 0 0] [] []).2 := by unfold canonB; dsimp only
  have e3 : (canonB t block reps).cls = (mergeT t block reps).classes := by unfold canonB; dsimp only
  refine ⟨⟨by rw [e1, h3]; exact h1, by rw [e1, e2, h3, h4], ?_, by rw [e3, hm.cl]; exact hm.le, ?_, fun b hb => ?_, fun c hc => ?_⟩, by rw [e1, h3]; exact Nat.le_trans h2 h.rl⟩
  · rw [e3, hm.cl]
    obtain ⟨i, hi, _⟩ := hm.part 0 (by decide)
    omega
  · rw [e1, e3, hm.cl, h3]; exact h5
  · obtain ⟨i, hi, hp⟩ := hm.part b hb
    exact ⟨i, by rw [e3, hm.cl]; exact hi, by rw [e3]; exact hp⟩
  · rw [e3] at hc
    obtain ⟨j, hj, rfl⟩ := List.mem_iff_getElem.1 hc
    have e : (mergeT t block reps).classes[j] = (mergeT t block reps).classes.getD j 0 := by
      rw [List.getD_eq_getElem?_getD, List.getElem?_eq_getElem hj]; rfl
    rw [e]
    exact ⟨hm.ne j (by rw [← hm.cl]; exact hj), Nat.lt_pow_two_of_testBit _ fun x hx => hm.hi x hx j⟩
theorem canonical_spec {t : Tbl} (ht : WT t) : VD0 (canonical t) ∧ (canonical t).nxt.length ≤ t.nxt.length := canonB_spec (canonical_cb ht)
end Go.Proofs.YtjgkdfghjeodeaaGreatDoor
