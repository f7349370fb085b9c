/- The beginning of a search: its rows hold where the system's hold; its steps are accepted. What Solve answers. -/
import Derived.Test.YtjienelkjpodkaaW16
import Derived.Test.YtjienelkjpodkaaP4
import Derived.Test.YtjienelkjpodkaaW28
namespace Go.Proofs.Ytjienelkjpodkaa

/-! ### divisors -/
theorem gcdStep_dvd : ∀ (k : Nat) (g n : Int), n.natAbs < k → gcdStep k g n ∣ g ∧ gcdStep k g n ∣ n
  | 0, g, n, h => by omega
  | k + 1, g, n, h => by
    rw [gcdStep]
    by_cases hn : n = 0
    · rw [if_pos hn, hn]; exact ⟨Int.dvd_refl _, Int.dvd_zero _⟩
    · rw [if_neg hn]
      have h1 := Int.natAbs_tmod g n
      have hlt : (g.tmod n).natAbs < n.natAbs := by rw [h1]; exact Nat.mod_lt _ (by omega)
      obtain ⟨d1, d2⟩ := gcdStep_dvd k n (g.tmod n) (by omega)
      refine ⟨?_, d1⟩
      have h3 := Int.tmod_add_mul_tdiv g n
      have h4 : gcdStep k n (g.tmod n) ∣ g.tmod n + n * g.tdiv n := Int.dvd_add d2 (Int.dvd_mul_of_dvd_left d1)
      rwa [h3] at h4
theorem gcdFrom_dvd : ∀ (l : List Int) (g : Int), gcdFrom l g ∣ g ∧ ∀ a ∈ l, gcdFrom l g ∣ a
  | [], g => ⟨Int.dvd_refl _, fun a ha => by cases ha⟩
  | n :: r, g => by
    obtain ⟨h1, h2⟩ := gcdStep_dvd (n.natAbs + 1) g n (by omega)
    obtain ⟨h3, h4⟩ := gcdFrom_dvd r (gcdStep (n.natAbs + 1) g n)
    rw [gcdFrom]
    refine ⟨Int.dvd_trans h3 h1, fun a ha => ?_⟩
    rcases List.mem_cons.1 ha with rfl | ha
    · exact Int.dvd_trans h3 h2
    · exact h4 a ha
theorem gcdF_dvd {l : List Int} : ∀ a ∈ l, gcdF l ∣ a := fun a ha => by
  have h := (gcdFrom_dvd l 0).2 a ha
  unfold gcdF
  by_cases hp : 0 ≤ gcdFrom l 0
  · rw [show max (gcdFrom l 0) (-gcdFrom l 0) = gcdFrom l 0 by omega]; exact h
  · rw [show max (gcdFrom l 0) (-gcdFrom l 0) = -gcdFrom l 0 by omega]; exact Int.neg_dvd.2 h
theorem dot_cut {g : Int} : ∀ (a x : List Int), (∀ y ∈ a, g ∣ y) → dot a x = g * dot (a.map fun y => y.tdiv g) x
  | [], x, _ => by simp [dot]
  | a :: l, [], _ => by simp [dot]
  | a :: l, x :: s, h => by
    rw [List.map_cons, dot, dot, dot_cut l s fun y hy => h y (List.mem_cons_of_mem _ hy), Int.mul_add, ← Int.mul_assoc, Int.mul_tdiv_cancel' (h a (List.mem_cons_self ..))]
theorem floor_lt {c g : Int} (hg : 0 < g) : c < g * (floorF c g + 1) := by
  have h1 := Int.tmod_add_mul_tdiv c g
  have h2 := Int.tmod_lt_of_pos c hg
  unfold floorF
  split
  · next h => rw [show c.tdiv g - 1 + 1 = c.tdiv g by omega]; omega
  · next h => rw [Int.mul_add, Int.mul_one]; omega
theorem cut_holds {r : Row} {g : Int} {x : List Int} (hg : 2 ≤ g) (hd : ∀ y ∈ r.1, g ∣ y) (h : 0 ≤ valR r x) : 0 ≤ valR (cutR r g) x := by
  unfold valR at *
  rw [dot_cut r.1 x hd] at h
  simp only [cutR]
  have h1 := floor_lt (c := r.2) (g := g) (by omega)
  have h2 : 0 < g * (floorF r.2 g + 1 + dot (r.1.map fun y => y.tdiv g) x) := by rw [Int.mul_add]; omega
  have h3 := Int.pos_of_mul_pos_right h2 (by omega)
  omega

/-- where the system's rows hold the search's hold, and the other way round -/
structure StS (s : Sys) (k : Nat) (st : Begin) : Prop where
  ok : StOk s k st
  mem : ∀ r ∈ s.2.take k, r ∈ st.rows
  imp : ∀ x, Sat s.2 x → Sat st.rows x
theorem StS.step {s : Sys} {k : Nat} {st : Begin} {r : Row} (h : StS s k st) (hs : SysOk s) (hr : s.2[k]? = some r) : ∃ st', StS s (k + 1) st' := by
  have hrm := List.mem_of_getElem? hr
  have htk : s.2.take (k + 1) = s.2.take k ++ [r] := by rw [List.take_add_one, hr]; rfl
  by_cases hc : 2 ≤ gcdF r.1 ∧ r.2.tmod (gcdF r.1) ≠ 0
  · refine ⟨_, h.ok.cut hs hr rfl hc, fun q hq => ?_, fun x hx q hq => ?_⟩
    · rw [htk] at hq
      rcases List.mem_append.1 hq with hq | hq
      · exact List.mem_append_left _ (List.mem_append_left _ (h.mem q hq))
      · exact List.mem_append_left _ (List.mem_append_right _ hq)
    · rcases List.mem_append.1 hq with hq | hq
      · rcases List.mem_append.1 hq with hq | hq
        · exact h.imp x hx q hq
        · rw [List.mem_singleton.1 hq]; exact hx r hrm
      · rw [List.mem_singleton.1 hq]; exact cut_holds hc.1 gcdF_dvd (hx r hrm)
  · refine ⟨_, h.ok.plain hs hr hc, fun q hq => ?_, fun x hx q hq => ?_⟩
    · rw [htk] at hq
      rcases List.mem_append.1 hq with hq | hq
      · exact List.mem_append_left _ (h.mem q hq)
      · exact List.mem_append_right _ hq
    · rcases List.mem_append.1 hq with hq | hq
      · exact h.imp x hx q hq
      · rw [List.mem_singleton.1 hq]; exact hx r hrm
theorem stOk_end {s : Sys} {st : Begin} (h : StOk s s.2.length st) : st = startF s := by
  have := h.rest
  rwa [List.drop_length, startGo] at this
theorem startS {s : Sys} (hs : SysOk s) : StS s s.2.length (startF s) := by
  have : ∀ k, k ≤ s.2.length → ∃ st, StS s k st := fun k => by
    induction k with
    | zero => exact fun _ => ⟨_, StOk.start s, fun r hr => (by simp at hr), fun x _ r hr => (by cases hr)⟩
    | succ k ih =>
      intro hk
      obtain ⟨st, h⟩ := ih (by omega)
      exact h.step hs (List.getElem?_eq_getElem (by omega))
  obtain ⟨st, h⟩ := this _ (Nat.le_refl _)
  rw [← stOk_end h.ok]
  exact h
theorem sat_start {s : Sys} (hs : SysOk s) (x : List Int) : Sat (startF s).rows x ↔ Sat s.2 x := by
  have h := startS hs
  refine ⟨fun hx r hr => hx r (h.mem r (by rwa [List.take_length])), h.imp x⟩
theorem start_fit {s : Sys} (hs : SysOk s) : Fit s.1.length (startF s).rows (startF s).at' :=
  ⟨fun r hr => ((startF_ok hs).rows r hr).1, by rw [(startF_ok hs).al]; exact Nat.le_refl _⟩
theorem getD_zeros (k i : Nat) : (List.replicate k (0 : Int)).getD i 0 = 0 := by
  rw [List.getD_eq_getElem?_getD, List.getElem?_replicate]
  split <;> rfl
theorem inB_start {s : Sys} {v : Int} {x : List Int} : InB s.1.length (boxF s v).lo (boxF s v).hi x ↔ InB s.1.length [] s.1 x := by
  have e : ∀ i, i < s.1.length → (boxF s v).lo.getD i 0 = ([] : List Int).getD i 0 ∧ (boxF s v).hi.getD i 0 = s.1.getD i 0 := fun i hi => ⟨(getD_zeros 12 i).trans (by simp), getD_app_l hi⟩
  refine ⟨fun h => ⟨h.1, fun i hi => ?_⟩, fun h => ⟨h.1, fun i hi => ?_⟩⟩
  · rw [← (e i hi).1, ← (e i hi).2]; exact h.2 i hi
  · rw [(e i hi).1, (e i hi).2]; exact h.2 i hi
/-- **What a search answers.** -/
theorem search_found {s : Sys} (hs : SysOk s) : Found s.1.length s.2 [] s.1 (searchF s).1 := by
  have h := visit_found (start_fit hs) (fuelF s) (boxF s (startF s).n) (startF s).p (boxF_ok hs) (boxF_wid hs _)
  change Found s.1.length (startF s).rows (boxF s (startF s).n).lo (boxF s (startF s).n).hi (searchF s).1 at h
  cases ho : (searchF s).1 with
  | some x =>
    rw [ho] at h
    exact ⟨⟨inB_start.1 h.1.1, (sat_start hs x).1 h.1.2⟩, fun y hy hy2 => h.2 y (inB_start.2 hy) ((sat_start hs y).2 hy2)⟩
  | none =>
    rw [ho] at h
    exact fun y hy hy2 => h y (inB_start.2 hy) ((sat_start hs y).2 hy2)

/-! ### the steps of the beginning -/
structure StC (s : Sys) (k : Nat) (st : Begin) (l : List Row) : Prop where
  ok : StOk s k st
  len : (l.length : Int) = st.n
  fst : ∀ j, j < (firstF s).length → l.getD j nilR = (firstF s).getD j nilR
  at' : ∀ (j : Nat) r a, st.rows[j]? = some r → st.at'[j]? = some a → a.toNat < l.length ∧ l.getD a.toNat nilR = r
  bd : ∀ r ∈ l, RowBd s.1.length r
  small : ∀ r ∈ st.rows, eachB r.1 (-80) 80 = true
  cl : ∀ P f, (∀ j, j < st.p.length → P[j]? = st.p[j]?) → closesF s.1.length P f st.p.length l = true → closesF s.1.length P (st.p.length + f) 0 (firstF s) = true
  tr : ∀ P N, (∀ j, j < st.p.length → P[j]? = st.p[j]?) → st.p.length < N → ∃ par, par.length = N ∧ (∀ j, st.p.length < j → par.getD j 0 = 0) ∧ (treeFrom N (P.drop st.p.length) st.p.length par = true → treeFrom N P 0 (List.replicate N 0) = true)
def SmallS (s : Sys) : Prop := ∀ r ∈ s.2, eachB r.1 (-80) 80 = true

theorem firstF_len (s : Sys) : (firstF s).length = s.2.length + 2 * s.1.length := by simp [firstF]; omega
theorem firstF_row {s : Sys} {j : Nat} (h : j < s.2.length) : (firstF s).getD j nilR = s.2.getD j nilR := by
  unfold firstF
  rw [List.append_assoc, getD_left h]
theorem firstF_low {s : Sys} {i : Nat} (h : i < s.1.length) : (firstF s).getD (s.2.length + i) nilR = unitR s.1.length i 1 0 := by
  unfold firstF
  rw [List.append_assoc, List.getD_eq_getElem?_getD, List.getElem?_append_right (by omega), List.getElem?_append_left (by simp; omega)]
  simp [h]
theorem firstF_top {s : Sys} {i : Nat} (h : i < s.1.length) : (firstF s).getD (s.2.length + s.1.length + i) nilR = unitR s.1.length i (-1) (s.1.getD i 0) := by
  unfold firstF
  rw [List.getD_eq_getElem?_getD, List.getElem?_append_right (by simp)]
  simp [h, Nat.add_sub_cancel_left]
theorem firstF_bd {s : Sys} (hv : validS s = true) : ∀ r ∈ firstF s, RowBd s.1.length r := fun r hr => by
  have hs := valid_ok hv
  unfold firstF at hr
  rcases List.mem_append.1 hr with hr | hr
  · rcases List.mem_append.1 hr with hr | hr
    · unfold validS at hv
      simp only [Bool.and_eq_true, decide_eq_true_eq] at hv
      have := List.all_eq_true.1 hv.2.2.2.2 r hr
      unfold rowOk at this
      simp only [Bool.and_eq_true, beq_iff_eq] at this
      have h2 := bet_iff.1 this.2.2
      exact ⟨this.1, this.2.1, h2.1, h2.2⟩
    · obtain ⟨i, _, rfl⟩ := List.mem_map.1 hr
      exact unit_bd (by omega) (by omega) (by omega)
  · obtain ⟨i, hi, rfl⟩ := List.mem_map.1 hr
    have := getD_bet hs.top (List.mem_range.1 hi)
    exact unit_bd (by omega) (by omega) (by omega)
theorem cut_small {l : List Int} {d : Int} (h : eachB l (-80) 80 = true) : eachB (l.map fun a => a.tdiv d) (-80) 80 = true := by
  unfold eachB at *
  rw [List.all_eq_true] at *
  intro x hx
  obtain ⟨a, ha, rfl⟩ := List.mem_map.1 hx
  have := bet_iff.1 (h a ha)
  have := Int.natAbs_tdiv_le_natAbs a d
  exact bet_iff.2 (by omega)
theorem getElem_snoc {α : Type} {l : List α} {x y : α} {j : Nat} (h : (l ++ [x])[j]? = some y) : (j < l.length ∧ l[j]? = some y) ∨ (j = l.length ∧ y = x) := by
  by_cases hj : j < l.length
  · rw [List.getElem?_append_left hj] at h; exact .inl ⟨hj, h⟩
  · rw [List.getElem?_append_right (by omega)] at h
    cases hk : j - l.length with
    | zero => rw [hk] at h; simp at h; exact .inr ⟨by omega, h.symm⟩
    | succ k => rw [hk] at h; simp at h

theorem StC.step {s : Sys} {k : Nat} {st : Begin} {l : List Row} {r : Row} (h : StC s k st l) (hv : validS s = true) (hsm : SmallS s) (hr : s.2[k]? = some r) : ∃ st' l', StC s (k + 1) st' l' := by
  have hs := valid_ok hv
  have hrm := List.mem_of_getElem? hr
  have hk : k < s.2.length := (List.getElem?_eq_some_iff.1 hr).1
  have hn := h.ok.n1
  have hlen := h.len
  have hal := h.ok.al
  have hkl : k < l.length := by omega
  have hkr : l.getD k nilR = r := by
    rw [h.fst k (by rw [firstF_len]; omega), firstF_row hk, List.getD_eq_getElem?_getD, hr]; rfl
  by_cases hc : 2 ≤ gcdF r.1 ∧ r.2.tmod (gcdF r.1) ≠ 0
  · have hcb : RowBd s.1.length (cutR r (gcdF r.1)) := by
      obtain ⟨g1, g2, g3, g4⟩ := firstF_bd hv r (by unfold firstF; simp [hrm])
      have h3 := Int.natAbs_tdiv_le_natAbs r.2 (gcdF r.1)
      have h4 := floor_lt (c := r.2) (g := gcdF r.1) (by omega)
      refine ⟨by simp [cutR, g1], cut_eachB g2, ?_, ?_⟩
      · show -1000 ≤ floorF r.2 (gcdF r.1)
        rcases Int.lt_or_le (floorF r.2 (gcdF r.1)) (-1000) with hlt | hge
        · have := Int.mul_le_mul_of_nonneg_left (show floorF r.2 (gcdF r.1) + 1 ≤ -1000 by omega) (show 0 ≤ gcdF r.1 by omega)
          omega
        · exact hge
      · show floorF r.2 (gcdF r.1) ≤ 1000
        unfold floorF; split <;> omega
    refine ⟨_, l ++ [cutR r (gcdF r.1)], h.ok.cut hs hr rfl hc, ?_, fun j hj => ?_, fun j q a h1 h2 => ?_, fun q hq => ?_, fun q hq => ?_, fun P f hP hcl => ?_, fun P N hP hN => ?_⟩
    · rw [List.length_append]
      show ((l.length + 1 : Nat) : Int) = st.n + 1
      omega
    · have := firstF_len s
      rw [getD_left (by omega)]
      exact h.fst j hj
    · simp only at h1 h2
      rcases getElem_snoc h1 with ⟨j1, h1⟩ | ⟨j1, rfl⟩
      · rcases getElem_snoc h2 with ⟨j2, h2⟩ | ⟨j2, rfl⟩
        · have : a.toNat < l.length ∧ l.getD a.toNat nilR = q := by
            rcases getElem_snoc h1 with ⟨j1, h1⟩ | ⟨j1, rfl⟩
            · rcases getElem_snoc h2 with ⟨j2, h2⟩ | ⟨j2, rfl⟩
              · exact h.at' j q a h1 h2
              · omega
            · rcases getElem_snoc h2 with ⟨j2, h2⟩ | ⟨j2, rfl⟩
              · omega
              · exact ⟨hkl, hkr⟩
          exact ⟨by simp; omega, by rw [getD_left this.1]; exact this.2⟩
        · simp at j1 j2; omega
      · rcases getElem_snoc h2 with ⟨j2, h2⟩ | ⟨j2, rfl⟩
        · simp at j1 j2; omega
        · rw [← hlen, Int.toNat_natCast]
          exact ⟨by simp, getD_last⟩
    · rcases List.mem_append.1 hq with hq | hq
      · exact h.bd q hq
      · rw [List.mem_singleton.1 hq]; exact hcb
    · rcases List.mem_append.1 hq with hq | hq
      · rcases List.mem_append.1 hq with hq | hq
        · exact h.small q hq
        · rw [List.mem_singleton.1 hq]; exact hsm r hrm
      · rw [List.mem_singleton.1 hq]; exact cut_small (hsm r hrm)
    · simp only [List.length_append, List.length_cons, List.length_nil] at hP hcl ⊢
      have hPp : ∀ j, j < st.p.length → P[j]? = st.p[j]? := fun j hj => by rw [hP j (by omega), List.getElem?_append_left hj]
      have hst : P[st.p.length]? = some { kind := 2, r := k, d := gcdF r.1, next := st.p.length + 1 } := by rw [hP _ (by omega)]; simp
      have := h.cl P (f + 1) hPp (by
        rw [closesF, hst]
        have b1 : bet (k : Int) 0 ((l.length : Int) - 1) = true := by simp only [bet, Bool.and_eq_true, decide_eq_true_eq]; omega
        have b2 : (r.1.all fun a => a.tmod (gcdF r.1) == 0) = true := by
          rw [List.all_eq_true]
          intro a ha
          rw [beq_iff_eq]
          exact Int.tmod_eq_zero_of_dvd (gcdF_dvd a ha)
        have e : ((st.p.length : Int) + 1).toNat = st.p.length + 1 := by omega
        simp only [b1, b2, Int.toNat_natCast, hkr, e, hcl, decide_eq_true hc.1, Bool.and_self]
        simp)
      rw [show st.p.length + 1 + f = st.p.length + (f + 1) by omega]
      exact this
    · simp only [List.length_append, List.length_cons, List.length_nil] at hP hN ⊢
      have hPp : ∀ j, j < st.p.length → P[j]? = st.p[j]? := fun j hj => by rw [hP j (by omega), List.getElem?_append_left hj]
      have hst : P[st.p.length]? = some { kind := 2, r := k, d := gcdF r.1, next := st.p.length + 1 } := by rw [hP _ (by omega)]; simp
      obtain ⟨par, p1, p2, p3⟩ := h.tr P N hPp (by omega)
      refine ⟨par.set (st.p.length + 1) 1, by simp [p1], fun j hj => ?_, fun ht => p3 ?_⟩
      · rw [getD_set_ne (by omega)]; exact p2 j (by omega)
      · rw [drop_of hst, treeFrom]
        have s1 : stepOk { kind := 2, r := (k : Int), d := gcdF r.1, next := (st.p.length : Int) + 1 } = true := by unfold stepOk; simp
        rw [s1, Bool.true_and, if_neg (by simp)]
        simp only
        have e : ((st.p.length : Int) + 1) = ((st.p.length + 1 : Nat) : Int) := by omega
        rw [e, child_ok (by omega) (by omega) (p2 _ (by omega))]
        simp only
        rw [if_neg (by simp)]
        exact ht
  · refine ⟨_, l, h.ok.plain hs hr hc, hlen, h.fst, fun j q a h1 h2 => ?_, h.bd, fun q hq => ?_, h.cl, h.tr⟩
    · simp only at h1 h2
      rcases getElem_snoc h1 with ⟨j1, h1⟩ | ⟨j1, rfl⟩
      · rcases getElem_snoc h2 with ⟨j2, h2⟩ | ⟨j2, rfl⟩
        · exact h.at' j q a h1 h2
        · omega
      · rcases getElem_snoc h2 with ⟨j2, h2⟩ | ⟨j2, rfl⟩
        · omega
        · exact ⟨hkl, hkr⟩
    · rcases List.mem_append.1 hq with hq | hq
      · exact h.small q hq
      · rw [List.mem_singleton.1 hq]; exact hsm r hrm
theorem startC {s : Sys} (hv : validS s = true) (hsm : SmallS s) : ∃ l, StC s s.2.length (startF s) l := by
  have : ∀ k, k ≤ s.2.length → ∃ st l, StC s k st l := fun k => by
    induction k with
    | zero =>
      refine fun _ => ⟨_, firstF s, StOk.start s, ?_, fun j _ => rfl, fun j r a h1 _ => (by simp at h1), firstF_bd hv, fun r hr => (by cases hr), fun P f _ h => ?_, fun P N _ _ => ⟨List.replicate N 0, by simp, fun j _ => getD_zeros N j, fun h => h⟩⟩
      · rw [firstF_len]; simp
      · simpa using h
    | succ k ih =>
      intro hk
      obtain ⟨st, l, h⟩ := ih (by omega)
      exact h.step hv hsm (List.getElem?_eq_getElem (by omega))
  obtain ⟨st, l, h⟩ := this _ (Nat.le_refl _)
  rw [← stOk_end h.ok]
  exact ⟨l, h⟩
theorem pad_range {n i : Nat} {g : Nat → Int} (h : i < n) : (pad ((List.range n).map g)).getD i 0 = g i := by
  rw [show (pad ((List.range n).map g)).getD i 0 = ((List.range n).map g).getD i 0 from getD_app_l (by simpa using h)]
  simp [List.getD_eq_getElem?_getD, h]

/-- **A refutation is accepted.** -/
theorem search_checked {s : Sys} (hv : validS s = true) (hsm : SmallS s) (hp : prodF s.1 ≤ 16384) (hno : (searchF s).1 = none) : checkF s (searchF s).2 = true := by
  have hs := valid_ok hv
  obtain ⟨l, hc⟩ := startC hv hsm
  have hfit := start_fit hs
  have hn := start_nums hs
  have hfl := firstF_len s
  have hn1 := hc.ok.n1
  have hlen := hc.len
  have h12 := hs.n12
  have h24 := hs.m24
  generalize hq : (searchF s).2 = q
  have hres : visitF (startF s).rows (startF s).at' s.1.length (fuelF s) (boxF s (startF s).n) (startF s).p = (none, q) := by
    rw [← hq, ← hno]; rfl
  have hseg : Seg (startF s).rows (startF s).at' s.1.length (fuelF s) (boxF s (startF s).n) (startF s).p q q := ⟨boxF_ok hs, boxF_wid hs _, hres, fun _ _ _ => rfl⟩
  have hpre : ∀ j, j < (startF s).p.length → q[j]? = (startF s).p[j]? := fun j hj => by
    have := visit_pre (startF s).rows (startF s).at' s.1.length (fuelF s) (boxF s (startF s).n) (startF s).p j hj
    rwa [hres] at this
  have hql := seg_len hfit _ _ _ _ _ hseg
  have hqn : q.length ≤ 49200 := by rw [← hq]; exact search_len hs hp
  have hbr : BrOk s.1.length (startF s).rows (startF s).at' (boxF s (startF s).n) l := by
    refine ⟨hlen, hc.at', fun i hi => ?_, fun i hi => ?_, hc.bd⟩
    · show l.getD ((pad _).getD i 0).toNat nilR = unitR s.1.length i 1 (-((List.replicate 12 0).getD i 0))
      rw [pad_range hi, getD_zeros, Int.toNat_natCast, hc.fst _ (by omega), firstF_low hi]
      rfl
    · show l.getD ((pad _).getD i 0).toNat nilR = unitR s.1.length i (-1) ((pad s.1).getD i 0)
      rw [pad_range hi, Int.toNat_natCast, hc.fst _ (by omega), firstF_top hi, show (pad s.1).getD i 0 = s.1.getD i 0 from getD_app_l hi]
  have hcl := visit_closes ⟨hfit, h12, hc.small⟩ _ _ _ _ _ l (q.length - (startF s).p.length) hseg hbr (by omega) (by unfold fuelF; omega)
  have hcl2 := hc.cl q _ hpre hcl
  rw [show (startF s).p.length + (q.length - (startF s).p.length) = q.length by omega] at hcl2
  obtain ⟨par, p1, p2, p3⟩ := hc.tr q q.length hpre (by omega)
  obtain ⟨par', _, _, t3⟩ := visit_tree hfit q.length _ _ _ _ _ par hseg rfl p1 (Nat.le_refl _) fun j hj _ => p2 j hj
  have ht := p3 (t3 (by rw [List.drop_length]; rfl))
  unfold checkF
  rw [hv, Bool.true_and, decide_eq_true (by omega), Bool.true_and, decide_eq_true (by omega), Bool.true_and, hcl2, Bool.and_true]
  exact ht
end Go.Proofs.Ytjienelkjpodkaa
namespace Go.Proofs.Ytjienelkjpodkaa

structure Nice (t : Sys) : Prop where
  v : validS t = true
  sm : SmallS t
  pr : prodF t.1 ≤ 16384
structure RowN (n : Nat) (r : Row) : Prop where
  len : r.1.length = n
  co : eachB r.1 (-80) 80 = true
  lo : -1000 ≤ r.2
  hi : r.2 ≤ 1000
theorem Nice.row {t : Sys} (h : Nice t) : ∀ r ∈ t.2, RowN t.1.length r := fun r hr => by
  obtain ⟨g1, _, g3, g4⟩ := firstF_bd h.v r (by unfold firstF; simp [hr])
  exact ⟨g1, h.sm r hr, g3, g4⟩
theorem Nice.with_ {t : Sys} {rs : List Row} (h : Nice t) (hl : rs.length ≤ 24) (hr : ∀ r ∈ rs, RowN t.1.length r) : Nice (t.1, rs) := by
  have hs := valid_ok h.v
  refine ⟨?_, fun r hr' => (hr r hr').co, h.pr⟩
  unfold validS
  rw [decide_eq_true hs.n1, decide_eq_true hs.n12, decide_eq_true hl, hs.top]
  simp only [Bool.true_and]
  rw [List.all_eq_true]
  intro r hr'
  have := hr r hr'
  unfold rowOk
  rw [this.len, beq_self_eq_true, eachB_mono this.co (by decide) (by decide)]
  simp only [Bool.true_and]
  exact bet_iff.2 ⟨this.lo, this.hi⟩
theorem prod_small : ∀ (l : List Int), eachB l 0 5 = true → prodF l ≤ 6 ^ l.length
  | [], _ => by simp [prodF]
  | t :: r, h => by
    unfold eachB at h
    rw [List.all_cons, Bool.and_eq_true] at h
    have hb := bet_iff.1 h.1
    have := prod_small r h.2
    rw [prodF, List.length_cons, Nat.pow_succ, Nat.mul_comm]
    exact Nat.mul_le_mul this (by omega)
theorem madeRow_n (r : Row) (n : Nat) : RowN n (madeRow r n) := by
  have hc := foldF_bound (x := r.2) (lo := -20) (hi := 20) (by decide)
  refine ⟨by simp [madeRow], ?_, by simp only [madeRow]; omega, by simp only [madeRow]; omega⟩
  unfold eachB
  rw [List.all_eq_true]
  intro x hx
  simp only [madeRow] at hx
  obtain ⟨i, _, rfl⟩ := List.mem_map.1 hx
  split
  · have := foldF_bound (x := r.1.getD i 0) (lo := -6) (hi := 6) (by decide)
    exact bet_iff.2 (by omega)
  · exact bet_iff.2 (by omega)
theorem made_top (s : Sys) : 1 ≤ (madeS s).1.length ∧ (madeS s).1.length ≤ 4 ∧ eachB (madeS s).1 0 5 = true := by
  simp only [madeS]
  split
  · exact ⟨by simp, by simp, by decide⟩
  · next h =>
    have h0 : s.1 ≠ [] := by simpa using h
    have := List.length_pos_iff.2 h0
    refine ⟨by simp; omega, by simp; omega, ?_⟩
    unfold eachB
    rw [List.all_eq_true]
    intro x hx
    obtain ⟨t, _, rfl⟩ := List.mem_map.1 hx
    have := foldF_bound (x := t) (lo := 0) (hi := 5) (by decide)
    exact bet_iff.2 (by omega)
theorem made_len (s : Sys) : (madeS s).2.length ≤ 6 := by rw [madeS_rows]; simp; omega
theorem made_row (s : Sys) : ∀ r ∈ (madeS s).2, RowN (madeS s).1.length r ∧ eachB r.1 (-6) 6 = true ∧ -20 ≤ r.2 ∧ r.2 ≤ 20 := fun r hr => by
  rw [madeS_rows] at hr
  obtain ⟨q, _, rfl⟩ := List.mem_map.1 hr
  have hc := foldF_bound (x := q.2) (lo := -20) (hi := 20) (by decide)
  refine ⟨madeRow_n q _, ?_, by simp only [madeRow]; omega, by simp only [madeRow]; omega⟩
  unfold eachB
  rw [List.all_eq_true]
  intro x hx
  simp only [madeRow] at hx
  obtain ⟨i, _, rfl⟩ := List.mem_map.1 hx
  split
  · have := foldF_bound (x := q.1.getD i 0) (lo := -6) (hi := 6) (by decide)
    exact bet_iff.2 (by omega)
  · exact bet_iff.2 (by omega)
theorem made_nice (s : Sys) : Nice (madeS s) := by
  obtain ⟨h1, h4, ht⟩ := made_top s
  have hp := prod_small _ ht
  have h2 : prodF (madeS s).1 ≤ 16384 := by
    refine Nat.le_trans hp ?_
    have : 6 ^ (madeS s).1.length ≤ 6 ^ 4 := Nat.pow_le_pow_right (by omega) h4
    omega
  refine ⟨?_, fun r hr => (made_row s r hr).1.co, h2⟩
  have hl := made_len s
  unfold validS
  rw [decide_eq_true h1, decide_eq_true (show (madeS s).1.length ≤ 12 by omega), decide_eq_true (show (madeS s).2.length ≤ 24 by omega), eachB_mono ht (by decide) (by decide)]
  simp only [Bool.true_and]
  rw [List.all_eq_true]
  intro r hr
  have := (made_row s r hr).1
  unfold rowOk
  rw [this.len, beq_self_eq_true, eachB_mono this.co (by decide) (by decide)]
  simp only [Bool.true_and]
  exact bet_iff.2 ⟨this.lo, this.hi⟩

/-- a candidate point -/
def Cand (t : Sys) (x : List Int) : Prop := InB t.1.length [] t.1 x
def Least (t : Sys) (x : List Int) : Prop := (Cand t x ∧ Sat t.2 x) ∧ ∀ y, Cand t y → Sat t.2 y → lessF y x = false
def NoSol (t : Sys) : Prop := ∀ y, Cand t y → ¬ Sat t.2 y
theorem points_nice {t : Sys} (h : Nice t) : ¬ pointsF t.1 1 > 16384 := by
  have h1 : pointsF t.1 (((1 : Nat) : Int)) = ((1 * prodF t.1 : Nat) : Int) := prod_points t.1 1 (valid_ok h.v).top (Nat.le_refl _) (by have := h.pr; omega)
  have h2 := h.pr
  have h3 : pointsF t.1 1 = ((1 * prodF t.1 : Nat) : Int) := h1
  rw [h3]
  omega
theorem solve_nice {t : Sys} (h : Nice t) : (∃ x, solveF t = (x, [], true, 0) ∧ Least t x) ∨ (∃ p, solveF t = ([], p, false, 0) ∧ checkF t p = true ∧ NoSol t) := by
  have hf := search_found (valid_ok h.v)
  unfold solveF
  rw [if_pos h.v, if_neg (points_nice h)]
  cases hs : searchF t with
  | mk o p =>
    rw [hs] at hf
    cases o with
    | some x => exact .inl ⟨x, rfl, hf⟩
    | none =>
      have := search_checked h.v h.sm h.pr (by rw [hs])
      rw [hs] at this
      exact .inr ⟨p, rfl, this, hf⟩
theorem Cand.bet {t : Sys} {x : List Int} (h : Nice t) (hx : Cand t x) : eachB x 0 64 = true := eachB_getD.2 fun j hj => by
  have h1 := hx.2 j (by rw [← hx.1]; exact hj)
  have h2 := getD_bet (valid_ok h.v).top (show j < t.1.length by rw [← hx.1]; exact hj)
  rw [show ([] : List Int).getD j 0 = 0 from by simp] at h1
  omega
theorem holds_cand {t : Sys} {x : List Int} {r : Row} (h : Nice t) (hx : Cand t x) (hr : RowN t.1.length r) : holdsR r x = decide (0 ≤ valR r x) := by
  have hb := hx.bet h
  have h12 := (valid_ok h.v).n12
  have hl := hx.1
  unfold holdsR
  rw [hr.len, hl, beq_self_eq_true, decide_eq_true h12, eachB_mono hr.co (by decide) (by decide), eachB_mono hb (by decide) (by decide), show bet r.2 (-side) side = true from bet_iff.2 ⟨by have := hr.lo; unfold side; omega, by have := hr.hi; unfold side; omega⟩]
  simp
theorem holds_true {t : Sys} {x : List Int} {r : Row} (h : Nice t) (hx : Cand t x ∧ Sat t.2 x) (hr : r ∈ t.2) : holdsR r x = true := by
  rw [holds_cand h hx.1 (h.row r hr)]
  exact decide_eq_true (hx.2 r hr)
theorem least_unique {t u : Sys} {x y : List Int} (hx : Least t x) (hy : Least u y) (ht : t.1 = u.1) (h1 : ∀ z, Cand t z → Sat t.2 z → Sat u.2 z) (h2 : ∀ z, Cand t z → Sat u.2 z → Sat t.2 z) : x = y := by
  have e : ∀ z, Cand t z ↔ Cand u z := fun z => by unfold Cand; rw [ht]
  refine less_total x y ?_ ?_ ?_
  · rw [hx.1.1.1, hy.1.1.1, ht]
  · exact hy.2 x ((e x).1 hx.1.1) (h1 x hx.1.1 hx.1.2)
  · exact hx.2 y ((e y).2 hy.1.1) (h2 y ((e y).2 hy.1.1) hy.1.2)
end Go.Proofs.Ytjienelkjpodkaa
