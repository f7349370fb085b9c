/- The law RowsProjection: for every input it gives true and leaves its arguments as they were.
   Conditions: none beyond the row's own (readable arguments within the form's reach). -/
import Derived.Test.YtjienelkjpodkaaL20
import Derived.Test.YtjienelkjpodkaaS1
namespace Go.Proofs.Ytjienelkjpodkaa
open Go.ChangeShapes Go.WideShapes Go.ChangeAt Go.RowKit

/-! ### what Project answers -/
theorem dot_set : ∀ (a z : List Int) (i : Nat) (v : Int), i < a.length → i < z.length → dot a (z.set i v) = dot a z + a.getD i 0 * (v - z.getD i 0)
  | [], _, _, _, h, _ => by simp at h
  | _ :: _, [], _, _, _, h => by simp at h
  | a :: l, x :: s, 0, v, _, _ => by
    simp only [List.set_cons_zero, List.getD_cons_zero, dot]
    rw [Int.mul_sub]; omega
  | a :: l, x :: s, i + 1, v, h1, h2 => by
    simp only [List.set_cons_succ, List.getD_cons_succ, dot]
    rw [dot_set l s i v (by simpa using h1) (by simpa using h2)]
    omega
theorem dot_zeros : ∀ (n : Nat) (z : List Int), dot (List.replicate n 0) z = 0
  | 0, z => by simp [dot]
  | n + 1, [] => by simp [List.replicate_succ, dot]
  | n + 1, x :: s => by rw [List.replicate_succ, dot, dot_zeros n s]; simp
theorem dot_unit : ∀ (n i : Nat) (a : Int) (z : List Int), i < n → z.length = n → dot ((List.replicate n 0).set i a) z = a * z.getD i 0
  | 0, _, _, _, h, _ => by omega
  | n + 1, _, _, [], _, h => by simp at h
  | n + 1, 0, a, x :: s, _, _ => by rw [List.replicate_succ, List.set_cons_zero, dot, dot_zeros]; simp
  | n + 1, i + 1, a, x :: s, h1, h2 => by rw [List.replicate_succ, List.set_cons_succ, dot, dot_unit n i a s (by omega) (by simpa using h2)]; simp
theorem set_set_self {z : List Int} {i : Nat} {v : Int} (hi : i < z.length) (hv : z.getD i 0 = v) : (z.set i 0).set i v = z := by
  rw [List.set_set]
  apply List.ext_getElem?
  intro j
  by_cases e : i = j
  · subst e
    rw [List.getElem?_set_self hi, List.getElem?_eq_getElem hi]
    rw [List.getD_eq_getElem?_getD, List.getElem?_eq_getElem hi] at hv
    rw [← hv]; rfl
  · rw [List.getElem?_set_ne e]
/-- a solution that takes a value -/
def Takes (t : Sys) (i : Nat) (v : Int) : Prop := ∃ y, Cand t y ∧ Sat t.2 y ∧ y.getD i 0 = v
def solvB (t : Sys) (i v : Nat) : Bool := (searchF (fixS t i v)).1.isSome
theorem fix_val {r : Row} {z : List Int} {i : Nat} {v : Int} (h1 : i < r.1.length) (h2 : i < z.length) (hz : z.getD i 0 = 0) : valR (r.1, r.2 + r.1.getD i 0 * v) z = valR r (z.set i v) := by
  unfold valR
  simp only
  rw [dot_set r.1 z i v h1 h2, hz, Int.sub_zero]
  omega
theorem solv_iff {t : Sys} (h : Nice t) {i v : Nat} (hi : i < t.1.length) (hv : (v : Int) ≤ t.1.getD i 0) : solvB t i v = true ↔ Takes t i v := by
  have hs := (fix_ok h.v hi hv).1
  have hf := search_found hs
  have hln : (fixS t i v).1.length = t.1.length := by simp [fixS]
  have hrl : ∀ r ∈ t.2, i < r.1.length := fun r hr => by rw [(h.row r hr).len]; exact hi
  have hmem : ∀ z, Sat (fixS t i v).2 z ↔ ∀ r ∈ t.2, 0 ≤ valR (r.1, r.2 + r.1.getD i 0 * (v : Int)) z := fun z => by
    constructor
    · intro hz r hr
      exact hz _ (List.mem_map.2 ⟨r, hr, rfl⟩)
    · intro hz r hr
      obtain ⟨q, hq, rfl⟩ := List.mem_map.1 hr
      exact hz q hq
  have hin : ∀ z, InB (fixS t i v).1.length [] (fixS t i v).1 z → z.length = t.1.length ∧ z.getD i 0 = 0 ∧ Cand t (z.set i v) := fun z hz => by
    rw [hln] at hz
    have h1 := hz.2 i hi
    rw [show (fixS t i v).1.getD i 0 = 0 from getD_set_eq hi, show ([] : List Int).getD i 0 = 0 from by simp] at h1
    refine ⟨hz.1, by omega, by rw [List.length_set]; exact hz.1, fun j hj => ?_⟩
    by_cases e : i = j
    · subst e
      rw [getD_set_eq (by rw [hz.1]; exact hi), show ([] : List Int).getD i 0 = 0 from by simp]
      omega
    · rw [getD_set_ne e]
      have h2 := hz.2 j hj
      rwa [show (fixS t i v).1.getD j 0 = t.1.getD j 0 from getD_set_ne e] at h2
  unfold solvB
  constructor
  · intro hso
    obtain ⟨z, hz⟩ := Option.isSome_iff_exists.1 hso
    rw [hz] at hf
    obtain ⟨g1, g2, g3⟩ := hin z hf.1.1
    refine ⟨z.set i v, g3, fun r hr => ?_, getD_set_eq (by rw [g1]; exact hi)⟩
    rw [← fix_val (hrl r hr) (by rw [g1]; exact hi) g2]
    exact (hmem z).1 hf.1.2 r hr
  · rintro ⟨y, hy, hsat, hyv⟩
    cases hso : (searchF (fixS t i v)).1 with
    | some z => rfl
    | none =>
      rw [hso] at hf
      have hyl : i < y.length := by rw [hy.1]; exact hi
      refine absurd ((hmem (y.set i 0)).2 fun r hr => ?_) (hf (y.set i 0) ⟨by rw [List.length_set, hln]; exact hy.1, fun j hj => ?_⟩)
      · rw [fix_val (hrl r hr) (by rw [List.length_set]; exact hyl) (getD_set_eq hyl), set_set_self hyl hyv]
        exact hsat r hr
      · rw [hln] at hj
        by_cases e : i = j
        · subst e
          rw [getD_set_eq hyl, show (fixS t i v).1.getD i 0 = 0 from getD_set_eq hi]
          simp
        · rw [getD_set_ne e, show (fixS t i v).1.getD j 0 = t.1.getD j 0 from getD_set_ne e]
          exact hy.2 j hj
theorem proj_snoc (t : Sys) (x : Nat) (v : Nat) : ∀ (vs : List Nat) (a : Int × Int × Bool), projFrom t x (vs ++ [v]) a = projFrom t x [v] (projFrom t x vs a)
  | [], a => rfl
  | u :: vs, a => by
    rw [List.cons_append, projFrom, proj_snoc t x v vs, proj_snoc t x v vs, projFrom.eq_2 t x a u vs]
    split <;> rfl
theorem proj_one {t : Sys} (h : Nice t) (x v : Nat) (a : Int × Int × Bool) : projFrom t x [v] a = if solvB t x v then ((if a.2.2 then a.1 else (v : Int)), (v : Int), true) else a := by
  have hp := points_nice h
  simp only [projFrom, decide_eq_false hp, Bool.false_or]
  unfold solvB
  cases (searchF (fixS t x v)).1 <;> simp
def ProjOk (t : Sys) (i k : Nat) (V : Int × Int × Bool) : Prop :=
  (V.2.2 = false → V.1 = 0 ∧ V.2.1 = 0 ∧ ∀ v, v < k → ¬ Takes t i (v : Nat)) ∧
  (V.2.2 = true → 0 ≤ V.1 ∧ V.1 ≤ V.2.1 ∧ V.2.1 < k ∧ Takes t i V.1 ∧ Takes t i V.2.1 ∧ ∀ v, v < k → Takes t i (v : Nat) → V.1 ≤ v ∧ v ≤ V.2.1)
theorem proj_ok {t : Sys} (h : Nice t) {i : Nat} (hi : i < t.1.length) : ∀ k : Nat, (k : Int) ≤ t.1.getD i 0 + 1 → ProjOk t i k (projFrom t i (List.range k) (0, 0, false))
  | 0, _ => ⟨fun _ => ⟨rfl, rfl, fun v hv => by omega⟩, fun e => by cases e⟩
  | k + 1, hk => by
    have ih := proj_ok h hi k (by omega)
    rw [List.range_succ, proj_snoc, proj_one h]
    generalize projFrom t i (List.range k) (0, 0, false) = V at ih
    obtain ⟨i1, i2⟩ := ih
    have hiff := solv_iff h hi (v := k) (by omega)
    cases hs : solvB t i k with
    | false =>
      have hno : ¬ Takes t i (k : Nat) := fun e => by rw [hiff.2 e] at hs; cases hs
      rw [if_neg (by simp)]
      refine ⟨fun e => ?_, fun e => ?_⟩
      · obtain ⟨g1, g2, g3⟩ := i1 e
        refine ⟨g1, g2, fun v hv => ?_⟩
        rcases Nat.lt_or_ge v k with h1 | h1
        · exact g3 v h1
        · obtain rfl : v = k := by omega
          exact hno
      · obtain ⟨g1, g2, g3, g4, g5, g6⟩ := i2 e
        refine ⟨g1, g2, by omega, g4, g5, fun v hv hT => ?_⟩
        rcases Nat.lt_or_ge v k with h1 | h1
        · exact g6 v h1 hT
        · obtain rfl : v = k := by omega
          exact absurd hT hno
    | true =>
      have hyes := hiff.1 hs
      rw [if_pos rfl]
      refine ⟨fun e => (by cases e), fun _ => ?_⟩
      cases hV : V.2.2 with
      | false =>
        obtain ⟨_, _, g3⟩ := i1 hV
        simp only
        refine ⟨by simp, by simp, by omega, by simpa using hyes, hyes, fun v hv hT => ?_⟩
        rcases Nat.lt_or_ge v k with h1 | h1
        · exact absurd hT (g3 v h1)
        · obtain rfl : v = k := by omega
          simp
      | true =>
        obtain ⟨g1, g2, g3, g4, g5, g6⟩ := i2 hV
        simp only [if_true]
        refine ⟨g1, by omega, by omega, g4, hyes, fun v hv hT => ?_⟩
        rcases Nat.lt_or_ge v k with h1 | h1
        · have := g6 v h1 hT
          omega
        · obtain rfl : v = k := by omega
          omega
/-- **What Project answers.** -/
theorem project_nice {t : Sys} (h : Nice t) {i : Nat} (hi : i < t.1.length) : ProjOk t i (t.1.getD i 0 + 1).toNat (projectF t i) := by
  have ht := getD_bet (valid_ok h.v).top hi
  unfold projectF
  rw [h.v, decide_eq_true (show (0 : Int) ≤ (i : Int) by omega), decide_eq_true (show (i : Int) < (t.1.length : Int) by omega)]
  exact proj_ok h hi _ (by omega)
theorem takes_in {t : Sys} (h : Nice t) {i : Nat} (hi : i < t.1.length) {y : List Int} (hy : Cand t y) (hs : Sat t.2 y) : ∃ v : Nat, v < (t.1.getD i 0 + 1).toNat ∧ Takes t i (v : Nat) ∧ y.getD i 0 = v := by
  have h1 := hy.2 i hi
  rw [show ([] : List Int).getD i 0 = 0 from by simp] at h1
  exact ⟨(y.getD i 0).toNat, by omega, ⟨y, hy, hs, by omega⟩, by omega⟩

/-- the rows that bound a value -/
def limF (n i : Nat) (lo hi : Int) : Nat → Row
  | 0 => unitR n i (-1) lo
  | 1 => unitR n i 1 (-hi)
  | 2 => unitR n i (-1) (lo - 1)
  | _ => unitR n i 1 (-hi - 1)
theorem unit_val {n i : Nat} {a c : Int} {z : List Int} (hi : i < n) (hz : z.length = n) : valR (unitR n i a c) z = c + a * z.getD i 0 := by
  unfold valR unitR
  simp only
  rw [dot_unit n i a z hi hz]
theorem lim_n {n i : Nat} {lo hi : Int} (h1 : 0 ≤ lo) (h2 : lo ≤ hi) (h3 : hi ≤ 5) (k : Nat) : RowN n (limF n i lo hi k) := by
  have key : ∀ (a c : Int), -1 ≤ a → a ≤ 1 → -10 ≤ c → c ≤ 10 → RowN n (unitR n i a c) := fun a c a1 a2 c1 c2 =>
    ⟨by simp [unitR], eachB_set (by unfold eachB; rw [List.all_replicate]; simp [bet]) (by omega) (by omega), by show -1000 ≤ c; omega, by show c ≤ 1000; omega⟩
  rcases k with _ | _ | _ | k <;> exact key _ _ (by omega) (by omega) (by omega) (by omega)
theorem lim_nice {t : Sys} (h : Nice t) (hl : t.2.length ≤ 6) {i : Nat} {lo hi : Int} (h1 : 0 ≤ lo) (h2 : lo ≤ hi) (h3 : hi ≤ 5) (k : Nat) : Nice (t.1, t.2 ++ [limF t.1.length i lo hi k]) :=
  h.with_ (by simp; omega) (fun r hr => by
    rcases List.mem_append.1 hr with hr | hr
    · exact h.row r hr
    · rw [List.mem_singleton.1 hr]; exact lim_n h1 h2 h3 k)
theorem lim_solve {t : Sys} (h : Nice t) (hl : t.2.length ≤ 6) {i : Nat} (hi : i < t.1.length) {lo hi' : Int} (h3 : hi' ≤ 5) (hp : ProjOk t i (t.1.getD i 0 + 1).toNat (lo, hi', true)) (k : Nat) :
    (k < 2 → ∃ x, solveF (t.1, t.2 ++ [limF t.1.length i lo hi' k]) = (x, [], true, 0) ∧ x.length = t.1.length) ∧ (2 ≤ k → ∃ p, solveF (t.1, t.2 ++ [limF t.1.length i lo hi' k]) = ([], p, false, 0)) := by
  obtain ⟨g1, g2, g3, g4, g5, g6⟩ := hp.2 rfl
  simp only at g1 g2 g3 g4 g5 g6
  have hn := lim_nice h hl g1 g2 h3 (i := i) k
  constructor
  · intro hk
    rcases solve_nice hn with ⟨x, e, hx⟩ | ⟨p, _, _, hno⟩
    · exact ⟨x, e, hx.1.1.1⟩
    · rcases (show k = 0 ∨ k = 1 by omega) with rfl | rfl
      · obtain ⟨y, y1, y2, y3⟩ := g4
        refine absurd (fun r hr => ?_) (hno y y1)
        rcases List.mem_append.1 hr with hr | hr
        · exact y2 r hr
        · rw [List.mem_singleton.1 hr, limF, unit_val hi y1.1]; omega
      · obtain ⟨y, y1, y2, y3⟩ := g5
        refine absurd (fun r hr => ?_) (hno y y1)
        rcases List.mem_append.1 hr with hr | hr
        · exact y2 r hr
        · rw [List.mem_singleton.1 hr, limF, unit_val hi y1.1]; omega
  · intro hk
    rcases solve_nice hn with ⟨x, e, hx⟩ | ⟨p, e, _, _⟩
    · have hxs : Sat t.2 x := fun r hr => hx.1.2 r (List.mem_append_left _ hr)
      have hc : Cand t x := hx.1.1
      obtain ⟨v, v1, v2, v3⟩ := takes_in h hi hc hxs
      have hb := g6 v v1 v2
      have hlast := hx.1.2 _ (List.mem_append_right _ (List.mem_singleton.2 rfl))
      rcases k with _ | _ | _ | k
      · omega
      · omega
      · rw [limF, unit_val hi hc.1] at hlast; omega
      · rw [show limF t.1.length i lo hi' (k + 1 + 1 + 1) = unitR t.1.length i 1 (-hi' - 1) from rfl, unit_val hi hc.1] at hlast; omega
    · exact ⟨p, e⟩

theorem unit_row_c (n i : Nat) (a c : Int) (w : World) (hn : n ≤ 12) (hi : i < n) (ha : I64 a) (hc : I64 c) :
    Calls Try.prog 19 #[.int .i64 n, .int .i64 i, .int .i64 a, .int .i64 c] w fun e w' => ∃ U un uc, e = .returned (.agg #[.slice U un uc, .int .i64 c]) ∧ RowIn w' TT (.slice U un uc) (.int .i64 c) (unitR n i a c) ∧ Below w.heap.size w w' := by
  refine (runit_c n i a c w hn hi ha hc).mono ?_
  rintro e w' ⟨_, _, rfl, ⟨U, un, uc, rfl, rfl, hR, hI⟩, hb⟩
  exact ⟨U, un, uc, rfl, ⟨U, un, uc, rfl, rfl, hR.tt, hI⟩, hb⟩

set_option maxRecDepth 100000 in
set_option maxHeartbeats 4000000 in
theorem law7_walk (A B : Option Addr) (n c m d : Nat) (s : Sys) (v : Nat) (hv : v < 256) (w : World) (h : R1 w TT A n c s.1) (h' : RR w TT B m d s.2) :
    Calls Try.prog 7 #[.agg #[.slice A n c, .slice B m d], .int .u8 v] w (Gives w (.bool true)) := by
  have H1 := Lib.hid h
  have H2 := Lib.hid h'
  have HB0 := Lib.hid (show Below w.heap.size w (w.alloc (.cells #[.slice A n c, .slice B m d] 25)) from (Below.refl _ _).alloc (Nat.le_refl _) _)
  have HK0 := Lib.hid (Blk.new w 25 #[.slice A n c, .slice B m d])
  have c0 := HK0.out.cell 0
  have c1 := HK0.out.cell 1
  clear h h'
  go_enter Try.func7, Try.ntmps7
  go_upto_region 3 with (first
    | (go_at_call 9
       refine (made_c TT A B n c m d s _ (H1.out.below HB1.out) (H2.out.below HB1.out)).mono ?_
       rintro e w2 ⟨TA, tn, tc, RA, rm, rd, rfl, r1, r2, hb⟩
       have HB2 := Lib.hid (HB1.out.trans (hb.mono HB1.out.size))
       have HM3 := Lib.hid (LMem.start (t := madeS s) HB2.out r1 r2)
       have hn2 := r1.len
       have hm2 := r2.len
       have hnc2 := r1.cap
       have hmc2 := r2.cap
       clear r1 r2 hb c0 c1
       have c0 := HM3.out.c0
       have c1 := HM3.out.c1)
    | (go_at_call 8
       refine (sanity_c _).mono ?_
       rintro e w1 ⟨rfl, hb⟩
       have HB1 := Lib.hid (HB0.out.trans (hb.mono HB0.out.size))
       have hk1 := HK0.out.old hb
       clear c0 c1
       have c0 := hk1.cell 0
       have c1 := hk1.cell 1
       clear hb hk1))
  generalize w2.alloc (.cells #[.slice TA tn tc, .slice RA rm rd] 25) = w3 at *
  generalize w2.heap.size = g6 at *
  have ht4 : tn ≤ 4 := by have := (made_top s).2.1; omega
  have ht1 : 1 ≤ tn := by have := (made_top s).1; omega
  have hm6 : rm ≤ 6 := by have := made_len s; omega
  have htn0 : ¬ tn = 0 := by omega
  have e0 : ((tn : Int) == 0) = false := by simp; omega
  have e0n : (tn == 0) = false := by simp; omega
  obtain ⟨q, hq, hmi, hmi2⟩ : ∃ q : Nat, q < tn ∧ (v : Int).tmod (tn : Int) = q ∧ (v : Int) % (tn : Int) = q := ⟨v % tn, Nat.mod_lt _ ht1, by rw [Int.tmod_eq_emod_of_nonneg (by omega)]; rfl, rfl⟩
  have hqi : (q : Int) < tn := by omega
  have hwv : IntKind.i64.wrap (v : Int) = v := i64_wrap _ (by omega)
  have hql : q < (madeS s).1.length := by omega
  have hpr := project_nice (made_nice s) hql
  rcases hV : projectF (madeS s) q with ⟨lo, hi, is⟩
  rw [hV] at hpr
  have HV := Lib.hid hV
  clear hV
  cases is with
  | false =>
    obtain ⟨z1, z2, z3⟩ := hpr.1 rfl
    simp only at z1 z2
    subst z1
    subst z2
    rcases solve_nice (made_nice s) with ⟨x, he, hl⟩ | ⟨p0, he, hc0, hno⟩
    · obtain ⟨u, u1, u2, _⟩ := takes_in (made_nice s) hql hl.1.1 hl.1.2
      exact absurd u2 (z3 u u1)
    · have HE := Lib.hid he
      clear he hc0 hno z3 hpr hql
      go_wp2_with (first
        | (go_at_call 18
           refine (project_c TT TA RA tn tc rm rd (madeS s) q w4 HM4.out.top HM4.out.rows (i64_small (by omega) (by omega))).mono ?_
           rw [HV.out]
           rintro e w5 ⟨rfl, hb⟩
           have HM5 := Lib.hid (HM4.out.step hb)
           clear hb c0 c1
           have c0 := HM5.out.c0
           have c1 := HM5.out.c1)
        | (go_at_call 10
           refine (solve_no HM3.out.top HM3.out.rows HE.out).mono ?_
           rintro e w4 ⟨xA, xc, pA, pn, pc, rfl, hp, hx, hb⟩
           have HM4 := Lib.hid (HM3.out.step hb)
           clear hp hx hb c0 c1
           have c0 := HM4.out.c0
           have c1 := HM4.out.c1))
      go_ret
      exact ⟨rfl, HM5.out.b⟩
  | true =>
    rcases solve_nice (made_nice s) with ⟨x, he, hl⟩ | ⟨p0, he, hc0, hno⟩
    · have HE := Lib.hid he
      have HL := Lib.hid hl
      have HP := Lib.hid hpr
      obtain ⟨b1, b2, b3, _⟩ := hpr.2 rfl
      simp only at b1 b2 b3
      clear he hl hpr
      obtain ⟨ad0, tq, rfl, _, htq, _, hct⟩ := HM3.out.top.at_ hq
      have htq1 : (madeS s).1.getD q 0 = tq := by rw [List.getD_eq_getElem?_getD, htq]; rfl
      have hb5 := eachB_getD.1 (made_top s).2.2 q hql
      rw [htq1] at b3 hb5
      have HTq := Lib.hid (fun (W : World) (hb : Below w3.heap.size w3 W) => cell_below hb hct)
      have hh5 : hi ≤ 5 := by omega
      have k1 : decide (hi < lo) = false := by simp; omega
      have k2 : decide (lo < 0) = false := by simp; omega
      have k3 : decide (tq < hi) = false := by simp; omega
      have w1' : IntKind.i64.wrap (-hi) = -hi := i64_wrap _ (by omega)
      have w2' : IntKind.i64.wrap (lo - 1) = lo - 1 := i64_wrap _ (by omega)
      have w3' : IntKind.i64.wrap (-hi - 1) = -hi - 1 := i64_wrap _ (by omega)
      clear htq htq1 hb5 b3 hct
      go_upto_region 9 with (first
        | (go_at_call 18
           refine (project_c TT (some ad0) RA tn tc rm rd (madeS s) q w4 HM4.out.top HM4.out.rows (i64_small (by omega) (by omega))).mono ?_
           rw [HV.out]
           rintro e w5 ⟨rfl, hb⟩
           have HM5 := Lib.hid (HM4.out.step hb)
           have ct := HTq.out _ (HB43.out.trans (hb.mono HB43.out.size))
           clear hb c0 c1
           have c0 := HM5.out.c0
           have c1 := HM5.out.c1)
        | (go_at_call 10
           refine (solve_yes HM3.out.top HM3.out.rows HE.out (HL.out.1.1.1.trans hn2)).mono ?_
           rintro e w4 ⟨xA, xc, pA, pc, rfl, hx, hb⟩
           have HM4 := Lib.hid (HM3.out.step hb)
           have HB43 := Lib.hid hb
           clear hx hb c0 c1
           have c0 := HM4.out.c0
           have c1 := HM4.out.c1))
      clear hmi hmi2 hwv
      go_upto_region 12 with (first
        | (go_at_call 19
           have _ := HU3
           refine (unit_row_c tn q 1 (-hi - 1) w8 (by omega) hq (i64_small (by omega) (by omega)) (i64_small (by omega) (by omega))).mono ?_
           rintro e w9 ⟨U4, un4, uc4, rfl, hr, hb⟩
           have HM9 := Lib.hid (HM8.out.step hb)
           have HU4 := Lib.hid hr
           have HV1 := Lib.hid (HT1.out.old (Old.of_below hb))
           have HV2 := Lib.hid (HT2.out.old (Old.of_below hb))
           have HV3 := Lib.hid (HU3.out.old (Old.of_below hb))
           clear hr hb)
        | (go_at_call 19
           have _ := HU2
           refine (unit_row_c tn q (-1) (lo - 1) w7 (by omega) hq (i64_small (by omega) (by omega)) (i64_small (by omega) (by omega))).mono ?_
           rintro e w8 ⟨U3, un3, uc3, rfl, hr, hb⟩
           have HM8 := Lib.hid (HM7.out.step hb)
           have HU3 := Lib.hid hr
           have HT1 := Lib.hid (HS1.out.old (Old.of_below hb))
           have HT2 := Lib.hid (HU2.out.old (Old.of_below hb))
           clear hr hb)
        | (go_at_call 19
           have _ := HU1
           refine (unit_row_c tn q 1 (-hi) w6 (by omega) hq (i64_small (by omega) (by omega)) (i64_small (by omega) (by omega))).mono ?_
           rintro e w7 ⟨U2, un2, uc2, rfl, hr, hb⟩
           have HM7 := Lib.hid (HM6.out.step hb)
           have HU2 := Lib.hid hr
           have HS1 := Lib.hid (HU1.out.old (Old.of_below hb))
           clear hr hb)
        | (go_at_call 19
           refine (unit_row_c tn q (-1) lo w5 (by omega) hq (i64_small (by omega) (by omega)) (i64_small (by omega) (by omega))).mono ?_
           rintro e w6 ⟨U1, un1, uc1, rfl, hr, hb⟩
           have HM6 := Lib.hid (HM5.out.step hb)
           have HU1 := Lib.hid hr
           clear hr hb c0 c1 ct))
      have HBa := Lib.hid (show Below w9.heap.size w9 (w9.alloc (.cells #[.slice U1 un1 uc1, .int .i64 lo, .slice U2 un2 uc2, .int .i64 (-hi), .slice U3 un3 uc3, .int .i64 (lo - 1), .slice U4 un4 uc4, .int .i64 (-hi - 1)] 37)) from (Below.refl _ _).alloc (Nat.le_refl _) _)
      have HMz := Lib.hid (HM9.out.step HBa.out)
      have HL0 := Lib.hid (show RR (w9.alloc (.cells #[.slice U1 un1 uc1, .int .i64 lo, .slice U2 un2 uc2, .int .i64 (-hi), .slice U3 un3 uc3, .int .i64 (lo - 1), .slice U4 un4 uc4, .int .i64 (-hi - 1)] 37)) TT (some ⟨w9.heap.size, 0, none⟩) 4 4 [limF tn q lo hi 0, limF tn q lo hi 1, limF tn q lo hi 2, limF tn q lo hi 3] from
        (Blk.new w9 37 #[.slice U1 un1 uc1, .int .i64 lo, .slice U2 un2 uc2, .int .i64 (-hi), .slice U3 un3 uc3, .int .i64 (lo - 1), .slice U4 un4 uc4, .int .i64 (-hi - 1)]).rrl _ rfl (by decide) (((((AllR.nil_ _ TT).snoc (HV1.out.old (Old.of_below HBa.out))).snoc (HV2.out.old (Old.of_below HBa.out))).snoc (HV3.out.old (Old.of_below HBa.out))).snoc (HU4.out.old (Old.of_below HBa.out))))
      clear HU1 HS1 HT1 HV1 HU2 HT2 HV2 HU3 HV3 HU4 HBa w1' w2' w3' k1 k2 k3
      generalize w9.alloc (.cells #[.slice U1 un1 uc1, .int .i64 lo, .slice U2 un2 uc2, .int .i64 (-hi), .slice U3 un3 uc3, .int .i64 (lo - 1), .slice U4 un4 uc4, .int .i64 (-hi - 1)] 37) = wz at *
      generalize (some ⟨w9.heap.size, 0, none⟩ : Option Addr) = LA at *
      go_wp2_with fail
      go_loopw [17] (fun s17 wr => ∃ k : Nat, k ≤ 4 ∧ s17 = .int .i64 k ∧ Below wz.heap.size wz wr) (fun s17 _ => 4 - (intOf s17).toNat)
      case atStart => exact ⟨0, Nat.zero_le _, rfl, Below.refl _ _⟩
      case round =>
        obtain ⟨k, hk4, rfl, hbo⟩ := hrel
        obtain ⟨wo, rfl⟩ : ∃ wo : World, wo = wr := ⟨_, rfl⟩
        have HBo := Lib.hid hbo
        have HMo := Lib.hid (HMz.out.step hbo)
        have HLo := Lib.hid (HL0.out.below hbo)
        clear hbo
        by_cases h1 : k < 4
        · have d1 : decide ((k : Int) < 4) = true := by simp; omega
          have d1n : decide (k < 4) = true := decide_eq_true h1
          have hki : (k : Int) < 4 := by omega
          obtain ⟨ad, r, Ar, nr, cr, rfl, _, hr, hcu, hcv, hRr, hIr⟩ := HLo.out.at_ h1
          have hrk : r = limF (madeS s).1.length q lo hi k := by
            rw [hn2]
            rcases (show k = 0 ∨ k = 1 ∨ k = 2 ∨ k = 3 by omega) with rfl | rfl | rfl | rfl <;> (simp at hr; exact hr.symm)
          have hlim := lim_solve (made_nice s) (made_len s) hql hh5 HP.out k
          rw [← hrk] at hlim
          have HLim := Lib.hid hlim
          have hcv' : wo.cell? ⟨(ad.add (k * 2)).block, (ad.add (k * 2)).off + 1, none⟩ = some (.int .i64 r.2) := by
            rw [← add_lit (ad.add (k * 2)) (j := 1) (by decide), add_of_add]; exact hcv
          have HCo := Lib.hid (fun (W : World) (hb : Below wo.heap.size wo W) => show W.cell? ⟨g6, 0, none⟩ = some (.slice (some ad0) tn tc) ∧ W.cell? ⟨g6, 1, none⟩ = some (.slice RA rm rd) from ⟨(HMo.out.k.old hb).cell 0, (HMo.out.k.old hb).cell 1⟩)
          have HCr := Lib.hid (fun (W : World) (hb : Below wo.heap.size wo W) => show W.cell? (ad.add (k * 2)) = some (.slice Ar nr cr) ∧ W.cell? ⟨(ad.add (k * 2)).block, (ad.add (k * 2)).off + 1, none⟩ = some (.int .i64 r.2) from ⟨cell_below hb hcu, cell_below hb hcv'⟩)
          have HRr := Lib.hid (fun (g7 : Nat) (QA : Option Addr) (qc : Nat) (rws : List Row) (W : World) (hT : TMem wo g7 (.slice (some ad0) tn tc) QA rm qc rws W) => show RowIn W (fun k => obl QA ≠ some k) (.slice Ar nr cr) (.int .i64 r.2) r from
            ⟨Ar, nr, cr, rfl, rfl, ((hRr.weak (K' := fun k => k < wo.heap.size) fun k hk _ => hk).below hT.b).weak (fun k _ (hk : k < wo.heap.size) e => by have := (hT.r.lt k e).1; omega), hIr⟩)
          clear hr hcu hcv hcv' hRr hIr hrk hlim
          go_upto_region 15 with fail
          have BA := Lib.hid (show Below wo.heap.size wo (wo.alloc (.cells #[] 37)).drew from ((Below.refl _ _).alloc (Nat.le_refl _) _).drew)
          have BB := Lib.hid (show Below wo.heap.size wo ((wo.alloc (.cells #[] 37)).alloc (.cells #[.slice none 0 0, .slice none 0 0] 25)).drew from (((Below.refl _ _).alloc (Nat.le_refl _) _).alloc (by simp) _).drew)
          have BC := Lib.hid (show Below wo.heap.size wo ((wo.alloc (.cells #[.slice none 0 0, .slice none 0 0] 25)).alloc (.cells #[] 37)).drew from (((Below.refl _ _).alloc (Nat.le_refl _) _).alloc (by simp) _).drew)
          have OA := Lib.hid (show OwnS (wo.alloc (.cells #[] 37)).drew wo.heap.size 37 2 (some ⟨wo.heap.size, 0, none⟩) 0 0 [] from (OwnS.lit 37 2 0 #[] (Nat.le_refl _) (by omega) rfl).below ((Below.refl _ _).drew))
          have OB := Lib.hid (show OwnS ((wo.alloc (.cells #[] 37)).alloc (.cells #[.slice none 0 0, .slice none 0 0] 25)).drew wo.heap.size 37 2 (some ⟨wo.heap.size, 0, none⟩) 0 0 [] from ((OwnS.lit 37 2 0 #[] (Nat.le_refl _) (by omega) rfl).alloc _).below ((Below.refl _ _).drew))
          have OC := Lib.hid (show OwnS ((wo.alloc (.cells #[.slice none 0 0, .slice none 0 0] 25)).alloc (.cells #[] 37)).drew wo.heap.size 37 2 (some ⟨wo.heap.size + 1, 0, none⟩) 0 0 [] from by
            have := OwnS.lit (w := wo.alloc (.cells #[.slice none 0 0, .slice none 0 0] 25)) (base := wo.heap.size) 37 2 0 #[] (by simp) (by omega) rfl
            have := this.below ((Below.refl _ _).drew)
            simpa using this)
          have KB := Lib.hid (show Blk ((wo.alloc (.cells #[] 37)).alloc (.cells #[.slice none 0 0, .slice none 0 0] 25)).drew (wo.heap.size + 1) 25 #[.slice none 0 0, .slice none 0 0] from by
            have := Blk.new (wo.alloc (.cells #[] 37)) 25 #[.slice none 0 0, .slice none 0 0]
            simpa using blk_drew this)
          have KC := Lib.hid (show Blk ((wo.alloc (.cells #[.slice none 0 0, .slice none 0 0] 25)).alloc (.cells #[] 37)).drew wo.heap.size 25 #[.slice none 0 0, .slice none 0 0] from blk_drew ((Blk.new wo 25 _).alloc _))
          have RW := Lib.hid (fun (W : World) (hb : Below wo.heap.size wo W) => (HMo.out.rows.weak (K' := fun k => k < wo.heap.size) fun k hk _ => hk).below hb)
          go_cut [18] from 103 to 137 (fun s18 wz => ∃ g7 QA qc, s18 = .pointer (some ⟨g7, 0, none⟩) ∧ TMem wo g7 (.slice (some ad0) tn tc) QA rm qc (madeS s).2 wz)
          case first =>
            go_region_held3 (fun w' => w'.cell? ⟨g6, 0, none⟩ = some (.slice (some ad0) tn tc) ∧ w'.cell? ⟨g6, 1, none⟩ = some (.slice RA rm rd))
              (first
                | exact HCo.out _ ((Below.refl wo.heap.size wo).drew)
                | exact HCo.out _ BA.out
                | exact HCo.out _ BB.out
                | exact HCo.out _ BC.out
                | exact HCo.out _ (((Below.refl wo.heap.size wo).alloc (Nat.le_refl _) _).drew)
                | exact HCo.out _ HB8.out
                | exact HCo.out _ (HB8.out.alloc HB8.out.size _)
                | exact HCo.out _ ((HB8.out.setCell (by first | exact Nat.le_refl _ | exact HB8.out.size | (simp <;> omega)) _).setCell (by first | exact Nat.le_refl _ | exact HB8.out.size | (simp <;> omega)) _)
                | exact HCo.out _ (((HB8.out.alloc HB8.out.size _).setCell (by first | exact Nat.le_refl _ | exact HB8.out.size | (simp <;> omega)) _).setCell (by first | exact Nat.le_refl _ | exact HB8.out.size | (simp <;> omega)) _))
              (first
                | (refine step_rowsTo rfl (.tmp 109) (.tmp 111) 23 rfl app23 wo.heap.size wo.heap.size rfl OA.out RA rm rd (madeS s).2 rfl (RW.out _ BA.out) (by omega) BA.out.size ?_
                   intro QA qc w8 hO hg
                   have HR8 := Lib.hid hO
                   have HB8 := Lib.hid (BA.out.grown hg BA.out.size (fun k hk => by cases hk; exact Nat.le_refl _))
                   clear hO hg)
                | (refine step_rowsTo rfl (.tmp 109) (.tmp 111) 23 rfl app23 wo.heap.size wo.heap.size rfl OB.out RA rm rd (madeS s).2 rfl (RW.out _ BB.out) (by omega) BB.out.size ?_
                   intro QA qc w8 hO hg
                   have HR8 := Lib.hid hO
                   have HB8 := Lib.hid (BB.out.grown hg BB.out.size (fun k hk => by cases hk; exact Nat.le_refl _))
                   have HK8 := Lib.hid (KB.out.grown hg (by simp))
                   have q0 := HK8.out.cell 0
                   have q1 := HK8.out.cell 1
                   have f0 := HK8.out.frozen 0
                   have f1 := HK8.out.frozen 1
                   clear hO hg)
                | (refine step_rowsTo rfl (.tmp 109) (.tmp 111) 23 rfl app23 wo.heap.size (wo.heap.size + 1) rfl OC.out RA rm rd (madeS s).2 rfl (RW.out _ BC.out) (by omega) BC.out.size ?_
                   intro QA qc w8 hO hg
                   have HR8 := Lib.hid hO
                   have HB8 := Lib.hid (BC.out.grown hg BC.out.size (fun k hk => by cases hk; omega))
                   have HK8 := Lib.hid (KC.out.grown hg (by simp))
                   have q0 := HK8.out.cell 0
                   have q1 := HK8.out.cell 1
                   have f0 := HK8.out.frozen 0
                   have f1 := HK8.out.frozen 1
                   clear hO hg))
            all_goals
              go_wp2_with fail
              go_meet
              case rel =>
                refine ⟨_, QA, qc, rfl, ?_⟩
                first
                  | exact TMem.fresh HB8.out HR8.out
                  | exact TMem.store (by first | exact Nat.le_refl _ | omega) HB8.out HK8.out HR8.out
          case rest =>
            clear BA BB BC OA OB OC KB KC RW
            obtain ⟨g7, QA, qc, rfl, hT⟩ := hcut
            obtain ⟨w4, rfl⟩ : ∃ w4 : World, w4 = wc := ⟨_, rfl⟩
            have HT4 := Lib.hid hT
            clear hT
            have HSd := Lib.hid (fun (W : World) (hT : TMem wo g7 (.slice (some ad0) tn tc) QA rm qc (madeS s).2 W) => show (W.cell? ⟨g7, 1, none⟩ = some (.slice QA rm qc) ∧ W.cell? (ad.add (k * 2)) = some (.slice Ar nr cr) ∧ W.cell? ⟨(ad.add (k * 2)).block, (ad.add (k * 2)).off + 1, none⟩ = some (.int .i64 r.2)) from ⟨hT.c1, HCr.out _ hT.b⟩)
            go_upto_region 16 with fail
            have HTd := Lib.hid (HT4.out.step ((Below.refl _ _).drew))
            have HTa := Lib.hid (HTd.out.step ((Below.refl w4.drew.heap.size w4.drew).alloc (Nat.le_refl _) (.cells #[.slice Ar nr cr, .int .i64 r.2] 37)))
            refine wp_region_reads (by kernel_rfl) 6 8 [.pointer (some ⟨g7, 1, none⟩), .slice QA rm qc, .slice (some ad) 4 4, .int .i64 k, .pointer (some (ad.add (k * 2))), .agg #[.slice Ar nr cr, .int .i64 r.2]]
              (fun W => W.cell? ⟨g7, 1, none⟩ = some (.slice QA rm qc) ∧ W.cell? (ad.add (k * 2)) = some (.slice Ar nr cr) ∧ W.cell? ⟨(ad.add (k * 2)).block, (ad.add (k * 2)).off + 1, none⟩ = some (.int .i64 r.2)) (by decide +kernel) (fun _ _ d _ _ h => by cases d <;> exact h) (HSd.out _ HTd.out) (fun W hS => ?_) ?_
            · obtain ⟨s1, s2, s3⟩ := hS
              dsimp only [List.take]
              repeat (refine ⟨by go_simp, ?_⟩; simp only [Act.put, List.setIfInBounds_toArray, List.set_cons_zero, List.set_cons_succ])
              exact trivial
            dsimp only [List.take, List.drop, putL]
            simp only [Act.put, List.setIfInBounds_toArray, List.set_cons_zero, List.set_cons_succ]
            refine chain_val (w' := w4.drew.alloc (.cells #[.slice Ar nr cr, .int .i64 r.2] 37)) (.slice (some ⟨w4.heap.size, 0, none⟩) 1 1) (by go_simp) (fun _ => HSd.out _ HTa.out) ?_
            simp only [Act.put, List.setIfInBounds_toArray, List.set_cons_zero, List.set_cons_succ]
            refine chain_step #[] rfl (step_pushR rfl (.tmp 115) (.tmp 120) 23 rfl app23 wo.heap.size QA rm qc _ rfl HTa.out.r w4.heap.size (.slice Ar nr cr) (.int .i64 r.2) r rfl (Blk.new w4.drew 37 _) (HRr.out _ _ _ _ _ HTa.out) (by omega) HTa.out.b.size ?_)
            intro Q2 qc2 w8 hR8 hgr
            have HB8 := Lib.hid (HTa.out.b.grown hgr HTa.out.b.size (fun k hk => (HTa.out.r.lt k hk).1))
            have HK8 := Lib.hid (HTa.out.k.grown hgr (by obtain ⟨us, h1, _⟩ := HTa.out.r.ex; exact ownS_ne_blk h1 HTa.out.k (by decide)))
            have HT9 := Lib.hid (TMem.rows_ HTa.out.lo HB8.out HK8.out hR8)
            have q1 := HK8.out.cell 1
            have f1 := HK8.out.frozen 1
            clear hR8 hgr
            refine ⟨fun _ => ⟨q1, HCr.out _ HB8.out⟩, ?_⟩
            simp only [Act.put, List.setIfInBounds_toArray, List.set_cons_zero, List.set_cons_succ]
            refine chain_val (w' := w8) (.pointer (some ⟨g7, 1, none⟩)) (by go_simp) (fun h => absurd h (by decide)) ?_
            simp only [Act.put, List.setIfInBounds_toArray, List.set_cons_zero, List.set_cons_succ]
            dsimp only [chainW]
            go_simp
            obtain ⟨hd1, hd2⟩ := HT9.out.done HMo.out (by omega)
            have HMt := Lib.hid hd1
            have c2 := hd1.c0
            have c3 := hd1.c1
            clear hd1 hd2 q1 f1
            generalize w8.setCell ⟨g7, 1, none⟩ (.slice Q2 (rm + 1) qc2) = w10 at *
            by_cases hk2 : k < 2
            · have d2 : decide ((k : Int) < 2) = true := by simp; omega
              have d2n : decide (k < 2) = true := decide_eq_true hk2
              obtain ⟨x2, hx2, hl2⟩ := HLim.out.1 hk2
              have HX2 := Lib.hid hx2
              clear hx2
              go_wp2_with (first
                | (go_at_call 10
                   refine (solve_yes HMt.out.top HMt.out.rows HX2.out (hl2.trans hn2)).mono ?_
                   rintro e w11 ⟨xB, xd, qB, qd, rfl, hx, hb⟩
                   have HB11 := Lib.hid hb
                   clear hx hb))
              go_roundw
              case rel => exact ⟨k + 1, by omega, by go_num, HBo.out.trans (((HT9.out.b).trans (HB11.out.mono HT9.out.b.size)).mono HBo.out.size)⟩
              case measure => simp [intOf]; omega
            · have d2 : decide ((k : Int) < 2) = false := by simp; omega
              have d2n : decide (k < 2) = false := decide_eq_false hk2
              obtain ⟨p2, hx2⟩ := HLim.out.2 (by omega)
              have HX2 := Lib.hid hx2
              clear hx2
              go_wp2_with (first
                | (go_at_call 10
                   refine (solve_no HMt.out.top HMt.out.rows HX2.out).mono ?_
                   rintro e w11 ⟨xB, xd, qB, qn, qd, rfl, hp, hx, hb⟩
                   have HB11 := Lib.hid hb
                   clear hp hx hb))
              go_roundw
              case rel => exact ⟨k + 1, by omega, by go_num, HBo.out.trans (((HT9.out.b).trans (HB11.out.mono HT9.out.b.size)).mono HBo.out.size)⟩
              case measure => simp [intOf]; omega
        · have d1 : decide ((k : Int) < 4) = false := by simp; omega
          have d1n : decide (k < 4) = false := decide_eq_false h1
          go_wp2_with fail
          go_ret
          exact ⟨rfl, HMo.out.b⟩
    · obtain ⟨_, _, _, ⟨y, y1, y2, _⟩, _⟩ := hpr.2 rfl
      exact absurd y2 (hno y y1)

theorem projection_holds : Rows.RowsProjectionSaid :=
  OpenClaim.holds_of_wide 7 Try.f7 rfl rfl rfl rfl rfl rfl rfl ⟨rfl, rfl, rfl, rfl, rfl⟩ rfl rfl rfl rfl rfl (by kernel_rfl) Try.func7 (by kernel_rfl)
    (of_decide_eq_true (by kernel_rfl)) (by unfold Func.isWrapper; rw [if_neg (of_decide_eq_false (by kernel_rfl))]; exact ⟨rfl, rfl⟩)
    (fun os started H enc _ => law_lifted (s := Rows.rowsProjectionSpec) (ts := [25, 5]) os started (by kernel_rfl) Try.func7 (by rw [Try.params7]) (by kernel_rfl) rfl
      (fun ds hd => by
        match ds, hd with
        | [d0, d1], _ => rfl)
      (by intro t ht; simp only [List.mem_cons, List.not_mem_nil, or_false] at ht; rcases ht with rfl | rfl <;> exact ⟨by kernel_rfl, of_decide_eq_true (by kernel_rfl)⟩)
      (ChangeSpec.witness6 (enc := enc) (C := Try.checked) false ⟨#[], #[.agg #[.slice none 0 0, .slice none 0 0], .int .u8 0], []⟩ 7 (by kernel_rfl) (by kernel_rfl) (by kernel_rfl) (by kernel_rfl))
      (fun W args hok => by
        match hargs : args.toList, hok with
        | [v0, v1], ⟨h0, h1, _⟩ =>
          obtain ⟨A, n, c, B, m, d, s, rfl, r1, r2⟩ := h0.1 rfl
          obtain ⟨x, rfl, hx⟩ := h1.2.2.2 rfl
          have : args = #[.agg #[.slice A n c, .slice B m d], .int .u8 x] := by cases args; simp_all
          rw [this]
          exact law7_walk A B n c m d s x hx W r1 r2))

#print axioms projection_holds
end Go.Proofs.Ytjienelkjpodkaa
