/- The law ClauseMatchesReference: for every input it gives true and leaves its arguments as they were.
   Conditions: none beyond the row's own (readable arguments within the form's reach). -/
import Derived.Test.YtekbkdbmkjdgbaaW23
import Derived.Test.YtekbkdbmkjdgbaaL5
namespace Go.Proofs.Ytekbkdbmkjdgbaa
open Go.ChangeShapes Go.WideShapes Go.ChangeAt Go.RowKit

theorem solve_ok_nil {f : List (List Int)} {m : Int} (h : (solveF f m).2.2.1 = true) : (solveF f m).2.1 = [] := by
  cases hv : validB f m
  · rw [solve_invalid hv] at h; cases h
  · rcases solve_spec hv with ⟨x, e, _⟩ | ⟨L, e, _⟩
    · rw [e]
    · rw [e] at h; cases h

set_option maxHeartbeats 4000000 in
theorem law3_walk (A : Option Addr) (n c : Nat) (f : List (List Int)) (m : Int) (bA : Option Addr) (bn bc : Nat) (bs : List Bool) (w : World) (h : R2 w (fun _ => True) A n c f) (hm : I64 m) (h' : RB w (fun _ => True) bA bn bc bs) :
    Calls Try.prog 3 #[.slice A n c, .int .i64 m, .slice bA bn bc] w (Gives w (.bool true)) := by
  have HF := Lib.hid h
  have HP' := Lib.hid h'
  have hb1 := h.big
  have hb2 := h'.big
  have hc1 := h.cap
  have hc2 := h'.cap
  unfold I64 at hm
  clear h h'
  by_cases h300 : 300 < n
  · have d1 : decide (300 < n) = true := by simp; omega
    have d2 : decide (300 < (n : Int)) = true := by simp; omega
    go_enter Try.func3, Try.ntmps3
    go_wp2_with (go_at_call 15; refine (sanity_c _).mono ?_; rintro e w1 ⟨rfl, hb⟩; have HB1 := Lib.hid hb; clear hb)
    go_ret
    exact ⟨rfl, HB1.out⟩
  · have d1 : decide (300 < n) = false := by simp; omega
    have d2 : decide (300 < (n : Int)) = false := by simp; omega
    have HS := Lib.hid fun W (hb : Below w.heap.size w W) => solve_c _ A n c f m W (HF.out.below hb) hm.1 hm.2
    have HRs := Lib.hid fun W (hb : Below w.heap.size w W) => rsolve_c _ A n c f m W (HF.out.below hb) hm.1 hm.2
    have HV := Lib.hid fun W (hb : Below w.heap.size w W) => valid_c _ A n c f m W (HF.out.below hb) hm.1 hm.2
    have HRv := Lib.hid fun W (hb : Below w.heap.size w W) => rvalid_c _ A n c f m W (HF.out.below hb) hm.1 hm.2
    have HH := Lib.hid fun W (hb : Below w.heap.size w W) => holds_c _ _ A bA n c bn bc f bs W (HF.out.below hb) (HP'.out.below hb)
    have HRh := Lib.hid fun W (hb : Below w.heap.size w W) => rholds_c _ _ A bA n c bn bc f bs W (HF.out.below hb) (HP'.out.below hb)
    rw [rsolve_eq] at HRs
    have HOk := Lib.hid (@solve_ok_nil f m)
    generalize solveF f m = r at *
    obtain ⟨ms, L, ok, er⟩ := r
    dsimp only at HOk HRs
    generalize validB f m = vb at *
    generalize holdsB f bs = hb at *
    by_cases h10 : 10 < m
    · have d3 : decide (10 < m) = true := by simp; omega
      by_cases h16 : m ≤ 16
      · have d4 : decide (m ≤ 16) = true := by simp; omega
        by_cases h30 : 30 < n
        · have d5 : decide (30 < n) = true := by simp; omega
          have d6 : decide (30 < (n : Int)) = true := by simp; omega
          go_enter Try.func3, Try.ntmps3
          go_wp2_with (go_at_call 15; refine (sanity_c _).mono ?_; rintro e w1 ⟨rfl, hb⟩; have HB1 := Lib.hid hb; clear hb)
          go_ret
          exact ⟨rfl, HB1.out⟩
        · have d5 : decide (30 < n) = false := by simp; omega
          have d6 : decide (30 < (n : Int)) = false := by simp; omega
          cases ok with
          | false =>
            go_enter Try.func3, Try.ntmps3
            go_wp2_with (first | (go_at_call 15; refine (sanity_c _).mono ?_; rintro e w1 ⟨rfl, hb⟩; have HB1 := Lib.hid hb; clear hb) | (go_at_call 16; refine (HS.out _ HB1.out).mono ?_; rintro e w2 ⟨mA, mn, mc, pA, pn, pc, rfl, hm, hp, hb⟩; have HB2 := Lib.hid (HB1.out.trans (hb.mono HB1.out.size)); have HM2 := Lib.hid hm; have HP := Lib.hid hp; clear hb hm hp) | (go_at_call 17; refine (HRs.out _ HB2.out).mono ?_; rintro e w3 ⟨rA, rn, rc, qA, qn, qc, rfl, hm, hb⟩; have HB3 := Lib.hid (HB2.out.trans (hb.mono HB2.out.size)); have HM3 := Lib.hid (HM2.out.below hb); have HR3 := Lib.hid hm; clear hb hm) | (go_at_call 18; refine (HV.out _ HB3.out).mono ?_; rintro e w4 ⟨rfl, hb⟩; have HB4 := Lib.hid (HB3.out.trans (hb.mono HB3.out.size)); have HM4 := Lib.hid (HM3.out.below hb); have HR4 := Lib.hid (HR3.out.below hb); clear hb) | (go_at_call 19; refine (HRv.out _ HB4.out).mono ?_; rintro e wq ⟨rfl, rfl⟩) | (go_at_call 20; refine (HH.out _ HB4.out).mono ?_; rintro e w5 ⟨rfl, hb⟩; have HB5 := Lib.hid (HB4.out.trans (hb.mono HB4.out.size)); have HM5 := Lib.hid (HM4.out.below hb); have HR5 := Lib.hid (HR4.out.below hb); clear hb) | (go_at_call 21; refine (HRh.out _ HB5.out).mono ?_; rintro e wq ⟨rfl, rfl⟩) | (go_at_call 22; refine (sameBools_c _ _ mA rA mn mc rn rc ms ms w5 HM5.out HR5.out).mono ?_; rintro e w6 ⟨rfl, hb⟩; have HB6 := Lib.hid (HB5.out.trans (hb.mono HB5.out.size)); have HPl := Lib.hid HP.out.len; clear hb))
            go_ret
            exact ⟨by simp, HB6.out⟩
          | true =>
            have hL0 : L = [] := HOk.out rfl
            subst hL0
            go_enter Try.func3, Try.ntmps3
            go_wp2_with (first | (go_at_call 15; refine (sanity_c _).mono ?_; rintro e w1 ⟨rfl, hb⟩; have HB1 := Lib.hid hb; clear hb) | (go_at_call 16; refine (HS.out _ HB1.out).mono ?_; rintro e w2 ⟨mA, mn, mc, pA, pn, pc, rfl, hm, hp, hb⟩; obtain rfl : pn = 0 := (by have := hp.len; simpa using this.symm); have HB2 := Lib.hid (HB1.out.trans (hb.mono HB1.out.size)); have HM2 := Lib.hid hm; have HP := Lib.hid hp; clear hb hm hp) | (go_at_call 17; refine (HRs.out _ HB2.out).mono ?_; rintro e w3 ⟨rA, rn, rc, qA, qn, qc, rfl, hm, hb⟩; have HB3 := Lib.hid (HB2.out.trans (hb.mono HB2.out.size)); have HM3 := Lib.hid (HM2.out.below hb); have HR3 := Lib.hid hm; clear hb hm) | (go_at_call 18; refine (HV.out _ HB3.out).mono ?_; rintro e w4 ⟨rfl, hb⟩; have HB4 := Lib.hid (HB3.out.trans (hb.mono HB3.out.size)); have HM4 := Lib.hid (HM3.out.below hb); have HR4 := Lib.hid (HR3.out.below hb); clear hb) | (go_at_call 19; refine (HRv.out _ HB4.out).mono ?_; rintro e wq ⟨rfl, rfl⟩) | (go_at_call 20; refine (HH.out _ HB4.out).mono ?_; rintro e w5 ⟨rfl, hb⟩; have HB5 := Lib.hid (HB4.out.trans (hb.mono HB4.out.size)); have HM5 := Lib.hid (HM4.out.below hb); have HR5 := Lib.hid (HR4.out.below hb); clear hb) | (go_at_call 21; refine (HRh.out _ HB5.out).mono ?_; rintro e wq ⟨rfl, rfl⟩) | (go_at_call 22; refine (sameBools_c _ _ mA rA mn mc rn rc ms ms w5 HM5.out HR5.out).mono ?_; rintro e w6 ⟨rfl, hb⟩; have HB6 := Lib.hid (HB5.out.trans (hb.mono HB5.out.size)); have HPl := Lib.hid HP.out.len; clear hb))
            go_ret
            exact ⟨by simp, HB6.out⟩
      · have d4 : decide (m ≤ 16) = false := by simp; omega
        cases ok with
        | false =>
          go_enter Try.func3, Try.ntmps3
          go_wp2_with (first | (go_at_call 15; refine (sanity_c _).mono ?_; rintro e w1 ⟨rfl, hb⟩; have HB1 := Lib.hid hb; clear hb) | (go_at_call 16; refine (HS.out _ HB1.out).mono ?_; rintro e w2 ⟨mA, mn, mc, pA, pn, pc, rfl, hm, hp, hb⟩; have HB2 := Lib.hid (HB1.out.trans (hb.mono HB1.out.size)); have HM2 := Lib.hid hm; have HP := Lib.hid hp; clear hb hm hp) | (go_at_call 17; refine (HRs.out _ HB2.out).mono ?_; rintro e w3 ⟨rA, rn, rc, qA, qn, qc, rfl, hm, hb⟩; have HB3 := Lib.hid (HB2.out.trans (hb.mono HB2.out.size)); have HM3 := Lib.hid (HM2.out.below hb); have HR3 := Lib.hid hm; clear hb hm) | (go_at_call 18; refine (HV.out _ HB3.out).mono ?_; rintro e w4 ⟨rfl, hb⟩; have HB4 := Lib.hid (HB3.out.trans (hb.mono HB3.out.size)); have HM4 := Lib.hid (HM3.out.below hb); have HR4 := Lib.hid (HR3.out.below hb); clear hb) | (go_at_call 19; refine (HRv.out _ HB4.out).mono ?_; rintro e wq ⟨rfl, rfl⟩) | (go_at_call 20; refine (HH.out _ HB4.out).mono ?_; rintro e w5 ⟨rfl, hb⟩; have HB5 := Lib.hid (HB4.out.trans (hb.mono HB4.out.size)); have HM5 := Lib.hid (HM4.out.below hb); have HR5 := Lib.hid (HR4.out.below hb); clear hb) | (go_at_call 21; refine (HRh.out _ HB5.out).mono ?_; rintro e wq ⟨rfl, rfl⟩) | (go_at_call 22; refine (sameBools_c _ _ mA rA mn mc rn rc ms ms w5 HM5.out HR5.out).mono ?_; rintro e w6 ⟨rfl, hb⟩; have HB6 := Lib.hid (HB5.out.trans (hb.mono HB5.out.size)); have HPl := Lib.hid HP.out.len; clear hb))
          go_ret
          exact ⟨by simp, HB6.out⟩
        | true =>
          have hL0 : L = [] := HOk.out rfl
          subst hL0
          go_enter Try.func3, Try.ntmps3
          go_wp2_with (first | (go_at_call 15; refine (sanity_c _).mono ?_; rintro e w1 ⟨rfl, hb⟩; have HB1 := Lib.hid hb; clear hb) | (go_at_call 16; refine (HS.out _ HB1.out).mono ?_; rintro e w2 ⟨mA, mn, mc, pA, pn, pc, rfl, hm, hp, hb⟩; obtain rfl : pn = 0 := (by have := hp.len; simpa using this.symm); have HB2 := Lib.hid (HB1.out.trans (hb.mono HB1.out.size)); have HM2 := Lib.hid hm; have HP := Lib.hid hp; clear hb hm hp) | (go_at_call 17; refine (HRs.out _ HB2.out).mono ?_; rintro e w3 ⟨rA, rn, rc, qA, qn, qc, rfl, hm, hb⟩; have HB3 := Lib.hid (HB2.out.trans (hb.mono HB2.out.size)); have HM3 := Lib.hid (HM2.out.below hb); have HR3 := Lib.hid hm; clear hb hm) | (go_at_call 18; refine (HV.out _ HB3.out).mono ?_; rintro e w4 ⟨rfl, hb⟩; have HB4 := Lib.hid (HB3.out.trans (hb.mono HB3.out.size)); have HM4 := Lib.hid (HM3.out.below hb); have HR4 := Lib.hid (HR3.out.below hb); clear hb) | (go_at_call 19; refine (HRv.out _ HB4.out).mono ?_; rintro e wq ⟨rfl, rfl⟩) | (go_at_call 20; refine (HH.out _ HB4.out).mono ?_; rintro e w5 ⟨rfl, hb⟩; have HB5 := Lib.hid (HB4.out.trans (hb.mono HB4.out.size)); have HM5 := Lib.hid (HM4.out.below hb); have HR5 := Lib.hid (HR4.out.below hb); clear hb) | (go_at_call 21; refine (HRh.out _ HB5.out).mono ?_; rintro e wq ⟨rfl, rfl⟩) | (go_at_call 22; refine (sameBools_c _ _ mA rA mn mc rn rc ms ms w5 HM5.out HR5.out).mono ?_; rintro e w6 ⟨rfl, hb⟩; have HB6 := Lib.hid (HB5.out.trans (hb.mono HB5.out.size)); have HPl := Lib.hid HP.out.len; clear hb))
          go_ret
          exact ⟨by simp, HB6.out⟩
    · have d3 : decide (10 < m) = false := by simp; omega
      cases ok with
      | false =>
        go_enter Try.func3, Try.ntmps3
        go_wp2_with (first | (go_at_call 15; refine (sanity_c _).mono ?_; rintro e w1 ⟨rfl, hb⟩; have HB1 := Lib.hid hb; clear hb) | (go_at_call 16; refine (HS.out _ HB1.out).mono ?_; rintro e w2 ⟨mA, mn, mc, pA, pn, pc, rfl, hm, hp, hb⟩; have HB2 := Lib.hid (HB1.out.trans (hb.mono HB1.out.size)); have HM2 := Lib.hid hm; have HP := Lib.hid hp; clear hb hm hp) | (go_at_call 17; refine (HRs.out _ HB2.out).mono ?_; rintro e w3 ⟨rA, rn, rc, qA, qn, qc, rfl, hm, hb⟩; have HB3 := Lib.hid (HB2.out.trans (hb.mono HB2.out.size)); have HM3 := Lib.hid (HM2.out.below hb); have HR3 := Lib.hid hm; clear hb hm) | (go_at_call 18; refine (HV.out _ HB3.out).mono ?_; rintro e w4 ⟨rfl, hb⟩; have HB4 := Lib.hid (HB3.out.trans (hb.mono HB3.out.size)); have HM4 := Lib.hid (HM3.out.below hb); have HR4 := Lib.hid (HR3.out.below hb); clear hb) | (go_at_call 19; refine (HRv.out _ HB4.out).mono ?_; rintro e wq ⟨rfl, rfl⟩) | (go_at_call 20; refine (HH.out _ HB4.out).mono ?_; rintro e w5 ⟨rfl, hb⟩; have HB5 := Lib.hid (HB4.out.trans (hb.mono HB4.out.size)); have HM5 := Lib.hid (HM4.out.below hb); have HR5 := Lib.hid (HR4.out.below hb); clear hb) | (go_at_call 21; refine (HRh.out _ HB5.out).mono ?_; rintro e wq ⟨rfl, rfl⟩) | (go_at_call 22; refine (sameBools_c _ _ mA rA mn mc rn rc ms ms w5 HM5.out HR5.out).mono ?_; rintro e w6 ⟨rfl, hb⟩; have HB6 := Lib.hid (HB5.out.trans (hb.mono HB5.out.size)); have HPl := Lib.hid HP.out.len; clear hb))
        go_ret
        exact ⟨by simp, HB6.out⟩
      | true =>
        have hL0 : L = [] := HOk.out rfl
        subst hL0
        go_enter Try.func3, Try.ntmps3
        go_wp2_with (first | (go_at_call 15; refine (sanity_c _).mono ?_; rintro e w1 ⟨rfl, hb⟩; have HB1 := Lib.hid hb; clear hb) | (go_at_call 16; refine (HS.out _ HB1.out).mono ?_; rintro e w2 ⟨mA, mn, mc, pA, pn, pc, rfl, hm, hp, hb⟩; obtain rfl : pn = 0 := (by have := hp.len; simpa using this.symm); have HB2 := Lib.hid (HB1.out.trans (hb.mono HB1.out.size)); have HM2 := Lib.hid hm; have HP := Lib.hid hp; clear hb hm hp) | (go_at_call 17; refine (HRs.out _ HB2.out).mono ?_; rintro e w3 ⟨rA, rn, rc, qA, qn, qc, rfl, hm, hb⟩; have HB3 := Lib.hid (HB2.out.trans (hb.mono HB2.out.size)); have HM3 := Lib.hid (HM2.out.below hb); have HR3 := Lib.hid hm; clear hb hm) | (go_at_call 18; refine (HV.out _ HB3.out).mono ?_; rintro e w4 ⟨rfl, hb⟩; have HB4 := Lib.hid (HB3.out.trans (hb.mono HB3.out.size)); have HM4 := Lib.hid (HM3.out.below hb); have HR4 := Lib.hid (HR3.out.below hb); clear hb) | (go_at_call 19; refine (HRv.out _ HB4.out).mono ?_; rintro e wq ⟨rfl, rfl⟩) | (go_at_call 20; refine (HH.out _ HB4.out).mono ?_; rintro e w5 ⟨rfl, hb⟩; have HB5 := Lib.hid (HB4.out.trans (hb.mono HB4.out.size)); have HM5 := Lib.hid (HM4.out.below hb); have HR5 := Lib.hid (HR4.out.below hb); clear hb) | (go_at_call 21; refine (HRh.out _ HB5.out).mono ?_; rintro e wq ⟨rfl, rfl⟩) | (go_at_call 22; refine (sameBools_c _ _ mA rA mn mc rn rc ms ms w5 HM5.out HR5.out).mono ?_; rintro e w6 ⟨rfl, hb⟩; have HB6 := Lib.hid (HB5.out.trans (hb.mono HB5.out.size)); have HPl := Lib.hid HP.out.len; clear hb))
        go_ret
        exact ⟨by simp, HB6.out⟩

theorem matches_holds : Rows.ClauseMatchesReferenceSaid :=
  OpenClaim.holds_of_wide 3 Try.f3 rfl rfl rfl rfl rfl rfl rfl ⟨rfl, rfl, rfl, rfl, rfl⟩ rfl rfl rfl rfl rfl (by kernel_rfl) Try.func3 (by kernel_rfl)
    (of_decide_eq_true (by kernel_rfl)) (by unfold Func.isWrapper; rw [if_neg (of_decide_eq_false (by kernel_rfl))]; exact ⟨rfl, rfl⟩)
    (fun os started H enc _ => law_lifted (s := Rows.clauseMatchesReferenceSpec) (ts := [22, 3, 23]) os started (by kernel_rfl) Try.func3 (by rw [Try.params3]) (by kernel_rfl) rfl
      (fun ds hd => by
        match ds, hd with
        | [d0, d1, d2], _ => rfl)
      (by intro t ht; simp only [List.mem_cons, List.not_mem_nil, or_false] at ht; rcases ht with rfl | rfl | rfl <;> exact ⟨by kernel_rfl, of_decide_eq_true (by kernel_rfl)⟩)
      (ChangeSpec.witness6 (enc := enc) (C := Try.checked) false ⟨#[], #[.slice none 0 0, .int .i64 0, .slice none 0 0], []⟩ 8 (by kernel_rfl) (by kernel_rfl) (by kernel_rfl) (by kernel_rfl))
      (fun W args hok => by
        match hargs : args.toList, hok with
        | [v0, v1, v2], ⟨h0, h1, h2, _⟩ =>
          obtain ⟨A0, n0, c0, f0, rfl, r0⟩ := h0.1 rfl
          obtain ⟨x1, rfl, r1⟩ := h1.2.2.2.1 rfl
          obtain ⟨A2, n2, c2, f2, rfl, r2⟩ := h2.2.2.1 rfl
          have : args = #[.slice A0 n0 c0, .int .i64 x1, .slice A2 n2 c2] := by cases args; simp_all
          rw [this]
          exact law3_walk A0 n0 c0 f0 x1 A2 n2 c2 f2 W r0 r1 r2))

#print axioms matches_holds
end Go.Proofs.Ytekbkdbmkjdgbaa
