/- The law ClauseCoreMatchesReference: for every input it gives true and leaves its arguments as they were.
   Conditions: none beyond the row's own (readable arguments within the form's reach). -/
import Derived.Test.YtekbkdbmkjdgbaaW23
import Derived.Test.YtekbkdbmkjdgbaaL5
namespace Go.Proofs.Ytekbkdbmkjdgbaa
open Go.ChangeShapes Go.WideShapes Go.ChangeAt Go.RowKit

set_option maxHeartbeats 1000000 in
theorem law6_walk (A : Option Addr) (n c : Nat) (f : List (List Int)) (m : Int) (w : World) (h : R2 w (fun _ => True) A n c f) (hm : I64 m) :
    Calls Try.prog 6 #[.slice A n c, .int .i64 m] w (Gives w (.bool true)) := by
  have HF := Lib.hid h
  have hb1 := h.big
  have hc1 := h.cap
  unfold I64 at hm
  clear h
  by_cases h300 : 14 < n
  · have d1 : decide (14 < n) = true := by simp; omega
    have d2 : decide (14 < (n : Int)) = true := by simp; omega
    go_enter Try.func6, Try.ntmps6
    go_wp2_with (go_at_call 15; refine (sanity_c _).mono ?_; rintro e w1 ⟨rfl, hb⟩; have HB1 := Lib.hid hb; clear hb)
    go_ret
    exact ⟨rfl, HB1.out⟩
  · have d1 : decide (14 < n) = false := by simp; omega
    have d2 : decide (14 < (n : Int)) = false := by simp; omega
    have HS := Lib.hid fun W (hb : Below w.heap.size w W) => core_c _ A n c f m W (HF.out.below hb) hm.1 hm.2
    have HR := Lib.hid fun W (hb : Below w.heap.size w W) => rcore_c _ A n c f m W (HF.out.below hb) hm.1 hm.2
    generalize coreF f m = r at *
    obtain ⟨s, ok, er⟩ := r
    by_cases h6 : 6 < m
    · have d3 : decide (6 < m) = true := by simp; omega
      by_cases h16 : m ≤ 16
      · have d4 : decide (m ≤ 16) = true := by simp; omega
        go_enter Try.func6, Try.ntmps6
        go_wp2_with (go_at_call 15; refine (sanity_c _).mono ?_; rintro e w1 ⟨rfl, hb⟩; have HB1 := Lib.hid hb; clear hb)
        go_ret
        exact ⟨rfl, HB1.out⟩
      · have d4 : decide (m ≤ 16) = false := by simp; omega
        go_enter Try.func6, Try.ntmps6
        go_wp2_with (first | (go_at_call 15; refine (sanity_c _).mono ?_; rintro e w1 ⟨rfl, hb⟩; have HB1 := Lib.hid hb; clear hb) | (go_at_call 28; refine (HS.out _ HB1.out).mono ?_; rintro e w2 ⟨sA, sn, sc, rfl, hs, hb⟩; have HB2 := Lib.hid (HB1.out.trans (hb.mono HB1.out.size)); have HS2 := Lib.hid hs; clear hb hs) | (go_at_call 29; refine (HR.out _ HB2.out).mono ?_; rintro e w3 ⟨tA, tn, tc, rfl, hs, hb⟩; have HB3 := Lib.hid (HB2.out.trans (hb.mono HB2.out.size)); have HS3 := Lib.hid (HS2.out.below hb); have HT3 := Lib.hid hs; clear hb hs) | (go_at_call 25; refine (sameInts_c _ _ sA tA sn sc tn tc s s w3 HS3.out HT3.out).mono ?_; rintro e w4 ⟨rfl, hb⟩; have HB4 := Lib.hid (HB3.out.trans (hb.mono HB3.out.size)); clear hb))
        go_ret
        exact ⟨by simp, HB4.out⟩
    · have d3 : decide (6 < m) = false := by simp; omega
      go_enter Try.func6, Try.ntmps6
      go_wp2_with (first | (go_at_call 15; refine (sanity_c _).mono ?_; rintro e w1 ⟨rfl, hb⟩; have HB1 := Lib.hid hb; clear hb) | (go_at_call 28; refine (HS.out _ HB1.out).mono ?_; rintro e w2 ⟨sA, sn, sc, rfl, hs, hb⟩; have HB2 := Lib.hid (HB1.out.trans (hb.mono HB1.out.size)); have HS2 := Lib.hid hs; clear hb hs) | (go_at_call 29; refine (HR.out _ HB2.out).mono ?_; rintro e w3 ⟨tA, tn, tc, rfl, hs, hb⟩; have HB3 := Lib.hid (HB2.out.trans (hb.mono HB2.out.size)); have HS3 := Lib.hid (HS2.out.below hb); have HT3 := Lib.hid hs; clear hb hs) | (go_at_call 25; refine (sameInts_c _ _ sA tA sn sc tn tc s s w3 HS3.out HT3.out).mono ?_; rintro e w4 ⟨rfl, hb⟩; have HB4 := Lib.hid (HB3.out.trans (hb.mono HB3.out.size)); clear hb))
      go_ret
      exact ⟨by simp, HB4.out⟩

theorem core_matches_holds : Rows.ClauseCoreMatchesReferenceSaid :=
  OpenClaim.holds_of_wide 6 Try.f6 rfl rfl rfl rfl rfl rfl rfl ⟨rfl, rfl, rfl, rfl, rfl⟩ rfl rfl rfl rfl rfl (by kernel_rfl) Try.func6 (by kernel_rfl)
    (of_decide_eq_true (by kernel_rfl)) (by unfold Func.isWrapper; rw [if_neg (of_decide_eq_false (by kernel_rfl))]; exact ⟨rfl, rfl⟩)
    (fun os started H enc _ => law_lifted (s := Rows.clauseCoreMatchesReferenceSpec) (ts := [22, 3]) os started (by kernel_rfl) Try.func6 (by rw [Try.params6]) (by kernel_rfl) rfl
      (fun ds hd => by
        match ds, hd with
        | [d0, d1], _ => rfl)
      (by intro t ht; simp only [List.mem_cons, List.not_mem_nil, or_false] at ht; rcases ht with rfl | rfl <;> exact ⟨by kernel_rfl, of_decide_eq_true (by kernel_rfl)⟩)
      (ChangeSpec.witness6 (enc := enc) (C := Try.checked) false ⟨#[], #[.slice none 0 0, .int .i64 0], []⟩ 8 (by kernel_rfl) (by kernel_rfl) (by kernel_rfl) (by kernel_rfl))
      (fun W args hok => by
        match hargs : args.toList, hok with
        | [v0, v1], ⟨h0, h1, _⟩ =>
          obtain ⟨A0, n0, c0, f0, rfl, r0⟩ := h0.1 rfl
          obtain ⟨x1, rfl, r1⟩ := h1.2.2.2.1 rfl
          have : args = #[.slice A0 n0 c0, .int .i64 x1] := by cases args; simp_all
          rw [this]
          exact law6_walk A0 n0 c0 f0 x1 W r0 r1))

#print axioms core_matches_holds
end Go.Proofs.Ytekbkdbmkjdgbaa
