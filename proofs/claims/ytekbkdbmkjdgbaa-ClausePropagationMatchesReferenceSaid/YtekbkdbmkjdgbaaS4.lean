/- The law ClausePropagationMatchesReference: for every input it gives true and leaves its arguments as they were.
   Conditions: none beyond the row's own (readable arguments within the form's reach). -/
import Derived.Test.YtekbkdbmkjdgbaaW23
import Derived.Test.YtekbkdbmkjdgbaaL5
import Derived.Test.YtekbkdbmkjdgbaaW16
namespace Go.Proofs.Ytekbkdbmkjdgbaa
open Go.ChangeShapes Go.WideShapes Go.ChangeAt Go.RowKit

set_option maxHeartbeats 1000000 in
theorem law4_walk (A : Option Addr) (n c : Nat) (f : List (List Int)) (lA : Option Addr) (ln lc : Nat) (l : List Int) (w : World) (h : R2 w (fun _ => True) A n c f) (h' : R1 w (fun _ => True) lA ln lc l) :
    Calls Try.prog 4 #[.slice A n c, .slice lA ln lc] w (Gives w (.bool true)) := by
  have HF := Lib.hid h
  have HP' := Lib.hid h'
  have hb1 := h.big
  have hb2 := h'.big
  have hc1 := h.cap
  have hc2 := h'.cap
  clear h h'
  by_cases h300 : 300 < n
  · have d1 : decide (300 < n) = true := by simp; omega
    have d2 : decide (300 < (n : Int)) = true := by simp; omega
    go_enter Try.func4, Try.ntmps4
    go_wp2_with (go_at_call 15; refine (sanity_c _).mono ?_; rintro e w1 ⟨rfl, hb⟩; have HB1 := Lib.hid hb; clear hb)
    go_ret
    exact ⟨rfl, HB1.out⟩
  · have d1 : decide (300 < n) = false := by simp; omega
    have d2 : decide (300 < (n : Int)) = false := by simp; omega
    by_cases h100 : 100 < ln
    · have d3 : decide (100 < ln) = true := by simp; omega
      have d4 : decide (100 < (ln : Int)) = true := by simp; omega
      go_enter Try.func4, Try.ntmps4
      go_wp2_with (go_at_call 15; refine (sanity_c _).mono ?_; rintro e w1 ⟨rfl, hb⟩; have HB1 := Lib.hid hb; clear hb)
      go_ret
      exact ⟨rfl, HB1.out⟩
    · have d3 : decide (100 < ln) = false := by simp; omega
      have d4 : decide (100 < (ln : Int)) = false := by simp; omega
      have HS := Lib.hid fun W (hb : Below w.heap.size w W) => propagate23_c _ _ A lA n c ln lc f l W (HF.out.below hb) (HP'.out.below hb)
      have HR := Lib.hid fun W (hb : Below w.heap.size w W) => rpropagate_c _ _ A lA n c ln lc f l W (HF.out.below hb) (HP'.out.below hb)
      rw [rpropagate_eq] at HR
      generalize propagateF f l = r at *
      obtain ⟨s, ok⟩ := r
      go_enter Try.func4, Try.ntmps4
      go_wp2_with (first | (go_at_call 15; refine (sanity_c _).mono ?_; rintro e w1 ⟨rfl, hb⟩; have HB1 := Lib.hid hb; clear hb) | (go_at_call 23; refine (HS.out _ HB1.out).mono ?_; rintro e w2 ⟨sA, sn, sc, rfl, hs, hb⟩; have HB2 := Lib.hid (HB1.out.trans (hb.mono HB1.out.size)); have HS2 := Lib.hid hs; clear hb hs) | (go_at_call 24; refine (HR.out _ HB2.out).mono ?_; rintro e w3 ⟨tA, tn, tc, rfl, hs, hb⟩; have HB3 := Lib.hid (HB2.out.trans (hb.mono HB2.out.size)); have HS3 := Lib.hid (HS2.out.below hb); have HT3 := Lib.hid hs; clear hb hs) | (go_at_call 25; refine (sameInts_c _ _ sA tA sn sc tn tc s s w3 HS3.out HT3.out).mono ?_; rintro e w4 ⟨rfl, hb⟩; have HB4 := Lib.hid (HB3.out.trans (hb.mono HB3.out.size)); clear hb))
      go_ret
      exact ⟨by simp, HB4.out⟩

theorem propagation_matches_holds : Rows.ClausePropagationMatchesReferenceSaid :=
  OpenClaim.holds_of_wide 4 Try.f4 rfl rfl rfl rfl rfl rfl rfl ⟨rfl, rfl, rfl, rfl, rfl⟩ rfl rfl rfl rfl rfl (by kernel_rfl) Try.func4 (by kernel_rfl)
    (of_decide_eq_true (by kernel_rfl)) (by unfold Func.isWrapper; rw [if_neg (of_decide_eq_false (by kernel_rfl))]; exact ⟨rfl, rfl⟩)
    (fun os started H enc _ => law_lifted (s := Rows.clausePropagationMatchesReferenceSpec) (ts := [22, 32]) os started (by kernel_rfl) Try.func4 (by rw [Try.params4]) (by kernel_rfl) rfl
      (fun ds hd => by
        match ds, hd with
        | [d0, d1], _ => rfl)
      (by intro t ht; simp only [List.mem_cons, List.not_mem_nil, or_false] at ht; rcases ht with rfl | rfl <;> exact ⟨by kernel_rfl, of_decide_eq_true (by kernel_rfl)⟩)
      (ChangeSpec.witness6 (enc := enc) (C := Try.checked) false ⟨#[], #[.slice none 0 0, .slice none 0 0], []⟩ 8 (by kernel_rfl) (by kernel_rfl) (by kernel_rfl) (by kernel_rfl))
      (fun W args hok => by
        match hargs : args.toList, hok with
        | [v0, v1], ⟨h0, h1, _⟩ =>
          obtain ⟨A0, n0, c0, f0, rfl, r0⟩ := h0.1 rfl
          obtain ⟨A1, n1, c1, f1, rfl, r1⟩ := h1.2.1 rfl
          have : args = #[.slice A0 n0 c0, .slice A1 n1 c1] := by cases args; simp_all
          rw [this]
          exact law4_walk A0 n0 c0 f0 A1 n1 c1 f1 W r0 r1))

#print axioms propagation_matches_holds
end Go.Proofs.Ytekbkdbmkjdgbaa
