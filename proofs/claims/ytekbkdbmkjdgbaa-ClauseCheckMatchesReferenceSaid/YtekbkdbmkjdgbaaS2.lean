/- The law ClauseCheckMatchesReference: for every input it gives true and leaves its arguments as they were.
   Conditions: none beyond the row's own (readable arguments within the form's reach). -/
import Derived.Test.YtekbkdbmkjdgbaaW23
import Derived.Test.YtekbkdbmkjdgbaaL5
namespace Go.Proofs.Ytekbkdbmkjdgbaa
open Go.ChangeShapes Go.WideShapes Go.ChangeAt Go.RowKit

set_option maxHeartbeats 1000000 in
theorem law5_walk (A pA : Option Addr) (n c pn pc : Nat) (f p : List (List Int)) (m : Int) (w : World) (h : R2 w (fun _ => True) A n c f) (h' : R2 w (fun _ => True) pA pn pc p) (hm : I64 m) :
    Calls Try.prog 5 #[.slice A n c, .int .i64 m, .slice pA pn pc] w (Gives w (.bool true)) := by
  have HF := Lib.hid h
  have HP := Lib.hid h'
  have hb1 := h.big
  have hb2 := h'.big
  have hc1 := h.cap
  have hc2 := h'.cap
  unfold I64 at hm
  clear h h'
  by_cases h60 : 60 < n
  · have d1 : decide (60 < n) = true := by simp; omega
    have d2 : decide (60 < (n : Int)) = true := by simp; omega
    go_enter Try.func5, Try.ntmps5
    go_wp2_with (go_at_call 15; refine (sanity_c _).mono ?_; rintro e w1 ⟨rfl, hb⟩; have HB1 := Lib.hid hb; clear hb)
    go_ret
    exact ⟨rfl, HB1.out⟩
  · have d1 : decide (60 < n) = false := by simp; omega
    have d2 : decide (60 < (n : Int)) = false := by simp; omega
    by_cases h60' : 60 < pn
    · have d3 : decide (60 < pn) = true := by simp; omega
      have d4 : decide (60 < (pn : Int)) = true := by simp; omega
      go_enter Try.func5, Try.ntmps5
      go_wp2_with (go_at_call 15; refine (sanity_c _).mono ?_; rintro e w1 ⟨rfl, hb⟩; have HB1 := Lib.hid hb; clear hb)
      go_ret
      exact ⟨rfl, HB1.out⟩
    · have d3 : decide (60 < pn) = false := by simp; omega
      have d4 : decide (60 < (pn : Int)) = false := by simp; omega
      have HC := Lib.hid fun W (hb : Below w.heap.size w W) => check_c _ _ A pA n c pn pc f p m W (HF.out.below hb) (HP.out.below hb) hm.1 hm.2 (by omega)
      have HR := Lib.hid fun W (hb : Below w.heap.size w W) => rcheck_c _ _ A pA n c pn pc f p m W (HF.out.below hb) (HP.out.below hb) hm.1 hm.2 (by omega)
      generalize checkF f m p = b at *
      go_enter Try.func5, Try.ntmps5
      go_wp2_with (first | (go_at_call 15; refine (sanity_c _).mono ?_; rintro e w1 ⟨rfl, hb⟩; have HB1 := Lib.hid hb; clear hb) | (go_at_call 26; refine (HC.out _ HB1.out).mono ?_; rintro e w2 ⟨rfl, hb⟩; have HB2 := Lib.hid (HB1.out.trans (hb.mono HB1.out.size)); clear hb) | (go_at_call 27; refine (HR.out _ HB2.out).mono ?_; rintro e w3 ⟨rfl, hb⟩; have HB3 := Lib.hid (HB2.out.trans (hb.mono HB2.out.size)); clear hb))
      go_ret
      exact ⟨by simp, HB3.out⟩

theorem check_matches_holds : Rows.ClauseCheckMatchesReferenceSaid :=
  OpenClaim.holds_of_wide 5 Try.f5 rfl rfl rfl rfl rfl rfl rfl ⟨rfl, rfl, rfl, rfl, rfl⟩ rfl rfl rfl rfl rfl (by kernel_rfl) Try.func5 (by kernel_rfl)
    (of_decide_eq_true (by kernel_rfl)) (by unfold Func.isWrapper; rw [if_neg (of_decide_eq_false (by kernel_rfl))]; exact ⟨rfl, rfl⟩)
    (fun os started H enc _ => law_lifted (s := Rows.clauseCheckMatchesReferenceSpec) (ts := [22, 3, 22]) os started (by kernel_rfl) Try.func5 (by rw [Try.params5]) (by kernel_rfl) rfl
      (fun ds hd => by
        match ds, hd with
        | [a, b, c], _ => rfl)
      (by intro t ht; simp only [List.mem_cons, List.not_mem_nil, or_false] at ht; rcases ht with rfl | rfl | rfl <;> exact ⟨by kernel_rfl, of_decide_eq_true (by kernel_rfl)⟩)
      (ChangeSpec.witness6 (enc := enc) (C := Try.checked) false ⟨#[], #[.slice none 0 0, .int .i64 0, .slice none 0 0], []⟩ 8 (by kernel_rfl) (by kernel_rfl) (by kernel_rfl) (by kernel_rfl))
      (fun W args hok => by
        match hargs : args.toList, hok with
        | [v0, v1, v2], ⟨h0, h1, h2, _⟩ =>
          obtain ⟨A, n, c, f, rfl, r0⟩ := h0.1 rfl
          obtain ⟨x, rfl, r1⟩ := h1.2.2.2.1 rfl
          obtain ⟨pA, pn, pc, p, rfl, r2⟩ := h2.1 rfl
          have : args = #[.slice A n c, .int .i64 x, .slice pA pn pc] := by cases args; simp_all
          rw [this]
          exact law5_walk A pA n c pn pc f p x W r0 r2 r1))

#print axioms check_matches_holds
end Go.Proofs.Ytekbkdbmkjdgbaa
