/- The law ClauseRefutationIsSound: for every input it gives true and leaves its arguments as they were.
   Conditions: none beyond the row's own (readable arguments within the form's reach). -/
import Derived.Test.YtekbkdbmkjdgbaaW23
import Derived.Test.YtekbkdbmkjdgbaaL5
import Derived.Test.YtekbkdbmkjdgbaaW24
namespace Go.Proofs.Ytekbkdbmkjdgbaa
open Go.ChangeShapes Go.WideShapes Go.ChangeAt Go.RowKit

theorem holds_none {f p : List (List Int)} {m : List Bool} (h : checkF f 4 p = true) (hm : m.length = 4) : holdsB f m = false := by
  cases hs : satF m f
  · rw [holdsB, hs, Bool.and_false]
  · exact (check_sound h ⟨hm, hs⟩).elim

set_option maxHeartbeats 1000000 in
theorem law7_walk (A : Option Addr) (n c : Nat) (f : List (List Int)) (pA : Option Addr) (pn pc : Nat) (p : List (List Int)) (x : Nat) (w : World) (h : R2 w (fun _ => True) A n c f) (h' : R2 w (fun _ => True) pA pn pc p) (hx : x < 256) :
    Calls Try.prog 7 #[.slice A n c, .slice pA pn pc, .int .u8 x] w (Gives w (.bool true)) := by
  have HF := Lib.hid h
  have HP := Lib.hid h'
  have hb1 := h.big
  have hb2 := h'.big
  have hc1 := h.cap
  have hc2 := h'.cap
  clear h h'
  by_cases h60 : 60 < pn
  · have d1 : decide (60 < pn) = true := by simp; omega
    have d2 : decide (60 < (pn : Int)) = true := by simp; omega
    go_enter Try.func7, Try.ntmps7
    go_wp2_with (first | (go_at_call 15; refine (sanity_c _).mono ?_; rintro e w1 ⟨rfl, hb⟩; have HB1 := Lib.hid hb; clear hb) | (go_at_call 30; refine (madeF_c _ A n c f _ (HF.out.below HB1.out)).mono ?_; rintro e w2 ⟨fad, fn, fc, rfl, hf, hn12, hb⟩; have HB2 := Lib.hid (HB1.out.trans (hb.mono HB1.out.size)); have HM2 := Lib.hid (hf.weak (K' := fun _ => True) fun _ _ _ => trivial); have hfc := hf.cap; clear hb hf))
    go_ret
    exact ⟨rfl, HB2.out⟩
  · have d1 : decide (60 < pn) = false := by simp; omega
    have d2 : decide (60 < (pn : Int)) = false := by simp; omega
    cases hck : checkF (madeF f) 4 p
    · have HC := Lib.hid hck
      clear hck
      go_enter Try.func7, Try.ntmps7
      go_wp2_with (first | (go_at_call 15; refine (sanity_c _).mono ?_; rintro e w1 ⟨rfl, hb⟩; have HB1 := Lib.hid hb; clear hb) | (go_at_call 30; refine (madeF_c _ A n c f _ (HF.out.below HB1.out)).mono ?_; rintro e w2 ⟨fad, fn, fc, rfl, hf, hn12, hb⟩; have HB2 := Lib.hid (HB1.out.trans (hb.mono HB1.out.size)); have HM2 := Lib.hid (hf.weak (K' := fun _ => True) fun _ _ _ => trivial); have hfc := hf.cap; clear hb hf) | (go_at_call 26; refine (check_c _ _ (some fad) pA fn fc pn pc (madeF f) p 4 w2 HM2.out (HP.out.below HB2.out) (by omega) (by omega) (by omega)).mono ?_; rintro e w3 ⟨rfl, hb⟩; rw [HC.out]; have HB3 := Lib.hid (HB2.out.trans (hb.mono HB2.out.size)); clear hb))
      go_ret
      exact ⟨rfl, HB3.out⟩
    · have HC := Lib.hid hck
      have HN := Lib.hid (holds_none hck (madeM_len x))
      clear hck
      go_enter Try.func7, Try.ntmps7
      go_wp2_with (first | (go_at_call 15; refine (sanity_c _).mono ?_; rintro e w1 ⟨rfl, hb⟩; have HB1 := Lib.hid hb; clear hb) | (go_at_call 30; refine (madeF_c _ A n c f _ (HF.out.below HB1.out)).mono ?_; rintro e w2 ⟨fad, fn, fc, rfl, hf, hn12, hb⟩; have HB2 := Lib.hid (HB1.out.trans (hb.mono HB1.out.size)); have HM2 := Lib.hid (hf.weak (K' := fun _ => True) fun _ _ _ => trivial); have hfc := hf.cap; clear hb hf) | (go_at_call 26; refine (check_c _ _ (some fad) pA fn fc pn pc (madeF f) p 4 w2 HM2.out (HP.out.below HB2.out) (by omega) (by omega) (by omega)).mono ?_; rintro e w3 ⟨rfl, hb⟩; rw [HC.out]; have HB3 := Lib.hid (HB2.out.trans (hb.mono HB2.out.size)); have HM3 := Lib.hid (HM2.out.below hb); clear hb) | (go_at_call 31; refine (madeM_c x w3 hx).mono ?_; rintro e w4 ⟨mad, rfl, hm, hb⟩; have HB4 := Lib.hid (HB3.out.trans (hb.mono HB3.out.size)); have HM4 := Lib.hid (HM3.out.below hb); have HX4 := Lib.hid hm; clear hb hm) | (go_at_call 20; refine (holds_c _ _ (some fad) (some mad) fn fc 4 4 (madeF f) (madeM x) w4 HM4.out HX4.out).mono ?_; rintro e w5 ⟨rfl, hb⟩; rw [HN.out]; have HB5 := Lib.hid (HB4.out.trans (hb.mono HB4.out.size)); clear hb))
      go_ret
      exact ⟨rfl, HB5.out⟩

theorem sound_holds : Rows.ClauseRefutationIsSoundSaid :=
  OpenClaim.holds_of_wide 7 Try.f7 rfl rfl rfl rfl rfl rfl rfl ⟨rfl, rfl, rfl, rfl, rfl⟩ rfl rfl rfl rfl rfl (by kernel_rfl) Try.func7 (by kernel_rfl)
    (of_decide_eq_true (by kernel_rfl)) (by unfold Func.isWrapper; rw [if_neg (of_decide_eq_false (by kernel_rfl))]; exact ⟨rfl, rfl⟩)
    (fun os started H enc _ => law_lifted (s := Rows.clauseRefutationIsSoundSpec) (ts := [22, 22, 5]) os started (by kernel_rfl) Try.func7 (by rw [Try.params7]) (by kernel_rfl) rfl
      (fun ds hd => by
        match ds, hd with
        | [d0, d1, d2], _ => rfl)
      (by intro t ht; simp only [List.mem_cons, List.not_mem_nil, or_false] at ht; rcases ht with rfl | rfl | rfl <;> exact ⟨by kernel_rfl, of_decide_eq_true (by kernel_rfl)⟩)
      (ChangeSpec.witness6 (enc := enc) (C := Try.checked) false ⟨#[], #[.slice none 0 0, .slice none 0 0, .int .u8 0], []⟩ 8 (by kernel_rfl) (by kernel_rfl) (by kernel_rfl) (by kernel_rfl))
      (fun W args hok => by
        match hargs : args.toList, hok with
        | [v0, v1, v2], ⟨h0, h1, h2, _⟩ =>
          obtain ⟨A0, n0, c0, f0, rfl, r0⟩ := h0.1 rfl
          obtain ⟨A1, n1, c1, f1, rfl, r1⟩ := h1.1 rfl
          obtain ⟨x2, rfl, r2⟩ := h2.2.2.2.2 rfl
          have : args = #[.slice A0 n0 c0, .slice A1 n1 c1, .int .u8 x2] := by cases args; simp_all
          rw [this]
          exact law7_walk A0 n0 c0 f0 A1 n1 c1 f1 x2 W r0 r1 r2))

#print axioms sound_holds
end Go.Proofs.Ytekbkdbmkjdgbaa
