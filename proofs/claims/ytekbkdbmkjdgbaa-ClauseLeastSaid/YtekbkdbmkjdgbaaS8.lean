/- The law ClauseLeast: for every input it gives true and leaves its arguments as they were.
   Conditions: none beyond the row's own (readable arguments within the form's reach). -/
import Derived.Test.YtekbkdbmkjdgbaaW23
import Derived.Test.YtekbkdbmkjdgbaaL5
import Derived.Test.YtekbkdbmkjdgbaaW24
namespace Go.Proofs.Ytekbkdbmkjdgbaa
open Go.ChangeShapes Go.WideShapes Go.ChangeAt Go.RowKit

set_option maxHeartbeats 1000000 in
theorem law9_walk (A : Option Addr) (n c : Nat) (f : List (List Int)) (x : Nat) (w : World) (h : R2 w (fun _ => True) A n c f) (hx : x < 256) :
    Calls Try.prog 9 #[.slice A n c, .int .u8 x] w (Gives w (.bool true)) := by
  have HF := Lib.hid h
  have hb1 := h.big
  have hc1 := h.cap
  clear h
  cases hh : holdsB (madeF f) (madeM x)
  · have HH := Lib.hid hh
    clear hh
    go_enter Try.func9, Try.ntmps9
    go_wp2_with (first | (go_at_call 15; refine (sanity_c _).mono ?_; rintro e w1 ⟨rfl, hb⟩; have HB1 := Lib.hid hb; clear hb) | (go_at_call 30; refine (madeF_c _ A n c f _ (HF.out.below HB1.out)).mono ?_; rintro e w2 ⟨fad, fn, fc, rfl, hf, hn12, hb⟩; have HB2 := Lib.hid (HB1.out.trans (hb.mono HB1.out.size)); have HM2 := Lib.hid (hf.weak (K' := fun _ => True) fun _ _ _ => trivial); have hfc := hf.cap; clear hb hf) | (go_at_call 31; refine (madeM_c x w2 hx).mono ?_; rintro e w4 ⟨mad, rfl, hm, hb⟩; have HB4 := Lib.hid (HB2.out.trans (hb.mono HB2.out.size)); have HM4 := Lib.hid (HM2.out.below hb); have HX4 := Lib.hid hm; clear hb hm) | (go_at_call 20; refine (holds_c _ _ (some fad) (some mad) fn fc 4 4 (madeF f) (madeM x) w4 HM4.out HX4.out).mono ?_; rintro e w5 ⟨rfl, hb⟩; rw [HH.out]; have HB5 := Lib.hid (HB4.out.trans (hb.mono HB4.out.size)); clear hb))
    go_ret
    exact ⟨rfl, HB5.out⟩
  · have HH := Lib.hid hh
    obtain ⟨m, e, h1, h2⟩ : ∃ m, solveF (madeF f) 4 = (m, [], true, 0) ∧ Mod 4 (madeF f) m ∧ ∀ m', Mod 4 (madeF f) m' → rank m ≤ rank m' := by
      rw [holdsB, Bool.and_eq_true] at hh
      rcases solve_spec (madeF_valid f) with h | ⟨L, e, h1, h2⟩
      · exact h
      · exact absurd ⟨madeM_len x, hh.2⟩ (h1 (madeM x))
    have hl : lessF (madeM x) m = false := by
      cases hl : lessF (madeM x) m
      · rfl
      · exfalso
        rw [holdsB, Bool.and_eq_true] at hh
        have h3 := h2 (madeM x) ⟨madeM_len x, hh.2⟩
        have h4 := less_rank (by rw [madeM_len, h1.1]) hl
        omega
    have HLs := Lib.hid hl
    have HML := Lib.hid h1.1
    have HS := Lib.hid fun W (fad : Option Addr) {fn fc : Nat} (h : R2 W (fun _ => True) fad fn fc (madeF f)) => solve_c _ fad fn fc (madeF f) 4 W h (by omega) (by omega)
    rw [e] at HS
    clear hh e h1 h2 hl
    go_enter Try.func9, Try.ntmps9
    go_wp2_with (first | (go_at_call 15; refine (sanity_c _).mono ?_; rintro e w1 ⟨rfl, hb⟩; have HB1 := Lib.hid hb; clear hb) | (go_at_call 30; refine (madeF_c _ A n c f _ (HF.out.below HB1.out)).mono ?_; rintro e w2 ⟨fad, fn, fc, rfl, hf, hn12, hb⟩; have HB2 := Lib.hid (HB1.out.trans (hb.mono HB1.out.size)); have HM2 := Lib.hid (hf.weak (K' := fun _ => True) fun _ _ _ => trivial); have hfc := hf.cap; clear hb hf) | (go_at_call 31; refine (madeM_c x w2 hx).mono ?_; rintro e w4 ⟨mad, rfl, hm, hb⟩; have HB4 := Lib.hid (HB2.out.trans (hb.mono HB2.out.size)); have HM4 := Lib.hid (HM2.out.below hb); have HX4 := Lib.hid hm; clear hb hm) | (go_at_call 20; refine (holds_c _ _ (some fad) (some mad) fn fc 4 4 (madeF f) (madeM x) w4 HM4.out HX4.out).mono ?_; rintro e w5 ⟨rfl, hb⟩; rw [HH.out]; have HB5 := Lib.hid (HB4.out.trans (hb.mono HB4.out.size)); have HM5 := Lib.hid (HM4.out.below hb); have HX5 := Lib.hid (HX4.out.below hb); clear hb) | (go_at_call 16; refine (HS.out _ _ HM5.out).mono ?_; rintro e w6 ⟨mA, mn, mc, pA, pn, pc, rfl, hm, hp, hb⟩; obtain rfl : mn = 4 := (by have h8 : m.length = mn := hm.len; have h9 := HML.out; omega); have HB6 := Lib.hid (HB5.out.trans (hb.mono HB5.out.size)); have HX6 := Lib.hid (HX5.out.below hb); have HY6 := Lib.hid hm; clear hb hm hp) | (go_at_call 32; refine (less_c _ _ (some mad) mA 4 4 mc (madeM x) m w6 HX6.out HY6.out).mono ?_; rintro e w7 ⟨rfl, hb⟩; rw [HLs.out]; have HB7 := Lib.hid (HB6.out.trans (hb.mono HB6.out.size)); clear hb))
    go_ret
    exact ⟨rfl, HB7.out⟩

theorem least_holds : Rows.ClauseLeastSaid :=
  OpenClaim.holds_of_wide 9 Try.f9 rfl rfl rfl rfl rfl rfl rfl ⟨rfl, rfl, rfl, rfl, rfl⟩ rfl rfl rfl rfl rfl (by kernel_rfl) Try.func9 (by kernel_rfl)
    (of_decide_eq_true (by kernel_rfl)) (by unfold Func.isWrapper; rw [if_neg (of_decide_eq_false (by kernel_rfl))]; exact ⟨rfl, rfl⟩)
    (fun os started H enc _ => law_lifted (s := Rows.clauseLeastSpec) (ts := [22, 5]) os started (by kernel_rfl) Try.func9 (by rw [Try.params9]) (by kernel_rfl) rfl
      (fun ds hd => by
        match ds, hd with
        | [d0, d1], _ => rfl)
      (by intro t ht; simp only [List.mem_cons, List.not_mem_nil, or_false] at ht; rcases ht with rfl | rfl <;> exact ⟨by kernel_rfl, of_decide_eq_true (by kernel_rfl)⟩)
      (ChangeSpec.witness6 (enc := enc) (C := Try.checked) false ⟨#[], #[.slice none 0 0, .int .u8 0], []⟩ 8 (by kernel_rfl) (by kernel_rfl) (by kernel_rfl) (by kernel_rfl))
      (fun W args hok => by
        match hargs : args.toList, hok with
        | [v0, v1], ⟨h0, h1, _⟩ =>
          obtain ⟨A0, n0, c0, f0, rfl, r0⟩ := h0.1 rfl
          obtain ⟨x1, rfl, r1⟩ := h1.2.2.2.2 rfl
          have : args = #[.slice A0 n0 c0, .int .u8 x1] := by cases args; simp_all
          rw [this]
          exact law9_walk A0 n0 c0 f0 x1 W r0 r1))

#print axioms least_holds
end Go.Proofs.Ytekbkdbmkjdgbaa
