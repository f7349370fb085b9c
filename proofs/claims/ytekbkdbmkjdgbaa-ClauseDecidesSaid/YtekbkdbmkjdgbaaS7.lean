/- The law ClauseDecides: for every input it gives true and leaves its arguments as they were.
   Conditions: none beyond the row's own (readable arguments within the form's reach). -/
import Derived.Test.YtekbkdbmkjdgbaaW23
import Derived.Test.YtekbkdbmkjdgbaaL5
import Derived.Test.YtekbkdbmkjdgbaaW24
namespace Go.Proofs.Ytekbkdbmkjdgbaa
open Go.ChangeShapes Go.WideShapes Go.ChangeAt Go.RowKit

theorem short_ok {f p : List (List Int)} {n : Int} {x : List Int} (hl : p.getLast? = some x) (hx : x.isEmpty = false) : checkF f n p = false := by
  rw [checkF, hl]
  simp [hx]
theorem take_last {L : List (List Int)} {k : Nat} {x : List Int} (hx : (L.take (k + 1))[k]? = some x) (hl : (L.take (k + 1)).length = k + 1) : (L.take (k + 1)).getLast? = some x := by
  rw [List.getLast?_eq_getElem?, hl]; exact hx

set_option maxHeartbeats 2000000 in
theorem law8_walk (A : Option Addr) (n c : Nat) (f : List (List Int)) (w : World) (h : R2 w (fun _ => True) A n c f) :
    Calls Try.prog 8 #[.slice A n c] w (Gives w (.bool true)) := by
  have HF := Lib.hid h
  have hb1 := h.big
  have hc1 := h.cap
  clear h
  have HS := Lib.hid fun W (fad : Option Addr) {fn fc : Nat} (h : R2 W (fun _ => True) fad fn fc (madeF f)) => solve4 _ fad fn fc (madeF f) W h
  rcases solve_spec (madeF_valid f) with ⟨m, e, h1, h2⟩ | ⟨L, e, h1, h2⟩
  · rw [e] at HS
    have HH := Lib.hid (show holdsB (madeF f) m = true by
      rw [holdsB, h1.2, Bool.and_true, h1.1]; exact madeF_valid f)
    have HML := Lib.hid h1.1
    clear e h1 h2
    go_enter Try.func8, Try.ntmps8
    go_wp2_with (first | (go_at_call 15; refine (sanity_c _).mono ?_; rintro e w1 ⟨rfl, hb⟩; have HB1 := Lib.hid hb; clear hb) | (go_at_call 30; refine (madeF_c _ A n c f _ (HF.out.below HB1.out)).mono ?_; rintro e w2 ⟨fad, fn, fc, rfl, hf, hn12, hb⟩; have HB2 := Lib.hid (HB1.out.trans (hb.mono HB1.out.size)); have HM2 := Lib.hid (hf.weak (K' := fun _ => True) fun _ _ _ => trivial); have hfc := hf.cap; clear hb hf) | (go_at_call 16; refine (HS.out _ _ HM2.out).mono ?_; rintro e w3 ⟨mA, mn, mc, pA, pn, pc, rfl, hm, hp, hb⟩; have HB3 := Lib.hid (HB2.out.trans (hb.mono HB2.out.size)); have HM3 := Lib.hid (HM2.out.below hb); have HX3 := Lib.hid hm; have HP3 := Lib.hid hp; obtain rfl : mn = 4 := (by have h8 : m.length = mn := hm.len; have h9 := HML.out; omega); obtain rfl : pn = 0 := (by have h8 : ([] : List (List Int)).length = pn := hp.len; simpa using h8.symm); clear hb hm hp) | (go_at_call 20; refine (holds_c _ _ (some fad) mA fn fc 4 mc (madeF f) m w3 HM3.out HX3.out).mono ?_; rintro e w4 ⟨rfl, hb⟩; rw [HH.out]; have HB4 := Lib.hid (HB3.out.trans (hb.mono HB3.out.size)); clear hb))
    go_ret
    exact ⟨rfl, HB4.out⟩
  · have HLs := Lib.hid (len_small e)
    rw [e] at HS
    have HCk := Lib.hid h2
    obtain ⟨k, hk⟩ : ∃ k, L.length = k + 1 := by
      cases L with
      | nil => rw [checkF] at h2; simp at h2
      | cons y r => exact ⟨r.length, rfl⟩
    have HLk := Lib.hid hk
    have hk1 : k + 1 ≤ 1000000 := by have := HLs.out; omega
    have b0 : (((k + 1 : Nat) : Int) == 0) = false := by simp; omega
    have b1 : ((k + 1 : Nat) == 0) = false := by simp
    clear e h1 h2 hk
    cases k with
    | zero =>
      have HC2 := Lib.hid (show checkF (madeF f) 4 (L.take 0) = false by rw [checkF]; simp)
      go_enter Try.func8, Try.ntmps8
      go_wp2_with (first | (go_at_call 15; refine (sanity_c _).mono ?_; rintro e w1 ⟨rfl, hb⟩; have HB1 := Lib.hid hb; clear hb) | (go_at_call 30; refine (madeF_c _ A n c f _ (HF.out.below HB1.out)).mono ?_; rintro e w2 ⟨fad, fn, fc, rfl, hf, hn12, hb⟩; have HB2 := Lib.hid (HB1.out.trans (hb.mono HB1.out.size)); have HM2 := Lib.hid (hf.weak (K' := fun _ => True) fun _ _ _ => trivial); have hfc := hf.cap; clear hb hf) | (go_at_call 16; refine (HS.out _ _ HM2.out).mono ?_; rintro e w3 ⟨mA, mn, mc, pA, pn, pc, rfl, hm, hp, hb⟩; have HB3 := Lib.hid (HB2.out.trans (hb.mono HB2.out.size)); have HM3 := Lib.hid (HM2.out.below hb); have HX3 := Lib.hid hm; have HP3 := Lib.hid hp; obtain rfl : mn = 0 := (by have h8 : ([] : List Bool).length = mn := hm.len; simpa using h8.symm); obtain rfl : pn = 0 + 1 := (by have h8 := hp.len; have h9 := HLk.out; exact h8.symm.trans h9); have hpc := hp.cap; clear hb hm hp) | (go_at_call 26; refine (check_c _ _ (some fad) pA fn fc 0 pc (madeF f) (L.take 0) 4 w4 HM4.out HP4.out.short (by omega) (by omega) (by omega)).mono ?_; rintro e w5 ⟨rfl, hb⟩; rw [HC2.out]; have HB5 := Lib.hid (HB4.out.trans (hb.mono HB4.out.size)); clear hb) | (go_at_call 26; refine (check_c _ _ (some fad) pA fn fc (0 + 1) pc (madeF f) L 4 w3 HM3.out HP3.out (by omega) (by omega) (by omega)).mono ?_; rintro e w4 ⟨rfl, hb⟩; rw [HCk.out]; have HB4 := Lib.hid (HB3.out.trans (hb.mono HB3.out.size)); have HM4 := Lib.hid (HM3.out.below hb); have HP4 := Lib.hid (HP3.out.below hb); clear hb))
      go_ret
      exact ⟨rfl, HB5.out⟩
    | succ j =>
      have e1 : (((j + 1 + 1 : Nat) : Int) - 1) = ((j + 1 : Nat) : Int) := by omega
      have e2 : (((j + 1 : Nat) : Int) - 1) = (j : Int) := by omega
      obtain ⟨y, hy⟩ : ∃ y, L[j]? = some y := ⟨L[j]'(by have := HLk.out; omega), List.getElem?_eq_getElem _⟩
      have HY := Lib.hid hy
      have hlt2 : (L.take (j + 1)).getLast? = some y := take_last (by rw [List.getElem?_take_of_lt (by omega)]; exact hy) (by rw [List.length_take]; have := HLk.out; omega)
      have hlt1 : (L.take (j + 1)).length = j + 1 := by rw [List.length_take]; have := HLk.out; omega
      cases y with
      | nil =>
        clear hy hlt2 hlt1
        go_enter Try.func8, Try.ntmps8
        go_wp2_with (first | (go_at_call 15; refine (sanity_c _).mono ?_; rintro e w1 ⟨rfl, hb⟩; have HB1 := Lib.hid hb; clear hb) | (go_at_call 30; refine (madeF_c _ A n c f _ (HF.out.below HB1.out)).mono ?_; rintro e w2 ⟨fad, fn, fc, rfl, hf, hn12, hb⟩; have HB2 := Lib.hid (HB1.out.trans (hb.mono HB1.out.size)); have HM2 := Lib.hid (hf.weak (K' := fun _ => True) fun _ _ _ => trivial); have hfc := hf.cap; clear hb hf) | (go_at_call 16; refine (HS.out _ _ HM2.out).mono ?_; rintro e w3 ⟨mA, mn, mc, pA, pn, pc, rfl, hm, hp, hb⟩; have HB3 := Lib.hid (HB2.out.trans (hb.mono HB2.out.size)); have HM3 := Lib.hid (HM2.out.below hb); have HX3 := Lib.hid hm; have HP3 := Lib.hid hp; obtain rfl : mn = 0 := (by have h8 : ([] : List Bool).length = mn := hm.len; simpa using h8.symm); obtain rfl : pn = j + 1 + 1 := (by have h8 := hp.len; have h9 := HLk.out; exact h8.symm.trans h9); have hpc := hp.cap; clear hb hm hp) | (go_at_call 26; refine (check_c _ _ (some fad) pA fn fc (j + 1 + 1) pc (madeF f) L 4 w3 HM3.out HP3.out (by omega) (by omega) (by omega)).mono ?_; rintro e w4 ⟨rfl, hb⟩; rw [HCk.out]; have HB4 := Lib.hid (HB3.out.trans (hb.mono HB3.out.size)); have HM4 := Lib.hid (HM3.out.below hb); have HP4 := Lib.hid (HP3.out.below hb); obtain ⟨ad, y, yA, yn, yc, rfl, _, hy, hcell, hy1⟩ := HP4.out.at_ (show j < j + 1 + 1 by omega); obtain rfl : 0 = yn := (by have h8 := hy1.len; rw [HY.out] at hy; cases hy; exact h8); clear hb hy hy1))
        go_ret
        exact ⟨rfl, HB4.out⟩
      | cons z zs =>
        have HC2 := Lib.hid (short_ok (f := madeF f) (n := 4) hlt2 rfl)
        clear hy hlt2 hlt1
        go_enter Try.func8, Try.ntmps8
        go_wp2_with (first | (go_at_call 15; refine (sanity_c _).mono ?_; rintro e w1 ⟨rfl, hb⟩; have HB1 := Lib.hid hb; clear hb) | (go_at_call 30; refine (madeF_c _ A n c f _ (HF.out.below HB1.out)).mono ?_; rintro e w2 ⟨fad, fn, fc, rfl, hf, hn12, hb⟩; have HB2 := Lib.hid (HB1.out.trans (hb.mono HB1.out.size)); have HM2 := Lib.hid (hf.weak (K' := fun _ => True) fun _ _ _ => trivial); have hfc := hf.cap; clear hb hf) | (go_at_call 16; refine (HS.out _ _ HM2.out).mono ?_; rintro e w3 ⟨mA, mn, mc, pA, pn, pc, rfl, hm, hp, hb⟩; have HB3 := Lib.hid (HB2.out.trans (hb.mono HB2.out.size)); have HM3 := Lib.hid (HM2.out.below hb); have HX3 := Lib.hid hm; have HP3 := Lib.hid hp; obtain rfl : mn = 0 := (by have h8 : ([] : List Bool).length = mn := hm.len; simpa using h8.symm); obtain rfl : pn = j + 1 + 1 := (by have h8 := hp.len; have h9 := HLk.out; exact h8.symm.trans h9); have hpc := hp.cap; clear hb hm hp) | (go_at_call 26; refine (check_c _ _ (some fad) _ fn fc (j + 1) pc (madeF f) (L.take (j + 1)) 4 w4 HM4.out HP4.out.short (by omega) (by omega) (by omega)).mono ?_; rintro e w5 ⟨rfl, hb⟩; rw [HC2.out]; have HB5 := Lib.hid (HB4.out.trans (hb.mono HB4.out.size)); clear hb) | (go_at_call 26; refine (check_c _ _ (some fad) pA fn fc (j + 1 + 1) pc (madeF f) L 4 w3 HM3.out HP3.out (by omega) (by omega) (by omega)).mono ?_; rintro e w4 ⟨rfl, hb⟩; rw [HCk.out]; have HB4 := Lib.hid (HB3.out.trans (hb.mono HB3.out.size)); have HM4 := Lib.hid (HM3.out.below hb); have HP4 := Lib.hid (HP3.out.below hb); obtain ⟨ad, y, yA, yn, yc, rfl, _, hy, hcell, hy1⟩ := HP4.out.at_ (show j < j + 1 + 1 by omega); obtain ⟨q, rfl⟩ : ∃ q, yn = q + 1 := (by have h8 := hy1.len; rw [HY.out] at hy; cases hy; exact ⟨zs.length, by simpa using h8.symm⟩); have b4 : (((q + 1 : Nat) : Int) == 0) = false := (by simp; omega); have b5 : ((q + 1 : Nat) == 0) = false := (by simp); clear hb hy hy1))
        go_ret
        exact ⟨rfl, HB5.out⟩

theorem decides_holds : Rows.ClauseDecidesSaid :=
  OpenClaim.holds_of_wide 8 Try.f8 rfl rfl rfl rfl rfl rfl rfl ⟨rfl, rfl, rfl, rfl, rfl⟩ rfl rfl rfl rfl rfl (by kernel_rfl) Try.func8 (by kernel_rfl)
    (of_decide_eq_true (by kernel_rfl)) (by unfold Func.isWrapper; rw [if_neg (of_decide_eq_false (by kernel_rfl))]; exact ⟨rfl, rfl⟩)
    (fun os started H enc _ => law_lifted (s := Rows.clauseDecidesSpec) (ts := [22]) os started (by kernel_rfl) Try.func8 (by rw [Try.params8]) (by kernel_rfl) rfl
      (fun ds hd => by
        match ds, hd with
        | [d0], _ => rfl)
      (by intro t ht; simp only [List.mem_cons, List.not_mem_nil, or_false] at ht; subst ht; exact ⟨by kernel_rfl, of_decide_eq_true (by kernel_rfl)⟩)
      (ChangeSpec.witness6 (enc := enc) (C := Try.checked) false ⟨#[], #[.slice none 0 0], []⟩ 8 (by kernel_rfl) (by kernel_rfl) (by kernel_rfl) (by kernel_rfl))
      (fun W args hok => by
        match hargs : args.toList, hok with
        | [v0], ⟨h0, _⟩ =>
          obtain ⟨A0, n0, c0, f0, rfl, r0⟩ := h0.1 rfl
          have : args = #[.slice A0 n0 c0] := by cases args; simp_all
          rw [this]
          exact law8_walk A0 n0 c0 f0 W r0))

#print axioms decides_holds
end Go.Proofs.Ytekbkdbmkjdgbaa
