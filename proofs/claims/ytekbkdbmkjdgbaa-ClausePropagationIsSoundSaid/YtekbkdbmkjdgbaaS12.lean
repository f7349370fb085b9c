/- The law ClausePropagationIsSound: for every input it gives true and leaves its arguments as they were.
   Conditions: none beyond the row's own (readable arguments within the form's reach). -/
import Derived.Test.YtekbkdbmkjdgbaaW23
import Derived.Test.YtekbkdbmkjdgbaaL5
import Derived.Test.YtekbkdbmkjdgbaaW24
namespace Go.Proofs.Ytekbkdbmkjdgbaa
open Go.ChangeShapes Go.WideShapes Go.ChangeAt Go.RowKit

set_option maxHeartbeats 8000000 in
set_option maxRecDepth 100000 in
theorem law10_walk (A : Option Addr) (n c : Nat) (f : List (List Int)) (lA : Option Addr) (ln lc : Nat) (l : List Int) (x : Nat) (w : World) (h : R2 w (fun _ => True) A n c f) (h' : R1 w (fun _ => True) lA ln lc l) (hx : x < 256) :
    Calls Try.prog 10 #[.slice A n c, .slice lA ln lc, .int .u8 x] w (Gives w (.bool true)) := by
  have HF := Lib.hid h
  have HL := Lib.hid h'
  have hb1 := h.big
  have hc1 := h.cap
  have hb2 := h'.big
  have hc2 := h'.cap
  clear h h'
  have hlw16 : (madeC l).all (wi 16) = true := all_mono (n := 4) (madeC_wi l) (by omega)
  have hv16 := valid_up (madeF_valid f)
  have HMo := Lib.hid fun (hh : holdsB (madeF f) (madeM x) = true) (ha : Agrees (madeM x) (madeC l)) => propagate_model (n := 4) (by omega) (madeF_valid f) (madeC_wi l) (show Mod 4 (madeF f) (madeM x) from ⟨madeM_len x, (Bool.and_eq_true _ _ ▸ hh : _ ∧ _).2⟩) ha
  cases hsa : startF (madeF f) (madeC l) with
  | some a =>
    have HSa := Lib.hid hsa
    have HIn := Lib.hid (show ∀ y ∈ madeC l, y ∈ litsF a 0 by
      have hL := valid_lits hv16
      obtain ⟨wa, _, h1⟩ := start_spec hL hlw16 hsa
      exact fun y hy => (lits_val wa (start_zero hL hlw16 hsa)).2 ⟨List.all_eq_true.1 hlw16 y hy, h1 y hy⟩)
    have HP1 := Lib.hid fun W fA kA fn fc kn kc (h : R2 W (fun _ => True) fA fn fc (madeF f)) (h' : R1 W (fun _ => True) kA kn kc (madeC l)) => propagate23_c _ _ fA kA fn fc kn kc (madeF f) (madeC l) W h h'
    rw [propagate_some hv16 hlw16 hsa] at HP1
    have HP2 := Lib.hid fun W fA kA fn fc kn kc (h : R2 W (fun _ => True) fA fn fc (madeF f)) (h' : R1 W (fun _ => True) kA kn kc (litsF a 0)) => propagate23_c _ _ fA kA fn fc kn kc (madeF f) (litsF a 0) W h h'
    rw [propagate_idem hv16 hlw16 hsa] at HP2
    clear hsa hlw16 hv16
    go_enter Try.func10, Try.ntmps10
    go_wp2_with (first | (go_at_call 15; refine (sanity_c _).mono ?_; rintro e w1 ⟨rfl, hb⟩; have HB1 := Lib.hid hb; clear hb) | (go_at_call 30; refine (madeF_c _ A n c f _ (HF.out.below HB1.out)).mono ?_; rintro e w2 ⟨fad, fn, fc, rfl, hf, hn12, hb⟩; have HB2 := Lib.hid (HB1.out.trans (hb.mono HB1.out.size)); have HM2 := Lib.hid (hf.weak (K' := fun _ => True) fun _ _ _ => trivial); have hfc := hf.cap; clear hb hf) | (go_at_call 33; refine (madeC_c _ lA ln lc l w2 (HL.out.below HB2.out)).mono ?_; rintro e w3 ⟨kA, kn, kc, rfl, hc, hkn4, hb⟩; have HB3 := Lib.hid (HB2.out.trans (hb.mono HB2.out.size)); have HM3 := Lib.hid (HM2.out.below hb); have HK3 := Lib.hid (hc.weak (K' := fun _ => True) fun _ _ _ => trivial); have hkc := hc.cap; clear hb hc) | (go_at_call 31; refine (madeM_c x w3 hx).mono ?_; rintro e w4 ⟨mad, rfl, hm, hb⟩; have HB4 := Lib.hid (HB3.out.trans (hb.mono HB3.out.size)); have HM4 := Lib.hid (HM3.out.below hb); have HK4 := Lib.hid (HK3.out.below hb); have HX4 := Lib.hid hm; clear hb hm) | (go_at_call 23; refine (HP2.out w5 _ _ _ _ _ _ HM5.out HS5.out).mono ?_; rintro e w6 ⟨tA, tn, tc, rfl, hs, hb⟩; have HB6 := Lib.hid (HB5.out.trans (hb.mono HB5.out.size)); have HM6 := Lib.hid (HM5.out.below hb); have HK6 := Lib.hid (HK5.out.below hb); have HX6 := Lib.hid (HX5.out.below hb); have HS6 := Lib.hid (HS5.out.below hb); have HT6 := Lib.hid hs; clear hb hs) | (go_at_call 23; refine (HP1.out w4 (some fad) kA fn fc kn kc HM4.out HK4.out).mono ?_; rintro e w5 ⟨sA, sn, sc, rfl, hs, hb⟩; have HB5 := Lib.hid (HB4.out.trans (hb.mono HB4.out.size)); have HM5 := Lib.hid (HM4.out.below hb); have HK5 := Lib.hid (HK4.out.below hb); have HX5 := Lib.hid (HX4.out.below hb); have HS5 := Lib.hid hs; have hsc := hs.cap; have hsb := hs.big; clear hb hs) | (go_at_call 25; refine (sameInts_c _ _ sA tA sn sc tn tc _ _ w6 HS6.out HT6.out).mono ?_; rintro e w7 ⟨rfl, hb⟩; have HB7 := Lib.hid (HB6.out.trans (hb.mono HB6.out.size)); have HM7 := Lib.hid (HM6.out.below hb); have HK7 := Lib.hid (HK6.out.below hb); have HX7 := Lib.hid (HX6.out.below hb); have HS7 := Lib.hid (HS6.out.below hb); clear hb))
    have HMw := Lib.hid HM7.out
    have HKw := Lib.hid HK7.out
    have HXw := Lib.hid HX7.out
    have HSw := Lib.hid HS7.out
    have HBw := Lib.hid HB7.out
    generalize hww : w7 = ww at *
    clear hww
    go_loopw [15] (fun s15 wr => ∃ i : Nat, i ≤ kn ∧ s15 = .int .i64 i ∧ Below ww.heap.size ww wr) (fun s15 _ => kn - (intOf s15).toNat)
    case atStart => exact ⟨0, Nat.zero_le _, rfl, Below.refl _ _⟩
    case round =>
      obtain ⟨i, hi, rfl, hq⟩ := hrel
      obtain ⟨wo, rfl⟩ : ∃ wo : World, wo = wr := ⟨_, rfl⟩
      have HQ := Lib.hid hq
      clear hq
      by_cases hlt : i < kn
      · obtain ⟨ad, y, rfl, _, hy, hwy, hcy⟩ := (HKw.out.below HQ.out).at_ hlt
        have HY := Lib.hid hy
        have HCy := Lib.hid hcy
        clear hy hwy hcy
        go_wp2
        have hfi : (false = true ↔ y ∈ (litsF a 0).take 0) := by simp
        go_loopw [16, 17] (fun sf sk w5 => ∃ (k : Nat) (fb : Bool), k ≤ sn ∧ sk = .int .i64 k ∧ sf = .bool fb ∧ Below wo.heap.size wo w5 ∧ (fb = true ↔ y ∈ (litsF a 0).take k)) (fun _ sk _ => sn - (intOf sk).toNat)
        case atStart => exact ⟨0, false, Nat.zero_le _, rfl, rfl, Below.refl _ _, hfi⟩
        case round =>
          clear hfi
          obtain ⟨k, fb, hk, rfl, rfl, hq, hfb⟩ := hrel
          have HQ2 := Lib.hid hq
          have HFb := Lib.hid hfb
          have hcy := (HQ2.out.cell (lt_of_cell HCy.out)).trans HCy.out
          clear hq hfb
          by_cases hlk : k < sn
          · obtain ⟨ad2, z, rfl, _, hz, hwz, hcz⟩ := ((HSw.out.below HQ.out).below HQ2.out).at_ hlk
            have HZ := Lib.hid hz
            clear hz hwz
            cases fb
            · by_cases hzy : z = y
              · subst hzy
                go_wp2
                go_quiet (fail)
                go_wp2
                go_roundw
                case rel => exact ⟨k + 1, true, by omega, by go_num, rfl, below_drew HQ2.out _, by rw [take_snoc_of HZ.out]; simp⟩
                case measure => simp [intOf]; omega
              · have b1 : (z == y) = false := by simp [hzy]
                have HZn := Lib.hid hzy
                clear hzy
                go_wp2
                go_quiet (fail)
                go_wp2
                go_roundw
                case rel =>
                  refine ⟨k + 1, false, by omega, by go_num, rfl, below_drew HQ2.out _, ?_⟩
                  rw [take_snoc_of HZ.out, List.mem_append, List.mem_singleton, ← HFb.out]
                  constructor
                  · intro h; cases h
                  · rintro (h | h)
                    · exact h
                    · exact absurd h.symm HZn.out
                case measure => simp [intOf]; omega
            · go_wp2
              go_quiet (fail)
              go_wp2
              go_roundw
              case rel => exact ⟨k + 1, true, by omega, by go_num, rfl, below_drew HQ2.out _, by rw [take_snoc_of HZ.out]; simp [HFb.out.1 (by trivial)]⟩
              case measure => simp [intOf]; omega
          · obtain rfl : k = sn := by omega
            have hfin := HFb.out
            rw [List.take_of_length_le (by have := HSw.out.len; omega)] at hfin
            obtain rfl : fb = true := hfin.2 (HIn.out y (List.mem_of_getElem? HY.out))
            clear hfin
            go_wp2
            go_roundw
            case rel => exact ⟨i + 1, by omega, by go_num, HQ.out.trans (HQ2.out.mono HQ.out.size)⟩
            case measure => simp [intOf]; omega
      · have HMo2 := Lib.hid (HMw.out.below HQ.out)
        have HXo2 := Lib.hid (HXw.out.below HQ.out)
        have HHc := Lib.hid (holds_c _ _ (some fad) (some mad) fn fc 4 4 (madeF f) (madeM x) wo HMo2.out HXo2.out)
        cases hh : holdsB (madeF f) (madeM x)
        · rw [hh] at HHc
          clear hh
          go_wp2_with (go_at_call 20; refine HHc.out.mono ?_; rintro e w8 ⟨rfl, hb⟩; have HB8 := Lib.hid (HBw.out.trans ((HQ.out.trans (hb.mono HQ.out.size)).mono HBw.out.size)); clear hb)
          go_ret
          exact ⟨rfl, HB8.out⟩
        · rw [hh] at HHc
          have HMd := Lib.hid (HMo.out hh)
          clear hh
          go_wp2_with (go_at_call 20; refine HHc.out.mono ?_; rintro e w8 ⟨rfl, hb⟩; have HB8 := Lib.hid (HBw.out.trans ((HQ.out.trans (hb.mono HQ.out.size)).mono HBw.out.size)); have HK8 := Lib.hid ((HKw.out.below HQ.out).below hb); have HX8 := Lib.hid (HXo2.out.below hb); have HS8 := Lib.hid ((HSw.out.below HQ.out).below hb); clear hb)
          have HA0 := Lib.hid (show ∀ y ∈ (madeC l).take 0, litB (madeM x) y = true by simp)
          go_loop [18] (fun s18 => ∃ v : Nat, v ≤ kn ∧ s18 = .int .i64 v ∧ Hid (∀ y ∈ (madeC l).take v, litB (madeM x) y = true)) (fun s18 => kn - (intOf s18).toNat)
          case atStart => exact ⟨0, Nat.zero_le _, rfl, HA0⟩
          case round =>
            clear HA0
            obtain ⟨v, hv, rfl, HA⟩ := hrel
            by_cases hlv : v < kn
            · obtain ⟨ad, y, rfl, _, hy, hwy, hcy⟩ := HK8.out.at_ hlv
              obtain ⟨u0, u1, u2⟩ := wi_facts (List.all_eq_true.1 (madeC_wi l) y (List.mem_of_getElem? hy))
              have HY := Lib.hid hy
              have HT := Lib.hid (rtrue_c _ (some mad) 4 4 (madeM x) y w8 HX8.out u0 u1 u2)
              clear hy hwy
              cases hb : litB (madeM x) y
              · rw [hb] at HT
                clear hb
                go_wp2_with (go_at_call 34; refine HT.out.mono ?_; rintro e wq ⟨rfl, rfl⟩)
                go_ret
                exact ⟨rfl, HB8.out⟩
              · rw [hb] at HT
                have HTy := Lib.hid hb
                clear hb
                go_wp2_with (go_at_call 34; refine HT.out.mono ?_; rintro e wq ⟨rfl, rfl⟩)
                go_round
                case rel =>
                  refine ⟨v + 1, by omega, by go_num, fun z hz => ?_⟩
                  rw [take_snoc_of HY.out] at hz
                  rcases List.mem_append.1 hz with h | h
                  · exact HA.out z h
                  · simp only [List.mem_singleton] at h; rw [h]; exact HTy.out
                case measure => simp [intOf]; omega
            · have HAg := Lib.hid (show Agrees (madeM x) (madeC l) by
                have := HA.out
                rw [List.take_of_length_le (by have := HK8.out.len; omega)] at this
                exact this)
              clear HA
              have HAll := Lib.hid (show ∀ y ∈ litsF a 0, wi 4 y = true ∧ litB (madeM x) y = true by
                obtain ⟨a', e, _, _, h⟩ := HMd.out HAg.out
                rw [HSa.out] at e
                cases e
                exact h)
              go_wp2
              go_loop [19] (fun s19 => ∃ v : Nat, v ≤ sn ∧ s19 = .int .i64 v) (fun s19 => sn - (intOf s19).toNat)
              case atStart => exact ⟨0, Nat.zero_le _, rfl⟩
              case round =>
                obtain ⟨v, hv, rfl⟩ := hrel
                by_cases hlv : v < sn
                · obtain ⟨ad, y, rfl, _, hy, hwy, hcy⟩ := HS8.out.at_ hlv
                  obtain ⟨hy1, hy2⟩ := HAll.out y (List.mem_of_getElem? hy)
                  obtain ⟨u0, u1, u2⟩ := wi_facts hy1
                  have HW := Lib.hid (rwithin_c y 4 w8 ⟨by omega, by omega⟩)
                  have HT := Lib.hid (rtrue_c _ (some mad) 4 4 (madeM x) y w8 HX8.out u0 u1 u2)
                  rw [hy1] at HW
                  rw [hy2] at HT
                  clear hy hwy hy1 hy2
                  go_wp2_with (first | (go_at_call 35; refine HW.out.mono ?_; rintro e wq ⟨rfl, rfl⟩) | (go_at_call 34; refine HT.out.mono ?_; rintro e wq ⟨rfl, rfl⟩))
                  go_round
                  case rel => exact ⟨v + 1, by omega, by go_num⟩
                  case measure => simp [intOf]; omega
                · go_wp2
                  go_ret
                  exact ⟨rfl, HB8.out⟩
  | none =>
    have HSa := Lib.hid hsa
    have HP1 := Lib.hid fun W fA kA fn fc kn kc (h : R2 W (fun _ => True) fA fn fc (madeF f)) (h' : R1 W (fun _ => True) kA kn kc (madeC l)) => propagate23_c _ _ fA kA fn fc kn kc (madeF f) (madeC l) W h h'
    rw [propagate_none hsa] at HP1
    have HP2 := Lib.hid fun W fA kA fn fc kn kc (h : R2 W (fun _ => True) fA fn fc (madeF f)) (h' : R1 W (fun _ => True) kA kn kc ([] : List Int)) => propagate23_c _ _ fA kA fn fc kn kc (madeF f) [] W h h'
    clear hsa hlw16 hv16
    go_enter Try.func10, Try.ntmps10
    go_wp2_with (first | (go_at_call 15; refine (sanity_c _).mono ?_; rintro e w1 ⟨rfl, hb⟩; have HB1 := Lib.hid hb; clear hb) | (go_at_call 30; refine (madeF_c _ A n c f _ (HF.out.below HB1.out)).mono ?_; rintro e w2 ⟨fad, fn, fc, rfl, hf, hn12, hb⟩; have HB2 := Lib.hid (HB1.out.trans (hb.mono HB1.out.size)); have HM2 := Lib.hid (hf.weak (K' := fun _ => True) fun _ _ _ => trivial); have hfc := hf.cap; clear hb hf) | (go_at_call 33; refine (madeC_c _ lA ln lc l w2 (HL.out.below HB2.out)).mono ?_; rintro e w3 ⟨kA, kn, kc, rfl, hc, hkn4, hb⟩; have HB3 := Lib.hid (HB2.out.trans (hb.mono HB2.out.size)); have HM3 := Lib.hid (HM2.out.below hb); have HK3 := Lib.hid (hc.weak (K' := fun _ => True) fun _ _ _ => trivial); have hkc := hc.cap; clear hb hc) | (go_at_call 31; refine (madeM_c x w3 hx).mono ?_; rintro e w4 ⟨mad, rfl, hm, hb⟩; have HB4 := Lib.hid (HB3.out.trans (hb.mono HB3.out.size)); have HM4 := Lib.hid (HM3.out.below hb); have HK4 := Lib.hid (HK3.out.below hb); have HX4 := Lib.hid hm; clear hb hm) | (go_at_call 23; refine (HP2.out w5 _ _ _ _ _ _ HM5.out HS5.out).mono ?_; rintro e w6 ⟨tA, tn, tc, rfl, hs, hb⟩; have HB6 := Lib.hid (HB5.out.trans (hb.mono HB5.out.size)); have HM6 := Lib.hid (HM5.out.below hb); have HK6 := Lib.hid (HK5.out.below hb); have HX6 := Lib.hid (HX5.out.below hb); have HS6 := Lib.hid (HS5.out.below hb); have HT6 := Lib.hid hs; clear hb hs) | (go_at_call 23; refine (HP1.out w4 (some fad) kA fn fc kn kc HM4.out HK4.out).mono ?_; rintro e w5 ⟨sA, sn, sc, rfl, hs, hb⟩; have HB5 := Lib.hid (HB4.out.trans (hb.mono HB4.out.size)); have HM5 := Lib.hid (HM4.out.below hb); have HK5 := Lib.hid (HK4.out.below hb); have HX5 := Lib.hid (HX4.out.below hb); have HS5 := Lib.hid hs; have hsc := hs.cap; have hsb := hs.big; have hsn0 : sn ≤ 0 := (by have h8 : ([] : List Int).length = sn := hs.len; simp at h8; omega); have hsd : decide (0 < sn) = false := decide_eq_false (by omega); have hsd2 : decide (0 < (sn : Int)) = false := decide_eq_false (by omega); clear hb hs) | (go_at_call 25; refine (sameInts_c _ _ sA tA sn sc tn tc _ _ w6 HS6.out HT6.out).mono ?_; rintro e w7 ⟨rfl, hb⟩; have HB7 := Lib.hid (HB6.out.trans (hb.mono HB6.out.size)); have HM7 := Lib.hid (HM6.out.below hb); have HK7 := Lib.hid (HK6.out.below hb); have HX7 := Lib.hid (HX6.out.below hb); have HS7 := Lib.hid (HS6.out.below hb); clear hb))
    have HMw := Lib.hid HM6.out
    have HKw := Lib.hid HK6.out
    have HXw := Lib.hid HX6.out
    have HSw := Lib.hid HS6.out
    have HBw := Lib.hid HB6.out
    generalize hww : w6 = ww at *
    clear hww
    go_loopw [15] (fun s15 wr => ∃ i : Nat, i ≤ kn ∧ s15 = .int .i64 i ∧ Below ww.heap.size ww wr) (fun s15 _ => kn - (intOf s15).toNat)
    case atStart => exact ⟨0, Nat.zero_le _, rfl, Below.refl _ _⟩
    case round =>
      obtain ⟨i, hi, rfl, hq⟩ := hrel
      obtain ⟨wo, rfl⟩ : ∃ wo : World, wo = wr := ⟨_, rfl⟩
      have HQ := Lib.hid hq
      clear hq
      by_cases hlt : i < kn
      · obtain ⟨ad, y, rfl, _, hy, hwy, hcy⟩ := (HKw.out.below HQ.out).at_ hlt
        have HY := Lib.hid hy
        have HCy := Lib.hid hcy
        clear hy hwy hcy
        go_wp2
        have hfi : (false = true ↔ y ∈ ([] : List Int).take 0) := by simp
        go_loopw [16, 17] (fun sf sk w5 => ∃ (k : Nat) (fb : Bool), k ≤ sn ∧ sk = .int .i64 k ∧ sf = .bool fb ∧ Below wo.heap.size wo w5 ∧ (fb = true ↔ y ∈ ([] : List Int).take k)) (fun _ sk _ => sn - (intOf sk).toNat)
        case atStart => exact ⟨0, false, Nat.zero_le _, rfl, rfl, Below.refl _ _, hfi⟩
        case round =>
          clear hfi
          obtain ⟨k, fb, hk, rfl, rfl, hq, hfb⟩ := hrel
          have HQ2 := Lib.hid hq
          have HFb := Lib.hid hfb
          have hcy := (HQ2.out.cell (lt_of_cell HCy.out)).trans HCy.out
          clear hq hfb
          by_cases hlk : k < sn
          · exact absurd hlk (by omega)
          · obtain rfl : k = sn := by omega
            have hfin := HFb.out
            rw [List.take_of_length_le (by have := HSw.out.len; omega)] at hfin
            clear hfin
            go_wp2
            go_roundw
            case rel => exact ⟨i + 1, by omega, by go_num, HQ.out.trans (HQ2.out.mono HQ.out.size)⟩
            case measure => simp [intOf]; omega
      · have HMo2 := Lib.hid (HMw.out.below HQ.out)
        have HXo2 := Lib.hid (HXw.out.below HQ.out)
        have HHc := Lib.hid (holds_c _ _ (some fad) (some mad) fn fc 4 4 (madeF f) (madeM x) wo HMo2.out HXo2.out)
        cases hh : holdsB (madeF f) (madeM x)
        · rw [hh] at HHc
          clear hh
          go_wp2_with (go_at_call 20; refine HHc.out.mono ?_; rintro e w8 ⟨rfl, hb⟩; have HB8 := Lib.hid (HBw.out.trans ((HQ.out.trans (hb.mono HQ.out.size)).mono HBw.out.size)); clear hb)
          go_ret
          exact ⟨rfl, HB8.out⟩
        · rw [hh] at HHc
          have HMd := Lib.hid (HMo.out hh)
          clear hh
          go_wp2_with (go_at_call 20; refine HHc.out.mono ?_; rintro e w8 ⟨rfl, hb⟩; have HB8 := Lib.hid (HBw.out.trans ((HQ.out.trans (hb.mono HQ.out.size)).mono HBw.out.size)); have HK8 := Lib.hid ((HKw.out.below HQ.out).below hb); have HX8 := Lib.hid (HXo2.out.below hb); have HS8 := Lib.hid ((HSw.out.below HQ.out).below hb); clear hb)
          have HA0 := Lib.hid (show ∀ y ∈ (madeC l).take 0, litB (madeM x) y = true by simp)
          go_loop [18] (fun s18 => ∃ v : Nat, v ≤ kn ∧ s18 = .int .i64 v ∧ Hid (∀ y ∈ (madeC l).take v, litB (madeM x) y = true)) (fun s18 => kn - (intOf s18).toNat)
          case atStart => exact ⟨0, Nat.zero_le _, rfl, HA0⟩
          case round =>
            clear HA0
            obtain ⟨v, hv, rfl, HA⟩ := hrel
            by_cases hlv : v < kn
            · obtain ⟨ad, y, rfl, _, hy, hwy, hcy⟩ := HK8.out.at_ hlv
              obtain ⟨u0, u1, u2⟩ := wi_facts (List.all_eq_true.1 (madeC_wi l) y (List.mem_of_getElem? hy))
              have HY := Lib.hid hy
              have HT := Lib.hid (rtrue_c _ (some mad) 4 4 (madeM x) y w8 HX8.out u0 u1 u2)
              clear hy hwy
              cases hb : litB (madeM x) y
              · rw [hb] at HT
                clear hb
                go_wp2_with (go_at_call 34; refine HT.out.mono ?_; rintro e wq ⟨rfl, rfl⟩)
                go_ret
                exact ⟨rfl, HB8.out⟩
              · rw [hb] at HT
                have HTy := Lib.hid hb
                clear hb
                go_wp2_with (go_at_call 34; refine HT.out.mono ?_; rintro e wq ⟨rfl, rfl⟩)
                go_round
                case rel =>
                  refine ⟨v + 1, by omega, by go_num, fun z hz => ?_⟩
                  rw [take_snoc_of HY.out] at hz
                  rcases List.mem_append.1 hz with h | h
                  · exact HA.out z h
                  · simp only [List.mem_singleton] at h; rw [h]; exact HTy.out
                case measure => simp [intOf]; omega
            · have HAg := Lib.hid (show Agrees (madeM x) (madeC l) by
                have := HA.out
                rw [List.take_of_length_le (by have := HK8.out.len; omega)] at this
                exact this)
              clear HA
              exfalso
              obtain ⟨a', e, _⟩ := HMd.out HAg.out
              rw [HSa.out] at e
              cases e

theorem propagation_sound_holds : Rows.ClausePropagationIsSoundSaid :=
  OpenClaim.holds_of_wide 10 Try.f10 rfl rfl rfl rfl rfl rfl rfl ⟨rfl, rfl, rfl, rfl, rfl⟩ rfl rfl rfl rfl rfl (by kernel_rfl) Try.func10 (by kernel_rfl)
    (of_decide_eq_true (by kernel_rfl)) (by unfold Func.isWrapper; rw [if_neg (of_decide_eq_false (by kernel_rfl))]; exact ⟨rfl, rfl⟩)
    (fun os started H enc _ => law_lifted (s := Rows.clausePropagationIsSoundSpec) (ts := [22, 32, 5]) os started (by kernel_rfl) Try.func10 (by rw [Try.params10]) (by kernel_rfl) rfl
      (fun ds hd => by
        match ds, hd with
        | [d0, d1, d2], _ => rfl)
      (by intro t ht; simp only [List.mem_cons, List.not_mem_nil, or_false] at ht; rcases ht with rfl | rfl | rfl <;> exact ⟨by kernel_rfl, of_decide_eq_true (by kernel_rfl)⟩)
      (ChangeSpec.witness6 (enc := enc) (C := Try.checked) false ⟨#[], #[.slice none 0 0, .slice none 0 0, .int .u8 0], []⟩ 8 (by kernel_rfl) (by kernel_rfl) (by kernel_rfl) (by kernel_rfl))
      (fun W args hok => by
        match hargs : args.toList, hok with
        | [v0, v1, v2], ⟨h0, h1, h2, _⟩ =>
          obtain ⟨A0, n0, c0, f0, rfl, r0⟩ := h0.1 rfl
          obtain ⟨A1, n1, c1, f1, rfl, r1⟩ := h1.2.1 rfl
          obtain ⟨x2, rfl, r2⟩ := h2.2.2.2.2 rfl
          have : args = #[.slice A0 n0 c0, .slice A1 n1 c1, .int .u8 x2] := by cases args; simp_all
          rw [this]
          exact law10_walk A0 n0 c0 f0 A1 n1 c1 f1 x2 W r0 r1 r2))

#print axioms propagation_sound_holds
end Go.Proofs.Ytekbkdbmkjdgbaa
