/- The walk of the reference's Check. -/
import Derived.Test.YtekbkdbmkjdgbaaW11
import Derived.Test.YtekbkdbmkjdgbaaW15
import Derived.Test.YtekbkdbmkjdgbaaL4
import Derived.Test.YtekbkdbmkjdgbaaP6
namespace Go.Proofs.Ytekbkdbmkjdgbaa
open Go.RowKit

set_option maxHeartbeats 1000000 in
/-- the reference's 'Check': it answers as the program's does -/
theorem rcheck_c (K K' : Nat → Prop) (A pA : Option Addr) (n c pn pc : Nat) (f p : List (List Int)) (m : Int) (w : World) (h : R2 w K A n c f) (h' : R2 w K' pA pn pc p) (hm1 : -9223372036854775808 ≤ m) (hm2 : m ≤ 9223372036854775807) (hpn : pn ≤ 1000000) :
    Calls Try.prog 27 #[.slice A n c, .int .i64 m, .slice pA pn pc] w (Gives w (.bool (checkF f m p))) := by
  have HV := Lib.hid (rvalid_c K A n c f m w h hm1 hm2)
  have HLf := Lib.hid h.len
  have HLp := Lib.hid h'.len
  cases hv : validB f m
  · rw [hv] at HV
    have hs : checkF f m p = false := by rw [checkF, hv]; rfl
    rw [hs]
    clear hs hv h h'
    go_enter Try.func27, Try.ntmps27
    go_wp2_with (go_at_call 19; refine HV.out.mono ?_; rintro e w1 ⟨rfl, rfl⟩)
    go_ret
    exact ⟨rfl, Below.refl _ _⟩
  · rw [hv] at HV
    have hv1 := hv
    simp only [validB, Bool.and_eq_true, decide_eq_true_eq] at hv1
    obtain ⟨hv0, hv16, hv200, _⟩ := hv1
    have hn200 : n ≤ 200 := by have := HLf.out; omega
    have HVl := Lib.hid (valid_le hv)
    have hck : checkF f m p = (p.getLast?.any (·.isEmpty) && checkFrom m f p) := by rw [checkF, hv]; rfl
    rw [hck]
    clear hv hv200 hck
    by_cases hp0 : pn = 0
    · subst hp0
      have hp : p = [] := List.eq_nil_of_length_eq_zero HLp.out
      subst hp
      clear h h'
      go_enter Try.func27, Try.ntmps27
      go_wp2_with (go_at_call 19; refine HV.out.mono ?_; rintro e w1 ⟨rfl, rfl⟩)
      go_ret
      exact ⟨rfl, Below.refl _ _⟩
    · have d0 : ((pn : Int) == 0) = false := by simp; omega
      have d0' : (pn == 0) = false := by simp; omega
      obtain ⟨ad, x, xA, xn, xc, rfl, _, hx, hcell, hx1⟩ := h'.at_ (k := pn - 1) (by omega)
      have hlast : p.getLast? = some x := by rw [List.getLast?_eq_getElem?, HLp.out]; exact hx
      have hxl := hx1.len
      by_cases hx0 : 0 < xn
      · have hs : (p.getLast?.any (·.isEmpty) && checkFrom m f p) = false := by
          rw [hlast]
          cases x with
          | nil => simp at hxl; omega
          | cons y ys => rfl
        rw [hs]
        have d1 : decide (0 < xn) = true := by simp; omega
        clear hs h h' hx hx1 hlast hxl
        go_enter Try.func27, Try.ntmps27
        go_wp2_with (go_at_call 19; refine HV.out.mono ?_; rintro e w1 ⟨rfl, rfl⟩)
        go_ret
        exact ⟨rfl, Below.refl _ _⟩
      · obtain rfl : xn = 0 := by omega
        have hs : (p.getLast?.any (·.isEmpty) && checkFrom m f p) = checkFrom m f p := by
          rw [hlast]
          cases x with
          | nil => rfl
          | cons y ys => simp at hxl
        rw [hs]
        generalize hr : checkFrom m f p = r
        have Hr := Lib.hid hr
        have hK := h.weak (K' := fun k => k < w.heap.size) fun k hk _ => hk
        have hK' := h'.weak (K' := fun k => k < w.heap.size) fun k hk _ => hk
        have HK' := Lib.hid hK'
        obtain ⟨us0, hsl0, hall0⟩ := hK.ex
        have hb0 : Below w.heap.size w (w.alloc (.cells #[] 32)) := (Below.refl _ _).alloc (Nat.le_refl _) _
        have HSl := Lib.hid (hsl0.old (Old.of_below hb0))
        have HAl := Lib.hid hall0
        have HLu := Lib.hid (show us0.length = n by rw [hall0.1]; exact HLf.out)
        clear hs h h' hx hx1 hlast hxl hr hK hK' hsl0 hall0 hb0
        go_enter Try.func27, Try.ntmps27
        go_wp2_with (first | (go_at_call 19; refine HV.out.mono ?_; rintro e w1 ⟨rfl, rfl⟩) | (at_builtin; refine wpList_appendSl rfl (.tmp 32) (.tmp 33) 22 rfl app22 w.heap.size (some ⟨w.heap.size, 0, none⟩) 0 0 [] rfl (Own.lit 32 #[] 0 (Nat.le_refl _) (by omega) rfl) A n c us0 rfl HLu.out HSl.out HAl.out.one (by omega) (by omega) (by simp) ?_; intro A2 c2 w2 hown hgr hob; have HO2 := Lib.hid (show Own w2 w.heap.size 32 A2 n c2 us0 by simpa using hown); have HB2 := Lib.hid (((Below.refl w.heap.size w).alloc (Nat.le_refl _) _).grown hgr (by simp) (fun k hk => by cases hk; exact Nat.le_refl _)); clear hown hgr hob))
        have HKn := Lib.hid (show KnRel w w2 f p m r 0 A2 n c2 from ⟨HB2.out, ⟨us0, HO2.out, by simpa using HAl.out.old (Old.of_below HB2.out)⟩, by have := HLf.out; omega, by simpa using Hr.out, by simpa using HVl.out⟩)
        clear HO2 HB2 HAl HSl HLu HV
        go_loopw [7, 8] (fun s7 s8 wr => ∃ (k : Nat) (A1 : Option Addr) (n1 c1 : Nat), k ≤ pn ∧ s8 = .int .i64 k ∧ s7 = .slice A1 n1 c1 ∧ KnRel w wr f p m r k A1 n1 c1) (fun _ s8 _ => pn - (intOf s8).toNat)
        case atStart => exact ⟨0, A2, n, c2, Nat.zero_le _, rfl, rfl, HKn.out⟩
        case round =>
          clear HKn hcell
          obtain ⟨k, A1, n1, c1, hk, rfl, rfl, hq⟩ := hrel
          obtain ⟨wo, rfl⟩ : ∃ wo : World, wo = wr := ⟨_, rfl⟩
          have HQ := Lib.hid hq
          clear hq
          by_cases hlt : k < pn
          · obtain ⟨ad', x, xA', xn, xc', had, _, hx, hcell, hx1⟩ := (HK'.out.below HQ.out.below).at_ hlt
            cases had
            have HX := Lib.hid hx
            have HX1 := Lib.hid hx1
            have HXL := Lib.hid hx1.len
            have hb1 := hx1.big
            have hb2 := hx1.cap
            have HC := Lib.hid hcell
            have HWn := Lib.hid (rall_c _ xA' xn xc' x m wo hx1 ⟨hv0, hv16⟩)
            clear hx hx1
            by_cases h16 : 16 < xn
            · have d1 : decide (16 < xn) = true := by simp; omega
              have d2 : decide (16 < (xn : Int)) = true := by simp; omega
              go_wp2
              go_ret
              exact ⟨ret_bool (check_false HX.out HQ.out.rest (by rw [checkStep, HXL.out, decide_eq_false (by omega)]; rfl)).symm, HQ.out.below⟩
            · have d1 : decide (16 < xn) = false := by simp; omega
              have d2 : decide (16 < (xn : Int)) = false := by simp; omega
              cases hw : x.all (wi m)
              · rw [hw] at HWn
                have HW := Lib.hid hw
                clear hw
                go_wp2_with (go_at_call 44; refine HWn.out.mono ?_; rintro e w3 ⟨rfl, rfl⟩)
                go_ret
                exact ⟨ret_bool (check_false HX.out HQ.out.rest (by rw [checkStep, HW.out]; simp)).symm, HQ.out.below⟩
              · rw [hw] at HWn
                have HW := Lib.hid hw
                have HW16 := Lib.hid (wi_le hw hv16)
                clear hw
                go_wp2_with (go_at_call 44; refine HWn.out.mono ?_; rintro e w3 ⟨rfl, rfl⟩)
                have HN0 := Lib.hid (show NegRel wo (wo.alloc (.cells #[] 3)) x 0 (some ⟨wo.heap.size, 0, none⟩) 0 from ⟨(Below.refl _ _).alloc (Nat.le_refl _) _, Own.lit 3 #[] 0 (Nat.le_refl _) (by omega) rfl⟩)
                clear hcell
                generalize (some (⟨wo.heap.size, 0, none⟩ : Addr)) = C0 at *
                go_loopw [9, 10] (fun s9 s10 w4 => ∃ (j : Nat) (A0 : Option Addr) (c0 : Nat), j ≤ xn ∧ s10 = .int .i64 j ∧ s9 = .slice A0 j c0 ∧ NegRel wo w4 x j A0 c0) (fun _ s10 _ => xn - (intOf s10).toNat)
                case atStart => exact ⟨0, C0, 0, Nat.zero_le _, rfl, rfl, HN0.out⟩
                case round =>
                  clear HN0
                  obtain ⟨j, A0, c0, hj, rfl, rfl, hn⟩ := hrel
                  have HN := Lib.hid hn
                  have hn0c := hn.own.cap
                  have hc4 : wr.cell? (ad.add k) = some (.slice xA' xn xc') := (hn.below.cell (lt_of_cell HC.out)).trans HC.out
                  clear hn
                  by_cases hlj : j < xn
                  · obtain ⟨ad2, y, rfl, _, hy, hwy, hcy⟩ := (HX1.out.below HN.out.below).at_ hlj
                    obtain ⟨v0, v1, v2⟩ := wi_facts (all_mem HW16.out hy)
                    have HY := Lib.hid hy
                    clear hy hwy
                    go_wp2_with (at_builtin; refine wpList_push rfl (.tmp 66) (.tmp 75) 32 rfl app32 wo.heap.size A0 j c0 ((negs (x.take j)).map (Value.int .i64)) rfl (HN.out.own.alloc _) _ (.int .i64 (-y)) rfl ((Blk.new _ 3 _).cell 0) rfl (by omega) (by omega) (by have := HN.out.below.size; simp; omega) ?_; intro A5 c5 w7 hown hgr hob; have HO := Lib.hid hown; have HG := Lib.hid hgr; clear hown hgr hob)
                    go_roundw
                    case rel =>
                      refine ⟨j + 1, A5, c5, by omega, by go_num, rfl, ?_, by rw [negs_snoc HY.out]; exact HO.out⟩
                      exact (HN.out.below.alloc HN.out.below.size _).grown HG.out (by have := HN.out.below.size; simp; omega) (fun g hg => (HN.out.own.lt g hg).1)
                    case measure => simp [intOf]; omega
                  · obtain rfl : xn = j := by omega
                    have hst : R1 wr (fun _ => True) A0 xn c0 (negs x) := by
                      have ho := HN.out.own
                      rw [List.take_of_length_le (by have := HXL.out; omega)] at ho
                      exact ho.r1 (fun _ _ => trivial) (by omega) (negs_wf HW16.out)
                    have HBi := Lib.hid HN.out.below
                    obtain ⟨us', kn1, kn2⟩ := HQ.out.own
                    have HK1 := Lib.hid kn1
                    have HKa := Lib.hid kn2
                    have hle : n1 ≤ 1000300 := by have := HQ.out.len; have := HLp.out; have := HLf.out; omega
                    have hkcap := kn1.cap
                    clear kn1 kn2
                    have hkr : R2 wo (fun _ => True) A1 n1 c1 (f ++ p.take k) := HK1.out.r2 (fun _ _ => trivial) (by omega) (HKa.out.weak fun _ _ _ => trivial)
                    have HCl := Lib.hid (clos_c (fun _ => True) (fun _ => True) A1 A0 n1 c1 xn c0 (f ++ p.take k) (negs x) wr (hkr.below HBi.out) hst HQ.out.ok (negs_wi HW16.out))
                    have hcs : checkStep (f ++ p.take k) m x = (closF (f ++ p.take k) (negs x)).isNone := by
                      rw [checkStep, HW.out, HXL.out, decide_eq_true (by omega), clos_none (Lits.of_all HQ.out.ok) (negs_wi HW16.out)]; rfl
                    have HCS := Lib.hid hcs
                    clear hcs hst hkr HWn
                    generalize closF (f ++ p.take k) (negs x) = rb at *
                    cases rb with
                    | some s =>
                      go_wp2_with (go_at_call 51; refine HCl.out.mono ?_; rintro e w5 ⟨sA, sn, sc, rfl, hs, hs17, hb⟩; have HB5 := Lib.hid (HBi.out.trans (hb.mono HBi.out.size)); clear hb hs hs17)
                      go_ret
                      exact ⟨ret_bool (check_false HX.out HQ.out.rest (by rw [HCS.out]; rfl)).symm, HQ.out.below.trans (HB5.out.mono HQ.out.below.size)⟩
                    | none =>
                      go_wp2_with (first | (go_at_call 51; refine HCl.out.mono ?_; rintro e w5 ⟨rfl, hb⟩; have HB5 := Lib.hid (HBi.out.trans (hb.mono HBi.out.size)); have hc5 : w5.cell? (ad.add k) = some (.slice xA' xn xc') := (HB5.out.cell (lt_of_cell HC.out)).trans HC.out; clear hb) | (at_builtin; refine wpList_push rfl (.tmp 84) (.tmp 89) 22 rfl app22 w.heap.size A1 n1 c1 us' rfl ((HK1.out.below HB5.out).alloc _) w5.heap.size (.slice xA' xn xc') rfl ((Blk.new w5 32 _).cell 0) rfl (by omega) (by omega) (by have := HQ.out.below.size; have := HB5.out.size; simp; omega) ?_; intro A9 c9 w9 hown hgr hob; have HO9 := Lib.hid hown; have HG9 := Lib.hid hgr; clear hown hgr hob))
                      have hb9 : Below w.heap.size w w9 := ((HQ.out.below.trans (HB5.out.mono HQ.out.below.size)).alloc (by have := HQ.out.below.size; have := HB5.out.size; omega) _).grown HG9.out (by have := HQ.out.below.size; have := HB5.out.size; simp; omega) (fun g hg => (HK1.out.lt g hg).1)
                      have HB9 := Lib.hid hb9
                      have hold : Old (fun q => q < w.heap.size) w5 w9 := fun q hq hlt => by
                        rw [HG9.out.block q (by simp; omega) (fun e => by have := (HK1.out.lt q e.symm).1; omega), Below.heap_alloc _ _ _ hlt]
                      have HOld := Lib.hid hold
                      clear hb9 hold
                      go_roundw
                      case rel =>
                        refine ⟨k + 1, A9, n1 + 1, c9, by omega, by go_num, rfl, HB9.out, ⟨_, HO9.out, ?_⟩, by have := HQ.out.len; omega, check_next HX.out HQ.out.rest (by rw [HCS.out]; rfl), all_next HX.out HQ.out.ok HW16.out⟩
                        rw [take_snoc_of HX.out, ← List.append_assoc]
                        exact ((HKa.out.old (Old.of_below HB5.out)).old HOld.out).snoc ((show In1 w5 (fun q => q < w.heap.size) (.slice xA' xn xc') x from ⟨xA', xn, xc', rfl, HX1.out.below HB5.out⟩).old HOld.out)
                      case measure => simp [intOf]; omega
          · obtain rfl : k = pn := by omega
            go_wp2
            go_ret
            have h1 := HQ.out.rest
            rw [List.drop_eq_nil_of_le (by have := HLp.out; omega), checkFrom] at h1
            exact ⟨ret_bool h1, HQ.out.below⟩

end Go.Proofs.Ytekbkdbmkjdgbaa
