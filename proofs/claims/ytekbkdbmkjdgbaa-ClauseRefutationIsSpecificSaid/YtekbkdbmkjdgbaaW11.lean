/- The walk of Check. -/
import Derived.Test.YtekbkdbmkjdgbaaW7
import Derived.Test.YtekbkdbmkjdgbaaP2
import Derived.Test.YtekbkdbmkjdgbaaW8
namespace Go.Proofs.Ytekbkdbmkjdgbaa
open Go.RowKit

structure KnRel (w wr : World) (f p : List (List Int)) (n : Int) (r : Bool) (k : Nat) (A1 : Option Addr) (n1 c1 : Nat) : Prop where
  below : Below w.heap.size w wr
  own : ∃ us, Own wr w.heap.size 32 A1 n1 c1 us ∧ All1 wr (fun q => q < w.heap.size) us (f ++ p.take k)
  len : n1 = f.length + k
  rest : checkFrom n (f ++ p.take k) (p.drop k) = r
  ok : (f ++ p.take k).all (fun c => c.all (wi 16)) = true

theorem check_false {n : Int} {f p : List (List Int)} {k : Nat} {x : List Int} {r : Bool} (hx : p[k]? = some x) (h : checkFrom n (f ++ p.take k) (p.drop k) = r) (hs : checkStep (f ++ p.take k) n x = false) : r = false := by
  rw [← h, drop_cons_of hx, checkFrom, hs]; rfl
theorem check_next {n : Int} {f p : List (List Int)} {k : Nat} {x : List Int} {r : Bool} (hx : p[k]? = some x) (h : checkFrom n (f ++ p.take k) (p.drop k) = r) (hs : checkStep (f ++ p.take k) n x = true) : checkFrom n (f ++ p.take (k + 1)) (p.drop (k + 1)) = r := by
  rw [← h, drop_cons_of hx, checkFrom, hs, take_snoc_of hx, ← List.append_assoc]; rfl
theorem all_next {f p : List (List Int)} {k : Nat} {x : List Int} (hx : p[k]? = some x) (h : (f ++ p.take k).all (fun c => c.all (wi 16)) = true) (hs : x.all (wi 16) = true) : (f ++ p.take (k + 1)).all (fun c => c.all (wi 16)) = true := by
  rw [take_snoc_of hx, ← List.append_assoc, List.all_append, h]; simp [hs]

theorem wi_le {l : List Int} {m : Int} (h : l.all (wi m) = true) (hm : m ≤ 16) : l.all (wi 16) = true := by
  rw [List.all_eq_true] at h ⊢
  exact fun x hx => wi_mono (h x hx) hm
theorem valid_le {f : List (List Int)} {m : Int} (h : validB f m = true) : f.all (fun c => c.all (wi 16)) = true := by
  have h1 := valid_wi h
  simp only [validB, Bool.and_eq_true, decide_eq_true_eq] at h
  rw [List.all_eq_true] at h1 ⊢
  exact fun c hc => wi_le (h1 c hc) h.2.1
theorem negs_wf {x : List Int} (h : x.all (wi 16) = true) : ∀ y ∈ negs x, I64 y := fun y hy => by
  obtain ⟨z, hz, rfl⟩ := List.mem_map.1 hy
  obtain ⟨v0, v1, v2⟩ := wi_facts (List.all_eq_true.1 h z hz)
  unfold I64; omega

set_option maxHeartbeats 1000000 in
/-- 'Check'. -/
theorem check_c (K K' : Nat → Prop) (A pA : Option Addr) (n c pn pc : Nat) (f p : List (List Int)) (m : Int) (w : World) (h : R2 w K A n c f) (h' : R2 w K' pA pn pc p) (hm1 : -9223372036854775808 ≤ m) (hm2 : m ≤ 9223372036854775807) (hpn : pn ≤ 1000000) :
    Calls Try.prog 26 #[.slice A n c, .int .i64 m, .slice pA pn pc] w (Gives w (.bool (checkF f m p))) := by
  have HV := Lib.hid (valid_c K A n c f m w h hm1 hm2)
  have HLf := Lib.hid h.len
  have HLp := Lib.hid h'.len
  cases hv : validB f m
  · rw [hv] at HV
    have hs : checkF f m p = false := by rw [checkF, hv]; rfl
    rw [hs]
    clear hs hv h h'
    go_enter Try.func26, Try.ntmps26
    go_wp2_with (go_at_call 18; refine HV.out.mono ?_; rintro e w1 ⟨rfl, hb⟩; have HB1 := Lib.hid hb; clear hb)
    go_ret
    exact ⟨rfl, HB1.out⟩
  · rw [hv] at HV
    have hv1 := hv
    simp only [validB, Bool.and_eq_true, decide_eq_true_eq] at hv1
    obtain ⟨hv0, hv16, hv200, _⟩ := hv1
    have hn200 : n ≤ 200 := by have := HLf.out; omega
    have HVl := Lib.hid (valid_le hv)
    have hck : checkF f m p = (p.getLast?.any (·.isEmpty) && checkFrom m f p) := by rw [checkF, hv]; rfl
    rw [hck]
    clear hv hv200 hck
    by_cases hp0 : pn = 0
    · subst hp0
      have hp : p = [] := List.eq_nil_of_length_eq_zero HLp.out
      subst hp
      clear h h'
      go_enter Try.func26, Try.ntmps26
      go_wp2_with (go_at_call 18; refine HV.out.mono ?_; rintro e w1 ⟨rfl, hb⟩; have HB1 := Lib.hid hb; clear hb)
      go_ret
      exact ⟨rfl, HB1.out⟩
    · have d0 : ((pn : Int) == 0) = false := by simp; omega
      have d0' : (pn == 0) = false := by simp; omega
      obtain ⟨ad, x, xA, xn, xc, rfl, _, hx, hcell, hx1⟩ := h'.at_ (k := pn - 1) (by omega)
      have hlast : p.getLast? = some x := by rw [List.getLast?_eq_getElem?, HLp.out]; exact hx
      have hxl := hx1.len
      by_cases hx0 : 0 < xn
      · have hs : (p.getLast?.any (·.isEmpty) && checkFrom m f p) = false := by
          rw [hlast]
          cases x with
          | nil => simp at hxl; omega
          | cons y ys => rfl
        rw [hs]
        have d1 : decide (0 < xn) = true := by simp; omega
        have hcell' := fun (w1 : World) (hb : Below w.heap.size w w1) => (hb.cell (p := ad.add (pn - 1)) (lt_of_cell hcell)).trans hcell
        have HC := Lib.hid hcell'
        clear hs hcell hcell' h h' hx hx1 hlast hxl
        go_enter Try.func26, Try.ntmps26
        go_wp2_with fail
        refine HV.out.mono ?_
        rintro e w1 ⟨rfl, hb⟩
        have HB1 := Lib.hid hb
        have hc1 := HC.out w1 hb
        clear hb
        go_wp2
        go_ret
        exact ⟨rfl, HB1.out⟩
      · obtain rfl : xn = 0 := by omega
        have hs : (p.getLast?.any (·.isEmpty) && checkFrom m f p) = checkFrom m f p := by
          rw [hlast]
          cases x with
          | nil => rfl
          | cons y ys => simp at hxl
        rw [hs]
        generalize hr : checkFrom m f p = r
        have Hr := Lib.hid hr
        have hcell' := fun (w1 : World) (hb : Below w.heap.size w w1) => (hb.cell (p := ad.add (pn - 1)) (lt_of_cell hcell)).trans hcell
        have HC := Lib.hid hcell'
        have hK := h.weak (K' := fun k => k < w.heap.size) fun k hk _ => hk
        have hK' := h'.weak (K' := fun k => k < w.heap.size) fun k hk _ => hk
        have HK := Lib.hid hK
        have HK' := Lib.hid hK'
        clear hs hcell hcell' h h' hx hx1 hlast hxl hr hK hK'
        go_enter Try.func26, Try.ntmps26
        go_wp2_with fail
        refine HV.out.mono ?_
        rintro e w1 ⟨rfl, hb⟩
        have HB1 := Lib.hid hb
        have hc1 := HC.out w1 hb
        clear hb HC
        go_wp2_with fail
        refine (clone2_c (fun k => k < w.heap.size) A n c f w1 (HK.out.below HB1.out) (by omega)).mono ?_
        rintro e w2 ⟨A2, n2, c2, us, rfl, ho, ha, hb⟩
        have hln : n2 = f.length := by have := ho.len; have := ha.1; omega
        have HKn := Lib.hid (show KnRel w w2 f p m r 0 A2 n2 c2 from ⟨HB1.out.trans (hb.mono HB1.out.size), ⟨us, ⟨ho.1, by
            rcases ho.2 with h0 | ⟨g, cap, cur, h1, h2, h3⟩
            · exact .inl h0
            · exact .inr ⟨g, cap, cur, h1, by have := HB1.out.size; omega, h3⟩⟩, by simpa using ha⟩, by omega, by simpa using Hr.out, by simpa using HVl.out⟩)
        clear ho ha hb hc1 HV HB1 hln
        go_wp2
        go_loopw [7, 38] (fun s7 s38 wr => ∃ (k : Nat) (A1 : Option Addr) (n1 c1 : Nat), k ≤ pn ∧ s38 = .int .i64 k ∧ s7 = .slice A1 n1 c1 ∧ KnRel w wr f p m r k A1 n1 c1) (fun _ s38 _ => pn - (intOf s38).toNat)
        case atStart => exact ⟨0, A2, n2, c2, Nat.zero_le _, rfl, rfl, HKn.out⟩
        case round =>
          clear HKn
          obtain ⟨k, A1, n1, c1, hk, rfl, rfl, hq⟩ := hrel
          obtain ⟨wo, rfl⟩ : ∃ wo : World, wo = wr := ⟨_, rfl⟩
          have HQ := Lib.hid hq
          clear hq
          by_cases hlt : k < pn
          · obtain ⟨ad', x, xA', xn, xc', had, _, hx, hcell, hx1⟩ := (HK'.out.below HQ.out.below).at_ hlt
            cases had
            have HX := Lib.hid hx
            have HX1 := Lib.hid hx1
            have HXL := Lib.hid hx1.len
            have hb1 := hx1.big
            have hb2 := hx1.cap
            have HWn := Lib.hid (within_c _ xA' xn xc' x m wo hx1 ⟨hv0, hv16⟩)
            clear hx hx1
            by_cases h16 : 16 < xn
            · have d1 : decide (16 < xn) = true := by simp; omega
              have d2 : decide (16 < (xn : Int)) = true := by simp; omega
              go_wp2
              go_ret
              exact ⟨ret_bool (check_false HX.out HQ.out.rest (by rw [checkStep, HXL.out, decide_eq_false (by omega)]; rfl)).symm, HQ.out.below⟩
            · have d1 : decide (16 < xn) = false := by simp; omega
              have d2 : decide (16 < (xn : Int)) = false := by simp; omega
              cases hw : x.all (wi m)
              · rw [hw] at HWn
                have HW := Lib.hid hw
                clear hw
                go_wp2_with (go_at_call 43; refine HWn.out.mono ?_; rintro e w3 ⟨rfl, hb⟩; have HB3 := Lib.hid (HQ.out.below.trans (hb.mono HQ.out.below.size)); clear hb)
                go_ret
                exact ⟨ret_bool (check_false HX.out HQ.out.rest (by rw [checkStep, HW.out]; simp)).symm, HB3.out⟩
              · rw [hw] at HWn
                have HW := Lib.hid hw
                have HW16 := Lib.hid (wi_le hw hv16)
                clear hw
                go_wp2_with (go_at_call 43; refine HWn.out.mono ?_; rintro e w3 ⟨rfl, hb⟩; have HB3 := Lib.hid hb; clear hb)
                have HN0 := Lib.hid (show NegRel w3 w3 x 0 none 0 from ⟨Below.refl _ _, Own.nil_ _ _ _⟩)
                go_loopw [10, 53] (fun s10 s53 w4 => ∃ (j : Nat) (A0 : Option Addr) (c0 : Nat), j ≤ xn ∧ s53 = .int .i64 j ∧ s10 = .slice A0 j c0 ∧ NegRel w3 w4 x j A0 c0) (fun _ s53 _ => xn - (intOf s53).toNat)
                case atStart => exact ⟨0, none, 0, Nat.zero_le _, rfl, rfl, HN0.out⟩
                case round =>
                  clear HN0
                  obtain ⟨j, A0, c0, hj, rfl, rfl, hn⟩ := hrel
                  have HN := Lib.hid hn
                  clear hn
                  by_cases hlj : j < xn
                  · obtain ⟨ad2, y, rfl, _, hy, hwy, hcy⟩ := ((HX1.out.below HB3.out).below HN.out.below).at_ hlj
                    obtain ⟨v0, v1, v2⟩ := wi_facts (all_mem HW16.out hy)
                    have HY := Lib.hid hy
                    clear hy hwy
                    go_wp2_with (at_builtin; refine wpList_push rfl (.tmp 57) (.tmp 60) 32 rfl app32 w3.heap.size A0 j c0 ((negs (x.take j)).map (Value.int .i64)) rfl (HN.out.own.alloc _) _ (.int .i64 (-y)) rfl ((Blk.new _ 3 _).cell 0) rfl (by omega) (by omega) (by have := HN.out.below.size; simp; omega) ?_; intro A5 c5 w7 hown hgr hob; have HO := Lib.hid hown; have HG := Lib.hid hgr; clear hown hgr hob)
                    go_roundw
                    case rel =>
                      refine ⟨j + 1, A5, c5, by omega, by go_num, rfl, ?_, by rw [negs_snoc HY.out]; exact HO.out⟩
                      exact (HN.out.below.alloc HN.out.below.size _).grown HG.out (by have := HN.out.below.size; simp; omega) (fun g hg => (HN.out.own.lt g hg).1)
                    case measure => simp [intOf]; omega
                  · obtain rfl : xn = j := by omega
                    have hst : R1 wr (fun _ => True) A0 xn c0 (negs x) := by
                      have ho := HN.out.own
                      rw [List.take_of_length_le (by have := HXL.out; omega)] at ho
                      exact ho.r1 (fun _ _ => trivial) (by omega) (negs_wf HW16.out)
                    have HSt := Lib.hid hst
                    have HBi := Lib.hid (show Below wo.heap.size wo wr from HB3.out.trans (HN.out.below.mono HB3.out.size))
                    have HBg := Lib.hid (begin_c (fun _ => True) A0 xn c0 (negs x) wr hst (negs_wi HW16.out))
                    have hcs : checkStep (f ++ p.take k) m x = (startF (f ++ p.take k) (negs x)).isNone := by
                      rw [checkStep, HW.out, HXL.out, decide_eq_true (by omega)]; rfl
                    have hsf : startF (f ++ p.take k) (negs x) = match beginF (negs x) (negs x) zeros with
                      | none => none
                      | some a => propA (f ++ p.take k) a := by rw [startF] <;> rfl
                    rw [hsf] at hcs
                    have HCS := Lib.hid hcs
                    have hwf : ∀ a, beginF (negs x) (negs x) zeros = some a → Wf a := fun a e => beginF_wf Wf.zeros e
                    have HWF := Lib.hid hwf
                    clear hcs hst hsf HB3 HWn hwf
                    generalize beginF (negs x) (negs x) zeros = rb at *
                    go_wp2_with fail
                    refine HBg.out.mono ?_
                    rintro e w5 ⟨rfl, hb⟩
                    have HB5 := Lib.hid (HBi.out.trans (hb.mono HBi.out.size))
                    clear hb HBg
                    cases rb with
                    | none =>
                      obtain ⟨us', kn1, kn2⟩ := HQ.out.own
                      have HK1 := Lib.hid kn1
                      have HKa := Lib.hid kn2
                      have hle : n1 ≤ 1000300 := by have := HQ.out.len; have := HLp.out; have := HLf.out; omega
                      clear kn1 kn2
                      go_wp2_with (first | (refine wpList_store_fresh rfl 55 (.tmp 13) (.tmp 66) rfl rfl (pv zeros) _ 55 rfl rfl (size55 Wf.zeros) rfl (pv_one _) ?_; intro w6 hk6 hb hs; have HB6 := Lib.hid (HB5.out.trans (hb.mono HB5.out.size)); clear hk6 hb hs) | (at_builtin; refine wpList_push rfl (.tmp 76) (.tmp 78) 22 rfl app22 w.heap.size A1 n1 c1 us' rfl ((HK1.out.below HB6.out).alloc _) w6.heap.size (.slice xA' xn xc') rfl ((Blk.new w6 32 _).cell 0) rfl (by omega) (by omega) (by have := HQ.out.below.size; have := HB6.out.size; simp; omega) ?_; intro A9 c9 w9 hown hgr hob; have HO9 := Lib.hid hown; have HG9 := Lib.hid hgr; clear hown hgr hob))
                      have hb9 : Below w.heap.size w w9 := ((HQ.out.below.trans (HB6.out.mono HQ.out.below.size)).alloc (by have := HQ.out.below.size; have := HB6.out.size; omega) _).grown HG9.out (by have := HQ.out.below.size; have := HB6.out.size; simp; omega) (fun g hg => (HK1.out.lt g hg).1)
                      have HB9 := Lib.hid hb9
                      have hold : Old (fun q => q < w.heap.size) w6 w9 := fun q hq hlt => by
                        rw [HG9.out.block q (by simp; omega) (fun e => by have := (HK1.out.lt q e.symm).1; omega), Below.heap_alloc _ _ _ hlt]
                      have HOld := Lib.hid hold
                      clear hb9 hold
                      go_roundw
                      case rel =>
                        refine ⟨k + 1, A9, n1 + 1, c9, by omega, by go_num, rfl, HB9.out, ⟨_, HO9.out, ?_⟩, by have := HQ.out.len; omega, check_next HX.out HQ.out.rest (by rw [HCS.out]; rfl), all_next HX.out HQ.out.ok HW16.out⟩
                        rw [take_snoc_of HX.out, ← List.append_assoc]
                        exact ((HKa.out.old (Old.of_below HB6.out)).old HOld.out).snoc ((show In1 w6 (fun q => q < w.heap.size) (.slice xA' xn xc') x from ⟨xA', xn, xc', rfl, HX1.out.below HB6.out⟩).old HOld.out)
                      case measure => simp [intOf]; omega
                    | some a =>
                      have HWa := Lib.hid (HWF.out a rfl)
                      obtain ⟨us', kn1, kn2⟩ := HQ.out.own
                      have HK1 := Lib.hid kn1
                      have HKa := Lib.hid kn2
                      have hle : n1 ≤ 1000300 := by have := HQ.out.len; have := HLp.out; have := HLf.out; omega
                      clear kn1 kn2
                      have hkr : R2 wo (fun _ => True) A1 n1 c1 (f ++ p.take k) := HK1.out.r2 (fun _ _ => trivial) (by omega) (HKa.out.weak fun _ _ _ => trivial)
                      have HPr := Lib.hid fun W (hW : Below wo.heap.size wo W) => propagate_c (fun _ => True) A1 n1 c1 (f ++ p.take k) a W (hkr.below hW) HQ.out.ok HWa.out
                      clear hkr
                      go_wp2_with (first | (refine wpList_store_fresh rfl 55 (.tmp 13) (.tmp 66) rfl rfl (pv a) _ 55 rfl rfl (size55 HWa.out) (pv17 HWa.out) (pv_one _) ?_; intro w6 hk6 hb hs; have HB6 := Lib.hid (HB5.out.trans (hb.mono HB5.out.size)); have HK6 := Lib.hid hk6; clear hk6 hb hs) | (refine wpList_load_blk rfl 55 (.tmp 13) rfl w5.heap.size rfl 55 (pv a) _ HK6.out Try.underlying55 rfl (size55 HWa.out) ?_))
                      refine (HPr.out _ HB6.out).mono ?_
                      rintro e w7 ⟨rfl, hb⟩
                      have HB7 := Lib.hid (HB6.out.trans (hb.mono HB6.out.size))
                      clear hb HPr
                      generalize propA (f ++ p.take k) a = r2 at *
                      cases r2 with
                      | some a2 =>
                        go_wp2
                        go_ret
                        exact ⟨ret_bool (check_false HX.out HQ.out.rest (by rw [HCS.out]; rfl)).symm, HQ.out.below.trans (HB7.out.mono HQ.out.below.size)⟩
                      | none =>
                        go_wp2_with (at_builtin; refine wpList_push rfl (.tmp 76) (.tmp 78) 22 rfl app22 w.heap.size A1 n1 c1 us' rfl ((HK1.out.below HB7.out).alloc _) w7.heap.size (.slice xA' xn xc') rfl ((Blk.new w7 32 _).cell 0) rfl (by omega) (by omega) (by have := HQ.out.below.size; have := HB7.out.size; simp; omega) ?_; intro A9 c9 w9 hown hgr hob; have HO9 := Lib.hid hown; have HG9 := Lib.hid hgr; clear hown hgr hob)
                        have hb9 : Below w.heap.size w w9 := ((HQ.out.below.trans (HB7.out.mono HQ.out.below.size)).alloc (by have := HQ.out.below.size; have := HB7.out.size; omega) _).grown HG9.out (by have := HQ.out.below.size; have := HB7.out.size; simp; omega) (fun g hg => (HK1.out.lt g hg).1)
                        have HB9 := Lib.hid hb9
                        have hold : Old (fun q => q < w.heap.size) w7 w9 := fun q hq hlt => by
                          rw [HG9.out.block q (by simp; omega) (fun e => by have := (HK1.out.lt q e.symm).1; omega), Below.heap_alloc _ _ _ hlt]
                        have HOld := Lib.hid hold
                        clear hb9 hold
                        go_roundw
                        case rel =>
                          refine ⟨k + 1, A9, n1 + 1, c9, by omega, by go_num, rfl, HB9.out, ⟨_, HO9.out, ?_⟩, by have := HQ.out.len; omega, check_next HX.out HQ.out.rest (by rw [HCS.out]; rfl), all_next HX.out HQ.out.ok HW16.out⟩
                          rw [take_snoc_of HX.out, ← List.append_assoc]
                          exact ((HKa.out.old (Old.of_below HB7.out)).old HOld.out).snoc ((show In1 w7 (fun q => q < w.heap.size) (.slice xA' xn xc') x from ⟨xA', xn, xc', rfl, HX1.out.below HB7.out⟩).old HOld.out)
                        case measure => simp [intOf]; omega
          · obtain rfl : k = pn := by omega
            go_wp2
            go_ret
            have h1 := HQ.out.rest
            rw [List.drop_eq_nil_of_le (by have := HLp.out; omega), checkFrom] at h1
            exact ⟨ret_bool h1, HQ.out.below⟩

end Go.Proofs.Ytekbkdbmkjdgbaa
