/- Walks: Check. -/
import Derived.Test.YtjienelkjpodkaaL15
namespace Go.Proofs.Ytjienelkjpodkaa
open Go.RowKit

theorem rowsOk_valid {s : Sys} (hv : validS s = true) : RowsOk s.1.length s.2 := fun r hr => by
  have hs := valid_ok hv
  obtain ⟨h1, h2, h3, h4⟩ := hs.rows r hr
  exact ⟨h1, eachB_mono h2 (by decide) (by decide), by unfold large; omega, by unfold large; omega⟩
def lowR (n k : Nat) : List Row := (List.range k).map fun i => unitR n i 1 0
def topR (top : List Int) (k : Nat) : List Row := (List.range k).map fun i => unitR top.length i (-1) (top.getD i 0)
theorem lowR_snoc (n k : Nat) : lowR n (k + 1) = lowR n k ++ [unitR n k 1 0] := by simp [lowR, List.range_succ]
theorem topR_snoc {top : List Int} {k : Nat} {t : Int} (h : top[k]? = some t) : topR top (k + 1) = topR top k ++ [unitR top.length k (-1) t] := by
  have : top.getD k 0 = t := by rw [List.getD_eq_getElem?_getD, h]; rfl
  simp only [topR, List.range_succ, List.map_append, List.map_singleton, this]
theorem firstF_eq (s : Sys) : firstF s = s.2 ++ lowR s.1.length s.1.length ++ topR s.1 s.1.length := rfl
theorem firstF_ok {s : Sys} (hv : validS s = true) : RowsOk s.1.length (firstF s) := fun r hr => by
  rw [firstF_eq] at hr
  have hs := valid_ok hv
  rcases List.mem_append.1 hr with hr | hr
  · rcases List.mem_append.1 hr with hr | hr
    · exact rowsOk_valid hv r hr
    · obtain ⟨i, _, rfl⟩ := List.mem_map.1 hr
      exact unit_ok (by omega) (by omega)
  · obtain ⟨i, hi, rfl⟩ := List.mem_map.1 hr
    have := getD_bet hs.top (List.mem_range.1 hi)
    exact unit_ok (by omega) (by omega)

set_option maxRecDepth 100000 in
set_option maxHeartbeats 4000000 in
/-- 'Check'. -/
theorem check_c (K : Nat → Prop) (A B P : Option Addr) (n c m d pn pc : Nat) (s : Sys) (p : List Step) (w : World) (h : R1 w K A n c s.1) (h' : RR w K B m d s.2) (hp : RP w TT P pn pc p) :
    Calls Try.prog 12 #[.agg #[.slice A n c, .slice B m d], .slice P pn pc] w (Gives w (.bool (checkF s p))) := by
  obtain rfl := h.len
  have hlm := h'.len
  have hpl := hp.len
  have hpc := hp.cap
  have hcap := h.cap
  have hmd := h'.cap
  have H1 := Lib.hid h
  have H2 := Lib.hid h'
  have H3 := Lib.hid hp
  have HV := Lib.hid (fun W (hb : Below w.heap.size w W) => valid_c K K A B s.1.length c m d s.1 s.2 W (h.below hb) (h'.below hb))
  have HB0 := Lib.hid (show Below w.heap.size w (w.alloc (.cells #[.slice A s.1.length c, .slice B m d] 25)) from (Below.refl _ _).alloc (Nat.le_refl _) _)
  have HK0 := Lib.hid (Blk.new w 25 #[.slice A s.1.length c, .slice B m d])
  clear h h' hp
  go_enter Try.func12, Try.ntmps12
  go_wp2_with fail
  cases hv : validS s with
  | false =>
    have HVt := Lib.hid hv
    have HC := Lib.hid (show checkF s p = false by unfold checkF; rw [hv]; rfl)
    clear hv
    go_wp2_with (first
      | (go_at_call 11
         refine (HV.out _ HB0.out).mono ?_
         rw [HVt.out]
         rintro e w2 ⟨rfl, hb2⟩
         have HB2 := Lib.hid hb2
         have hk2 := HK0.out.old hb2
         have c0 := hk2.cell 0
         have c1 := hk2.cell 1
         have HK2 := Lib.hid hk2
         clear hb2 hk2))
    go_ret
    exact ⟨ret_bool HC.out.symm, HB0.out.trans (HB2.out.mono HB0.out.size)⟩
  | true =>
    have HVt := Lib.hid hv
    have HSy := Lib.hid (valid_ok hv)
    have hn12 : s.1.length ≤ 12 := HSy.out.n12
    have hn1 : 1 ≤ s.1.length := HSy.out.n1
    have hm24 : m ≤ 24 := by have := HSy.out.m24; omega
    by_cases h1 : pn < 1
    · have d1 : decide (pn < 1) = true := decide_eq_true h1
      have d1i : decide ((pn : Int) < 1) = true := by simp; omega
      have HC := Lib.hid (show checkF s p = false by unfold checkF; rw [hv, decide_eq_false (by omega)]; rfl)
      clear hv
      go_wp2_with (first
        | (go_at_call 11
           refine (HV.out _ HB0.out).mono ?_
           rw [HVt.out]
           rintro e w2 ⟨rfl, hb2⟩
           have HB2 := Lib.hid hb2
           have hk2 := HK0.out.old hb2
           have c0 := hk2.cell 0
           have c1 := hk2.cell 1
           have HK2 := Lib.hid hk2
           clear hb2 hk2))
      go_ret
      exact ⟨ret_bool HC.out.symm, HB0.out.trans (HB2.out.mono HB0.out.size)⟩
    · have d1 : decide ((pn : Int) < 1) = false := by simp; omega
      have d1n : decide (pn < 1) = false := decide_eq_false h1
      by_cases h2 : 65536 < pn
      · have d2 : decide ((65536 : Int) < pn) = true := by simp; omega
        have d2n : decide (65536 < pn) = true := decide_eq_true h2
        have HC := Lib.hid (show checkF s p = false by unfold checkF; rw [hv, decide_eq_true (show 1 ≤ p.length by omega), decide_eq_false (by omega)]; rfl)
        clear hv
        go_wp2_with (first
          | (go_at_call 11
             refine (HV.out _ HB0.out).mono ?_
             rw [HVt.out]
             rintro e w2 ⟨rfl, hb2⟩
             have HB2 := Lib.hid hb2
             have hk2 := HK0.out.old hb2
             have c0 := hk2.cell 0
             have c1 := hk2.cell 1
             have HK2 := Lib.hid hk2
             clear hb2 hk2))
        go_ret
        exact ⟨ret_bool HC.out.symm, HB0.out.trans (HB2.out.mono HB0.out.size)⟩
      · have d2 : decide ((65536 : Int) < pn) = false := by simp; omega
        have d2n : decide (65536 < pn) = false := decide_eq_false h2
        cases ht : treeF p with
        | false =>
          have HTt := Lib.hid ht
          have HC := Lib.hid (show checkF s p = false by unfold checkF; rw [hv, ht]; simp)
          clear hv ht
          go_wp2_with (first
            | (go_at_call 27
               refine (tree_c TT P pn pc p _ (H3.out.below (HB0.out.trans (HB2.out.mono HB0.out.size))) (by omega)).mono ?_
               rw [HTt.out]
               rintro e w3 ⟨rfl, hb3⟩
               have HB3 := Lib.hid (HB2.out.trans (hb3.mono HB2.out.size))
               have hk3 := HK2.out.old hb3
               have HK3 := Lib.hid hk3
               clear hb3 c0 c1
               have c0 := hk3.cell 0
               have c1 := hk3.cell 1
               clear hk3)
            | (go_at_call 11
               refine (HV.out _ HB0.out).mono ?_
               rw [HVt.out]
               rintro e w2 ⟨rfl, hb2⟩
               have HB2 := Lib.hid hb2
               have hk2 := HK0.out.old hb2
               have c0 := hk2.cell 0
               have c1 := hk2.cell 1
               have HK2 := Lib.hid hk2
               clear hb2 hk2))
          go_ret
          exact ⟨ret_bool HC.out.symm, HB0.out.trans (HB3.out.mono HB0.out.size)⟩
        | true =>
          have HTt := Lib.hid ht
          have HTo := Lib.hid (tree_ok ht)
          have HFo := Lib.hid (firstF_ok hv)
          have HC := Lib.hid (show checkF s p = closesF s.1.length p pn 0 (firstF s) by unfold checkF; rw [hv, ht, decide_eq_true (show 1 ≤ p.length by omega), decide_eq_true (show p.length ≤ 65536 by omega), hpl]; rfl)
          clear hv ht
          generalize checkF s p = R at *
          go_wp2_with (first
            | (go_at_call 28
               refine (cloneR_c (fun k => k < w3.heap.size) B m d s.2 w3 ((H2.out.below (HB0.out.trans (HB3.out.mono HB0.out.size))).weak fun k hk _ => hk) (by omega)).mono ?_
               intro e w4 hg
               obtain ⟨L, ln, lc, rfl, hR, hb4⟩ := hg.ownR
               have hln : ln = m := by have := hR.len; omega
               subst hln
               have HR4 := Lib.hid (hR.base (B' := w.heap.size + 1) (by have := HB3.out.size; simp at this; omega))
               have HB4 := Lib.hid (HB3.out.trans (hb4.mono HB3.out.size))
               have hk4 := HK3.out.old hb4
               have HK4 := Lib.hid hk4
               clear hR hb4 c0 c1
               have c0 := hk4.cell 0
               have c1 := hk4.cell 1
               clear hk4 hg)
            | (go_at_call 27
               refine (tree_c TT P pn pc p _ (H3.out.below (HB0.out.trans (HB2.out.mono HB0.out.size))) (by omega)).mono ?_
               rw [HTt.out]
               rintro e w3 ⟨rfl, hb3⟩
               have HB3 := Lib.hid (HB2.out.trans (hb3.mono HB2.out.size))
               have hk3 := HK2.out.old hb3
               have HK3 := Lib.hid hk3
               clear hb3 c0 c1
               have c0 := hk3.cell 0
               have c1 := hk3.cell 1
               clear hk3)
            | (go_at_call 11
               refine (HV.out _ HB0.out).mono ?_
               rw [HVt.out]
               rintro e w2 ⟨rfl, hb2⟩
               have HB2 := Lib.hid hb2
               have hk2 := HK0.out.old hb2
               have c0 := hk2.cell 0
               have c1 := hk2.cell 1
               have HK2 := Lib.hid hk2
               clear hb2 hk2))
          obtain ⟨w1, hw1⟩ : ∃ w1, w1 = w.alloc (.cells #[.slice A s.1.length c, .slice B ln d] 25) := ⟨_, rfl⟩
          have hs1 : w1.heap.size = w.heap.size + 1 := by rw [hw1]; simp
          rw [← hw1] at HB0 HK0 HB2 HB3 HB4
          clear hw1
          rw [hs1] at HB4
          clear hs1
          have HQ0 := Lib.hid (show OwnR w4 (w.heap.size + 1) L (ln + 0) lc (s.2 ++ lowR s.1.length 0) by rw [show lowR s.1.length 0 = [] from rfl, List.append_nil]; exact HR4.out)
          clear c0 c1
          go_loopw [5, 33] (fun s5 s33 wr => ∃ (k : Nat) (L1 : Option Addr) (lc1 : Nat), k ≤ s.1.length ∧ s33 = .int .i64 k ∧ s5 = .slice L1 (ln + k) lc1 ∧ OwnR wr (w.heap.size + 1) L1 (ln + k) lc1 (s.2 ++ lowR s.1.length k) ∧ Below (w.heap.size + 1) w1 wr) (fun _ s33 _ => s.1.length - (intOf s33).toNat)
          case atStart => exact ⟨0, L, lc, Nat.zero_le _, rfl, rfl, HQ0.out, HB4.out⟩
          case round =>
            clear HQ0
            obtain ⟨k, L1, lc1, hk, rfl, rfl, hq, hbo⟩ := hrel
            obtain ⟨wo, rfl⟩ : ∃ wo : World, wo = wr := ⟨_, rfl⟩
            have HQ := Lib.hid hq
            have HBo := Lib.hid hbo
            have HS1 := Lib.hid (show w1.heap.size ≥ w.heap.size + 1 from HK0.out.lt)
            have hko := HK0.out.below hbo (by omega)
            have c0 := hko.cell 0
            have c1 := hko.cell 1
            have hso : w.heap.size + 1 ≤ wo.heap.size := by have := HS1.out; have := hbo.size; omega
            have HKo := Lib.hid hko
            clear hq hbo hko
            by_cases hlt : k < s.1.length
            · go_wp2_with (first
                | (refine wpList_pushR rfl (.tmp 36) (.tmp 42) 23 rfl app23 (w.heap.size + 1) L1 (ln + k) lc1 _ rfl ((HQ.out.below HB5.out).below ((Below.refl w5.heap.size w5).alloc (Nat.le_refl _) _)) w5.heap.size u v (unitR s.1.length k 1 0) rfl (Blk.new w5 37 _) (RowIn.far ((HQ.out.below HB5.out).below ((Below.refl w5.heap.size w5).alloc (Nat.le_refl _) _)) (HR5.out.old (Old.of_below ((Below.refl w5.heap.size w5).alloc (Nat.le_refl _) _))) (fun j hj => (HQ.out.lt j hj).2)) (by omega) (by have := HB5.out.size; have := HBo.out.size; simp; omega) ?_
                   intro L2 lc2 w6 hR6 hb6
                   rw [List.append_assoc, ← lowR_snoc] at hR6
                   have HR6 := Lib.hid hR6
                   have HB6 := Lib.hid (HBo.out.trans ((HB5.out.mono (by have := HBo.out.size; omega)).trans (((Below.refl (w.heap.size + 1) w5).alloc (by have := HB5.out.size; have := HBo.out.size; omega) _).trans hb6)))
                   clear hR6 hb6)
                | (go_at_call 29
                   refine (unit_c s.1.length k 1 0 wo hn12 hlt (i64_small (by decide) (by decide)) (i64_small (by decide) (by decide))).mono ?_
                   rintro e w5 ⟨u, v, rfl, hr5, hb5⟩
                   have HR5 := Lib.hid hr5
                   have HB5 := Lib.hid hb5
                   clear hr5 hb5))
              go_roundw
              case rel => exact ⟨k + 1, L2, lc2, by omega, by go_num, rfl, HR6.out, HB6.out⟩
              case measure => simp [intOf]; omega
            · obtain rfl : s.1.length = k := by omega
              have HQ1 := Lib.hid (show OwnR wo (w.heap.size + 1) L1 (ln + s.1.length + 0) lc1 (s.2 ++ lowR s.1.length s.1.length ++ topR s.1 0) by rw [show topR s.1 0 = [] from rfl, List.append_nil]; exact HQ.out)
              have HBo1 := Lib.hid HBo.out
              go_wp2_with fail
              clear c0 c1
              go_loopw [5, 48] (fun s5 s48 wr => ∃ (k : Nat) (L1 : Option Addr) (lc1 : Nat), k ≤ s.1.length ∧ s48 = .int .i64 k ∧ s5 = .slice L1 (ln + s.1.length + k) lc1 ∧ OwnR wr (w.heap.size + 1) L1 (ln + s.1.length + k) lc1 (s.2 ++ lowR s.1.length s.1.length ++ topR s.1 k) ∧ Below (w.heap.size + 1) w1 wr) (fun _ s48 _ => s.1.length - (intOf s48).toNat)
              case atStart => exact ⟨0, L1, lc1, Nat.zero_le _, rfl, rfl, HQ1.out, HBo1.out⟩
              case round =>
                clear HQ1 HBo1 HQ HBo HKo hso
                obtain ⟨k, L1, lc1, hk, rfl, rfl, hq, hbo⟩ := hrel
                obtain ⟨wo, rfl⟩ : ∃ wo : World, wo = wr := ⟨_, rfl⟩
                have HQ := Lib.hid hq
                have HBo := Lib.hid hbo
                have hko := HK0.out.below hbo (by omega)
                have c0 := hko.cell 0
                have c1 := hko.cell 1
                have hso : w.heap.size + 1 ≤ wo.heap.size := by have := HS1.out; have := hbo.size; omega
                have hbw : Below w.heap.size w wo := HB0.out.trans (hbo.mono (by omega))
                have HBw := Lib.hid hbw
                clear hq hbo hko
                by_cases hlt : k < s.1.length
                · obtain ⟨ad, t, rfl, _, ht, hti, hct⟩ := (H1.out.below hbw).at_ hlt
                  have HTk := Lib.hid ht
                  have htb := bet_iff.1 (all_mem HSy.out.top ht)
                  clear ht hbw
                  go_wp2_with (first
                    | (refine wpList_pushR rfl (.tmp 53) (.tmp 60) 23 rfl app23 (w.heap.size + 1) L1 (ln + s.1.length + k) lc1 _ rfl ((HQ.out.below HB5.out).below ((Below.refl w5.heap.size w5).alloc (Nat.le_refl _) _)) w5.heap.size u v (unitR s.1.length k (-1) t) rfl (Blk.new w5 37 _) (RowIn.far ((HQ.out.below HB5.out).below ((Below.refl w5.heap.size w5).alloc (Nat.le_refl _) _)) (HR5.out.old (Old.of_below ((Below.refl w5.heap.size w5).alloc (Nat.le_refl _) _))) (fun j hj => (HQ.out.lt j hj).2)) (by omega) (by have := HB5.out.size; have := HBo.out.size; simp; omega) ?_
                       intro L2 lc2 w6 hR6 hb6
                       rw [List.append_assoc, ← topR_snoc HTk.out] at hR6
                       have HR6 := Lib.hid hR6
                       have HB6 := Lib.hid (HBo.out.trans ((HB5.out.mono (by have := HBo.out.size; omega)).trans (((Below.refl (w.heap.size + 1) w5).alloc (by have := HB5.out.size; have := HBo.out.size; omega) _).trans hb6)))
                       clear hR6 hb6)
                    | (go_at_call 29
                       refine (unit_c s.1.length k (-1) t wo hn12 hlt (i64_small (by decide) (by decide)) hti).mono ?_
                       rintro e w5 ⟨u, v, rfl, hr5, hb5⟩
                       have HR5 := Lib.hid hr5
                       have HB5 := Lib.hid hb5
                       clear hr5 hb5))
                  go_roundw
                  case rel => exact ⟨k + 1, L2, lc2, by omega, by go_num, rfl, HR6.out, HB6.out⟩
                  case measure => simp [intOf]; omega
                · obtain rfl : s.1.length = k := by omega
                  clear hbw
                  have HFR := Lib.hid (show OwnR wo (w.heap.size + 1) L1 (ln + s.1.length + s.1.length) lc1 (firstF s) by rw [firstF_eq]; exact HQ.out)
                  go_wp2_with (go_at_call 30
                               refine (closes_c A s.1.length c B ln d P pn pc p hn1 hn12 hcap (by omega) HTo.out pn 0 L1 (ln + s.1.length + s.1.length) lc1 (firstF s) wo (H3.out.below HBw.out) (HFR.out.rr (by omega)) HFo.out (by omega) (by omega) (by omega) (by omega)).mono ?_
                               rintro e w7 ⟨rfl, hb7⟩
                               have HB7 := Lib.hid (HBw.out.trans (hb7.mono HBw.out.size))
                               clear hb7)
                  go_ret
                  exact ⟨ret_bool HC.out.symm, HB7.out⟩
end Go.Proofs.Ytjienelkjpodkaa
