/- Walks: visit. -/
import Derived.Test.YtjienelkjpodkaaL6
namespace Go.Proofs.Ytjienelkjpodkaa
open Go.RowKit

theorem ie63 : (Try.prog.info? 63).isSome = true := by kernel_rfl

structure Vis1 (w0 : World) (F : Fix) (b : Box) (wr : World) (k : Nat) : Prop where
  below : Below w0.heap.size w0 wr
  rest : failF (F.rows.drop k) (F.at'.drop k) b = failF F.rows F.at' b
structure Vis2 (w0 : World) (b : Box) (n : Nat) (wr : World) (k : Nat) : Prop where
  below : Below w0.heap.size w0 wr
  rest : freeF (b.lo.drop k) (b.hi.drop k) (n - k) k = freeF b.lo b.hi n 0

theorem bxv_lo {b : Box} (h : b.Wf) {k : Nat} (hk : k < 12) (v : Int) : (bxv b).setIfInBounds k (.int .i64 v) = bxv { b with lo := b.lo.set k v } := by
  have h1 := h.lo
  unfold bxv
  rw [ints_eq, ints_eq, List.setIfInBounds_toArray, ← List.map_set, List.set_append_left _ _ (by omega)]
theorem bxv_hi {b : Box} (h : b.Wf) {k : Nat} (hk : k < 12) (v : Int) : (bxv b).setIfInBounds (12 + k) (.int .i64 v) = bxv { b with hi := b.hi.set k v } := by
  have h1 := h.lo
  have h2 := h.hi
  unfold bxv
  rw [ints_eq, ints_eq, List.setIfInBounds_toArray, ← List.map_set, List.set_append_right _ _ (by omega), show 12 + k - b.lo.length = k by omega, List.set_append_left _ _ (by omega)]
theorem bxv_below {b : Box} (h : b.Wf) {k : Nat} (hk : k < 12) (v : Int) : (bxv b).setIfInBounds (24 + k) (.int .i64 v) = bxv { b with below := b.below.set k v } := by
  have h1 := h.lo
  have h2 := h.hi
  have h3 := h.below
  unfold bxv
  rw [ints_eq, ints_eq, List.setIfInBounds_toArray, ← List.map_set, List.set_append_right _ _ (by omega), List.set_append_right _ _ (by omega), show 24 + k - b.lo.length - b.hi.length = k by omega, List.set_append_left _ _ (by omega)]
theorem bxv_above {b : Box} (h : b.Wf) {k : Nat} (hk : k < 12) (v : Int) : (bxv b).setIfInBounds (36 + k) (.int .i64 v) = bxv { b with above := b.above.set k v } := by
  have h1 := h.lo
  have h2 := h.hi
  have h3 := h.below
  have h4 := h.above
  unfold bxv
  rw [ints_eq, ints_eq, List.setIfInBounds_toArray, ← List.map_set, List.set_append_right _ _ (by omega), List.set_append_right _ _ (by omega), List.set_append_right _ _ (by omega), show 36 + k - b.lo.length - b.hi.length - b.below.length = k by omega, List.set_append_left _ _ (by omega)]
theorem bxv_rows {b : Box} (h : b.Wf) (v : Int) : (bxv b).setIfInBounds 48 (.int .i64 v) = bxv { b with rows := v } := by
  have h1 := h.lo
  have h2 := h.hi
  have h3 := h.below
  have h4 := h.above
  unfold bxv
  rw [ints_eq, ints_eq, List.setIfInBounds_toArray, ← List.map_set, List.set_append_right _ _ (by omega), List.set_append_right _ _ (by omega), List.set_append_right _ _ (by omega), List.set_append_right _ _ (by omega), show 48 - b.lo.length - b.hi.length - b.below.length - b.above.length = 0 by omega, List.set_cons_zero]

theorem low_ab {b : Box} (h : b.Wf) {k : Nat} (hk : k < 12) (v u : Int) {w : World} {g : Nat} (hb : Blk w g 58 (bxv b)) : Blk ((w.setCell ⟨g, 12 + k, none⟩ (.int .i64 v)).setCell ⟨g, 36 + k, none⟩ (.int .i64 u)) g 58 (bxv { b with hi := b.hi.set k v, above := b.above.set k u }) ∧ Only g w ((w.setCell ⟨g, 12 + k, none⟩ (.int .i64 v)).setCell ⟨g, 36 + k, none⟩ (.int .i64 u)) := by
  have h1 := (hb.set_ (12 + k) (.int .i64 v)).set_ (36 + k) (.int .i64 u)
  rw [bxv_hi h hk, bxv_above (b := { b with hi := b.hi.set k v }) ⟨h.lo, by simp [h.hi], h.below, h.above⟩ hk] at h1
  exact ⟨h1, (Only.setCell _ _ _ _).trans (Only.setCell _ _ _ _)⟩
theorem low_ba {b : Box} (h : b.Wf) {k : Nat} (hk : k < 12) (v u : Int) {w : World} {g : Nat} (hb : Blk w g 58 (bxv b)) : Blk ((w.setCell ⟨g, 36 + k, none⟩ (.int .i64 u)).setCell ⟨g, 12 + k, none⟩ (.int .i64 v)) g 58 (bxv { b with hi := b.hi.set k v, above := b.above.set k u }) ∧ Only g w ((w.setCell ⟨g, 36 + k, none⟩ (.int .i64 u)).setCell ⟨g, 12 + k, none⟩ (.int .i64 v)) := by
  have h1 := (hb.set_ (36 + k) (.int .i64 u)).set_ (12 + k) (.int .i64 v)
  rw [bxv_above h hk, bxv_hi (b := { b with above := b.above.set k u }) ⟨h.lo, h.hi, h.below, by simp [h.above]⟩ hk] at h1
  exact ⟨h1, (Only.setCell _ _ _ _).trans (Only.setCell _ _ _ _)⟩
theorem high_ab {b : Box} (h : b.Wf) {k : Nat} (hk : k < 12) (v u : Int) {w : World} {g : Nat} (hb : Blk w g 58 (bxv b)) : Blk ((w.setCell ⟨g, k, none⟩ (.int .i64 v)).setCell ⟨g, 24 + k, none⟩ (.int .i64 u)) g 58 (bxv { b with lo := b.lo.set k v, below := b.below.set k u }) ∧ Only g w ((w.setCell ⟨g, k, none⟩ (.int .i64 v)).setCell ⟨g, 24 + k, none⟩ (.int .i64 u)) := by
  have h1 := (hb.set_ k (.int .i64 v)).set_ (24 + k) (.int .i64 u)
  rw [bxv_lo h hk, bxv_below (b := { b with lo := b.lo.set k v }) ⟨by simp [h.lo], h.hi, h.below, h.above⟩ hk] at h1
  exact ⟨h1, (Only.setCell _ _ _ _).trans (Only.setCell _ _ _ _)⟩
theorem high_ba {b : Box} (h : b.Wf) {k : Nat} (hk : k < 12) (v u : Int) {w : World} {g : Nat} (hb : Blk w g 58 (bxv b)) : Blk ((w.setCell ⟨g, 24 + k, none⟩ (.int .i64 u)).setCell ⟨g, k, none⟩ (.int .i64 v)) g 58 (bxv { b with lo := b.lo.set k v, below := b.below.set k u }) ∧ Only g w ((w.setCell ⟨g, 24 + k, none⟩ (.int .i64 u)).setCell ⟨g, k, none⟩ (.int .i64 v)) := by
  have h1 := (hb.set_ (24 + k) (.int .i64 u)).set_ k (.int .i64 v)
  rw [bxv_below h hk, bxv_lo (b := { b with below := b.below.set k u }) ⟨h.lo, h.hi, by simp [h.below], h.above⟩ hk] at h1
  exact ⟨h1, (Only.setCell _ _ _ _).trans (Only.setCell _ _ _ _)⟩
theorem wfL {b : Box} (h : b.Wf) (k : Nat) (v u : Int) : ({ b with hi := b.hi.set k v, above := b.above.set k u } : Box).Wf := ⟨h.lo, by simp [h.hi], h.below, by simp [h.above]⟩
theorem wfH {b : Box} (h : b.Wf) (k : Nat) (v u : Int) : ({ b with lo := b.lo.set k v, below := b.below.set k u } : Box).Wf := ⟨by simp [h.lo], h.hi, by simp [h.below], h.above⟩
theorem rows48 {b : Box} (h : b.Wf) : (bxv b)[48]? = some (.int .i64 b.rows) := by rw [bxv_get h (by omega), ints_rows h]
theorem alen56 : Try.prog.arrayLen 56 = 12 := by kernel_rfl
theorem elem56 : Try.prog.elem 56 = 3 := by kernel_rfl
theorem arr56 : Try.prog.underlying 56 = some (.array (Try.prog.arrayLen 56) (Try.prog.elem 56)) := by kernel_rfl
theorem size3 : (Try.prog.info? 3).map (·.size) = some 1 := by kernel_rfl
theorem run_slice56 (q n : Nat) (hn : n ≤ 12) (W : World) : (Instr.sliceAt 56 (.pointer (some ⟨q, 0, none⟩)) none (some (.int .i64 n)) none).run Try.prog W = .ok (.slice (some ⟨q, 0, none⟩) n 12) W := by
  rw [run_sliceAt_array_h W 56 ⟨q, 0, none⟩ arr56 .i64 n (by omega) (by rw [alen56]; omega), elem56, alen56]
  have h3 := size3
  cases hi : Try.prog.info? 3 with
  | none => rw [hi] at h3; cases h3
  | some i =>
    rw [hi] at h3
    simp only [Option.map_some, Option.some.injEq] at h3
    simp [sizeOf, typeInfo, hi, slicedAt, Addr.add, h3]
theorem Only.drew {g : Nat} {w w' : World} (h : Only g w w') : Only g w w'.drew := ⟨h.os, h.tape, h.output, h.size, h.block⟩

theorem freeF_step {lo hi : List Int} {k n : Nat} (h1 : k < lo.length) (h2 : k < hi.length) (h3 : k < n) : freeF (lo.drop k) (hi.drop k) (n - k) k = if lo.getD k 0 = hi.getD k 0 then freeF (lo.drop (k + 1)) (hi.drop (k + 1)) (n - (k + 1)) (k + 1) else some k := by
  rw [drop_getD h1, drop_getD h2, show n - k = (n - (k + 1)) + 1 by omega, freeF]

set_option maxRecDepth 100000 in
set_option maxHeartbeats 4000000 in
/-- '(*search).visit', one level. -/
theorem visit_step (B g : Nat) (F : Fix) (hF : FixOk F) (fu : Nat)
    (ih : ∀ (b : Box) (pA : Option Addr) (pn pc : Nat) (p : List Step) (w : World), Srch w B g F pA pn pc p → B ≤ w.heap.size → BoxOk F.tn b → eachB F.at' 0 (b.rows - 1) = true → b.wid F.tn < fu → pn + 3 * b.vol F.tn ≤ 90000 → b.rows + b.wid F.tn ≤ 100000 →
      Calls Try.prog 24 #[.pointer (some ⟨g, 0, none⟩), .agg (bxv b)] w (VisPost B g F pA w (visitF F.rows F.at' F.tn fu b p)))
    (b : Box) (pA : Option Addr) (pn pc : Nat) (p : List Step) (w : World) (h : Srch w B g F pA pn pc p) (hB : B ≤ w.heap.size) (hb : BoxOk F.tn b) (hat : eachB F.at' 0 (b.rows - 1) = true) (hw : b.wid F.tn < fu + 1) (hv : pn + 3 * b.vol F.tn ≤ 90000) (hr : b.rows + b.wid F.tn ≤ 100000) :
    Calls Try.prog 24 #[.pointer (some ⟨g, 0, none⟩), .agg (bxv b)] w (VisPost B g F pA w (visitF F.rows F.at' F.tn (fu + 1) b p)) := by
  have HI := Lib.hid ih
  have HF := Lib.hid hF
  have HS := Lib.hid h
  have HBo := Lib.hid hb
  have HAt := Lib.hid hat
  have hbk := Blk.new w 58 (bxv b)
  have hb0 : Below w.heap.size w (w.alloc (.cells (bxv b) 58)) := (Below.refl _ _).alloc (Nat.le_refl _) _
  have hS0 := h.below hb0
  have hgl := h.blk.lt
  have c2 := hS0.blk.cell 2
  have hrn := h.rows.len
  have hcap := h.rows.cap
  have hbig := h.rows.big
  have htn := h.top.len
  have htc := h.top.cap
  have hn12 := hF.n12
  have hvp := hb.volPos
  have HB0 := Lib.hid hb0
  have HS0 := Lib.hid hS0
  have HK := Lib.hid hbk
  have HV := Lib.hid hv
  have HR := Lib.hid hr
  have HW := Lib.hid hw
  obtain ⟨rA, hrA⟩ : ∃ rA, rA = F.rA := ⟨_, rfl⟩
  have c2' : (w.alloc (.cells (bxv b) 58)).cell? ⟨g, 2, none⟩ = some (.slice rA F.rn F.rc) := by rw [hrA]; simpa using c2
  have HrA := Lib.hid hrA
  clear ih hF h hb hat hbk hb0 hS0 hv hr hw c2 hrA
  go_enter Try.func24, Try.ntmps24
  go_wp2
  have HV1 := Lib.hid (show Vis1 (w.alloc (.cells (bxv b) 58)) F b (w.alloc (.cells (bxv b) 58)) 0 from ⟨Below.refl _ _, rfl⟩)
  clear c2'
  go_loopw [16] (fun s16 wr => ∃ k : Nat, k ≤ F.rn ∧ s16 = .int .i64 k ∧ Vis1 (w.alloc (.cells (bxv b) 58)) F b wr k) (fun s16 _ => F.rn - (intOf s16).toNat)
  case atStart => exact ⟨0, Nat.zero_le _, rfl, HV1.out⟩
  case round =>
    clear HV1
    obtain ⟨k, hk, rfl, hq⟩ := hrel
    obtain ⟨wo, rfl⟩ : ∃ wo : World, wo = wr := ⟨_, rfl⟩
    have HQ := Lib.hid hq
    have hbo := (HB0.out.trans (hq.below.mono (by simp)))
    have Hbo := Lib.hid hbo
    have hso := HS.out.below hbo
    have Hko := Lib.hid (HK.out.old hq.below)
    by_cases hlt : k < F.rn
    · have hao := hso.at'.len
      have hlen := HF.out.len
      have hka : k < F.an := by omega
      obtain ⟨ad, r, A', n', c', hrA, _, hr, hcu, hcv, hR1, hI⟩ := hso.rows.at_ hlt
      obtain rfl : rA = some ad := HrA.out.trans hrA
      obtain ⟨aad, a, _, _, ha, _, _⟩ := hso.at'.at_ hka
      have hro := HF.out.rows r (List.mem_of_getElem? hr)
      have Hro := Lib.hid hro
      have HRr := Lib.hid hr
      have HAr := Lib.hid ha
      have HSo := Lib.hid hso
      have HCu := Lib.hid hcu
      have HCv := Lib.hid (show wo.cell? ((ad.add (k * 2)).add 1) = some (.int .i64 r.2) by rw [add_of_add]; exact hcv)
      have Hr1 := Lib.hid hR1
      have hn' := hR1.len
      have hb1 : Below wo.heap.size wo (wo.alloc (.cells #[.slice A' n' c', .int .i64 r.2] 37)) := (Below.refl _ _).alloc (Nat.le_refl _) _
      have Hb1 := Lib.hid hb1
      have HG := Lib.hid (greatest_c (NK g pA) A' n' c' r.1 r.2 b (wo.alloc (.cells #[.slice A' n' c', .int .i64 r.2] 37)) (hR1.below hb1) (by have := hro.1; omega) hro.2.1 hro.2.2 HBo.out.wf HBo.out.lo HBo.out.hi)
      have Hk1 := Lib.hid (Hko.out.alloc (.cells #[.slice A' n' c', .int .i64 r.2] 37))
      clear hrA hq hbo hso hao hlen hr hcu hcv hR1 hI ha hro hb1
      have hsz : (Try.prog.info? 58).map (·.size) = some (bxv b).size := by rw [bxv_size HBo.out.wf]; exact size58
      by_cases hneg : greatestF r b < 0
      · have d1 : decide (greatestF r b < 0) = true := decide_eq_true hneg
        have HVV := Lib.hid (show visitF F.rows F.at' F.tn (fu + 1) b p = (none, refuteF r a b p) from visitF_fail (by
          rw [← HQ.out.rest, drop_cons_of HRr.out, drop_cons_of HAr.out, failF, if_pos hneg]))
        have HA2 := Lib.hid (bet_iff.1 (all_mem HAt.out HAr.out))
        generalize visitF F.rows F.at' F.tn (fu + 1) b p = V at *
        go_wp2_with (first | (refine wpList_load_two rfl 37 (.tmp 19) rfl (ad.add (k * 2)) rfl _ _ HCu.out HCv.out Try.underlying37 size37 ?_) | (refine wpList_load_blk rfl 58 (.tmp 3) rfl w.heap.size rfl 58 (bxv b) _ Hk3.out Try.underlying58 rfl hsz ?_) | (refine wpList_load_blk rfl 58 (.tmp 3) rfl w.heap.size rfl 58 (bxv b) _ Hk1.out Try.underlying58 rfl hsz ?_) | (
                             go_at_call 36
                             refine HG.out.mono ?_
                             rintro e w3 ⟨rfl, hb3⟩
                             have Hk3 := Lib.hid (Hk1.out.old hb3)
                             have Hb3 := Lib.hid (Hb1.out.trans (hb3.mono Hb1.out.size))
                             clear hb3) | (
                             go_at_call 37
                             refine (refute_c B g F pA pn pc p k r a b w3 (HSo.out.below Hb3.out) (by have := HV.out; omega) (by have := Hbo.out.size; have := Hb3.out.size; omega) HRr.out HAr.out HBo.out.wf Hro.out.1 Hro.out.2.1 HBo.out.below HBo.out.above (by have := HA2.out; omega) (by have := HR.out; omega)).mono ?_
                             rintro e w4 ⟨rfl, pA', pc', hs4, hc4, hn4⟩
                             have HD := Lib.hid (And.intro hs4 (And.intro hc4 hn4))
                             clear hs4 hc4 hn4))
        first | go_end0 | refine bodyPost_ret (results_none rfl _ _ _) rfl ?_
        obtain ⟨h4, h5, h6⟩ := HD.out
        have hbz := Hbo.out.trans (Hb3.out.mono Hbo.out.size)
        rw [HVV.out]
        refine ⟨rfl, pA', pc', ?_, (Chg.of_below hbz).trans h5 (NewOr.refl _ _), (NewOr.refl w pA).trans h6 hbz.size⟩
        have hl := HS.out.len
        simpa [refuteF, hl] using h4
      · have d1 : decide (greatestF r b < 0) = false := decide_eq_false hneg
        have HN := Lib.hid (show failF (F.rows.drop (k + 1)) (F.at'.drop (k + 1)) b = failF F.rows F.at' b by
          rw [← HQ.out.rest, drop_cons_of HRr.out, drop_cons_of HAr.out, failF, if_neg hneg])
        go_wp2_with (first | (refine wpList_load_two rfl 37 (.tmp 19) rfl (ad.add (k * 2)) rfl _ _ HCu.out HCv.out Try.underlying37 size37 ?_) | (refine wpList_load_blk rfl 58 (.tmp 3) rfl w.heap.size rfl 58 (bxv b) _ Hk1.out Try.underlying58 rfl hsz ?_) | (
                             go_at_call 36
                             refine HG.out.mono ?_
                             rintro e w3 ⟨rfl, hb3⟩
                             have Hb3 := Lib.hid (Hb1.out.trans (hb3.mono Hb1.out.size))
                             clear hb3))
        go_roundw
        case rel => exact ⟨k + 1, by omega, by go_num, HQ.out.below.trans (Hb3.out.mono HQ.out.below.size), HN.out⟩
        case measure => simp [intOf]; omega
    · obtain rfl : k = F.rn := by omega
      have hnone : failF F.rows F.at' b = none := by
        have hr' := HQ.out.rest
        rw [List.drop_eq_nil_of_le (by omega)] at hr'
        rw [← hr']; rfl
      have c0 : wo.cell? ⟨g, 0, none⟩ = some (.slice F.TA F.tn F.tc) := by simpa using hso.blk.cell 0
      have HNo := Lib.hid hnone
      have HSo := Lib.hid hso
      clear hq hbo hso hnone
      go_wp2
      have HV2 := Lib.hid (show Vis2 wo b F.tn wo 0 from ⟨Below.refl _ _, rfl⟩)
      clear c0
      go_loopw [36] (fun s36 wr => ∃ k : Nat, k ≤ F.tn ∧ s36 = .int .i64 k ∧ Vis2 wo b F.tn wr k) (fun s36 _ => F.tn - (intOf s36).toNat)
      case atStart => exact ⟨0, Nat.zero_le _, rfl, HV2.out⟩
      case round =>
        clear HV2
        obtain ⟨k, hk, rfl, hq⟩ := hrel
        obtain ⟨wx, rfl⟩ : ∃ wx : World, wx = wr := ⟨_, rfl⟩
        have HP := Lib.hid hq
        have hbx := (Hbo.out.trans (hq.below.mono Hbo.out.size))
        have Hbx := Lib.hid hbx
        have hsx := HSo.out.below hq.below
        have hkx := Hko.out.old hq.below
        have Hkx := Lib.hid hkx
        by_cases hlt : k < F.tn
        · have hk12 : k < 12 := by omega
          have hk12' : (k : Int) < 12 := by omega
          have hc1 := hkx.cell k
          rw [bxv_get HBo.out.wf (by omega), ints_lo HBo.out.wf hk12] at hc1
          have hc2 := hkx.cell (12 + k)
          rw [bxv_get HBo.out.wf (by omega), ints_hi HBo.out.wf hk12] at hc2
          by_cases hxy : b.lo.getD k 0 = b.hi.getD k 0
          · have HN := Lib.hid (show freeF (b.lo.drop (k + 1)) (b.hi.drop (k + 1)) (F.tn - (k + 1)) (k + 1) = freeF b.lo b.hi F.tn 0 by
              rw [← HP.out.rest, freeF_step (by rw [HBo.out.wf.lo]; exact hk12) (by rw [HBo.out.wf.hi]; exact hk12) hlt, if_pos hxy])
            rw [hxy] at hc1
            clear hq hbx hsx hkx hxy
            generalize b.hi.getD k 0 = y at *
            go_wp2
            go_quiet (fail)
            go_wp2
            go_roundw
            case rel => exact ⟨k + 1, by omega, by go_num, below_drewN HP.out.below _, HN.out⟩
            case measure => simp [intOf]; omega
          · have HN := Lib.hid (show freeF b.lo b.hi F.tn 0 = some k by
              rw [← HP.out.rest, freeF_step (by rw [HBo.out.wf.lo]; exact hk12) (by rw [HBo.out.wf.hi]; exact hk12) hlt, if_neg hxy])
            have hmid := HBo.out.mid hlt hxy
            have HLo := Lib.hid (HBo.out.lowOk hlt hxy)
            have HHi := Lib.hid (HBo.out.highOk hlt hxy)
            have HPa := Lib.hid (HBo.out.parts hlt hxy)
            have b1 : (b.lo.getD k 0 == b.hi.getD k 0) = false := by simpa using hxy
            have b2 : decide (b.lo.getD k 0 = b.hi.getD k 0) = false := decide_eq_false hxy
            have HVV := Lib.hid (visitF_split (rows := F.rows) (at' := F.at') (n := F.tn) (k := fu) (i := k) (b := b) (p := p) (mid := (b.lo.getD k 0 + b.hi.getD k 0).tdiv 2) HNo.out HN.out rfl)
            generalize hx : b.lo.getD k 0 = x at *
            generalize hy : b.hi.getD k 0 = y at *
            generalize hm : (x + y).tdiv 2 = mid at *
            have Hm := Lib.hid hm
            generalize visitF F.rows F.at' F.tn (fu + 1) b p = V at *
            have HSx := Lib.hid hsx
            clear hq hbx hsx hkx hxy hx hy
            go_wp2
            go_quiet (fail)
            obtain ⟨wd, hwd⟩ : ∃ wd, wd = wx.drewN nq := ⟨_, rfl⟩
            rw [← hwd]
            have hbd : Below wx.heap.size wx wd := by rw [hwd]; exact below_drewN (Below.refl _ _) _
            have hd1 := cell_below hbd hc1
            have hd2 := cell_below hbd hc2
            have Hbd := Lib.hid hbd
            clear hwd hbd hc1 hc2
            go_wp2
            go_quiet (fail)
            obtain ⟨we, hwe⟩ : ∃ we, we = wd.drewN nq := ⟨_, rfl⟩
            rw [← hwe]
            have hbe : Below wx.heap.size wx we := Hbd.out.trans ((show Below wd.heap.size wd we by rw [hwe]; exact below_drewN (Below.refl _ _) _).mono Hbd.out.size)
            have hse := HSx.out.below hbe
            have Hke := Lib.hid (Hkx.out.old hbe)
            have Hbe := Lib.hid (Hbx.out.trans (hbe.mono Hbx.out.size))
            have c4 : we.cell? ⟨g, 4, none⟩ = some (.slice pA pn pc) := by simpa using hse.blk.cell 4
            have HSe := Lib.hid hse
            obtain ⟨us, hO, hA⟩ := hse.po
            have HO := Lib.hid hO
            have HA := Lib.hid hA
            have hpn : pn ≤ 90000 := by have := HV.out; omega
            clear hwe hbe hse hd1 hd2 hO hA
            go_wp2_with (go_at_call 34
                         refine (step_c g _ _ _ _ pA pn pc us B none 0 0 3 0 0 k mid 0 0 we HSe.out.blk HO.out (by omega) (by have := Hbe.out.size; omega)).mono ?_
                         rintro e w5 ⟨rfl, pA5, pc5, hk5, ho5, hch5, hno5⟩
                         have hS6 := HSe.out.grow HA.out hk5 ho5 hch5 hno5 (s := splitS k mid p) (by rw [splitS, HSe.out.len]) (R1.nil_ _ _)
                         have HS6 := Lib.hid hS6
                         have Hk6 := Lib.hid (Hke.out.chg hch5 (by omega) (by
                           obtain ⟨_, ho, _⟩ := HS.out.po
                           intro e
                           have := (ho.lt _ e).2
                           omega))
                         have HC6 := Lib.hid ((Chg.of_below Hbe.out).trans hch5 (NewOr.refl _ _))
                         have HN6 := Lib.hid ((NewOr.refl w pA).trans hno5 Hbe.out.size)
                         clear hS6 hch5 hno5 hk5 ho5)
            go_upto_region 14 with fail
            refine two_copies (g3 := w.heap.size) (cs := bxv b) _ _ _ _ _ _ _ rfl ⟨rfl, rfl, rfl⟩ ⟨rfl, rfl, rfl⟩ ⟨rfl, rfl, rfl⟩ ⟨rfl, rfl, rfl⟩ ⟨rfl, rfl, rfl⟩ ⟨rfl, rfl, rfl⟩ (by decide +kernel) (by decide +kernel) Hk6.out (bxv_size HBo.out.wf) (bxv_one b) (Nat.le_of_ble_eq_true rfl) rfl ?_
            intro g9 g10 w6 hb6 hg9 hg10 hne hk9 hk10
            have Hb6 := Lib.hid hb6
            have HS7 := Lib.hid (HS6.out.below hb6)
            have Hk7 := Lib.hid (Hk6.out.old hb6)
            have HC7 := Lib.hid (HC6.out.trans (Chg.of_below hb6) HN6.out)
            have Hg9 := Lib.hid (And.intro hg9 hg10)
            have hs5 : w.heap.size < w5.heap.size := Hk6.out.lt
            have hcr := Hk7.out.cell 48
            rw [bxv_get HBo.out.wf (by omega), ints_rows HBo.out.wf] at hcr
            have hrw := HR.out
            have hrp := HBo.out.pos
            generalize hbr : b.rows = br at *
            have Hbr := Lib.hid hbr
            have Hk9 := Lib.hid hk9
            have Hk10 := Lib.hid hk10
            have c9 := hk9.cell (12 + k)
            rw [bxv_get HBo.out.wf (by omega)] at c9
            have c9' := hk9.cell (36 + k)
            rw [bxv_get HBo.out.wf (by omega)] at c9'
            have f9 := hk9.frozen (12 + k)
            have f9' := hk9.frozen (36 + k)
            have n9 : ¬ g9 = w.heap.size := by omega
            have n9' : ¬ w.heap.size = g9 := by omega
            clear hb6 hk9 hk10 hg9 hg10 hbr
            simp only [put4, pt, List.setIfInBounds_toArray, List.set_cons_succ, List.set_cons_zero]
            go_upto_region 15 with fail
            go_cut [7] from 36 to 115 (fun s7 wz => s7 = .int .i64 mid ∧ Blk wz g9 58 (bxv { b with hi := b.hi.set k mid, above := b.above.set k br }) ∧ Only g9 w6 wz)
            case first =>
              go_region
              all_goals
                go_wp2_with fail
                go_meet
                case rel => first | exact ⟨rfl, (low_ab HBo.out.wf hk12 mid br Hk9.out).1, (low_ab HBo.out.wf hk12 mid br Hk9.out).2.drew⟩ | exact ⟨rfl, (low_ba HBo.out.wf hk12 mid br Hk9.out).1, (low_ba HBo.out.wf hk12 mid br Hk9.out).2.drew⟩
            case rest =>
              obtain ⟨rfl, hk9, ho9⟩ := hcut
              obtain ⟨w7, rfl⟩ : ∃ w7 : World, w7 = wc := ⟨_, rfl⟩
              have hb9 : Blk w7 g10 58 (bxv b) := Hk10.out.only ho9 (Ne.symm hne)
              have hb3 : Blk w7 w.heap.size 58 (bxv b) := Hk7.out.only ho9 n9'
              have hcr2 := hb3.cell 48
              rw [bxv_get HBo.out.wf (by omega), ints_rows HBo.out.wf, Hbr.out] at hcr2
              have c10 := hb9.cell k
              rw [bxv_get HBo.out.wf (by omega)] at c10
              have c10' := hb9.cell (24 + k)
              rw [bxv_get HBo.out.wf (by omega)] at c10'
              have f10 := hb9.frozen k
              have f10' := hb9.frozen (24 + k)
              have n10 : ¬ g10 = w.heap.size := by have := Hg9.out; omega
              have n10' : ¬ w.heap.size = g10 := by omega
              have Hl9 := Lib.hid hk9
              have Ho9 := Lib.hid ho9
              have Hb10 := Lib.hid hb9
              clear c9 c9' f9 f9' n9 n9' hcr hk9 ho9 hb9 hb3
              go_upto_region 16 with fail
              go_cut [7] from 36 to 115 (fun s7 wz => s7 = .int .i64 mid ∧ Blk wz g10 58 (bxv { b with lo := b.lo.set k (mid + 1), below := b.below.set k br }) ∧ Only g10 w7 wz)
              case first =>
                go_region
                all_goals
                  go_wp2_with fail
                  go_meet
                  case rel => first | exact ⟨rfl, (high_ab HBo.out.wf hk12 (mid + 1) br Hb10.out).1, (high_ab HBo.out.wf hk12 (mid + 1) br Hb10.out).2.drew⟩ | exact ⟨rfl, (high_ba HBo.out.wf hk12 (mid + 1) br Hb10.out).1, (high_ba HBo.out.wf hk12 (mid + 1) br Hb10.out).2.drew⟩
              case rest =>
                obtain ⟨rfl, hk10, ho10⟩ := hcut
                obtain ⟨w8, rfl⟩ : ∃ w8 : World, w8 = wc := ⟨_, rfl⟩
                have hk9' := Hl9.out.only ho10 hne
                have e9 := hk9'.cell 48
                rw [rows48 (wfL HBo.out.wf k mid br)] at e9
                have e10 := hk10.cell 48
                rw [rows48 (wfH HBo.out.wf k (mid + 1) br)] at e10
                simp only [Hbr.out] at e9 e10
                have fr9 := hk9'.frozen 48
                have fr10 := hk10.frozen 48
                have hL := (hk9'.set_ 48 (.int .i64 (br + 1))).far (p := ⟨g10, 48, none⟩) hne (.int .i64 (br + 1))
                rw [bxv_rows (wfL HBo.out.wf k mid br)] at hL
                have hH := (hk10.far (p := ⟨g9, 48, none⟩) (Ne.symm hne) (.int .i64 (br + 1))).set_ 48 (.int .i64 (br + 1))
                rw [bxv_rows (wfH HBo.out.wf k (mid + 1) br)] at hH
                have hb8 := below_only (below_only (below_only (below_only Hb6.out Ho9.out Hg9.out.1) ho10 Hg9.out.2) (Only.setCell w8 g9 48 (.int .i64 (br + 1))) Hg9.out.1) (Only.setCell (w8.setCell ⟨g9, 48, none⟩ (.int .i64 (br + 1))) g10 48 (.int .i64 (br + 1))) Hg9.out.2
                have HL := Lib.hid (show Blk _ g9 58 (bxv (b.low k mid)) by rw [Box.low, Hbr.out]; exact hL)
                have HH := Lib.hid (show Blk _ g10 58 (bxv (b.high k mid)) by rw [Box.high, Hbr.out]; exact hH)
                have HB8 := Lib.hid hb8
                have hlen1 := visit_len F.rows F.at' F.tn fu (b.low k mid) (p ++ [splitS k mid p]) HLo.out
                have hpl := HS.out.len
                have hne9 : ¬ g9 = g10 := hne
                have hne10 : ¬ g10 = g9 := Ne.symm hne
                have hlowr : (b.low k mid).rows = br + 1 := by rw [Box.low, Hbr.out]
                have hhighr : (b.high k mid).rows = br + 1 := by rw [Box.high, Hbr.out]
                have HA8 := Lib.hid (eachB_mono (c := 0) (d := br + 1 - 1) HAt.out (by omega) (by omega))
                have HCl := Lib.hid fun W (hb : Below w5.heap.size w5 W) => HI.out (b.low k mid) pA5 (pn + 1) pc5 (p ++ [splitS k mid p]) W (HS6.out.below hb) (by have := hb.size; have := HC6.out.size; omega) HLo.out (by rw [hlowr]; exact HA8.out) (by have := HPa.out; have := HW.out; omega) (by have := HPa.out; have := HV.out; have := HHi.out.volPos; omega) (by rw [hlowr]; have := HPa.out; omega)
                rcases hlow : visitF F.rows F.at' F.tn fu (b.low k mid) (p ++ [splitS k mid p]) with ⟨o2, p2⟩
                rw [hlow] at HCl HVV hlen1
                have Hl1 := Lib.hid hlen1
                clear hk9' hk10 ho10 hL hH hb8 hcr2 c10 c10' f10 f10' hlow hlen1 n10 n10'
                generalize hw8 : (w8.setCell ⟨g9, 48, none⟩ (.int .i64 (br + 1))).setCell ⟨g10, 48, none⟩ (.int .i64 (br + 1)) = w9 at HL HH HB8
                have Hw8 := Lib.hid hw8
                clear hw8
                have hszL : (Try.prog.info? 58).map (·.size) = some (bxv (b.low k mid)).size := by rw [bxv_size HLo.out.wf]; exact size58
                have hszH : (Try.prog.info? 58).map (·.size) = some (bxv (b.high k mid)).size := by rw [bxv_size HHi.out.wf]; exact size58
                cases o2 with
                | some x2 =>
                  go_wp2_with (first | (rw [Hw8.out]; refine wpList_load_blk rfl 58 (.tmp 9) rfl g9 rfl 58 (bxv (b.low k mid)) _ HL.out Try.underlying58 rfl hszL ?_) | (
                               go_at_call 24
                               refine (HCl.out _ HB8.out).mono ?_
                               rintro e w10 ⟨A, n, c, rfl, hr1, hc1⟩
                               have hN5 := (NewOr.refl w pA).trans HN6.out (Nat.le_refl _)
                               refine ⟨rfl, ?_⟩
                               rw [HVV.out]
                               exact ⟨A, n, c, rfl, hr1.weak (fun j _ (hj : w9.heap.size ≤ j) => by have := HB8.out.size; have := HC6.out.size; show w.heap.size ≤ j; omega), (HC6.out.trans (Chg.of_below HB8.out) hN5).trans hc1 hN5⟩))
                | none => 
                  go_wp2_with (first | (rw [Hw8.out]; refine wpList_load_blk rfl 58 (.tmp 9) rfl g9 rfl 58 (bxv (b.low k mid)) _ HL.out Try.underlying58 rfl hszL ?_) | (
                               go_at_call 24
                               refine (HCl.out _ HB8.out).mono ?_
                               rintro e w10 ⟨rfl, pA9, pc9, hs9, hc9, hn9⟩
                               have hlen := Hl1.out
                               simp only [List.length_append, List.length_cons, List.length_nil] at hlen
                               obtain ⟨us9, hO9, hA9⟩ := hs9.po
                               obtain ⟨q, rfl⟩ := hO9.addr (by omega)
                               have c4 : w10.cell? ⟨g, 4, none⟩ = some (.slice (some ⟨q, 0, none⟩) p2.length pc9) := by simpa using hs9.blk.cell 4
                               have fq := hO9.frozen (pn * 8 + 7)
                               have hul := hO9.len
                               obtain ⟨uq, huq⟩ : ∃ u, us9[pn * 8 + 7]? = some u := ⟨_, List.getElem?_eq_getElem (by omega)⟩
                               have cq := World.ownsRow.cells hO9 (g := q) rfl _ _ huq
                               have hadd : (⟨q, 0, none⟩ : Addr).add (pn * 8 + 7) = ⟨q, pn * 8 + 7, none⟩ := by simp [Addr.add]
                               rw [hadd] at cq
                               have hpl2 : pn < p2.length := by omega
                               have hpl3 : (pn : Int) < p2.length := by omega
                               have hbig2 : p2.length ≤ 100000 := by have := HV.out; have := HPa.out; have := HHi.out.volPos; omega
                               have HS10 := Lib.hid hs9
                               have hNq := ownS_ne_blk hO9 hs9.blk (by decide)
                               have hne5 : ∀ x, w5.heap.size ≤ x → x ≠ g ∧ obl pA5 ≠ some x := fun x hx => ⟨by omega, fun e => by
                                 obtain ⟨_, ho, _⟩ := HS6.out.po
                                 have := (ho.lt _ e).2
                                 omega⟩
                               have HH10 := Lib.hid (HH.out.chg hc9 (hne5 _ Hg9.out.2).1 (hne5 _ Hg9.out.2).2)
                               have hN5 := (NewOr.refl w pA).trans HN6.out (Nat.le_refl _)
                               have HC10 := Lib.hid ((HC6.out.trans (Chg.of_below HB8.out) hN5).trans hc9 hN5)
                               have HN10 := Lib.hid (hN5.trans hn9 (by have := HB8.out.size; have := HC6.out.size; omega))
                               have Hlen := Lib.hid hlen
                               have hq10 := Lib.hid (ownS_ne_blk hO9 HH10.out (by decide))
                               clear hs9 hc9 hn9 hO9 hA9 hul huq hadd hNq hne5 hN5 hlen))
                  go_region
                  obtain ⟨hS11, hC11⟩ := HS10.out.set_els (j := pn) (e := p2.length) hpl2 (w' := (w10.setCell ⟨q, pn * 8 + 7, none⟩ (.int .i64 p2.length)).drew) rfl rfl rfl rfl
                  obtain ⟨w11, hw11⟩ : ∃ w11, w11 = (w10.setCell ⟨q, pn * 8 + 7, none⟩ (.int .i64 p2.length)).drew := ⟨_, rfl⟩
                  rw [← hw11] at hS11 hC11 ⊢
                  have HS11 := Lib.hid hS11
                  have HH11 := Lib.hid (HH10.out.chg hC11 (by have := Hg9.out.2; omega) hq10.out)
                  have hC := HC10.out.trans hC11 HN10.out
                  have HC11 := Lib.hid hC
                  have HVV2 := Lib.hid (show V = visitF F.rows F.at' F.tn fu (b.high k mid) (setEls p2 pn p2.length) by rw [HVV.out, hpl])
                  have HCh := Lib.hid (HI.out (b.high k mid) (some ⟨q, 0, none⟩) p2.length pc9 (setEls p2 pn p2.length) w11 hS11 (by have := hC.size; omega) HHi.out (by rw [hhighr]; exact HA8.out) (by have := HPa.out; have := HW.out; omega) (by have := HPa.out; have := HV.out; have := Hlen.out; omega) (by rw [hhighr]; have := HPa.out; omega))
                  clear hw11 hS11 hC11 hC c4 fq cq
                  go_wp2_with (first | (refine wpList_load_blk rfl 58 (.tmp 10) rfl g10 rfl 58 (bxv (b.high k mid)) _ HH11.out Try.underlying58 rfl hszH ?_) | (
                               go_at_call 24
                               refine HCh.out.mono ?_
                               intro e w12 hpost
                               rw [← HVV2.out] at hpost
                               rcases V with ⟨_ | x3, p3⟩
                               case some =>
                                 obtain ⟨A, n, c, rfl, hr1, hc1⟩ := hpost
                                 exact ⟨rfl, ⟨A, n, c, rfl, hr1.weak (fun j _ (hj : w11.heap.size ≤ j) => by have := HC11.out.size; show w.heap.size ≤ j; omega), HC11.out.trans hc1 HN10.out⟩⟩
                               obtain ⟨rfl, pA12, pc12, hs12, hc12, hn12⟩ := hpost
                               have HE := Lib.hid (show VisPost B g F pA w (none, p3) (.returned (.tuple #[])) w12 from ⟨rfl, pA12, pc12, hs12, HC11.out.trans hc12 HN10.out, HN10.out.trans hn12 HC11.out.size⟩)
                               clear hs12 hc12 hn12))
                  first | go_end0 | refine bodyPost_ret (results_none rfl _ _ _) rfl ?_
                  all_goals exact HE.out
        · obtain rfl : k = F.tn := by omega
          have hfree : freeF b.lo b.hi F.tn 0 = none := by
            rw [← HP.out.rest, Nat.sub_self]
            cases b.lo.drop F.tn <;> cases b.hi.drop F.tn <;> rfl
          have HVV := Lib.hid (visitF_point (p := p) (k := fu) HNo.out hfree)
          generalize visitF F.rows F.at' F.tn (fu + 1) b p = V at *
          have c0 : wx.cell? ⟨g, 0, none⟩ = some (.slice F.TA F.tn F.tc) := by simpa using hsx.blk.cell 0
          have HR1 := Lib.hid (show R1 wx (fun _ => True) (some ⟨w.heap.size, 0, none⟩) F.tn 12 (b.lo.take F.tn) from
            ⟨by rw [List.length_take, HBo.out.wf.lo]; omega, hn12, by omega, by omega, fun x hx => by
              have := bet_iff.1 (List.all_eq_true.1 HBo.out.lo x (List.mem_of_mem_take hx)); unfold I64; omega, fun j u hu => by
              refine ⟨_, rfl, trivial, ?_⟩
              have e : (⟨w.heap.size, 0, none⟩ : Addr).add j = ⟨w.heap.size, j, none⟩ := by
                unfold Addr.add
                by_cases hj : j = 0 <;> simp [hj]
              have hj : j < F.tn := by
                have := (List.getElem?_eq_some_iff.1 hu).1
                simp at this; omega
              rw [e, hkx.cell, bxv_get HBo.out.wf (by omega), ints_lo HBo.out.wf (by omega)]
              rw [← hu]
              simp [hj, show j < b.lo.length by rw [HBo.out.wf.lo]; omega]⟩)
          clear hq hbx hsx hkx hfree
          have hsl := fun W => run_slice56 w.heap.size F.tn hn12 W
          go_wp2_with (go_at_call 31
                       refine (clone1_c _ _ _ _ _ wx HR1.out (by omega)).mono ?_
                       rintro e w3 ⟨A, n, c, rfl, hO, hb3⟩
                       have HO := Lib.hid hO
                       have HB3 := Lib.hid hb3
                       clear hO hb3)
          refine ⟨rfl, ?_⟩
          rw [HVV.out]
          have hs1 := Hbx.out.size
          have hnl := HO.out.len
          exact ⟨A, n, c, rfl, HO.out.r1 (fun q hq => by have := (HO.out.lt q hq).1; show w.heap.size ≤ q; omega) (by rw [← hnl]; simp; omega) HR1.out.wf, Chg.of_below (Hbx.out.trans (HB3.out.mono hs1))⟩

/-- '(*search).visit'. -/
theorem visit_c (B g : Nat) (F : Fix) (hF : FixOk F) : ∀ (fu : Nat) (b : Box) (pA : Option Addr) (pn pc : Nat) (p : List Step) (w : World), Srch w B g F pA pn pc p → B ≤ w.heap.size → BoxOk F.tn b → eachB F.at' 0 (b.rows - 1) = true → b.wid F.tn < fu → pn + 3 * b.vol F.tn ≤ 90000 → b.rows + b.wid F.tn ≤ 100000 →
      Calls Try.prog 24 #[.pointer (some ⟨g, 0, none⟩), .agg (bxv b)] w (VisPost B g F pA w (visitF F.rows F.at' F.tn fu b p))
  | 0, _, _, _, _, _, _, _, _, _, _, hw, _, _ => by omega
  | fu + 1, b, pA, pn, pc, p, w, h, hB, hb, hat, hw, hv, hr => visit_step B g F hF fu (visit_c B g F hF fu) b pA pn pc p w h hB hb hat hw hv hr

end Go.Proofs.Ytjienelkjpodkaa
