/- Walks: Solve. -/
import Derived.Test.YtjienelkjpodkaaL11
namespace Go.Proofs.Ytjienelkjpodkaa
open Go.RowKit

theorem valid_ok {s : Sys} (h : validS s = true) : SysOk s := by
  unfold validS at h
  simp only [Bool.and_eq_true, decide_eq_true_eq] at h
  obtain ⟨h1, h2, h3, h4, h5⟩ := h
  refine ⟨h1, h2, h3, h4, fun r hr => ?_⟩
  have := List.all_eq_true.1 h5 r hr
  unfold rowOk at this
  simp only [Bool.and_eq_true, beq_iff_eq] at this
  obtain ⟨g1, g2, g3⟩ := this
  have := bet_iff.1 g3
  exact ⟨g1, g2, by omega, by omega⟩

def SolvePost (w : World) (V : List Int × List Step × Bool × Int) (e : Ending) (w' : World) : Prop :=
  ∃ xA xn xc pA pn pc, e = .returned (.tuple #[.slice xA xn xc, .slice pA pn pc, .bool V.2.2.1, .int .i64 V.2.2.2]) ∧ R1 w' (fun k => w.heap.size ≤ k) xA xn xc V.1 ∧ RP w' (fun _ => True) pA pn pc V.2.1 ∧ Below w.heap.size w w'

structure Vars3 (w w' : World) (v1 v2 v3 : Value) : Prop where
  b1 : Blk w' (w.heap.size + 1) 22 #[v1]
  b2 : Blk w' (w.heap.size + 1 + 1) 29 #[v2]
  b3 : Blk w' (w.heap.size + 1 + 1 + 1) 4 #[v3]
theorem Vars3.below {w w' w'' : World} {v1 v2 v3 : Value} (h : Vars3 w w' v1 v2 v3) (hb : Below (w.heap.size + 4) w' w'') : Vars3 w w'' v1 v2 v3 :=
  ⟨h.b1.below hb (by omega), h.b2.below hb (by omega), h.b3.below hb (by omega)⟩
theorem Vars3.set {w w' : World} {v1 v2 v3 : Value} (h : Vars3 w w' v1 v2 v3) (u1 u2 u3 : Value) : Vars3 w (((w'.setCell ⟨w.heap.size + 1, 0, none⟩ u1).setCell ⟨w.heap.size + 1 + 1, 0, none⟩ u2).setCell ⟨w.heap.size + 1 + 1 + 1, 0, none⟩ u3) u1 u2 u3 :=
  ⟨((h.b1.set_ 0 u1).far (by show w.heap.size + 1 ≠ w.heap.size + 1 + 1; omega) u2).far (by show w.heap.size + 1 ≠ w.heap.size + 1 + 1 + 1; omega) u3,
   ((h.b2.far (p := ⟨w.heap.size + 1, 0, none⟩) (by show w.heap.size + 1 + 1 ≠ w.heap.size + 1; omega) u1).set_ 0 u2).far (by show w.heap.size + 1 + 1 ≠ w.heap.size + 1 + 1 + 1; omega) u3,
   ((h.b3.far (p := ⟨w.heap.size + 1, 0, none⟩) (by show w.heap.size + 1 + 1 + 1 ≠ w.heap.size + 1; omega) u1).far (p := ⟨w.heap.size + 1 + 1, 0, none⟩) (by show w.heap.size + 1 + 1 + 1 ≠ w.heap.size + 1 + 1; omega) u2).set_ 0 u3⟩
theorem below_set3 {w w' : World} (hb : Below w.heap.size w w') (u1 u2 u3 : Value) : Below w.heap.size w (((w'.setCell ⟨w.heap.size + 1, 0, none⟩ u1).setCell ⟨w.heap.size + 1 + 1, 0, none⟩ u2).setCell ⟨w.heap.size + 1 + 1 + 1, 0, none⟩ u3) :=
  below_only (below_only (below_only hb (Only.setCell _ _ _ _) (by omega)) (Only.setCell _ _ _ _) (by omega)) (Only.setCell _ _ _ _) (by omega)

set_option maxRecDepth 100000 in
set_option maxHeartbeats 1000000 in
/-- 'Solve'. -/
theorem solve_c (K : Nat → Prop) (A B : Option Addr) (n c m d : Nat) (s : Sys) (w : World) (h : R1 w K A n c s.1) (h' : RR w K B m d s.2) :
    Calls Try.prog 10 #[.agg #[.slice A n c, .slice B m d]] w (SolvePost w (solveF s)) := by
  obtain rfl := h.len
  have H1 := Lib.hid h
  have H2 := Lib.hid h'
  have hmf := run_makeFunc
  have HV := Lib.hid (fun W (hb : Below w.heap.size w W) => valid_c K K A B s.1.length c m d s.1 s.2 W (h.below hb) (h'.below hb))
  clear h h'
  go_enter_defers Try.func10, Try.ntmps10
  go_wp2_with fail
  have hb0 : Below w.heap.size w ((((w.alloc (.cells #[.slice A s.1.length c, .slice B m d] 25)).alloc (.cells #[.slice none 0 0] 22)).alloc (.cells #[.slice none 0 0] 29)).alloc (.cells #[.bool false] 4)) := ((((Below.refl _ _).alloc (Nat.le_refl _) _).alloc (by simp) _).alloc (by simp; omega) _).alloc (by simp; omega) _
  have hv0 : Vars3 w ((((w.alloc (.cells #[.slice A s.1.length c, .slice B m d] 25)).alloc (.cells #[.slice none 0 0] 22)).alloc (.cells #[.slice none 0 0] 29)).alloc (.cells #[.bool false] 4)) (.slice none 0 0) (.slice none 0 0) (.bool false) := by
    refine ⟨?_, ?_, ?_⟩
    · have := ((Blk.new (w.alloc (.cells #[.slice A s.1.length c, .slice B m d] 25)) 22 #[.slice none 0 0]).alloc (.cells #[.slice none 0 0] 29)).alloc (.cells #[.bool false] 4)
      simpa using this
    · have := (Blk.new ((w.alloc (.cells #[.slice A s.1.length c, .slice B m d] 25)).alloc (.cells #[.slice none 0 0] 22)) 29 #[.slice none 0 0]).alloc (.cells #[.bool false] 4)
      simpa using this
    · have := Blk.new (((w.alloc (.cells #[.slice A s.1.length c, .slice B m d] 25)).alloc (.cells #[.slice none 0 0] 22)).alloc (.cells #[.slice none 0 0] 29)) 4 #[.bool false]
      simpa using this
  have hk0 := (((Blk.new w 25 #[.slice A s.1.length c, .slice B m d]).alloc (.cells #[.slice none 0 0] 22)).alloc (.cells #[.slice none 0 0] 29)).alloc (.cells #[.bool false] 4)
  have hs0 : ((((w.alloc (.cells #[.slice A s.1.length c, .slice B m d] 25)).alloc (.cells #[.slice none 0 0] 22)).alloc (.cells #[.slice none 0 0] 29)).alloc (.cells #[.bool false] 4)).heap.size = w.heap.size + 4 := by simp
  obtain ⟨w0, hw0⟩ : ∃ w0, w0 = (((w.alloc (.cells #[.slice A s.1.length c, .slice B m d] 25)).alloc (.cells #[.slice none 0 0] 22)).alloc (.cells #[.slice none 0 0] 29)).alloc (.cells #[.bool false] 4) := ⟨_, rfl⟩
  rw [← hw0] at hb0 hv0 hk0 hs0 ⊢
  have HB0 := Lib.hid hb0
  have HV0 := Lib.hid hv0
  have HK0 := Lib.hid hk0
  have HS0 := Lib.hid hs0
  clear hb0 hv0 hk0 hs0 hw0
  by_cases hval : validS s = true
  · have HSy := Lib.hid (valid_ok hval)
    have HVf := Lib.hid hval
    clear hval
    have HPC := Lib.hid (fun W (hb : Below w.heap.size w W) => points_c K K A B s.1.length c m d s.1 W (H1.out.below hb) HSy.out.top)
    rcases Int.lt_or_le 16384 (pointsF s.1 1) with hpt | hpt
    · have HSv := Lib.hid (show solveF s = ([], [], false, 2) by unfold solveF; rw [if_pos HVf.out, if_pos hpt])
      generalize pointsF s.1 1 = pp at *
      go_wp2_with (first
        | (go_at_call 21
           refine (HPC.out w1 HB1.out).mono ?_
           rintro e w2 ⟨rfl, hb2⟩
           have hb2a := HBa.out.trans (hb2.mono HBa.out.size)
           have hv2 := HV0.out.below (HS0.out ▸ hb2a)
           have c1 := hv2.b1.cell 0
           have c2 := hv2.b2.cell 0
           have c3 := hv2.b3.cell 0
           have f1 := hv2.b1.frozen 0
           have f2 := hv2.b2.frozen 0
           have f3 := hv2.b3.frozen 0
           have HV2 := Lib.hid hv2
           have HK2 := Lib.hid (HK1.out.old hb2)
           have HB2 := Lib.hid (HB1.out.trans (hb2.mono HB1.out.size))
           have HBb := Lib.hid hb2a
           clear hb2 hb2a hv2)
        | (refine wpList_load_blk rfl 25 (.tmp 1) rfl w.heap.size rfl 25 #[.slice A s.1.length c, .slice B m d] _ HK1.out Try.underlying25 rfl size25 ?_)
        | (go_at_call 11
           refine (HV.out w0 HB0.out).mono ?_
           rw [HVf.out]
           rintro e w1 ⟨rfl, hb1⟩
           have HV1 := Lib.hid (HV0.out.below (HS0.out ▸ hb1))
           have HK1 := Lib.hid (HK0.out.below hb1 (by have := HS0.out; omega))
           have HB1 := Lib.hid (HB0.out.trans (hb1.mono HB0.out.size))
           have HBa := Lib.hid hb1
           clear hb1))
      have hv := HV2.out.set (.slice none 0 0) (.slice none 0 0) (.bool false)
      have hb := below_set3 HB2.out (.slice none 0 0) (.slice none 0 0) (.bool false)
      have k1 := hv.b1.cell 0
      have k2 := hv.b2.cell 0
      have k3 := hv.b3.cell 0
      have hp : SolvePost w (solveF s) (.returned (.tuple #[.slice none 0 0, .slice none 0 0, .bool false, .int .i64 2])) (((w2.setCell ⟨w.heap.size + 1, 0, none⟩ (.slice none 0 0)).setCell ⟨w.heap.size + 1 + 1, 0, none⟩ (.slice none 0 0)).setCell ⟨w.heap.size + 1 + 1 + 1, 0, none⟩ (.bool false)) := by
        rw [HSv.out]
        exact ⟨none, 0, 0, none, 0, 0, rfl, R1.nil_ _ _, RP.nil_ _ _, hb⟩
      generalize ((w2.setCell ⟨w.heap.size + 1, 0, none⟩ (.slice none 0 0)).setCell ⟨w.heap.size + 1 + 1, 0, none⟩ (.slice none 0 0)).setCell ⟨w.heap.size + 1 + 1 + 1, 0, none⟩ (.bool false) = W at *
      simp [bodyPostD, Leaves, results, Try.results10, go_sem, k1, k2, k3, hp]
    · have HPr := Lib.hid (show prodF s.1 ≤ 16384 by have := points_prod s.1 1 HSy.out.top (by omega) (by omega) (by simpa using hpt); omega)
      have hpt' : ¬ 16384 < pointsF s.1 1 := by omega
      have Hsz := Lib.hid (show (Try.prog.info? 58).map (·.size) = some (bxv (boxF s (startF s).n)).size by rw [bxv_size (boxF_rows s HSy.out _)]; exact size58)
      rcases hV : searchF s with ⟨o, p'⟩
      have HVV := Lib.hid hV
      cases o with
      | some x =>
        have HSv := Lib.hid (show solveF s = (x, [], true, 0) by unfold solveF; rw [if_pos HVf.out, if_neg hpt', hV])
        clear hV
        generalize pointsF s.1 1 = pp at *
        go_wp2_with (first
          | (go_at_call 24
             refine (visit_start A c (.slice B m d) rA rn rc aA an ac s HSy.out HPr.out _ g pA pn pc w5 HSr5.out (by have := HB5.out.size; omega)).mono ?_
             rw [HVV.out]
             rintro e w6 ⟨A6, n6, c6, rfl, hr6, hc6⟩
             have HR6 := Lib.hid hr6
             have HC6 := Lib.hid hc6
             clear hr6 hc6)
          | (refine wpList_store_blk rfl 58 (.tmp 7) (.tmp 19) rfl rfl _ _ cs4 58 rfl rfl Hk4.out Hsz.out (by rw [bxv_size (boxF_rows s HSy.out _)]; exact Hcs4.out) (bxv_one _) ?_
             intro w5 hk5 ho5
             have hb5 := below_only Hb4.out ho5 (Nat.le_refl _)
             have HSr5 := Lib.hid (HSr.out.below hb5)
             have HB5 := Lib.hid (HB3.out.trans (hb5.mono HB3.out.size))
             have Hk5 := Lib.hid hk5
             clear hb5 hk5 ho5)
          | (refine wpList_load_blk rfl 58 (.tmp 7) rfl _ rfl 58 (bxv (boxF s (startF s).n)) _ Hk5.out Try.underlying58 rfl Hsz.out ?_)
          | (refine wpList_alloc58 rfl rfl ?_
             intro w4 cs4 hk4 hcs4 hb4 hs4
             have Hk4 := Lib.hid hk4
             have Hcs4 := Lib.hid hcs4
             have Hb4 := Lib.hid hb4
             clear hk4 hcs4 hb4 hs4)
          | (go_at_call 23
             refine (start_c K A B s.1.length c m d s w2 (H1.out.below HB2.out) (H2.out.below HB2.out) HSy.out).mono ?_
             rintro e w3 ⟨rA, rn, rc, aA, an, ac, g, pA, pn, pc, rfl, hS, hb, hg⟩
             have HSr := Lib.hid hS
             have HB3 := Lib.hid hb
             have Hg := Lib.hid hg
             clear hS hb hg)
          | (go_at_call 21
             refine (HPC.out w1 HB1.out).mono ?_
             rintro e w2 ⟨rfl, hb2⟩
             have hb2a := HBa.out.trans (hb2.mono HBa.out.size)
             have hv2 := HV0.out.below (HS0.out ▸ hb2a)
             have HV2 := Lib.hid hv2
             have HK2 := Lib.hid (HK1.out.old hb2)
             have HB2 := Lib.hid (HB1.out.trans (hb2.mono HB1.out.size))
             have HBb := Lib.hid hb2a
             clear hb2 hb2a hv2)
          | (refine wpList_load_blk rfl 25 (.tmp 1) rfl w.heap.size rfl 25 #[.slice A s.1.length c, .slice B m d] _ HK2.out Try.underlying25 rfl size25 ?_)
          | (refine wpList_load_blk rfl 25 (.tmp 1) rfl w.heap.size rfl 25 #[.slice A s.1.length c, .slice B m d] _ HK1.out Try.underlying25 rfl size25 ?_)
          | (go_at_call 11
             refine (HV.out w0 HB0.out).mono ?_
             rw [HVf.out]
             rintro e w1 ⟨rfl, hb1⟩
             have HV1 := Lib.hid (HV0.out.below (HS0.out ▸ hb1))
             have HK1 := Lib.hid (HK0.out.below hb1 (by have := HS0.out; omega))
             have HB1 := Lib.hid (HB0.out.trans (hb1.mono HB0.out.size))
             have HBa := Lib.hid hb1
             clear hb1))
        have hb6 := chg_below HB5.out HSr5.out HC6.out
        have hv6 := HV0.out.below (HS0.out ▸ (HBb.out.trans (hb6.mono HBb.out.size)))
        have hb6' := HB2.out.trans (hb6.mono HB2.out.size)
        have hl5 : w.heap.size + 4 ≤ w5.heap.size := by have := HS0.out; have := HBb.out.size; have := HB5.out.size; omega
        refine leaves_cons (f := 22) (args := #[.pointer (some ⟨w.heap.size + 1, 0, none⟩), .pointer (some ⟨w.heap.size + 1 + 1, 0, none⟩), .pointer (some ⟨w.heap.size + 1 + 1 + 1, 0, none⟩)]) (by simp) (by simp [go_sem]) ?_
        refine (catch22_panicking ⟨w.heap.size + 1, 0, none⟩ ⟨w.heap.size + 1 + 1, 0, none⟩ ⟨w.heap.size + 1 + 1 + 1, 0, none⟩ false (.slice none 0 0) (.slice none 0 0) A6 n6 c6 [] w6 (hv6.b1.cell 0) (hv6.b2.cell 0) (hv6.b3.cell 0) (hv6.b1.frozen 0) (hv6.b2.frozen 0) (hv6.b3.frozen 0) (by simp) (by simp) (by simp)).mono ?_
        rintro e u' w'' ⟨rfl, rfl, rfl⟩
        have hb7 : Below w6.heap.size w6 (w6.alloc (.cells #[.slice A6 n6 c6] 53)) := (Below.refl _ _).alloc (Nat.le_refl _) _
        have hv := (hv6.below (hb7.mono (by have := HC6.out.size; omega))).set (.slice A6 n6 c6) (.slice none 0 0) (.bool true)
        have hb := below_set3 (hb6'.trans (hb7.mono hb6'.size)) (.slice A6 n6 c6) (.slice none 0 0) (.bool true)
        have hr := (((HR6.out.below hb7).set_far (p := ⟨w.heap.size + 1, 0, none⟩) (u := .slice A6 n6 c6) (fun k (hk : w5.heap.size ≤ k) => (by omega : k ≠ w.heap.size + 1))).set_far (p := ⟨w.heap.size + 1 + 1, 0, none⟩) (u := .slice none 0 0) (fun k (hk : w5.heap.size ≤ k) => (by omega : k ≠ w.heap.size + 1 + 1))).set_far (p := ⟨w.heap.size + 1 + 1 + 1, 0, none⟩) (u := .bool true) (fun k (hk : w5.heap.size ≤ k) => (by omega : k ≠ w.heap.size + 1 + 1 + 1))
        have k1 := hv.b1.cell 0
        have k2 := hv.b2.cell 0
        have k3 := hv.b3.cell 0
        have hp : SolvePost w (solveF s) (.returned (.tuple #[.slice A6 n6 c6, .slice none 0 0, .bool true, .int .i64 0])) ((((w6.alloc (.cells #[.slice A6 n6 c6] 53)).setCell ⟨w.heap.size + 1, 0, none⟩ (.slice A6 n6 c6)).setCell ⟨w.heap.size + 1 + 1, 0, none⟩ (.slice none 0 0)).setCell ⟨w.heap.size + 1 + 1 + 1, 0, none⟩ (.bool true)) := by
          rw [HSv.out]
          exact ⟨A6, n6, c6, none, 0, 0, rfl, hr.weak (fun k _ (hk : w5.heap.size ≤ k) => (by omega : w.heap.size ≤ k)), RP.nil_ _ _, hb⟩
        generalize (((w6.alloc (.cells #[.slice A6 n6 c6] 53)).setCell ⟨w.heap.size + 1, 0, none⟩ (.slice A6 n6 c6)).setCell ⟨w.heap.size + 1 + 1, 0, none⟩ (.slice none 0 0)).setCell ⟨w.heap.size + 1 + 1 + 1, 0, none⟩ (.bool true) = W at *
        simp [Leaves, settle, results, Try.results10, go_sem, k1, k2, k3, hp]
      | none =>
        have HSv := Lib.hid (show solveF s = ([], p', false, 0) by unfold solveF; rw [if_pos HVf.out, if_neg hpt', hV])
        have HWf := Lib.hid (show ∀ x ∈ p', StepWf x by have := search_wf HSy.out HPr.out; rw [hV] at this; exact this)
        have HLn := Lib.hid (show p'.length ≤ 49200 by have := search_len HSy.out HPr.out; rw [hV] at this; exact this)
        clear hV
        generalize pointsF s.1 1 = pp at *
        go_wp2_with (first
          | (go_at_call 24
             refine (visit_start A c (.slice B m d) rA rn rc aA an ac s HSy.out HPr.out _ g pA pn pc w5 HSr5.out (by have := HB5.out.size; omega)).mono ?_
             rw [HVV.out]
             rintro e w6 ⟨rfl, pA6, pc6, hs6, hc6, hn6⟩
             have hb6 := chg_below HB5.out HSr5.out hc6
             have hv6 := HV0.out.below (HS0.out ▸ (HBb.out.trans (hb6.mono HBb.out.size)))
             have hg4 := hs6.blk.cell 4
             have c1 := hv6.b1.cell 0
             have c2 := hv6.b2.cell 0
             have c3 := hv6.b3.cell 0
             have f1 := hv6.b1.frozen 0
             have f2 := hv6.b2.frozen 0
             have f3 := hv6.b3.frozen 0
             have HV6 := Lib.hid hv6
             have HB6 := Lib.hid (HB2.out.trans (hb6.mono HB2.out.size))
             have HS6 := Lib.hid hs6
             have ng1 : ¬ g = w.heap.size + 1 := by have := HS0.out; have := HBb.out.size; have := hs6.base; omega
             have ng2 : ¬ g = w.heap.size + 1 + 1 := by have := HS0.out; have := HBb.out.size; have := hs6.base; omega
             have ng3 : ¬ g = w.heap.size + 1 + 1 + 1 := by have := HS0.out; have := HBb.out.size; have := hs6.base; omega
             clear hs6 hc6 hn6 hb6 hv6)
          | (refine wpList_store_blk rfl 58 (.tmp 7) (.tmp 19) rfl rfl _ _ cs4 58 rfl rfl Hk4.out Hsz.out (by rw [bxv_size (boxF_rows s HSy.out _)]; exact Hcs4.out) (bxv_one _) ?_
             intro w5 hk5 ho5
             have hb5 := below_only Hb4.out ho5 (Nat.le_refl _)
             have HSr5 := Lib.hid (HSr.out.below hb5)
             have HB5 := Lib.hid (HB3.out.trans (hb5.mono HB3.out.size))
             have Hk5 := Lib.hid hk5
             clear hb5 hk5 ho5)
          | (refine wpList_load_blk rfl 58 (.tmp 7) rfl _ rfl 58 (bxv (boxF s (startF s).n)) _ Hk5.out Try.underlying58 rfl Hsz.out ?_)
          | (refine wpList_alloc58 rfl rfl ?_
             intro w4 cs4 hk4 hcs4 hb4 hs4
             have Hk4 := Lib.hid hk4
             have Hcs4 := Lib.hid hcs4
             have Hb4 := Lib.hid hb4
             clear hk4 hcs4 hb4 hs4)
          | (go_at_call 23
             refine (start_c K A B s.1.length c m d s w2 (H1.out.below HB2.out) (H2.out.below HB2.out) HSy.out).mono ?_
             rintro e w3 ⟨rA, rn, rc, aA, an, ac, g, pA, pn, pc, rfl, hS, hb, hg⟩
             have HSr := Lib.hid hS
             have HB3 := Lib.hid hb
             have Hg := Lib.hid hg
             clear hS hb hg)
          | (go_at_call 21
             refine (HPC.out w1 HB1.out).mono ?_
             rintro e w2 ⟨rfl, hb2⟩
             have hb2a := HBa.out.trans (hb2.mono HBa.out.size)
             have hv2 := HV0.out.below (HS0.out ▸ hb2a)
             have HV2 := Lib.hid hv2
             have HK2 := Lib.hid (HK1.out.old hb2)
             have HB2 := Lib.hid (HB1.out.trans (hb2.mono HB1.out.size))
             have HBb := Lib.hid hb2a
             clear hb2 hb2a hv2)
          | (refine wpList_load_blk rfl 25 (.tmp 1) rfl w.heap.size rfl 25 #[.slice A s.1.length c, .slice B m d] _ HK2.out Try.underlying25 rfl size25 ?_)
          | (refine wpList_load_blk rfl 25 (.tmp 1) rfl w.heap.size rfl 25 #[.slice A s.1.length c, .slice B m d] _ HK1.out Try.underlying25 rfl size25 ?_)
          | (go_at_call 11
             refine (HV.out w0 HB0.out).mono ?_
             rw [HVf.out]
             rintro e w1 ⟨rfl, hb1⟩
             have HV1 := Lib.hid (HV0.out.below (HS0.out ▸ hb1))
             have HK1 := Lib.hid (HK0.out.below hb1 (by have := HS0.out; omega))
             have HB1 := Lib.hid (HB0.out.trans (hb1.mono HB0.out.size))
             have HBa := Lib.hid hb1
             clear hb1))
        go_region
        all_goals
          go_wp2_with fail
          have hv7 := HV6.out.set (.slice none 0 0) (.slice pA6 p'.length pc6) (.bool false)
          have hb7 := below_set3 HB6.out (.slice none 0 0) (.slice pA6 p'.length pc6) (.bool false)
          have hr7 : RP (((w6.setCell ⟨w.heap.size + 1, 0, none⟩ (.slice none 0 0)).setCell ⟨w.heap.size + 1 + 1, 0, none⟩ (.slice pA6 p'.length pc6)).setCell ⟨w.heap.size + 1 + 1 + 1, 0, none⟩ (.bool false)) (fun _ => True) pA6 p'.length pc6 p' := by
            obtain ⟨us, hO, hA⟩ := HS6.out.po
            have hO3 := ((hO.only (Only.setCell w6 (w.heap.size + 1) 0 (.slice none 0 0)) (ownS_ne_blk hO HV6.out.b1 (by decide))).only (Only.setCell _ (w.heap.size + 1 + 1) 0 (.slice pA6 p'.length pc6)) (ownS_ne_blk hO HV6.out.b2 (by decide))).only (Only.setCell _ (w.heap.size + 1 + 1 + 1) 0 (.bool false)) (ownS_ne_blk hO HV6.out.b3 (by decide))
            have hA1 := hA.other (u := .slice none 0 0) (HV6.out.b1.cell 0) (fun x => by simp)
            have e2 := (HV6.out.b2.far (p := ⟨w.heap.size + 1, 0, none⟩) (by simp) (.slice none 0 0))
            have hA2 := hA1.other (u := .slice pA6 p'.length pc6) (e2.cell 0) (fun x => by simp)
            have e3 := (HV6.out.b3.far (p := ⟨w.heap.size + 1, 0, none⟩) (by simp; omega) (.slice none 0 0)).far (p := ⟨w.heap.size + 1 + 1, 0, none⟩) (by simp) (.slice pA6 p'.length pc6)
            have hA3 := hA2.other (u := .bool false) (e3.cell 0) (fun x => by simp)
            exact hO3.rp (fun _ _ => trivial) (by have := HLn.out; omega) (hA3.weak fun _ _ _ => trivial) HWf.out
          refine leaves_cons (f := 22) (args := #[.pointer (some ⟨w.heap.size + 1, 0, none⟩), .pointer (some ⟨w.heap.size + 1 + 1, 0, none⟩), .pointer (some ⟨w.heap.size + 1 + 1 + 1, 0, none⟩)]) (by simp) (by simp [go_sem]) ?_
          refine (catch22_idle ⟨w.heap.size + 1, 0, none⟩ ⟨w.heap.size + 1 + 1, 0, none⟩ ⟨w.heap.size + 1 + 1 + 1, 0, none⟩ _).mono ?_
          rintro e u' w'' ⟨rfl, rfl, hbi⟩
          generalize (((w6.setCell ⟨w.heap.size + 1, 0, none⟩ (.slice none 0 0)).setCell ⟨w.heap.size + 1 + 1, 0, none⟩ (.slice pA6 p'.length pc6)).setCell ⟨w.heap.size + 1 + 1 + 1, 0, none⟩ (.bool false)) = W7 at *
          have hbi' : Below W7.heap.size W7 w'' := ((Below.refl W7.heap.size W7).drew).trans hbi
          have hv := hv7.below (hbi'.mono (by have := hv7.b3.lt; omega))
          have k1 := hv.b1.cell 0
          have k2 := hv.b2.cell 0
          have k3 := hv.b3.cell 0
          have hp : SolvePost w (solveF s) (.returned (.tuple #[.slice none 0 0, .slice pA6 p'.length pc6, .bool false, .int .i64 0])) w'' := by
            rw [HSv.out]
            exact ⟨none, 0, 0, pA6, p'.length, pc6, rfl, R1.nil_ _ _, hr7.below hbi', hb7.trans (hbi'.mono hb7.size)⟩
          simp [Leaves, settle, results, Try.results10, go_sem, k1, k2, k3, hp]
  · have hf : validS s = false := by simpa using hval
    have HVf := Lib.hid hf
    have HSv := Lib.hid (show solveF s = ([], [], false, 1) by unfold solveF; rw [if_neg hval])
    clear hval hf
    go_wp2_with (go_at_call 11
                 refine (HV.out w0 HB0.out).mono ?_
                 rw [HVf.out]
                 rintro e w1 ⟨rfl, hb1⟩
                 have hb1' := HS0.out ▸ hb1
                 have hv1 := HV0.out.below hb1'
                 have c1 := hv1.b1.cell 0
                 have c2 := hv1.b2.cell 0
                 have c3 := hv1.b3.cell 0
                 have f1 := hv1.b1.frozen 0
                 have f2 := hv1.b2.frozen 0
                 have f3 := hv1.b3.frozen 0
                 have HV1 := Lib.hid hv1
                 have HB1 := Lib.hid (HB0.out.trans (hb1.mono HB0.out.size))
                 clear hb1 hb1' hv1)
    have hv := HV1.out.set (.slice none 0 0) (.slice none 0 0) (.bool false)
    have hb := below_set3 HB1.out (.slice none 0 0) (.slice none 0 0) (.bool false)
    have k1 := hv.b1.cell 0
    have k2 := hv.b2.cell 0
    have k3 := hv.b3.cell 0
    have hp : SolvePost w (solveF s) (.returned (.tuple #[.slice none 0 0, .slice none 0 0, .bool false, .int .i64 1])) (((w1.setCell ⟨w.heap.size + 1, 0, none⟩ (.slice none 0 0)).setCell ⟨w.heap.size + 1 + 1, 0, none⟩ (.slice none 0 0)).setCell ⟨w.heap.size + 1 + 1 + 1, 0, none⟩ (.bool false)) := by
      rw [HSv.out]
      exact ⟨none, 0, 0, none, 0, 0, rfl, R1.nil_ _ _, RP.nil_ _ _, hb⟩
    generalize ((w1.setCell ⟨w.heap.size + 1, 0, none⟩ (.slice none 0 0)).setCell ⟨w.heap.size + 1 + 1, 0, none⟩ (.slice none 0 0)).setCell ⟨w.heap.size + 1 + 1 + 1, 0, none⟩ (.bool false) = W at *
    simp [bodyPostD, Leaves, results, Try.results10, go_sem, k1, k2, k3, hp]
end Go.Proofs.Ytjienelkjpodkaa
