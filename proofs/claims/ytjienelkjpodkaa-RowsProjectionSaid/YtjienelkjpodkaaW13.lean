/- Walks: start. -/
import Derived.Test.YtjienelkjpodkaaL10
namespace Go.Proofs.Ytjienelkjpodkaa
open Go.RowKit

set_option maxRecDepth 100000 in
set_option maxHeartbeats 4000000 in
/-- 'start'. -/
theorem start_c (K : Nat → Prop) (A B : Option Addr) (n c m d : Nat) (s : Sys) (w : World) (h : R1 w K A n c s.1) (h' : RR w K B m d s.2) (hs : SysOk s) :
    Calls Try.prog 23 #[.agg #[.slice A n c, .slice B m d]] w (fun e w' => ∃ rA rn rc aA an ac, StartPost w s ⟨A, n, c, .slice B m d, rA, rn, rc, aA, an, ac, s.1, (startF s).rows, (startF s).at'⟩ e w') := by
  have hln := h.len
  have hlm := h'.len
  have hc1 := h.cap
  have hc2 := h'.cap
  have hn1 := hs.n1
  have hn12 := hs.n12
  have hm24 := hs.m24
  rw [hln] at hn1 hn12
  rw [hlm] at hm24
  have H1 := Lib.hid h
  have H2 := Lib.hid h'
  have HS := Lib.hid hs
  have HK25 := Lib.hid (Blk.new w 25 #[.slice A n c, .slice B m d])
  have HB25 := Lib.hid (show Below w.heap.size w (w.alloc (.cells #[.slice A n c, .slice B m d] 25)) from (Below.refl _ _).alloc (Nat.le_refl _) _)
  have hN : -100000 ≤ (m : Int) + 2 * n ∧ (m : Int) + 2 * n ≤ 100000 := by omega
  clear h h' hs
  go_enter Try.func23, Try.ntmps23
  go_wp2_with (first
    | (have _ := HK63
       refine wpList_alloc58 rfl rfl ?_
       intro w3 cs3 hk3 hcs3 hb3 hs3
       have Hk3 := Lib.hid hk3
       have Hcs3 := Lib.hid hcs3
       have Hb3 := Lib.hid hb3
       have Hs3 := Lib.hid hs3
       clear hk3 hcs3 hb3 hs3)
    | (refine wpList_alloc58 rfl rfl ?_
       intro w1 cs1 hk1 hcs1 hb1 hs1
       simp only [World.size_alloc] at hs1 hb1 hk1
       have hk25 := HK25.out.below hb1 (by omega)
       have HB1 := Lib.hid (HB25.out.trans (hb1.mono (by omega)))
       have e0 := hk25.cell 0
       have e1 := hk25.cell 1
       have d0 : (w1.alloc (.cells #[.slice A n c, .slice B m d, .slice none 0 0, .slice none 0 0, .slice none 0 0] 63)).cell? ⟨w.heap.size, 0, none⟩ = some (.slice A n c) := (hk25.alloc _).cell 0
       have d1 : (w1.alloc (.cells #[.slice A n c, .slice B m d, .slice none 0 0, .slice none 0 0, .slice none 0 0] 63)).cell? ⟨w.heap.size, 1, none⟩ = some (.slice B m d) := (hk25.alloc _).cell 1
       have HK1 := Lib.hid hk1
       have Hcs1 := Lib.hid hcs1
       have Hs1 := Lib.hid hs1
       have HKs1 := Lib.hid hk25
       have HK63 := Lib.hid (Blk.new w1 63 #[.slice A n c, .slice B m d, .slice none 0 0, .slice none 0 0, .slice none 0 0])
       clear hk1 hcs1 hb1 hs1 hk25)
    | (refine wpList_load_blk rfl 25 (.tmp 1) rfl w.heap.size rfl 25 #[.slice A n c, .slice B m d] _ HKs1.out Try.underlying25 rfl size25 ?_)
    | (refine wpList_build58 rfl (.tmp 21) rfl ((m : Int) + 2 * n) rfl _ (bxv_zero s _) ?_)
    | (refine wpList_store_blk rfl 58 (.tmp 5) (.tmp 22) rfl rfl _ _ cs3 58 rfl rfl (by first | exact Hk3.out | simpa using Hk3.out) (by rw [bxv_size (boxK_wf HS.out (Nat.zero_le _) _)]; exact size58) (by rw [bxv_size (boxK_wf HS.out (Nat.zero_le _) _)]; exact Hcs3.out) (bxv_one _) ?_
       intro w4 hk4 ho4
       have hsz : (w1.alloc (.cells #[.slice A n c, .slice B m d, .slice none 0 0, .slice none 0 0, .slice none 0 0] 63)).heap.size = w1.heap.size + 1 := by simp
       have hb4 := below_only (Hb3.out) ho4 (Nat.le_refl _)
       rw [hsz] at hb4 hk4 ho4
       have hs1 := Hs1.out
       have Hk5 := Lib.hid hk4
       have Hk63 := Lib.hid (HK63.out.below hb4 (by omega))
       have hk25 := (HKs1.out.alloc (.cells #[.slice A n c, .slice B m d, .slice none 0 0, .slice none 0 0, .slice none 0 0] 63)).below hb4 (by omega)
       have Hk58 := Lib.hid ((HK1.out.alloc (.cells #[.slice A n c, .slice B m d, .slice none 0 0, .slice none 0 0, .slice none 0 0] 63)).below hb4 (by omega))
       have Hb4 := Lib.hid ((HB1.out.alloc HB1.out.size (.cells #[.slice A n c, .slice B m d, .slice none 0 0, .slice none 0 0, .slice none 0 0] 63)).trans (hb4.mono (by omega)))
       have f0 : w4.cell? ⟨w.heap.size, 0, none⟩ = some (.slice A n c) := hk25.cell 0
       have f1 : w4.cell? ⟨w.heap.size, 1, none⟩ = some (.slice B m d) := hk25.cell 1
       have Hk25 := Lib.hid hk25
       have Hg := Lib.hid (show w1.heap.size = w.heap.size + 2 from hs1)
       clear hsz hb4 hk4 ho4 hs1 hk25 d0 d1 e0 e1 Hb3 Hk3 Hs3 HK63 HKs1 HK1 HB1 Hs1))
  generalize w1.heap.size = g at *
  have HI := Lib.hid (show Box1 (g + 1) s (m + 2 * n) w4 w4 0 from ⟨Only.refl _ _, Hk5.out⟩)
  clear f0 f1
  go_loopw [26] (fun s26 wr => ∃ k : Nat, k ≤ n ∧ s26 = .int .i64 k ∧ Box1 (g + 1) s (m + 2 * n) w4 wr k) (fun s26 _ => n - (intOf s26).toNat)
  case atStart => exact ⟨0, Nat.zero_le _, rfl, HI.out⟩
  case round =>
    clear HI
    obtain ⟨k, hk, rfl, hq⟩ := hrel
    obtain ⟨wo, rfl⟩ : ∃ wo : World, wo = wr := ⟨_, rfl⟩
    have HQ := Lib.hid hq
    have hgg := Hg.out
    have hk25 := Hk25.out.only hq.only (by omega)
    have hbo := below_only Hb4.out hq.only (by omega)
    by_cases hlt : k < n
    · obtain ⟨ad, x, rfl, _, hx, _, hcx⟩ := (H1.out.below hbo).at_ hlt
      have f0 : wo.cell? ⟨w.heap.size, 0, none⟩ = some (.slice (some ad) n c) := hk25.cell 0
      have f1 : wo.cell? ⟨w.heap.size, 1, none⟩ = some (.slice B m d) := hk25.cell 1
      have hwf := boxK_wf HS.out (k := k) (by omega) ((m : Int) + 2 * n)
      have hk12 : k < 12 := by omega
      have hk12' : (k : Int) < 12 := by omega
      have p1 := hq.blk.cell (12 + k)
      rw [bxv_get hwf (by omega)] at p1
      have p2 := hq.blk.cell (24 + k)
      rw [bxv_get hwf (by omega)] at p2
      have p3 := hq.blk.cell (36 + k)
      rw [bxv_get hwf (by omega)] at p3
      have q1 := hq.blk.frozen (12 + k)
      have q2 := hq.blk.frozen (24 + k)
      have q3 := hq.blk.frozen (36 + k)
      have n1 : ¬ w.heap.size = g + 1 := by omega
      have n2 : ¬ g + 1 = w.heap.size := by omega
      have hN' := HQ.out.next HS.out hx
      rw [hlm, hln] at hN'
      have HN := Lib.hid hN'
      clear hq hk25 hbo hx hgg hwf hN'
      go_wp2
      go_roundw
      case rel => exact ⟨k + 1, by omega, by go_num, HN.out⟩
      case measure => simp [intOf]; omega
    · obtain rfl : n = k := by omega
      have f1 : wo.cell? ⟨w.heap.size, 1, none⟩ = some (.slice B m d) := hk25.cell 1
      have hh : StMem w g (.slice A n c) (.slice B m d) cs1 s ⟨[], [], [], (m : Int) + 2 * n⟩ none 0 0 [] none 0 0 none 0 0 [] wo :=
        ⟨Hk63.out.only hq.only (by omega), by rw [← boxK_full, hln]; exact hq.blk, OwnS.nil_ _ _ _ _, AllR.nil_ _ _, Own.nil_ _ _ _, OwnS.nil_ _ _ _ _, AllS.nil_ _ _, hbo, Hk58.out.only hq.only (by omega)⟩
      have HM0 := Lib.hid hh
      have HO0 := Lib.hid (StOk.start s)
      rw [hlm, hln] at HO0
      clear hq hk25 hbo hgg hh
      go_wp2
      generalize hst0 : (⟨[], [], [], (m : Int) + 2 * n⟩ : Begin) = st0 at *
      clear hst0 f1
      go_loopw [59] (fun s59 wr => ∃ (k : Nat) (st : Begin) (rA : Option Addr) (rn rc : Nat) (rus : List Value) (aA : Option Addr) (an ac : Nat) (pA : Option Addr) (pn pc : Nat) (us : List Value), k ≤ m ∧ s59 = .int .i64 k ∧ StOk s k st ∧ StMem w g (.slice A n c) (.slice B m d) cs1 s st rA rn rc rus aA an ac pA pn pc us wr) (fun s59 _ => m - (intOf s59).toNat)
      case atStart => exact ⟨0, st0, none, 0, 0, [], none, 0, 0, none, 0, 0, [], Nat.zero_le _, rfl, HO0.out, HM0.out⟩
      case round =>
        clear HM0 HO0
        obtain ⟨k, st, rA, rn, rc, rus, aA, an, ac, pA, pn, pc, us, hk, rfl, hso, hsm⟩ := hrel
        obtain ⟨wx, rfl⟩ : ∃ wx : World, wx = wr := ⟨_, rfl⟩
        have HSO := Lib.hid hso
        have HM := Lib.hid hsm
        have hgg : w.heap.size + 2 ≤ g := by rw [Hg.out]; exact Nat.le_refl _
        have hrl := hso.rl
        have hal := hso.al
        have hpl := hso.pl
        have hrn : rn ≤ 48 := by have := hsm.rows.len; have := hsm.rin.1; omega
        have han : an ≤ 48 := by have := hsm.at'.len; simp at this; omega
        have hpn : pn ≤ 24 := by have := hsm.p.len; have := hsm.pin.1; omega
        have hgl := hsm.blk.lt
        have hbs := hsm.below.size
        clear hrl hal hpl
        by_cases hlt : k < m
        · obtain ⟨ad, r, A', n', c', rfl, _, hr, hcu, hcv, hR1, hI⟩ := ((H2.out.weak (K' := fun k => k < w.heap.size) fun k hlt _ => hlt).below hsm.below).at_ hlt
          have hrr := HS.out.rows r (List.mem_of_getElem? hr)
          have Hrr := Lib.hid hrr
          have HRr := Lib.hid hr
          have HCu := Lib.hid hcu
          have HCv := Lib.hid (show wx.cell? ((ad.add (k * 2)).add 1) = some (.int .i64 r.2) by rw [add_of_add]; exact hcv)
          have HR1 := Lib.hid hR1
          have HI1 := Lib.hid hI
          have hlr := hR1.len
          have hne := ownS_ne_blk hsm.rows hsm.blk (by decide)
          have HNe := Lib.hid hne
          have HT := Lib.hid (show obl rA ≠ some wx.heap.size from fun e => by have := (hsm.rows.lt _ e).2; omega)
          have c2 := hsm.blk.cell 2
          have fz2 := hsm.blk.frozen 2
          have ng : ¬ g = wx.heap.size := by omega
          clear hsm hso hr hcu hcv hR1 hI hrr hne
          go_wp2_with (first | (refine wpList_load_two rfl 37 (.tmp 62) rfl (ad.add (k * 2)) rfl _ _ HCu.out HCv.out Try.underlying37 size37 ?_))
          go_upto_region 13 with fail
          have HX := Lib.hid (show ∃ X, X = Obj.cells #[.slice A' n' c', .int .i64 r.2] 37 from ⟨_, rfl⟩)
          go_cut [8, 59] from 59 to 128 (fun s8 s59 wz => s8 = .int .i64 k ∧ s59 = .int .i64 k ∧ ∃ rA' rc' rus', StMem w g (.slice A n c) (.slice (some ad) m d) cs1 s { st with rows := st.rows ++ [r] } rA' (rn + 1) rc' rus' aA an ac pA pn pc us wz ∧ Blk wz wx.heap.size 37 #[.slice A' n' c', .int .i64 r.2] ∧ obl rA' ≠ some wx.heap.size ∧ Below w.heap.size w wz)
          case first =>
            have hB : w.heap.size ≤ wx.heap.size := hbs
            go_region_law (refine step_pushS rfl (.tmp 68) (.tmp 70) 23 rfl app23 w.heap.size rA rn rc rus rfl ((HM.out.rows.alloc _).alloc _) (wx.heap.size + 1) [.slice A' n' c', .int .i64 r.2] rfl rfl 37 (blk_two wx _ 37 _) (by simp [Value.oneCell']) (by omega) (by omega) (by simp; omega) ?_; intro A9 c9 w9 hown hgr hob; have hk9 := (HM.out.blk.old (((((Below.refl wx.heap.size wx).alloc (Nat.le_refl _) _).alloc (by simp) _)).drew)).grown hgr HNe.out; have c9' := hk9.cell 2; have f9' := hk9.frozen 2; have HO9 := Lib.hid hown; have HG9 := Lib.hid hgr; have HN9 := Lib.hid hob; clear hk9 hown hgr hob)
            all_goals
              go_wp2_with fail
              go_meet
              case rel =>
                have hby : Below wx.heap.size wx ((wx.alloc (.cells #[.slice A' n' c', .int .i64 r.2] 37)).alloc (.cells #[.slice A' n' c', .int .i64 r.2] 37)).drew := ((((Below.refl wx.heap.size wx).alloc (Nat.le_refl _) _).alloc (by simp) _)).drew
                have hp := (HM.out.belowed hby).pushRow (w' := w9.setCell ⟨g, 2, none⟩ (.slice A9 (rn + 1) c9)) hgg ((HM.out.belowed hby).rowIn hgg (HR1.out.below hby) HI1.out) HO9.out HG9.out HN9.out rfl rfl rfl rfl
                refine ⟨rfl, rfl, A9, c9, _, hp.1, Blk.chg (show Blk ((wx.alloc (.cells #[.slice A' n' c', .int .i64 r.2] 37)).alloc (.cells #[.slice A' n' c', .int .i64 r.2] 37)).drew wx.heap.size 37 _ from (Blk.new wx 37 _).alloc _) hp.2.1 (by omega) HT.out, fun e => ?_, hp.1.below⟩
                rcases hp.2.2 _ e with e' | e'
                · exact HT.out e'
                · simp at e'; omega
          case rest =>
            obtain ⟨rfl, rfl, rA2, rc2, rus2, hm2, hk9, ht2, hb2⟩ := hcut
            obtain ⟨w7, rfl⟩ : ∃ w7 : World, w7 = wc := ⟨_, rfl⟩
            have HM2 := Lib.hid hm2
            have HK9 := Lib.hid hk9
            have HT2 := Lib.hid ht2
            have HRX := Lib.hid fun W (hb : Below w.heap.size w W) => HR1.out.far HM.out.below hb
            have hgl7 := hm2.blk.lt
            have hxl7 := hk9.lt
            have hs7 := hm2.below.size
            have c3 := hm2.blk.cell 3
            have f3 := hm2.blk.frozen 3
            have ng' : ¬ wx.heap.size = g := by omega
            have haA := ownS_ne_blk (s := 1) hm2.at' hm2.blk (by decide)
            have haX := ownS_ne_blk (s := 1) hm2.at' hk9 (by decide)
            have HaA := Lib.hid haA
            have HaX := Lib.hid haX
            clear hm2 hk9 ht2 hb2 c2 fz2 haA haX
            have Hgb := Lib.hid (gcdF_bound Hrr.out.2.1 (by omega))
            generalize hgg2 : gcdF r.1 = gg at *
            have HGG := Lib.hid hgg2
            clear hgg2
            go_upto_region 16 with (first
              | (refine wpList_push rfl (.tmp 78) (.tmp 80) 22 rfl app22 w.heap.size aA an ac _ rfl (Own.alloc HM2.out.at' _) w7.heap.size (.int .i64 k) rfl ((Blk.new w7 3 _).cell 0) rfl (by omega) (by omega) (by simp; omega) ?_
                 intro A8 c8 w8 hown hgr hob
                 have hby : Below w7.heap.size w7 (w7.alloc (.cells #[.int .i64 k] 3)) := (Below.refl w7.heap.size w7).alloc (Nat.le_refl _) _
                 have hk8 := (HM2.out.blk.old hby).grown hgr HaA.out
                 have hx8 := (HK9.out.old hby).grown hgr HaX.out
                 have c3' := hk8.cell 3
                 have f3' := hk8.frozen 3
                 have x0 := hx8.cell 0
                 have x1 := hx8.cell 1
                 have HP8 := Lib.hid ((HM2.out.belowed hby).pushAt (x := k) (w' := w8.setCell ⟨g, 3, none⟩ (.slice A8 (an + 1) c8)) hgg hown hgr hob rfl rfl rfl rfl)
                 have HX8 := Lib.hid (hx8.far (p := ⟨g, 3, none⟩) ng' (.slice A8 (an + 1) c8))
                 clear hown hgr hob hby hk8 hx8 c3 f3)
              | (go_at_call 33
                 refine (gcd_c _ A' n' c' r.1 _ (HRX.out _ HP8.out.1.below) (eachB_mono Hrr.out.2.1 (by omega) (by omega))).mono ?_
                 rintro e w10 ⟨rfl, hb10⟩
                 have HM10 := Lib.hid (HP8.out.1.belowed hb10)
                 have hx10 := HX8.out.old hb10
                 have HX10 := Lib.hid hx10
                 rw [HGG.out]
                 have y1 := hx10.cell 1
                 clear hx10 hb10 x0 x1 c3' f3'))
            have Hgg := Lib.hid hgg
            by_cases hc : 2 ≤ gg ∧ r.2.tmod gg ≠ 0
            · have HSC := Lib.hid (HSO.out.cut HS.out HRr.out HGG.out hc)
              have d1 : decide (2 ≤ gg) = true := decide_eq_true hc.1
              have d2 : (r.2.tmod gg != 0) = true := by simp [hc.2]
              have d3 : decide (r.2.tmod gg = 0) = false := decide_eq_false hc.2
              have h2g := hc.1
              have Hc := Lib.hid hc
              have hr1 := Hrr.out.2.2
              have hz : ¬ gg = 0 := by omega
              have hpl : pn = st.p.length := (HM10.out.num (k := 0)).2.2
              have Hpl := Lib.hid hpl
              have HM0 := Lib.hid hs7
              have hs10 := HM10.out.size
              have Hx10 := Lib.hid HX10.out.lt
              clear hc hpl
              go_upto_region 18 with (go_at_call 34
                                      refine (step_c g _ _ _ _ pA pn pc us w.heap.size none 0 0 2 k gg 0 0 0 0 w10 HM10.out.blk HM10.out.p (by omega) hs10).mono ?_
                                      rintro e w11 ⟨rfl, pA1, pc1, hk1, ho1, hc1, hn1⟩
                                      have HM11 := Lib.hid (HM10.out.addStep (x := { kind := 2, r := k, d := gg, next := st.p.length + 1 }) Hgg.out hk1 ho1 hc1 hn1 (by rw [← Hpl.out]) rfl)
                                      have HX11 := Lib.hid (HX10.out.chg hc1 (by have := HK9.out.lt; omega) (ownS_ne_blk HM10.out.p HX10.out (by decide)))
                                      clear hk1 ho1 hc1 hn1 y1)
              have c2 := HM11.out.blk.cell 2
              have f2 := HM11.out.blk.frozen 2
              have z0 := HX11.out.cell 0
              have z1 := HX11.out.cell 1
              have hgl11 := HM11.out.blk.lt
              have hs11 := HM11.out.size
              go_cut [8, 59] from 59 to 128 (fun s8 s59 wz => s8 = .int .i64 k ∧ s59 = .int .i64 k ∧ ∃ rA' rc' rus', StMem w g (.slice A n c) (.slice (some ad) m d) cs1 s { rows := st.rows ++ [r] ++ [cutR r gg], at' := st.at' ++ [(k : Int)], p := st.p ++ [{ kind := 2, r := k, d := gg, next := st.p.length + 1 }], n := st.n } rA' (rn + 1 + 1) rc' rus' A8 (an + 1) c8 pA1 (pn + 1) pc1 (us ++ stepCells 2 (.slice none 0 0) k gg 0 0 (pn + 1) 0) wz)
              case first =>
                go_region_law (first
                  | (have _ := HM12
                     refine step_pushS rfl (.tmp 105) (.tmp 109) 23 rfl app23 w.heap.size rA2 (rn + 1) rc2 rus2 rfl (OwnS.alloc HM12.out.rows _) w12.heap.size [.slice A3 n3 c3, .int .i64 (cutR r gg).2] rfl rfl 37 (Blk.new w12 37 _) (by simp [Value.oneCell']) (by omega) (by omega) (by simp; omega) ?_
                     intro A9 c9 w9 hown hgr hob
                     have hk9 := (HM12.out.blk.alloc _).grown hgr HNg.out
                     have c9' := hk9.cell 2
                     have f9' := hk9.frozen 2
                     have HO9 := Lib.hid hown
                     have HG9 := Lib.hid hgr
                     have HN9 := Lib.hid hob
                     clear hk9 hown hgr hob)
                  | (refine step_call rfl 35 #[.agg #[.slice A' n' c', .int .i64 r.2], .int .i64 gg] (by go_simp) ((cut_c (fun k => k < w.heap.size) A' n' c' r.1 r.2 gg w11.drew (HRX.out _ HM11.out.below.drew) (by have := Hrr.out.1; omega) (eachB_mono Hrr.out.2.1 (by omega) (by omega)) (by omega) (by have := Hgb.out; omega)).mono ?_)
                     rintro e w12 ⟨u, v, rfl, ⟨A3, n3, c3, rfl, rfl, hr3, hi3⟩, hb12⟩
                     refine ⟨_, rfl, ?_⟩
                     have hm12 := HM11.out.belowed ((Below.refl w11.heap.size w11).drew.trans hb12)
                     have c12 := hm12.blk.cell 2
                     have f12 := hm12.blk.frozen 2
                     have c12b := (hm12.blk.alloc (.cells #[.slice A3 n3 c3, .int .i64 (cutR (r.1, r.2) gg).2] 37)).cell 2
                     have ng12 : ¬ g = w12.heap.size := by have := hm12.blk.lt; omega
                     have hs12 := hm12.size
                     have HNg := Lib.hid (ownS_ne_blk hm12.rows hm12.blk (by decide))
                     have HRI := Lib.hid (HM11.out.rowNew (wz := w12) hr3 hi3)
                     have HM12 := Lib.hid hm12
                     clear hm12 hb12 hr3 hi3))
                all_goals
                  go_wp2_with fail
                  go_meet
                  case rel =>
                    have hby : Below w12.heap.size w12 (w12.alloc (.cells #[.slice A3 n3 c3, .int .i64 (cutR r gg).2] 37)) := (Below.refl w12.heap.size w12).alloc (Nat.le_refl _) _
                    have hp := (HM12.out.belowed hby).pushRow (w' := w9.setCell ⟨g, 2, none⟩ (.slice A9 (rn + 1 + 1) c9)) Hgg.out (HRI.out.old (Old.of_below hby)) HO9.out HG9.out HN9.out rfl rfl rfl rfl
                    exact ⟨rfl, rfl, A9, c9, _, hp.1⟩

              case rest =>
                obtain ⟨rfl, rfl, rA3, rc3, rus3, hm3⟩ := hcut
                obtain ⟨w12, rfl⟩ : ∃ w12 : World, w12 = wc := ⟨_, rfl⟩
                have HM3 := Lib.hid hm3
                have c3 := hm3.blk.cell 3
                have f3 := hm3.blk.frozen 3
                have b48 := hm3.box.cell 48
                rw [rows48 (boxF_rows s HS.out _)] at b48
                simp only [boxF] at b48
                have hn1' := HSO.out.n1
                have hn2' := HSO.out.n2
                have hs12 := hm3.size
                have hgl12 := hm3.blk.lt
                have hbl12 := hm3.box.lt
                have ng2 : ¬ g = w12.heap.size := by omega
                have ng3 : ¬ g + 1 = w12.heap.size := by omega
                have HaA3 := Lib.hid (ownS_ne_blk (s := 1) hm3.at' hm3.blk (by decide))
                clear hm3 c2 f2 z0 z1
                go_upto_region 19 with fail
                go_cut [8, 59] from 59 to 128 (fun s8 s59 wz => s8 = .int .i64 k ∧ s59 = .int .i64 k ∧ ∃ aA' ac', StMem w g (.slice A n c) (.slice (some ad) m d) cs1 s { rows := st.rows ++ [r] ++ [cutR r gg], at' := st.at' ++ [(k : Int)] ++ [st.n], p := st.p ++ [{ kind := 2, r := k, d := gg, next := st.p.length + 1 }], n := st.n } rA3 (rn + 1 + 1) rc3 rus3 aA' (an + 1 + 1) ac' pA1 (pn + 1) pc1 (us ++ stepCells 2 (.slice none 0 0) k gg 0 0 (pn + 1) 0) wz)
                case first =>
                  go_region_law (refine step_pushS rfl (.tmp 117) (.tmp 120) 22 rfl app22s w.heap.size A8 (an + 1) c8 _ rfl (OwnS.alloc HM3.out.at' _) w12.heap.size [.int .i64 st.n] rfl rfl 3 (blk_drew (Blk.new w12 3 _)) (by simp [Value.oneCell']) (by omega) (by omega) (by simp; omega) ?_; intro A9 c9 w9 hown hgr hob; have hk9 := (HM3.out.blk.old (((Below.refl w12.heap.size w12).alloc (Nat.le_refl _) _)).drew).grown hgr HaA3.out; have c9' := hk9.cell 3; have f9' := hk9.frozen 3; have HO9 := Lib.hid hown; have HG9 := Lib.hid hgr; have HN9 := Lib.hid hob; clear hk9 hown hgr hob)
                  all_goals
                    go_wp2_with fail
                    go_meet
                    case rel =>
                      have hby : Below w12.heap.size w12 (w12.alloc (.cells #[.int .i64 st.n] 3)).drew := ((Below.refl w12.heap.size w12).alloc (Nat.le_refl _) _).drew
                      have hp := (HM3.out.belowed hby).pushAt (x := st.n) (w' := w9.setCell ⟨g, 3, none⟩ (.slice A9 (an + 1 + 1) c9)) Hgg.out HO9.out HG9.out HN9.out rfl rfl rfl rfl
                      exact ⟨rfl, rfl, A9, c9, hp.1⟩

                case rest =>
                  obtain ⟨rfl, rfl, aA3, ac3, hm4⟩ := hcut
                  obtain ⟨w13, rfl⟩ : ∃ w13 : World, w13 = wc := ⟨_, rfl⟩
                  have HM4 := Lib.hid hm4
                  have b48' := hm4.box.cell 48
                  rw [rows48 (boxF_rows s HS.out _)] at b48'
                  simp only [boxF] at b48'
                  have fb48 := hm4.box.frozen 48
                  have hbx := hm4.box.set_ 48 (.int .i64 (st.n + 1))
                  rw [bxv_rows (boxF_rows s HS.out _)] at hbx
                  have HM5 := Lib.hid (hm4.bump Hgg.out hbx (Only.setCell _ _ _ _))
                  clear hm4 hbx c3 f3 b48
                  go_wp2
                  go_roundw
                  case rel => exact ⟨k + 1, _, _, _, _, _, _, _, _, _, _, _, _, by omega, by go_num, HSC.out, HM5.out⟩
                  case measure => simp [intOf]; omega
            · have HSC := Lib.hid (HSO.out.plain HS.out HRr.out (by rw [HGG.out]; exact hc))
              by_cases h2 : 2 ≤ gg
              · have h3 : r.2.tmod gg = 0 := by
                  apply Classical.byContradiction
                  intro h
                  exact hc ⟨h2, h⟩
                have d1 : decide (2 ≤ gg) = true := decide_eq_true h2
                have hz : ¬ gg = 0 := by omega
                have hr1 := Hrr.out.2.2
                clear hc hgg
                go_wp2
                go_roundw
                case rel => exact ⟨k + 1, _, _, _, _, _, _, _, _, _, _, _, _, by omega, by go_num, HSC.out, HM10.out⟩
                case measure => simp [intOf]; omega
              · have d1 : decide (2 ≤ gg) = false := decide_eq_false h2
                clear hc hgg h2
                go_wp2
                go_roundw
                case rel => exact ⟨k + 1, _, _, _, _, _, _, _, _, _, _, _, _, by omega, by go_num, HSC.out, HM10.out⟩
                case measure => simp [intOf]; omega
        · obtain rfl : m = k := by omega
          have hst : st = startF s := by
            have := hso.rest
            rw [List.drop_eq_nil_of_le (by omega), startGo] at this
            exact this
          have Hst := Lib.hid hst
          clear hso hsm hst
          go_wp2_with fail
          refine region_inv (by kernel_rfl) (by decide +kernel) (EndInv w g (.slice A n c) (.slice B m d) s st rA rn rc rus aA an ac pA pn pc us) ?_ ?_ ?_
          · exact ⟨fun _ _ _ _ => rfl, fun h => by (cases h), fun h => by (cases h), fun h => by (cases h), cs1, HM.out.belowed (Below.refl _ _).drew, Hcs1.out, fun h => by (cases h)⟩
          · intro D F W i o hi ho hDi haf
            have hlt : i < 4 := (Array.getElem?_eq_some_iff.1 ho).1
            have hi' : i = 0 ∨ i = 1 ∨ i = 2 ∨ i = 3 := by omega
            obtain ⟨cs, hm, hcs, h3⟩ := hi.mem
            have o3 := hi.out 3 (by decide) (by decide) (by decide)
            have o4 := hi.out 4 (by decide) (by decide) (by decide)
            have o5 := hi.out 5 (by decide) (by decide) (by decide)
            have sz : ∀ t, t < 131 → t < 131 := fun _ h => h
            rcases hi' with rfl | rfl | rfl | rfl
            · cases ho
              refine inv_value 129 rfl rfl rfl (v := pt g) (w' := W) (fun ρ hρ => ?_) ?_
              · have e4 : ρ (.tmp 4) = pt g := hρ.none_ (sz 4 (by decide)) o4
                go_simp
              · exact ⟨fun k h1 h2 h3 => by simp [h2, hi.out k h1 h2 h3], fun _ => by simp, by simpa using hi.v130, by simpa using hi.v2, cs, hm, hcs, by simpa using h3⟩
            · cases ho
              refine inv_value 130 rfl rfl rfl (v := .agg (bxv (boxF s st.n))) (w' := W) (fun ρ hρ => ?_) ?_
              · have e5 : ρ (.tmp 5) = pt (g + 1) := hρ.none_ (sz 5 (by decide)) o5
                exact run_load_blk 58 (.tmp 5) rfl (g + 1) e5 58 _ _ hm.box Try.underlying58 rfl (by rw [bxv_size (boxF_rows s HS.out _)]; exact size58)
              · exact ⟨fun k h1 h2 h3 => by simp [h3, hi.out k h1 h2 h3], by simpa using hi.v129, fun _ => by simp, by simpa using hi.v2, cs, hm, hcs, by simpa using h3⟩
            · cases ho
              simp [Region.binds] at haf
              refine inv_value 2 rfl rfl rfl (v := pt g) (w' := W) (fun ρ hρ => ?_) ?_
              · have e129 : ρ (.tmp 129) = pt g := hρ.some_ (sz 129 (by decide)) (hi.v129 haf)
                go_simp
              · exact ⟨fun k h1 h2 h3 => by simp [h1, hi.out k h1 h2 h3], by simpa using hi.v129, by simpa using hi.v130, fun _ => by simp, cs, hm, hcs, by simpa using h3⟩
            · cases ho
              simp [Region.binds] at haf
              have e130 := hi.v130 haf.1
              refine inv_store rfl rfl 58 (.tmp 3) (.tmp 130) rfl rfl (w.heap.size + 1) (bxv (boxF s st.n)) cs 58 (fun ρ hρ => hρ.none_ (sz 3 (by decide)) o3) (fun ρ hρ => hρ.some_ (sz 130 (by decide)) e130) hm.k58 (by rw [bxv_size (boxF_rows s HS.out _)]; exact size58) (by rw [bxv_size (boxF_rows s HS.out _)]; exact hcs) (bxv_one _) ?_
              intro w' hk' ho'
              exact ⟨hi.out, by simpa using hi.v129, by simpa using hi.v130, by simpa using hi.v2, _, hm.end_ Hg.out hk' ho', bxv_size (boxF_rows s HS.out _), fun _ => rfl⟩
          · intro D F W hD hi
            have hall : ∀ k, k < 4 → D k = true := hD
            obtain ⟨cs, hm, hcs, h3⟩ := hi.mem
            have hcc := h3 (hall 3 (by decide))
            subst hcc
            have e2 := hi.v2 (hall 2 (by decide))
            have e3 := hi.out 3 (by decide) (by decide) (by decide)
            refine end_puts (Nat.le_of_ble_eq_true rfl) rfl rfl e2 e3 ?_
            intro pa P2 P3 PD
            go_wp2_with fail
            have hgg' : w.heap.size + 2 ≤ g := by rw [Hg.out]; exact Nat.le_refl _
            refine bodyPost_ret (results_two rfl _ _ (pt g) P2 (w.heap.size + 1) P3 58 _ hm.k58 Try.underlying58 rfl (by rw [bxv_size (boxF_rows s HS.out _)]; exact size58)) PD ⟨rA, rn, rc, aA, an, ac, g, pA, pn, pc, ?_, ?_, hm.below, by omega⟩
            · rw [← Hst.out]
            · rw [← Hst.out]
              refine hm.srch A B n c m d K hgg' H1.out (by omega) (by omega) (fun x hx => ?_)
              have h1 := bet_iff.1 (List.all_eq_true.1 HSO.out.at' x hx)
              have h2 := HSO.out.n2
              unfold I64
              omega

end Go.Proofs.Ytjienelkjpodkaa
