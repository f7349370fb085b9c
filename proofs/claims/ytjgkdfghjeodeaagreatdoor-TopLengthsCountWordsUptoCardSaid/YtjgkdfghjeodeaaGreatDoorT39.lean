/- language.repeat. -/
import Derived.Test.YtjgkdfghjeodeaaGreatDoorT33
import Derived.Test.YtjgkdfghjeodeaaGreatDoorT37
namespace Go.Proofs.YtjgkdfghjeodeaaGreatDoor
open Go.RowKit

def mxI : Option Nat → Int
  | none => -1
  | some m => (m : Int)
theorem mxI_none : mxI none = -1 := rfl
theorem mxI_some (m : Nat) : mxI (some m) = (m : Int) := rfl
theorem gd_err {r : Nat} {v : Value} {w w' : World} (h : v = .agg nil28) (hb : Below w.heap.size w w') : GD (errD r) w (.returned (.tuple #[v, vi r])) w' := by
  subst h
  exact ⟨_, rfl, RD.nil_ _ _, hb⟩
set_option maxRecDepth 100000 in
set_option maxHeartbeats 8000000 in
theorem repeat_c (K1 : Nat → Prop) (v1 : Value) (d : Dfa) (low : Nat) (high : Option Nat) (hl : low ≤ 16) (hm : ∀ m, high = some m → m ≤ 16 ∧ low ≤ m) (w : World) (hd1 : RD w K1 v1 d) (hv1 : VD d) (hT : Tab w) (hh : 0 < w.heap.size) :
    Calls Tryz.prog 41 #[v1, vi low, .int .i64 (mxI high)] w (GD (repeatD d low high) w) := by
  obtain ⟨cs1, rfl, z1, o1⟩ := hd1.cells
  obtain ⟨R, hR⟩ : ∃ R, repeatD d low high = R := ⟨_, rfl⟩
  rw [hR]
  have HD := Lib.hid (And.intro hd1 (And.intro hv1 hR))
  have HT := Lib.hid (And.intro hT hh)
  have HM := Lib.hid hm
  obtain ⟨hi, hhi⟩ : ∃ x : Int, mxI high = x := ⟨_, rfl⟩
  rw [hhi]
  have HI := Lib.hid hhi
  have hi1 : -1 ≤ hi ∧ hi ≤ 16 := by
    rw [← hhi]
    cases high with
    | none => exact ⟨by decide, by decide⟩
    | some m => have := (hm m rfl).1; rw [mxI_some]; omega
  clear hd1 hv1 hT hh hR hm hhi
  have hb28 : Tryz.prog.built 28 [] = some nil28 := by kernel_rfl
  go_enter Tryz.func41, Tryz.ntmps41
  go_upto_region 2 with (first
    | (with_reducible refine at_oper (.box 28 (.tmp 0)) rfl ?_
       refine wpList_box_rowG w.heap.size rfl rfl 28 (.tmp 0) rfl cs1 rfl ?_
       intro w1 k1 b1 s1)
    | (go_at_call 35
       refine (word_c none 0 w2).mono ?_
       rintro e w3 ⟨v3, rfl, hd3, hb3⟩
       obtain ⟨ce, rfl, ze, oe⟩ := hd3.cells
       have H3 := Lib.hid (show Below w.heap.size w w3 ∧ Blk w3 w.heap.size 28 cs1 ∧ Blk w3 (w.heap.size + 1) 28 nil28 ∧ RD w3 (fun k => w.heap.size + 1 + 1 ≤ k) (.agg ce) (wordD []).1 from
         ⟨H2.out.1.trans (hb3.mono H2.out.1.size), H2.out.2.1.old hb3, H2.out.2.2.1.old hb3, by rw [H2.out.2.2.2] at hd3; exact hd3⟩)
       clear hd3 hb3)
    | (with_reducible refine at_oper (.store 28 (.tmp 8) (.tmp 16)) rfl ?_
       refine wpList_store_blk rfl 28 (.tmp 8) (.tmp 16) rfl rfl w3.heap.size ce nil28 28 rfl rfl H4.out.1 (by rw [ze]; exact size28) (by rw [ze]; rfl) oe ?_
       intro w5 k5 o5
       have hz3 := H3.out.2.2.1.lt
       have H5 := Lib.hid (show Below w.heap.size w w5 ∧ Blk w5 w.heap.size 28 cs1 ∧ Blk w5 (w.heap.size + 1) 28 nil28 ∧ Blk w5 w3.heap.size 28 ce ∧ RD w5 (fun k => w.heap.size + 1 + 1 ≤ k ∧ k < w3.heap.size) (.agg ce) (wordD []).1 ∧ w.heap.size + 1 < w3.heap.size from
         ⟨below_only (H3.out.1.trans (H4.out.2.1.mono H3.out.1.size)) o5 H3.out.1.size, (H3.out.2.1.old H4.out.2.1).only o5 (by omega), (H3.out.2.2.1.old H4.out.2.1).only o5 (by omega), k5,
          ((H3.out.2.2.2.weak (K' := fun k => w.heap.size + 1 + 1 ≤ k ∧ k < w3.heap.size) fun k h1 h2 => ⟨h2, h1⟩).below H4.out.2.1).old fun k hk _ => o5.block k (by omega), hz3⟩)
       clear k5 o5 hz3)
    | (with_reducible refine at_oper (.alloc 28) rfl ?_
       first
       | refine wpList_alloc_rowG w3.heap.size rfl rfl 28 rfl _ zero28 ?_
         intro w4 k4 b4 s4
         have H4 := Lib.hid (And.intro k4 (And.intro b4 s4))
         clear k4 b4 s4
       | refine wpList_alloc_rowG (w.heap.size + 1) s1 rfl 28 rfl _ zero28 ?_
         intro w2 k2 b2 s2
         have H2 := Lib.hid (show Below w.heap.size w w2 ∧ Blk w2 w.heap.size 28 cs1 ∧ Blk w2 (w.heap.size + 1) 28 nil28 ∧ w2.heap.size = w.heap.size + 1 + 1 from ⟨b1.trans (b2.mono (by omega)), k1.old (s1 ▸ b2), k2, s2⟩)
         clear k1 b1 k2 b2 s2))
  clear s1 H2 H3 H4
  generalize w3.heap.size = g8 at *
  go_upto_region 4 with fail
  have hpw := power_c _ _ _ _ (wordD []).1 d low (by omega) w5 H5.out.2.2.2.2.1 wordD_vd (HD.out.1.below H5.out.1) HD.out.2.1 (HT.out.1.mono HT.out.2 H5.out.1) (by have := H5.out.2.1.lt; omega)
  obtain ⟨P, hP⟩ : ∃ P, powerD low (wordD []).1 d = P := ⟨_, rfl⟩
  have hPe := powerD_err low (wordD []).1 d
  have hPv := powerD_vd low wordD_vd HD.out.2.1
  have hPn := powerD_errD low (wordD []).1 d
  have hRR := HD.out.2.2
  unfold repeatD at hRR
  dsimp only at hRR
  rw [hP] at hpw hPe hPv hPn hRR
  obtain ⟨r4, hr4⟩ : ∃ r, P.2 = r := ⟨_, rfl⟩
  rw [hr4] at hPe hPv hPn hRR
  unfold GK at hpw
  rw [hr4] at hpw
  have HP := Lib.hid (And.intro hpw (And.intro hPv (And.intro hPn (And.intro hr4 hRR))))
  clear hpw hPv hPn hRR hP hr4
  go_upto_region 5 with (first
    | (with_reducible refine at_oper (.load 28 (.tmp 8)) rfl ?_
       refine wpList_load_blk rfl 28 (.tmp 8) rfl g8 rfl 28 ce _ H5.out.2.2.2.1 Tryz.underlying28 rfl (by rw [ze]; exact size28) ?_)
    | (with_reducible refine at_oper (.load 28 (.tmp 3)) rfl ?_
       refine wpList_load_blk rfl 28 (.tmp 3) rfl w.heap.size rfl 28 cs1 _ H5.out.2.1 Tryz.underlying28 rfl (by rw [z1]; exact size28) ?_)
    | (go_at_call 90
       refine HP.out.1.mono ?_
       rintro e w6 ⟨v6, rfl, hd6, hb6⟩
       obtain ⟨cp, rfl, zp, op⟩ := hd6.cells
       have H6 := Lib.hid (show Below w.heap.size w w6 ∧ Blk w6 w.heap.size 28 cs1 ∧ Blk w6 (w.heap.size + 1) 28 nil28 ∧ Blk w6 g8 28 ce ∧ RD w6 (fun k => w.heap.size + 1 + 1 ≤ k ∧ k < g8) (.agg ce) (wordD []).1 ∧ w.heap.size + 1 < g8 ∧ g8 < w6.heap.size ∧ RD w6 (fun k => w.heap.size + 1 + 1 ≤ k ∧ k < w6.heap.size) (.agg cp) P.1 from
         ⟨H5.out.1.trans (hb6.mono H5.out.1.size), H5.out.2.1.old hb6, H5.out.2.2.1.old hb6, H5.out.2.2.2.1.old hb6, H5.out.2.2.2.2.1.below hb6, H5.out.2.2.2.2.2, (H5.out.2.2.2.1.old hb6).lt, hd6.weak fun k h1 h2 => ⟨by rcases h2 with h2 | h2; exact h2.1; have := H5.out.2.2.2.1.lt; have := H5.out.2.2.2.2.2; omega, h1⟩⟩)
       clear hd6 hb6)
    | (with_reducible refine at_oper (.alloc 28) rfl ?_
       refine wpList_alloc_rowG w6.heap.size rfl rfl 28 rfl _ zero28 ?_
       intro w7 k7 b7 s7
       have H7 := Lib.hid (And.intro k7 (And.intro b7 s7))
       clear k7 b7 s7)
    | (with_reducible refine at_oper (.store 28 (.tmp 10) (.tmp 27)) rfl ?_
       refine wpList_store_blk rfl 28 (.tmp 10) (.tmp 27) rfl rfl w6.heap.size cp nil28 28 rfl rfl H7.out.1 (by rw [zp]; exact size28) (by rw [zp]; rfl) op ?_
       intro w8 k8 o8
       have h1 := H6.out.2.2.2.2.2.1
       have h2 := H6.out.2.2.2.2.2.2.1
       have H8 := Lib.hid (show Below w.heap.size w w8 ∧ Blk w8 w.heap.size 28 cs1 ∧ Blk w8 (w.heap.size + 1) 28 nil28 ∧ Blk w8 g8 28 ce ∧ RD w8 (fun k => w.heap.size + 1 + 1 ≤ k ∧ k < g8) (.agg ce) (wordD []).1 ∧ w.heap.size + 1 < g8 ∧ g8 < w6.heap.size ∧ RD w8 (fun k => w.heap.size + 1 + 1 ≤ k ∧ k < w6.heap.size) (.agg cp) P.1 ∧ Blk w8 w6.heap.size 28 cp from
         ⟨below_only (H6.out.1.trans (H7.out.2.1.mono H6.out.1.size)) o8 H6.out.1.size, (H6.out.2.1.old H7.out.2.1).only o8 (by omega), (H6.out.2.2.1.old H7.out.2.1).only o8 (by omega), (H6.out.2.2.2.1.old H7.out.2.1).only o8 (by omega), (H6.out.2.2.2.2.1.below H7.out.2.1).old fun k hk _ => o8.block k (by omega), h1, h2,
          (H6.out.2.2.2.2.2.2.2.below H7.out.2.1).old fun k hk _ => o8.block k (by omega), k8⟩)
       clear k8 o8 h1 h2))
  clear H5 H6 H7
  generalize w6.heap.size = g10 at *
  rcases hPe with rfl | rfl
  · -- the power stands
    have hpv := HP.out.2.1 rfl
    have HPV := Lib.hid hpv
    clear hpv
    by_cases heq : hi = (low : Int)
    · have d1 : (hi == (low : Int)) = true := by simp [heq]
      have hres := HP.out.2.2.2.2
      have hhl : high = some low := by
        have h := HI.out
        cases high with
        | none => exact absurd h (by rw [mxI_none]; omega)
        | some m => rw [mxI_some] at h; exact congrArg some (by omega)
      rw [if_neg (by decide), if_pos hhl] at hres
      have HRS := Lib.hid hres
      clear hres hhl heq
      go_wp2_with (first
        | (with_reducible refine wpList_unguard ?_ ?_ ?_
           rfl
           rfl)
        | (with_reducible refine at_oper (.load 28 (.tmp 10)) rfl ?_
           refine wpList_load_blk rfl 28 (.tmp 10) rfl g10 rfl 28 cp _ H8.out.2.2.2.2.2.2.2.2 Tryz.underlying28 rfl (by rw [zp]; exact size28) ?_)
        | (with_reducible refine at_oper (.store 28 (.tmp 6) (.tmp 36)) rfl ?_
           refine wpList_store_blk rfl 28 (.tmp 6) (.tmp 36) rfl rfl (w.heap.size + 1) cp nil28 28 rfl rfl H8.out.2.2.1 (by rw [zp]; exact size28) (by rw [zp]; rfl) op ?_
           intro w9 k9 o9
           have K9 := Lib.hid k9
           have O9 := Lib.hid o9
           clear k9 o9))
      refine bodyPost_ret (results_ct rfl _ _ _ rfl (w.heap.size + 1) rfl 28 _ K9.out Tryz.underlying28 rfl (by rw [zp]; exact size28)) rfl ?_
      have h1 := H8.out.2.2.2.2.2.2.1
      have h2 := H8.out.2.2.2.2.2.1
      exact ⟨.agg cp, by rw [← HRS.out, HP.out.2.2.2.1]; rfl, by
        rw [← HRS.out]
        exact (H8.out.2.2.2.2.2.2.2.1.old fun k hk _ => O9.out.block k (by omega)).weak fun k _ hk => by omega, below_only H8.out.1 O9.out (by omega)⟩
    · have d1 : (hi == (low : Int)) = false := by simp [heq]
      have hres := HP.out.2.2.2.2
      have hhl : high ≠ some low := fun h => by
        have h2 := HI.out
        rw [h] at h2
        rw [mxI_some] at h2
        exact heq h2.symm
      rw [if_neg (by decide), if_neg hhl] at hres
      clear heq hhl
      have hsz := H8.out.2.2.2.2.2.2.2.2.lt
      have h1 := H8.out.2.2.2.2.2.2.1
      have h2 := H8.out.2.2.2.2.2.1
      cases high with
      | none =>
        obtain rfl : -1 = hi := HI.out
        dsimp only at hres
        have hst := star_c _ _ d w8 (HD.out.1.below H8.out.1) HD.out.2.1 (HT.out.1.mono HT.out.2 H8.out.1) (by omega)
        obtain ⟨S, hS⟩ : ∃ S, starD d = S := ⟨_, rfl⟩
        have hSv := starD_vd HD.out.2.1
        have hSe := starD_err d
        rw [hS] at hst hSv hSe hres
        obtain ⟨r5, hr5⟩ : ∃ r, S.2 = r := ⟨_, rfl⟩
        rw [hr5] at hst hSv hSe hres
        have HS := Lib.hid (And.intro hst (And.intro hSv hres))
        clear hst hSv hS hr5 hres
        go_upto_region 9 with (first
          | (with_reducible refine wpList_unguard ?_ ?_ ?_
             rfl
             rfl)
          | (with_reducible refine at_oper (.load 28 (.tmp 3)) rfl ?_
             refine wpList_load_blk rfl 28 (.tmp 3) rfl w.heap.size rfl 28 cs1 _ H8.out.2.1 Tryz.underlying28 rfl (by rw [z1]; exact size28) ?_)
          | (go_at_call 91
             refine HS.out.1.mono ?_
             rintro e w9 ⟨v9, rfl, hd9, hb9⟩
             obtain ⟨ct, rfl, zt, ot⟩ := hd9.cells
             have H9 := Lib.hid (show Below w.heap.size w w9 ∧ Blk w9 (w.heap.size + 1) 28 nil28 ∧ RD w9 (fun k => w.heap.size + 1 + 1 ≤ k ∧ k < g10) (.agg cp) P.1 ∧ Blk w9 g10 28 cp ∧ g10 < w9.heap.size ∧ RD w9 (fun k => w.heap.size + 1 + 1 ≤ k ∧ k < w9.heap.size) (.agg ct) S.1 from
               ⟨H8.out.1.trans (hb9.mono H8.out.1.size), H8.out.2.2.1.old hb9, H8.out.2.2.2.2.2.2.2.1.below hb9, H8.out.2.2.2.2.2.2.2.2.old hb9, (H8.out.2.2.2.2.2.2.2.2.old hb9).lt, hd9.weak fun k h1 h2 => ⟨by omega, h1⟩⟩)
             clear hd9 hb9)
          | (with_reducible refine at_oper (.alloc 28) rfl ?_
             refine wpList_alloc_rowG w9.heap.size rfl rfl 28 rfl _ zero28 ?_
             intro w10 k10 b10 s10
             have H10 := Lib.hid (And.intro k10 (And.intro b10 s10))
             clear k10 b10 s10)
          | (with_reducible refine at_oper (.store 28 (.tmp 11) (.tmp 43)) rfl ?_
             refine wpList_store_blk rfl 28 (.tmp 11) (.tmp 43) rfl rfl w9.heap.size ct nil28 28 rfl rfl H10.out.1 (by rw [zt]; exact size28) (by rw [zt]; rfl) ot ?_
             intro w11 k11 o11
             have h3 := H9.out.2.2.2.2.1
             have H11 := Lib.hid (show Below w.heap.size w w11 ∧ Blk w11 (w.heap.size + 1) 28 nil28 ∧ RD w11 (fun k => w.heap.size + 1 + 1 ≤ k ∧ k < g10) (.agg cp) P.1 ∧ Blk w11 g10 28 cp ∧ g10 < w9.heap.size ∧ RD w11 (fun k => w.heap.size + 1 + 1 ≤ k ∧ k < w9.heap.size) (.agg ct) S.1 ∧ Blk w11 w9.heap.size 28 ct from
               ⟨below_only (H9.out.1.trans (H10.out.2.1.mono H9.out.1.size)) o11 H9.out.1.size, (H9.out.2.1.old H10.out.2.1).only o11 (by omega), (H9.out.2.2.1.below H10.out.2.1).old fun k hk _ => o11.block k (by omega), (H9.out.2.2.2.1.old H10.out.2.1).only o11 (by omega), h3, (H9.out.2.2.2.2.2.below H10.out.2.1).old fun k hk _ => o11.block k (by omega), k11⟩)
             clear k11 o11 h3))
        clear H8 H9 H10
        generalize w9.heap.size = g11 at *
        rcases hSe with rfl | rfl
        · have hres := HS.out.2.2
          rw [if_neg (by decide)] at hres
          have hcc := concat_c _ _ _ _ P.1 S.1 w11 H11.out.2.2.1 HPV.out H11.out.2.2.2.2.2.1 (HS.out.2.1 rfl) (HT.out.1.mono HT.out.2 H11.out.1) (by have := H11.out.2.1.lt; omega)
          rw [hres] at hcc
          have HCC := Lib.hid hcc
          clear hcc hres
          go_wp2_with (first
            | (with_reducible refine at_oper (.load 28 (.tmp 10)) rfl ?_
               refine wpList_load_blk rfl 28 (.tmp 10) rfl g10 rfl 28 cp _ H11.out.2.2.2.1 Tryz.underlying28 rfl (by rw [zp]; exact size28) ?_)
            | (with_reducible refine at_oper (.load 28 (.tmp 11)) rfl ?_
               refine wpList_load_blk rfl 28 (.tmp 11) rfl g11 rfl 28 ct _ H11.out.2.2.2.2.2.2 Tryz.underlying28 rfl (by rw [zt]; exact size28) ?_)
            | (go_at_call 37
               refine HCC.out.mono ?_
               rintro e w12 ⟨v12, rfl, hd12, hb12⟩
               obtain ⟨cq, rfl, zq, oq⟩ := hd12.cells
               have H12 := Lib.hid (And.intro hd12 (And.intro (H11.out.1.trans (hb12.mono H11.out.1.size)) (H11.out.2.1.old hb12)))
               clear hd12 hb12)
            | (with_reducible refine at_oper (.store 28 (.tmp 6) (.tmp 52)) rfl ?_
               refine wpList_store_blk rfl 28 (.tmp 6) (.tmp 52) rfl rfl (w.heap.size + 1) cq nil28 28 rfl rfl H12.out.2.2 (by rw [zq]; exact size28) (by rw [zq]; rfl) oq ?_
               intro w13 k13 o13
               have K13 := Lib.hid k13
               have O13 := Lib.hid o13
               clear k13 o13))
          refine bodyPost_ret (results_ct rfl _ _ _ rfl (w.heap.size + 1) rfl 28 _ K13.out Tryz.underlying28 rfl (by rw [zq]; exact size28)) rfl ?_
          have h3 := H11.out.2.1.lt
          exact ⟨_, rfl, (H12.out.1.old fun k hk _ => O13.out.block k (by have hk : w11.heap.size ≤ k := hk; omega)).weak fun k _ hk => by have hk : w11.heap.size ≤ k := hk; omega, below_only H12.out.2.1 O13.out (by omega)⟩
        · have hres := HS.out.2.2
          rw [if_pos (by decide)] at hres
          have HRS := Lib.hid hres
          clear hres
          go_wp2_with (first
            | (with_reducible refine at_oper (.store 28 (.tmp 6) (.tmp 47)) rfl ?_
               refine wpList_store_blk rfl 28 (.tmp 6) (.tmp 47) rfl rfl (w.heap.size + 1) nil28 nil28 28 rfl rfl H11.out.2.1 size28 rfl (by simp [Value.oneCell']) ?_
               intro w13 k13 o13
               have K13 := Lib.hid k13
               have O13 := Lib.hid o13
               clear k13 o13))
          refine bodyPost_ret (results_ct rfl _ _ _ rfl (w.heap.size + 1) rfl 28 _ K13.out Tryz.underlying28 rfl size28) rfl ?_
          rw [← HRS.out]
          exact gd_err rfl (below_only H11.out.1 O13.out (by omega))
      | some m =>
        obtain rfl : (m : Int) = hi := HI.out
        have hm := HM.out m rfl
        dsimp only at hres
        have d2 : decide ((m : Int) < 0) = false := by simp
        have hor := or_c _ _ _ _ d (wordD []).1 w8 (HD.out.1.below H8.out.1) HD.out.2.1 H8.out.2.2.2.2.1 wordD_vd (HT.out.1.mono HT.out.2 H8.out.1) (by omega)
        obtain ⟨S, hS⟩ : ∃ S, combineD d (wordD []).1 (· || ·) = S := ⟨_, rfl⟩
        have hSv := combineD_vd HD.out.2.1 wordD_vd (· || ·)
        have hSe := combineD_err d (wordD []).1 (· || ·)
        rw [hS] at hor hSv hSe hres
        obtain ⟨r5, hr5⟩ : ∃ r, S.2 = r := ⟨_, rfl⟩
        rw [hr5] at hor hSv hSe hres
        have HS := Lib.hid (And.intro hor (And.intro hSv hres))
        clear hor hSv hS hr5 hres
        go_upto_region 13 with (first
          | (with_reducible refine wpList_unguard ?_ ?_ ?_
             rfl
             rfl)
          | (with_reducible refine at_oper (.load 28 (.tmp 3)) rfl ?_
             refine wpList_load_blk rfl 28 (.tmp 3) rfl w.heap.size rfl 28 cs1 _ H8.out.2.1 Tryz.underlying28 rfl (by rw [z1]; exact size28) ?_)
          | (with_reducible refine at_oper (.load 28 (.tmp 8)) rfl ?_
             refine wpList_load_blk rfl 28 (.tmp 8) rfl g8 rfl 28 ce _ H8.out.2.2.2.1 Tryz.underlying28 rfl (by rw [ze]; exact size28) ?_)
          | (go_at_call 38
             refine HS.out.1.mono ?_
             rintro e w9 ⟨v9, rfl, hd9, hb9⟩
             obtain ⟨ct, rfl, zt, ot⟩ := hd9.cells
             have H9 := Lib.hid (show Below w.heap.size w w9 ∧ Blk w9 (w.heap.size + 1) 28 nil28 ∧ RD w9 (fun k => w.heap.size + 1 + 1 ≤ k ∧ k < g10) (.agg cp) P.1 ∧ Blk w9 g10 28 cp ∧ g10 < w9.heap.size ∧ RD w9 (fun k => w.heap.size + 1 + 1 ≤ k ∧ k < w9.heap.size) (.agg ct) S.1 from
               ⟨H8.out.1.trans (hb9.mono H8.out.1.size), H8.out.2.2.1.old hb9, H8.out.2.2.2.2.2.2.2.1.below hb9, H8.out.2.2.2.2.2.2.2.2.old hb9, (H8.out.2.2.2.2.2.2.2.2.old hb9).lt, hd9.weak fun k h1 h2 => ⟨by omega, h1⟩⟩)
             clear hd9 hb9)
          | (with_reducible refine at_oper (.alloc 28) rfl ?_
             refine wpList_alloc_rowG w9.heap.size rfl rfl 28 rfl _ zero28 ?_
             intro w10 k10 b10 s10
             have H10 := Lib.hid (And.intro k10 (And.intro b10 s10))
             clear k10 b10 s10)
          | (with_reducible refine at_oper (.store 28 (.tmp 13) (.tmp 58)) rfl ?_
             refine wpList_store_blk rfl 28 (.tmp 13) (.tmp 58) rfl rfl w9.heap.size ct nil28 28 rfl rfl H10.out.1 (by rw [zt]; exact size28) (by rw [zt]; rfl) ot ?_
             intro w11 k11 o11
             have h3 := H9.out.2.2.2.2.1
             have H11 := Lib.hid (show Below w.heap.size w w11 ∧ Blk w11 (w.heap.size + 1) 28 nil28 ∧ RD w11 (fun k => w.heap.size + 1 + 1 ≤ k ∧ k < g10) (.agg cp) P.1 ∧ Blk w11 g10 28 cp ∧ g10 < w9.heap.size ∧ RD w11 (fun k => w.heap.size + 1 + 1 ≤ k ∧ k < w9.heap.size) (.agg ct) S.1 ∧ Blk w11 w9.heap.size 28 ct from
               ⟨below_only (H9.out.1.trans (H10.out.2.1.mono H9.out.1.size)) o11 H9.out.1.size, (H9.out.2.1.old H10.out.2.1).only o11 (by omega), (H9.out.2.2.1.below H10.out.2.1).old fun k hk _ => o11.block k (by omega), (H9.out.2.2.2.1.old H10.out.2.1).only o11 (by omega), h3, (H9.out.2.2.2.2.2.below H10.out.2.1).old fun k hk _ => o11.block k (by omega), k11⟩)
             clear k11 o11 h3))
        clear H8 H9 H10
        generalize w9.heap.size = g11 at *
        rcases hSe with rfl | rfl
        · have hres := HS.out.2.2
          rw [if_neg (by decide)] at hres
          have hcc := power_c _ _ _ _ P.1 S.1 (m - low) (by omega) w11 H11.out.2.2.1 HPV.out H11.out.2.2.2.2.2.1 (HS.out.2.1 rfl) (HT.out.1.mono HT.out.2 H11.out.1) (by have := H11.out.2.1.lt; omega)
          rw [hres] at hcc
          have HCC := Lib.hid hcc
          clear hcc hres
          have hsub : (m : Int) - (low : Int) = ((m - low : Nat) : Int) := by omega
          obtain ⟨q, hq⟩ : ∃ q, m - low = q := ⟨_, rfl⟩
          rw [hq] at HCC hsub
          have hq2 : q ≤ 16 := by omega
          have hwq : IntKind.i64.wrap (q : Int) = (q : Int) := i64_wrap _ (by omega)
          clear hq
          go_wp2_with (first
            | (with_reducible refine at_oper (.load 28 (.tmp 10)) rfl ?_
               refine wpList_load_blk rfl 28 (.tmp 10) rfl g10 rfl 28 cp _ H11.out.2.2.2.1 Tryz.underlying28 rfl (by rw [zp]; exact size28) ?_)
            | (with_reducible refine at_oper (.load 28 (.tmp 13)) rfl ?_
               refine wpList_load_blk rfl 28 (.tmp 13) rfl g11 rfl 28 ct _ H11.out.2.2.2.2.2.2 Tryz.underlying28 rfl (by rw [zt]; exact size28) ?_)
            | (go_at_call 90
               refine HCC.out.mono ?_
               rintro e w12 ⟨v12, rfl, hd12, hb12⟩
               obtain ⟨cq, rfl, zq, oq⟩ := hd12.cells
               have H12 := Lib.hid (And.intro hd12 (And.intro (H11.out.1.trans (hb12.mono H11.out.1.size)) (H11.out.2.1.old hb12)))
               clear hd12 hb12)
            | (with_reducible refine at_oper (.store 28 (.tmp 6) (.tmp 70)) rfl ?_
               refine wpList_store_blk rfl 28 (.tmp 6) (.tmp 70) rfl rfl (w.heap.size + 1) cq nil28 28 rfl rfl H12.out.2.2 (by rw [zq]; exact size28) (by rw [zq]; rfl) oq ?_
               intro w13 k13 o13
               have K13 := Lib.hid k13
               have O13 := Lib.hid o13
               clear k13 o13))
          refine bodyPost_ret (results_ct rfl _ _ _ rfl (w.heap.size + 1) rfl 28 _ K13.out Tryz.underlying28 rfl (by rw [zq]; exact size28)) rfl ?_
          have h3 := H11.out.2.1.lt
          exact ⟨_, rfl, (H12.out.1.old fun k hk _ => O13.out.block k (by rcases hk with hk | hk <;> omega)).weak fun k _ hk => by rcases hk with hk | hk <;> omega, below_only H12.out.2.1 O13.out (by omega)⟩
        · have hres := HS.out.2.2
          rw [if_pos (by decide)] at hres
          have HRS := Lib.hid hres
          clear hres
          go_wp2_with (first
            | (with_reducible refine at_oper (.store 28 (.tmp 6) (.tmp 62)) rfl ?_
               refine wpList_store_blk rfl 28 (.tmp 6) (.tmp 62) rfl rfl (w.heap.size + 1) nil28 nil28 28 rfl rfl H11.out.2.1 size28 rfl (by simp [Value.oneCell']) ?_
               intro w13 k13 o13
               have K13 := Lib.hid k13
               have O13 := Lib.hid o13
               clear k13 o13))
          refine bodyPost_ret (results_ct rfl _ _ _ rfl (w.heap.size + 1) rfl 28 _ K13.out Tryz.underlying28 rfl size28) rfl ?_
          rw [← HRS.out]
          exact gd_err rfl (below_only H11.out.1 O13.out (by omega))
  · -- the power is too large
    have hPP := HP.out.2.2.1 (by decide)
    have hres := HP.out.2.2.2.2
    rw [if_pos (by decide)] at hres
    have hp1 : P.1 = ⟨[], [], []⟩ := by rw [hPP]; rfl
    have HRS := Lib.hid (And.intro hres hp1)
    clear hPP hres hp1
    go_wp2_with (first
      | (with_reducible refine wpList_unguard ?_ ?_ ?_
         rfl
         rfl)
      | (with_reducible refine at_oper (.load 28 (.tmp 10)) rfl ?_
         refine wpList_load_blk rfl 28 (.tmp 10) rfl g10 rfl 28 cp _ H8.out.2.2.2.2.2.2.2.2 Tryz.underlying28 rfl (by rw [zp]; exact size28) ?_)
      | (with_reducible refine at_oper (.store 28 (.tmp 6) (.tmp 36)) rfl ?_
         refine wpList_store_blk rfl 28 (.tmp 6) (.tmp 36) rfl rfl (w.heap.size + 1) cp nil28 28 rfl rfl H8.out.2.2.1 (by rw [zp]; exact size28) (by rw [zp]; rfl) op ?_
         intro w9 k9 o9
         have K9 := Lib.hid k9
         have O9 := Lib.hid o9
         clear k9 o9))
    refine bodyPost_ret (results_ct rfl _ _ _ rfl (w.heap.size + 1) rfl 28 _ K9.out Tryz.underlying28 rfl (by rw [zp]; exact size28)) rfl ?_
    have h1 := H8.out.2.2.2.2.2.2.1
    have h2 := H8.out.2.2.2.2.2.1
    rw [← HRS.out.1]
    have hrd := H8.out.2.2.2.2.2.2.2.1
    rw [HRS.out.2] at hrd
    exact ⟨_, rfl, (hrd.old fun k hk _ => O9.out.block k (by omega)).weak fun k _ hk => by omega, below_only H8.out.1 O9.out (by omega)⟩

/-- the cells of a node -/
def ndc (n : Nd) : Array Value := #[vi n.kind, vu (wd n.c 0), vu (wd n.c 1), vu (wd n.c 2), vu (wd n.c 3), vi n.l, vi n.r, vi n.min, .int .i64 (mxI n.max)]
def ndV (n : Nd) : Value := .agg (ndc n)
theorem ndc_size (n : Nd) : (ndc n).size = 9 := rfl
theorem ndc_one (n : Nd) : (ndc n).all (·.oneCell') = true := by simp [ndc, Value.oneCell']
def ndl (l : List Nd) : List Value := l.flatMap fun n => (ndc n).toList
theorem ndl_len (l : List Nd) : (ndl l).length = 9 * l.length := by
  induction l with
  | nil => rfl
  | cons x r ih => simp [ndl, ndc] at ih ⊢; omega
theorem ndl_snoc (l : List Nd) (x : Nd) : ndl (l ++ [x]) = ndl l ++ (ndc x).toList := by simp [ndl]
theorem ndl_get : ∀ (l : List Nd) (k : Nat) (n : Nd) (j : Nat), l[k]? = some n → j < 9 → (ndl l)[9 * k + j]? = (ndc n).toList[j]?
  | [], k, n, j, hk, _ => by simp at hk
  | x :: r, 0, n, j, hk, hj => by
    cases hk
    have e : ndl (x :: r) = (ndc x).toList ++ ndl r := rfl
    rw [e, List.getElem?_append_left (by simp [ndc]; omega)]
    simp
  | x :: r, k + 1, n, j, hk, hj => by
    have h := ndl_get r k n j (by simpa using hk) hj
    have e : ndl (x :: r) = (ndc x).toList ++ ndl r := rfl
    rw [e, List.getElem?_append_right (by simp [ndc]; omega)]
    have e2 : 9 * (k + 1) + j - (ndc x).toList.length = 9 * k + j := by simp [ndc]; omega
    rw [e2, h]
theorem ndl_one (l : List Nd) : ∀ u ∈ ndl l, u.oneCell' = true := fun u hu => by
  obtain ⟨c, _, hc⟩ := List.mem_flatMap.1 hu
  simp [ndc] at hc
  rcases hc with rfl | rfl | rfl | rfl | rfl | rfl | rfl | rfl | rfl <;> rfl
/-- a slice of nodes -/
structure RX (w : World) (K : Nat → Prop) (A : Option Addr) (n c : Nat) (l : List Nd) : Prop where
  len : l.length = n
  cap : n ≤ c
  big : n ≤ 4194304
  top : c ≤ 9223372036854775807
  sl : Sl w K A (ndl l)
section
variable {w w' : World} {K K' : Nat → Prop} {A : Option Addr} {n c k : Nat} {l : List Nd}
theorem RX.old (h : RX w K A n c l) (ho : Old K w w') : RX w' K A n c l := ⟨h.len, h.cap, h.big, h.top, h.sl.old ho⟩
theorem RX.below (h : RX w K A n c l) (hb : Below w.heap.size w w') : RX w' K A n c l := h.old (Old.of_below hb)
theorem RX.weak (h : RX w K A n c l) (hK : ∀ k, k < w.heap.size → K k → K' k) : RX w K' A n c l := ⟨h.len, h.cap, h.big, h.top, h.sl.weak hK⟩
theorem RX.at_ (h : RX w K A n c l) {x : Nd} (hk : l[k]? = some x) : ∃ ad, A = some ad ∧ K ad.block ∧ ∀ j v, (ndc x).toList[j]? = some v → w.cell? ((ad.add (k * 9)).add j) = some v := by
  have hl : k < l.length := (List.getElem?_eq_some_iff.1 hk).1
  obtain ⟨ad, e, hK, _⟩ := h.sl.at_ (k := 9 * k) (by rw [ndl_len]; omega)
  refine ⟨ad, e, hK, fun j v hv => ?_⟩
  have hj : j < 9 := by have := (List.getElem?_eq_some_iff.1 hv).1; simpa [ndc] using this
  obtain ⟨ad', e', _, hc⟩ := h.sl (9 * k + j) v (by rw [ndl_get l k x j hk hj]; exact hv)
  rw [e] at e'; cases e'
  rw [add_of_add, Nat.mul_comm k 9, hc]
end
theorem OwnS.rx {w : World} {base : Nat} {e : TypeId} {A : Option Addr} {n c : Nat} {l : List Nd} (h : OwnS w base e 9 A n c (ndl l)) (hn : n ≤ 4194304) : RX w (fun k => base ≤ k) A n c l :=
  ⟨by have := h.len; rw [ndl_len] at this; omega, h.cap.1, hn, h.cap.2, h.sl fun g hg => (h.lt g hg).1⟩
/-- a row of automata -/
def DL (w : World) (K : Nat → Prop) (ad : Addr) (ds : List Dfa) : Prop :=
  ∀ j, j < ds.length → ∃ cs : Array Value, cs.size = 3 ∧ (∀ t v, cs.toList[t]? = some v → w.cell? ((ad.add (j * 3)).add t) = some v) ∧ K ad.block ∧ RD w K (.agg cs) (ds.getD j nil3)
theorem DL.old {w w' : World} {K : Nat → Prop} {ad : Addr} {ds : List Dfa} (h : DL w K ad ds) (ho : Old K w w') : DL w' K ad ds := fun j hj => by
  obtain ⟨cs, z, hc, hK, hr⟩ := h j hj
  refine ⟨cs, z, fun t v hv => ?_, hK, hr.old ho⟩
  have h1 := hc t v hv
  refine cell_at (ho _ ?_ ?_) h1
  · rw [block_of_add, block_of_add]; exact hK
  · have := lt_of_cell h1
    rwa [block_of_add, block_of_add] at this ⊢
theorem DL.below {w w' : World} {K : Nat → Prop} {ad : Addr} {ds : List Dfa} (h : DL w K ad ds) (hb : Below w.heap.size w w') : DL w' K ad ds := h.old (Old.of_below hb)
theorem DL.weak {w : World} {K K' : Nat → Prop} {ad : Addr} {ds : List Dfa} (h : DL w K ad ds) (hK : ∀ k, k < w.heap.size → K k → K' k) : DL w K' ad ds := fun j hj => by
  obtain ⟨cs, z, hc, hk, hr⟩ := h j hj
  refine ⟨cs, z, hc, hK _ ?_ hk, hr.weak hK⟩
  have h1 := hc 0 cs[0] (by simp [z])
  have := lt_of_cell h1
  rwa [block_of_add, block_of_add] at this
/-- a whole value is read out of a row -/
theorem run_load_list {o : Oper} {ρ : Operand → Value} {w : World} (ty : TypeId) (x : Operand) (ho : o.op = .load ty x) (p : Addr) (hx : ρ x = .pointer (some p)) (cs : List Value)
    (hc : ∀ j v, cs[j]? = some v → w.cell? (p.add j) = some v) {d : TypeDesc} (hu : Tryz.prog.underlying ty = some d) (hd : (match d with | .struct _ | .array _ _ => true | _ => false) = true) (hsz : (Tryz.prog.info? ty).map (·.size) = some cs.length) :
    (execOp ρ o).run Tryz.prog w = .ok (.value (.agg cs.toArray)) w := by
  have hl : (loadCells p cs.length).run Tryz.prog w = .ok cs.toArray w := run_loadCells_list (P := Tryz.prog) w p cs hc
  have hv : (loadVar ty p).run Tryz.prog w = .ok (.agg cs.toArray) w := by
    cases hq : Tryz.prog.info? ty with
    | none => rw [hq] at hsz; cases hsz
    | some i =>
      have hs : i.size = cs.length := by rw [hq] at hsz; simpa using hsz
      have hagg : (isAgg ty).run Tryz.prog w = .ok true w := by
        unfold isAgg
        rw [Sem.run_bind, run_underlying hu w]
        cases d <;> first | rfl | cases hd
      simp [loadVar, Sem.run_bind, hagg, sizeOf, typeInfo, hq, hs, hl]
  unfold execOp
  simp only [ho, hx, Instr.loadAt, Instr.sureAddr, Sem.run_bind, Sem.run_pure, Result.andThen_ok, hv]
theorem run_load_dfa {o : Oper} {ρ : Operand → Value} {w : World} (x : Operand) (ho : o.op = .load 28 x) (p : Addr) (hx : ρ x = .pointer (some p)) (cs : Array Value) (hz : cs.size = 3)
    (hc : ∀ j v, cs.toList[j]? = some v → w.cell? (p.add j) = some v) : (execOp ρ o).run Tryz.prog w = .ok (.value (.agg cs)) w := by
  have h := run_load_list 28 x ho p hx cs.toList hc Tryz.underlying28 rfl (by rw [Array.length_toList, hz]; exact size28)
  simpa using h
theorem wpList_load_dfa {w : World} {ops : Array Oper} {rest : List Oper} {o : Oper} {a : Act} {Q : Exit → Act → World → Prop} (hgd : o.guard = none) (x : Operand) (ho : o.op = .load 28 x) (p : Addr) (hx : a.eval x = .pointer (some p)) (cs : Array Value) (hz : cs.size = 3)
    (hc : ∀ j v, cs.toList[j]? = some v → w.cell? (p.add j) = some v) (h : wpList Tryz.prog ops Q rest (a.put o.dst (.agg cs)) w) : wpList Tryz.prog ops Q (o :: rest) a w :=
  wpList_load_list hgd 28 x ho p hx cs.toList hc Tryz.underlying28 rfl (by rw [Array.length_toList, hz]; exact size28) (by simpa using h)
theorem wpList_load_nd {w : World} {ops : Array Oper} {rest : List Oper} {o : Oper} {a : Act} {Q : Exit → Act → World → Prop} (hgd : o.guard = none) (x : Operand) (ho : o.op = .load 58 x) (p : Addr) (hx : a.eval x = .pointer (some p)) (n : Nd)
    (hc : ∀ j v, (ndc n).toList[j]? = some v → w.cell? (p.add j) = some v) (h : wpList Tryz.prog ops Q rest (a.put o.dst (.agg (ndc n))) w) : wpList Tryz.prog ops Q (o :: rest) a w :=
  wpList_load_list hgd 58 x ho p hx (ndc n).toList hc Tryz.underlying58 rfl (by rw [Array.length_toList, ndc_size]; exact size58) (by simpa using h)
theorem zero58 (w : World) : (zeroValue 58).run Tryz.prog w = .ok (.agg (ndc ⟨0, 0, 0, 0, 0, some 0⟩)) w := by kernel_rfl
end Go.Proofs.YtjgkdfghjeodeaaGreatDoor
