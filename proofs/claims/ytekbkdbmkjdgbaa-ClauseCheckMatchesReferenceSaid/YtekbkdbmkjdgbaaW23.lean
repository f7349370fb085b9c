/- The walk of sanity: it gives true. -/
import Derived.Test.YtekbkdbmkjdgbaaW22
import Derived.Test.YtekbkdbmkjdgbaaS1
import Derived.Test.YtekbkdbmkjdgbaaL6
import Derived.Test.YtekbkdbmkjdgbaaW11
import Derived.Test.YtekbkdbmkjdgbaaW5
namespace Go.Proofs.Ytekbkdbmkjdgbaa
open Go.RowKit

set_option maxHeartbeats 8000000 in
set_option maxRecDepth 100000 in
/-- 'sanity'. -/
theorem sanity_c (w : World) : Calls Try.prog 15 #[] w (Gives w (.bool true)) := by
  have HB0 := Lib.hid (Below.refl w.heap.size w)
  go_enter Try.func15, Try.ntmps15
  go_wp2_with fail
  have HC : Calls Try.prog 16 #[.slice (some ⟨w.heap.size + 2, 0, none⟩) 2 2, .int .i64 2] (lit2V (lit2W w sf) (w.heap.size + 3) sg) (SolvePost (lit2V (lit2W w sf) (w.heap.size + 3) sg) ([false, true], [], true, 0)) := by
    rw [← ev_sf]; exact solve_c _ _ 2 2 sf 2 _ ((lit2_r2 w sf (by decide) (by simp [sf, I64])).below (lit2V_below (lit2_size w sf) sg)) (by omega) (by omega)
  refine HC.mono ?_
  clear HC
  rintro e w1 ⟨mA, mn, mc, p1A, p1n, p1c, rfl, hm, hp, hb⟩
  have hst : Below w.heap.size w w1 := ((lit2_below w sf).trans ((lit2V_below (lit2_size w sf) sg).mono (lit2_below w sf).size)).trans (hb.mono ((lit2_below w sf).trans ((lit2V_below (lit2_size w sf) sg).mono (lit2_below w sf).size)).size)
  have HB1 := Lib.hid (HB0.out.trans (hst.mono HB0.out.size))
  have HF := Lib.hid (((lit2_r2 w sf (by decide) (by simp [sf, I64])).below (lit2V_below (lit2_size w sf) sg)).below hb)
  have HG := Lib.hid ((lit2V_r2 (lit2_size w sf) sg (by decide) (by simp [sg, I64])).below hb)
  have HM := Lib.hid (hm)
  clear hst hb hm hp
  go_wp2_with fail
  have HC : Calls Try.prog 16 #[.slice (some ⟨w.heap.size + 7, 0, none⟩) 4 4, .int .i64 2] (w1) (SolvePost (w1) ([], [[1], [-1], []], false, 0)) := by
    rw [← ev_sg]; exact solve_c _ _ 4 4 sg 2 _ HG.out (by omega) (by omega)
  refine HC.mono ?_
  clear HC
  rintro e w2 ⟨m2A, m2n, m2c, pA, pn, pc, rfl, hm, hp, hb⟩
  have hst : Below w1.heap.size w1 w2 := (Below.refl w1.heap.size w1).trans (hb.mono (Below.refl w1.heap.size w1).size)
  have HB2 := Lib.hid (HB1.out.trans (hst.mono HB1.out.size))
  replace HF := Lib.hid (HF.out.below hst)
  replace HG := Lib.hid (HG.out.below hst)
  replace HM := Lib.hid (HM.out.below hst)
  have HP := Lib.hid (hp)
  clear hst hb hm hp
  go_wp2_with fail
  have HC : Calls Try.prog 23 #[.slice (some ⟨w.heap.size + 2, 0, none⟩) 2 2, .slice (some ⟨w2.heap.size, 0, none⟩) 1 1] (lit1W w2 [-1]) (GivesL (lit1W w2 [-1]) [-1, 2] true) := by
    exact (show GivesL _ (propagateF sf [-1]).1 (propagateF sf [-1]).2 = GivesL _ [-1, 2] true by rw [ev_p1]) ▸ propagate23_c _ _ _ _ 2 2 1 1 sf [-1] _ (HF.out.below (lit1_below w2 [-1])) (lit1_r1 w2 [-1] (by decide) (by simp [I64]))
  refine HC.mono ?_
  clear HC
  rintro e w3 ⟨lA, ln, lc, rfl, hl, hb⟩
  have hst : Below w2.heap.size w2 w3 := (lit1_below w2 [-1]).trans (hb.mono (lit1_below w2 [-1]).size)
  have HB3 := Lib.hid (HB2.out.trans (hst.mono HB2.out.size))
  replace HF := Lib.hid (HF.out.below hst)
  replace HG := Lib.hid (HG.out.below hst)
  replace HM := Lib.hid (HM.out.below hst)
  replace HP := Lib.hid (HP.out.below hst)
  have HL := Lib.hid (hl)
  clear hst hb hl
  go_wp2_with fail
  have HC : Calls Try.prog 23 #[.slice (some ⟨w.heap.size + 2, 0, none⟩) 2 2, .slice (some ⟨w3.heap.size, 0, none⟩) 1 1] (lit1W w3 [-2]) (GivesL (lit1W w3 [-2]) [] false) := by
    exact (show GivesL _ (propagateF sf [-2]).1 (propagateF sf [-2]).2 = GivesL _ [] false by rw [ev_p2]) ▸ propagate23_c _ _ _ _ 2 2 1 1 sf [-2] _ (HF.out.below (lit1_below w3 [-2])) (lit1_r1 w3 [-2] (by decide) (by simp [I64]))
  refine HC.mono ?_
  clear HC
  rintro e w4 ⟨l2A, l2n, l2c, rfl, hl, hb⟩
  have hst : Below w3.heap.size w3 w4 := (lit1_below w3 [-2]).trans (hb.mono (lit1_below w3 [-2]).size)
  have HB4 := Lib.hid (HB3.out.trans (hst.mono HB3.out.size))
  replace HF := Lib.hid (HF.out.below hst)
  replace HG := Lib.hid (HG.out.below hst)
  replace HM := Lib.hid (HM.out.below hst)
  replace HP := Lib.hid (HP.out.below hst)
  replace HL := Lib.hid (HL.out.below hst)
  clear hst hb hl
  go_wp2_with fail
  have HC : Calls Try.prog 28 #[.slice (some ⟨w4.heap.size + 4, 0, none⟩) 4 4, .int .i64 2] (lit2W w4 [[1], [-1], [2], [-2]]) (CorePost (lit2W w4 [[1], [-1], [2], [-2]]) ([0, 1], true, 0)) := by
    rw [← ev_core]; exact core_c _ _ 4 4 [[1], [-1], [2], [-2]] 2 _ (lit2_r2 w4 [[1], [-1], [2], [-2]] (by decide) (by simp [I64])) (by omega) (by omega)
  refine HC.mono ?_
  clear HC
  rintro e w5 ⟨cA, cn, cc, rfl, hc, hb⟩
  have hst : Below w4.heap.size w4 w5 := (lit2_below w4 [[1], [-1], [2], [-2]]).trans (hb.mono (lit2_below w4 [[1], [-1], [2], [-2]]).size)
  have HB5 := Lib.hid (HB4.out.trans (hst.mono HB4.out.size))
  replace HF := Lib.hid (HF.out.below hst)
  replace HG := Lib.hid (HG.out.below hst)
  replace HM := Lib.hid (HM.out.below hst)
  replace HP := Lib.hid (HP.out.below hst)
  replace HL := Lib.hid (HL.out.below hst)
  have HCo := Lib.hid (hc)
  clear hst hb hc
  go_wp2_with fail
  have HC : Calls Try.prog 16 #[.slice none 0 0, .int .i64 0] (w5) (SolvePost (w5) ([], [], true, 0)) := by
    rw [← ev_nil]; exact solve_c (fun _ => True) _ 0 0 [] 0 _ (R2.nil_ _ _) (by omega) (by omega)
  refine HC.mono ?_
  clear HC
  rintro e w6 ⟨nA, nn, nc, p5A, p5n, p5c, rfl, hm, hp, hb⟩
  have hst : Below w5.heap.size w5 w6 := (Below.refl w5.heap.size w5).trans (hb.mono (Below.refl w5.heap.size w5).size)
  have HB6 := Lib.hid (HB5.out.trans (hst.mono HB5.out.size))
  replace HF := Lib.hid (HF.out.below hst)
  replace HG := Lib.hid (HG.out.below hst)
  replace HM := Lib.hid (HM.out.below hst)
  replace HP := Lib.hid (HP.out.below hst)
  replace HL := Lib.hid (HL.out.below hst)
  replace HCo := Lib.hid (HCo.out.below hst)
  have HN := Lib.hid (hm)
  clear hst hb hm hp
  obtain rfl : nn = 0 := by have := HN.out.len; simpa using this.symm
  go_wp2_with fail
  have HC : Calls Try.prog 16 #[.slice (some ⟨w6.heap.size + 1, 0, none⟩) 1 1, .int .i64 0] (lit2W w6 [[]]) (SolvePost (lit2W w6 [[]]) ([], [[]], false, 0)) := by
    rw [← ev_empty]; exact solve_c _ _ 1 1 [[]] 0 _ (lit2_r2 w6 [[]] (by decide) (by simp [I64])) (by omega) (by omega)
  refine HC.mono ?_
  clear HC
  rintro e w7 ⟨m6A, m6n, m6c, p6A, p6n, p6c, rfl, hm, hp, hb⟩
  have hst : Below w6.heap.size w6 w7 := (lit2_below w6 [[]]).trans (hb.mono (lit2_below w6 [[]]).size)
  have HB7 := Lib.hid (HB6.out.trans (hst.mono HB6.out.size))
  replace HF := Lib.hid (HF.out.below hst)
  replace HG := Lib.hid (HG.out.below hst)
  replace HM := Lib.hid (HM.out.below hst)
  replace HP := Lib.hid (HP.out.below hst)
  replace HL := Lib.hid (HL.out.below hst)
  replace HCo := Lib.hid (HCo.out.below hst)
  replace HN := Lib.hid (HN.out.below hst)
  clear hst hb hm hp
  go_wp2_with fail
  have HC : Calls Try.prog 16 #[.slice (some ⟨w7.heap.size + 1, 0, none⟩) 1 1, .int .i64 2] (lit2W w7 [[3]]) (SolvePost (lit2W w7 [[3]]) ([], [], false, 1)) := by
    rw [← ev_bad]; exact solve_c _ _ 1 1 [[3]] 2 _ (lit2_r2 w7 [[3]] (by decide) (by simp [I64])) (by omega) (by omega)
  refine HC.mono ?_
  clear HC
  rintro e w8 ⟨m7A, m7n, m7c, p7A, p7n, p7c, rfl, hm, hp, hb⟩
  have hst : Below w7.heap.size w7 w8 := (lit2_below w7 [[3]]).trans (hb.mono (lit2_below w7 [[3]]).size)
  have HB8 := Lib.hid (HB7.out.trans (hst.mono HB7.out.size))
  replace HF := Lib.hid (HF.out.below hst)
  replace HG := Lib.hid (HG.out.below hst)
  replace HM := Lib.hid (HM.out.below hst)
  replace HP := Lib.hid (HP.out.below hst)
  replace HL := Lib.hid (HL.out.below hst)
  replace HCo := Lib.hid (HCo.out.below hst)
  replace HN := Lib.hid (HN.out.below hst)
  clear hst hb hm hp
  go_wp2_with fail
  have HC : Calls Try.prog 22 #[.slice mA mn mc, .slice (some ⟨w8.heap.size, 0, none⟩) 2 2] (litBW w8 [false, true]) (Gives (litBW w8 [false, true]) (.bool true)) := by
    exact (show Gives _ (.bool (decide ([false, true] = [false, true]))) = Gives _ (.bool true) by rfl) ▸ sameBools_c _ _ _ _ mn mc 2 2 [false, true] [false, true] _ (HM.out.below (litB_below w8 [false, true])) (litB_rb w8 [false, true] (by decide))
  refine HC.mono ?_
  clear HC
  rintro e w9 ⟨rfl, hb⟩
  have hst : Below w8.heap.size w8 w9 := (litB_below w8 [false, true]).trans (hb.mono (litB_below w8 [false, true]).size)
  have HB9 := Lib.hid (HB8.out.trans (hst.mono HB8.out.size))
  replace HF := Lib.hid (HF.out.below hst)
  replace HG := Lib.hid (HG.out.below hst)
  replace HM := Lib.hid (HM.out.below hst)
  replace HP := Lib.hid (HP.out.below hst)
  replace HL := Lib.hid (HL.out.below hst)
  replace HCo := Lib.hid (HCo.out.below hst)
  replace HN := Lib.hid (HN.out.below hst)
  clear hst hb
  go_wp2_with fail
  have HC : Calls Try.prog 26 #[.slice (some ⟨w.heap.size + 7, 0, none⟩) 4 4, .int .i64 2, .slice pA pn pc] (w9) (Gives (w9) (.bool true)) := by
    rw [← ev_c0]; exact check_c _ _ _ _ 4 4 pn pc sg [[1], [-1], []] 2 _ HG.out HP.out (by omega) (by omega) (by have := HP.out.len; simp at this; omega)
  refine HC.mono ?_
  clear HC
  rintro e w10 ⟨rfl, hb⟩
  have hst : Below w9.heap.size w9 w10 := (Below.refl w9.heap.size w9).trans (hb.mono (Below.refl w9.heap.size w9).size)
  have HB10 := Lib.hid (HB9.out.trans (hst.mono HB9.out.size))
  replace HF := Lib.hid (HF.out.below hst)
  replace HG := Lib.hid (HG.out.below hst)
  replace HM := Lib.hid (HM.out.below hst)
  replace HP := Lib.hid (HP.out.below hst)
  replace HL := Lib.hid (HL.out.below hst)
  replace HCo := Lib.hid (HCo.out.below hst)
  replace HN := Lib.hid (HN.out.below hst)
  clear hst hb
  go_wp2_with fail
  have HC : Calls Try.prog 26 #[.slice (some ⟨w.heap.size + 7, 0, none⟩) 4 4, .int .i64 2, .slice (some ⟨w10.heap.size + 2, 0, none⟩) 2 2] (lit2W w10 [[1], []]) (Gives (lit2W w10 [[1], []]) (.bool true)) := by
    rw [← ev_c1]; exact check_c _ _ _ _ 4 4 2 2 sg [[1], []] 2 _ (HG.out.below (lit2_below w10 [[1], []])) (lit2_r2 w10 [[1], []] (by decide) (by simp [I64])) (by omega) (by omega) (by omega)
  refine HC.mono ?_
  clear HC
  rintro e w11 ⟨rfl, hb⟩
  have hst : Below w10.heap.size w10 w11 := (lit2_below w10 [[1], []]).trans (hb.mono (lit2_below w10 [[1], []]).size)
  have HB11 := Lib.hid (HB10.out.trans (hst.mono HB10.out.size))
  replace HF := Lib.hid (HF.out.below hst)
  replace HG := Lib.hid (HG.out.below hst)
  replace HM := Lib.hid (HM.out.below hst)
  replace HP := Lib.hid (HP.out.below hst)
  replace HL := Lib.hid (HL.out.below hst)
  replace HCo := Lib.hid (HCo.out.below hst)
  replace HN := Lib.hid (HN.out.below hst)
  clear hst hb
  go_wp2_with fail
  have HC : Calls Try.prog 26 #[.slice (some ⟨w.heap.size + 7, 0, none⟩) 4 4, .int .i64 2, .slice (some ⟨w11.heap.size + 1, 0, none⟩) 1 1] (lit2W w11 [[]]) (Gives (lit2W w11 [[]]) (.bool false)) := by
    rw [← ev_c2]; exact check_c _ _ _ _ 4 4 1 1 sg [[]] 2 _ (HG.out.below (lit2_below w11 [[]])) (lit2_r2 w11 [[]] (by decide) (by simp [I64])) (by omega) (by omega) (by omega)
  refine HC.mono ?_
  clear HC
  rintro e w12 ⟨rfl, hb⟩
  have hst : Below w11.heap.size w11 w12 := (lit2_below w11 [[]]).trans (hb.mono (lit2_below w11 [[]]).size)
  have HB12 := Lib.hid (HB11.out.trans (hst.mono HB11.out.size))
  replace HF := Lib.hid (HF.out.below hst)
  replace HG := Lib.hid (HG.out.below hst)
  replace HM := Lib.hid (HM.out.below hst)
  replace HP := Lib.hid (HP.out.below hst)
  replace HL := Lib.hid (HL.out.below hst)
  replace HCo := Lib.hid (HCo.out.below hst)
  replace HN := Lib.hid (HN.out.below hst)
  clear hst hb
  go_wp2_with fail
  have HC : Calls Try.prog 26 #[.slice (some ⟨w.heap.size + 2, 0, none⟩) 2 2, .int .i64 2, .slice (some ⟨w12.heap.size + 2, 0, none⟩) 2 2] (lit2W w12 [[1], []]) (Gives (lit2W w12 [[1], []]) (.bool false)) := by
    rw [← ev_c3]; exact check_c _ _ _ _ 2 2 2 2 sf [[1], []] 2 _ (HF.out.below (lit2_below w12 [[1], []])) (lit2_r2 w12 [[1], []] (by decide) (by simp [I64])) (by omega) (by omega) (by omega)
  refine HC.mono ?_
  clear HC
  rintro e w13 ⟨rfl, hb⟩
  have hst : Below w12.heap.size w12 w13 := (lit2_below w12 [[1], []]).trans (hb.mono (lit2_below w12 [[1], []]).size)
  have HB13 := Lib.hid (HB12.out.trans (hst.mono HB12.out.size))
  replace HF := Lib.hid (HF.out.below hst)
  replace HG := Lib.hid (HG.out.below hst)
  replace HM := Lib.hid (HM.out.below hst)
  replace HP := Lib.hid (HP.out.below hst)
  replace HL := Lib.hid (HL.out.below hst)
  replace HCo := Lib.hid (HCo.out.below hst)
  replace HN := Lib.hid (HN.out.below hst)
  clear hst hb
  go_wp2_with fail
  have HC : Calls Try.prog 25 #[.slice lA ln lc, .slice (some ⟨w13.heap.size, 0, none⟩) 2 2] (lit1W w13 [-1, 2]) (Gives (lit1W w13 [-1, 2]) (.bool true)) := by
    exact (show Gives _ (.bool (decide (([-1, 2] : List Int) = [-1, 2]))) = Gives _ (.bool true) by rfl) ▸ sameInts_c _ _ _ _ ln lc 2 2 [-1, 2] [-1, 2] _ (HL.out.below (lit1_below w13 [-1, 2])) (lit1_r1 w13 [-1, 2] (by decide) (by simp [I64]))
  refine HC.mono ?_
  clear HC
  rintro e w14 ⟨rfl, hb⟩
  have hst : Below w13.heap.size w13 w14 := (lit1_below w13 [-1, 2]).trans (hb.mono (lit1_below w13 [-1, 2]).size)
  have HB14 := Lib.hid (HB13.out.trans (hst.mono HB13.out.size))
  replace HF := Lib.hid (HF.out.below hst)
  replace HG := Lib.hid (HG.out.below hst)
  replace HM := Lib.hid (HM.out.below hst)
  replace HP := Lib.hid (HP.out.below hst)
  replace HL := Lib.hid (HL.out.below hst)
  replace HCo := Lib.hid (HCo.out.below hst)
  replace HN := Lib.hid (HN.out.below hst)
  clear hst hb
  go_wp2_with fail
  have HC : Calls Try.prog 25 #[.slice cA cn cc, .slice (some ⟨w14.heap.size, 0, none⟩) 2 2] (lit1W w14 [0, 1]) (Gives (lit1W w14 [0, 1]) (.bool true)) := by
    exact (show Gives _ (.bool (decide (([0, 1] : List Int) = [0, 1]))) = Gives _ (.bool true) by rfl) ▸ sameInts_c _ _ _ _ cn cc 2 2 [0, 1] [0, 1] _ (HCo.out.below (lit1_below w14 [0, 1])) (lit1_r1 w14 [0, 1] (by decide) (by simp [I64]))
  refine HC.mono ?_
  clear HC
  rintro e w15 ⟨rfl, hb⟩
  have hst : Below w14.heap.size w14 w15 := (lit1_below w14 [0, 1]).trans (hb.mono (lit1_below w14 [0, 1]).size)
  have HB15 := Lib.hid (HB14.out.trans (hst.mono HB14.out.size))
  replace HF := Lib.hid (HF.out.below hst)
  replace HG := Lib.hid (HG.out.below hst)
  replace HM := Lib.hid (HM.out.below hst)
  replace HP := Lib.hid (HP.out.below hst)
  replace HL := Lib.hid (HL.out.below hst)
  replace HCo := Lib.hid (HCo.out.below hst)
  replace HN := Lib.hid (HN.out.below hst)
  clear hst hb
  go_wp2_with fail
  have HC : Calls Try.prog 26 #[.slice (some ⟨w15.heap.size + 1, 0, none⟩) 1 1, .int .i64 0, .slice (some ⟨w15.heap.size + 3, 0, none⟩) 1 1] (lit2V (lit2W w15 [[]]) (w15.heap.size + 2) [[]]) (Gives (lit2V (lit2W w15 [[]]) (w15.heap.size + 2) [[]]) (.bool true)) := by
    rw [← ev_c4]; exact check_c _ _ _ _ 1 1 1 1 [[]] [[]] 0 _ ((lit2_r2 w15 [[]] (by decide) (by simp [I64])).below (lit2V_below (lit2_size w15 [[]]) [[]])) (lit2V_r2 (lit2_size w15 [[]]) [[]] (by decide) (by simp)) (by omega) (by omega) (by omega)
  refine HC.mono ?_
  clear HC
  rintro e w16 ⟨rfl, hb⟩
  have hst : Below w15.heap.size w15 w16 := ((lit2_below w15 [[]]).trans ((lit2V_below (lit2_size w15 [[]]) [[]]).mono (lit2_below w15 [[]]).size)).trans (hb.mono ((lit2_below w15 [[]]).trans ((lit2V_below (lit2_size w15 [[]]) [[]]).mono (lit2_below w15 [[]]).size)).size)
  have HB16 := Lib.hid (HB15.out.trans (hst.mono HB15.out.size))
  replace HF := Lib.hid (HF.out.below hst)
  replace HG := Lib.hid (HG.out.below hst)
  replace HM := Lib.hid (HM.out.below hst)
  replace HP := Lib.hid (HP.out.below hst)
  replace HL := Lib.hid (HL.out.below hst)
  replace HCo := Lib.hid (HCo.out.below hst)
  replace HN := Lib.hid (HN.out.below hst)
  clear hst hb
  go_wp2_with fail
  have HC : Calls Try.prog 20 #[.slice (some ⟨w.heap.size + 2, 0, none⟩) 2 2, .slice (some ⟨w16.heap.size, 0, none⟩) 2 2] (litBW w16 [true, true]) (Gives (litBW w16 [true, true]) (.bool true)) := by
    rw [← ev_h1]; exact holds_c _ _ _ _ 2 2 2 2 sf [true, true] _ (HF.out.below (litB_below w16 [true, true])) (litB_rb w16 [true, true] (by decide))
  refine HC.mono ?_
  clear HC
  rintro e w17 ⟨rfl, hb⟩
  have hst : Below w16.heap.size w16 w17 := (litB_below w16 [true, true]).trans (hb.mono (litB_below w16 [true, true]).size)
  have HB17 := Lib.hid (HB16.out.trans (hst.mono HB16.out.size))
  replace HF := Lib.hid (HF.out.below hst)
  replace HG := Lib.hid (HG.out.below hst)
  replace HM := Lib.hid (HM.out.below hst)
  replace HP := Lib.hid (HP.out.below hst)
  replace HL := Lib.hid (HL.out.below hst)
  replace HCo := Lib.hid (HCo.out.below hst)
  replace HN := Lib.hid (HN.out.below hst)
  clear hst hb
  go_wp2_with fail
  have HC : Calls Try.prog 20 #[.slice (some ⟨w.heap.size + 2, 0, none⟩) 2 2, .slice (some ⟨w17.heap.size, 0, none⟩) 2 2] (litBW w17 [true, false]) (Gives (litBW w17 [true, false]) (.bool false)) := by
    rw [← ev_h2]; exact holds_c _ _ _ _ 2 2 2 2 sf [true, false] _ (HF.out.below (litB_below w17 [true, false])) (litB_rb w17 [true, false] (by decide))
  refine HC.mono ?_
  clear HC
  rintro e w18 ⟨rfl, hb⟩
  have hst : Below w17.heap.size w17 w18 := (litB_below w17 [true, false]).trans (hb.mono (litB_below w17 [true, false]).size)
  have HB18 := Lib.hid (HB17.out.trans (hst.mono HB17.out.size))
  replace HF := Lib.hid (HF.out.below hst)
  replace HG := Lib.hid (HG.out.below hst)
  replace HM := Lib.hid (HM.out.below hst)
  replace HP := Lib.hid (HP.out.below hst)
  replace HL := Lib.hid (HL.out.below hst)
  replace HCo := Lib.hid (HCo.out.below hst)
  replace HN := Lib.hid (HN.out.below hst)
  clear hst hb
  go_wp2_with fail
  have HC : Calls Try.prog 18 #[.slice (some ⟨w.heap.size + 2, 0, none⟩) 2 2, .int .i64 2] (w18) (Gives (w18) (.bool true)) := by
    rw [← ev_v1]; exact valid_c _ _ 2 2 sf 2 _ HF.out (by omega) (by omega)
  refine HC.mono ?_
  clear HC
  rintro e w19 ⟨rfl, hb⟩
  have hst : Below w18.heap.size w18 w19 := (Below.refl w18.heap.size w18).trans (hb.mono (Below.refl w18.heap.size w18).size)
  have HB19 := Lib.hid (HB18.out.trans (hst.mono HB18.out.size))
  replace HF := Lib.hid (HF.out.below hst)
  replace HG := Lib.hid (HG.out.below hst)
  replace HM := Lib.hid (HM.out.below hst)
  replace HP := Lib.hid (HP.out.below hst)
  replace HL := Lib.hid (HL.out.below hst)
  replace HCo := Lib.hid (HCo.out.below hst)
  replace HN := Lib.hid (HN.out.below hst)
  clear hst hb
  go_wp2_with fail
  have HC : Calls Try.prog 18 #[.slice (some ⟨w.heap.size + 2, 0, none⟩) 2 2, .int .i64 1] (w19) (Gives (w19) (.bool false)) := by
    rw [← ev_v2]; exact valid_c _ _ 2 2 sf 1 _ HF.out (by omega) (by omega)
  refine HC.mono ?_
  clear HC
  rintro e w20 ⟨rfl, hb⟩
  have hst : Below w19.heap.size w19 w20 := (Below.refl w19.heap.size w19).trans (hb.mono (Below.refl w19.heap.size w19).size)
  have HB20 := Lib.hid (HB19.out.trans (hst.mono HB19.out.size))
  replace HF := Lib.hid (HF.out.below hst)
  replace HG := Lib.hid (HG.out.below hst)
  replace HM := Lib.hid (HM.out.below hst)
  replace HP := Lib.hid (HP.out.below hst)
  replace HL := Lib.hid (HL.out.below hst)
  replace HCo := Lib.hid (HCo.out.below hst)
  replace HN := Lib.hid (HN.out.below hst)
  clear hst hb
  go_wp2
  go_ret
  exact ⟨rfl, HB20.out⟩

end Go.Proofs.Ytekbkdbmkjdgbaa
