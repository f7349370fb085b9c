/- The law RowsLeast: for every input it gives true and leaves its arguments as they were.
   Conditions: none beyond the row's own (readable arguments within the form's reach). -/
import Derived.Test.YtjienelkjpodkaaL18
import Derived.Test.YtjienelkjpodkaaS1
namespace Go.Proofs.Ytjienelkjpodkaa
open Go.ChangeShapes Go.WideShapes Go.ChangeAt Go.RowKit

theorem madeP_cand {t : Sys} (h : Nice t) (x : List Int) : Cand t (madeP t x) := by
  refine ⟨by simp [madeP], fun i hi => ?_⟩
  have ht := getD_bet (valid_ok h.v).top hi
  rw [show (madeP t x).getD i 0 = if i < x.length then foldF (x.getD i 0) 0 (t.1.getD i 0) else 0 from by simp [madeP, List.getD_eq_getElem?_getD, hi], show ([] : List Int).getD i 0 = 0 from by simp]
  split
  · exact foldF_bound ht.1
  · omega
theorem point_c {t : Sys} {A B X : Option Addr} {n c m d xn xc : Nat} {x : List Int} {w : World} (hN : Nice t) (h : R1 w TT A n c t.1) (_h2 : RR w TT B m d t.2) (h' : R1 w TT X xn xc x) :
    Calls Try.prog 14 #[.agg #[.slice A n c, .slice B m d], .slice X xn xc] w fun e w' => ∃ P pc, e = .returned (.slice P n pc) ∧ R1 w' TT P n pc (madeP t x) ∧ Below w.heap.size w w' := by
  have hs := valid_ok hN.v
  refine (madeP_c TT TT A B X n c m d xn xc t x w h h' (by rw [← h.len]; exact hs.n12) hs.top).mono ?_
  rintro e w' ⟨P, pc, rfl, h1, hb⟩
  have hl : (madeP t x).length = n := by rw [← h.len]; simp [madeP]
  rw [hl] at h1 ⊢
  exact ⟨P, pc, rfl, h1.tt, hb⟩
theorem sat_of_holds {t : Sys} {x : List Int} (h : Nice t) (hx : Cand t x) (ha : ∀ r ∈ t.2, holdsR r x = true) : Sat t.2 x := fun r hr => by
  have := ha r hr
  rw [holds_cand h hx (h.row r hr)] at this
  exact of_decide_eq_true this

set_option maxRecDepth 100000 in
set_option maxHeartbeats 4000000 in
theorem law4_walk (A B P : Option Addr) (n c m d pn pc0 : Nat) (s : Sys) (pt : List Int) (w : World) (h : R1 w TT A n c s.1) (h' : RR w TT B m d s.2) (hp : R1 w TT P pn pc0 pt) :
    Calls Try.prog 4 #[.agg #[.slice A n c, .slice B m d], .slice P pn pc0] w (Gives w (.bool true)) := by
  have H1 := Lib.hid h
  have H2 := Lib.hid h'
  have H3 := Lib.hid hp
  have HCd := Lib.hid (madeP_cand (made_nice s) pt)
  have HB0 := Lib.hid (show Below w.heap.size w (w.alloc (.cells #[.slice A n c, .slice B m d] 25)) from (Below.refl _ _).alloc (Nat.le_refl _) _)
  have HK0 := Lib.hid (Blk.new w 25 #[.slice A n c, .slice B m d])
  have c0 := HK0.out.cell 0
  have c1 := HK0.out.cell 1
  clear h h' hp
  go_enter Try.func4, Try.ntmps4
  go_wp2_with (first
    | (go_at_call 14
       refine (point_c (made_nice s) HM3.out.top HM3.out.rows (H3.out.below (HB2.out.trans ((Below.refl w2.heap.size w2).alloc (Nat.le_refl _) _ |>.mono HB2.out.size)))).mono ?_
       rintro e w4 ⟨XA, xc, rfl, hx, hb⟩
       have HM4 := Lib.hid (HM3.out.step hb)
       have HX4 := Lib.hid hx
       clear hx hb)
    | (go_at_call 9
       refine (made_c TT A B n c m d s _ (H1.out.below HB1.out) (H2.out.below HB1.out)).mono ?_
       rintro e w2 ⟨TA, tn, tc, RA, rm, rd, rfl, r1, r2, hb⟩
       have HB2 := Lib.hid (HB1.out.trans (hb.mono HB1.out.size))
       have HM3 := Lib.hid (LMem.start (t := madeS s) HB2.out r1 r2)
       have hn2 := r1.len
       have hm2 := r2.len
       have hnc2 := r1.cap
       have hmc2 := r2.cap
       clear r1 r2 hb c0 c1)
    | (go_at_call 8
       refine (sanity_c _).mono ?_
       rintro e w1 ⟨rfl, hb⟩
       have HB1 := Lib.hid (HB0.out.trans (hb.mono HB0.out.size))
       have hk1 := HK0.out.old hb
       clear c0 c1
       have c0 := hk1.cell 0
       have c1 := hk1.cell 1
       clear hb hk1))
  have ht4 : tn ≤ 4 := by have := (made_top s).2.1; omega
  have hm6 : rm ≤ 6 := by have := made_len s; omega
  go_loopw [8] (fun s8 wr => ∃ k : Nat, k ≤ rm ∧ s8 = .int .i64 k ∧ (∀ r ∈ (madeS s).2.take k, holdsR r (madeP (madeS s) pt) = true) ∧ LMem w w2.heap.size TA tn tc RA rm rd (madeS s) wr ∧ R1 wr TT XA tn xc (madeP (madeS s) pt)) (fun s8 _ => rm - (intOf s8).toNat)
  case atStart => exact ⟨0, Nat.zero_le _, rfl, fun r hr => by simp at hr, HM4.out, HX4.out⟩
  case round =>
    obtain ⟨k, hkm, rfl, hall, hm, hx⟩ := hrel
    obtain ⟨wp, rfl⟩ : ∃ wp : World, wp = wr := ⟨_, rfl⟩
    have c0 := hm.c0
    have c1 := hm.c1
    have HMp := Lib.hid hm
    have HXp := Lib.hid hx
    have HAll := Lib.hid hall
    clear hm hx hall
    by_cases h1 : k < rm
    · have d1 : decide ((k : Int) < rm) = true := by simp; omega
      have d1n : decide (k < rm) = true := decide_eq_true h1
      obtain ⟨ad, r, A1, n1, c2, rfl, _, hr, hcu, hcv, hR, hI⟩ := HMp.out.rows.at_ h1
      have HRk := Lib.hid hr
      have HR := Lib.hid hR
      have HI := Lib.hid hI
      have hk1 : (k : Int) < rm := by omega
      have HCu := Lib.hid hcu
      have HCv := Lib.hid (show wp.cell? ((ad.add (k * 2)).add 1) = some (.int .i64 r.2) by rw [add_of_add]; exact hcv)
      clear hr hR hI hcu hcv
      cases hh : holdsR r (madeP (madeS s) pt) with
      | true =>
        have HHt := Lib.hid hh
        clear hh
        go_wp2_with (first
          | (refine wpList_load_two rfl 37 (.tmp 29) rfl (ad.add (k * 2)) rfl _ _ HCu.out HCv.out Try.underlying37 size37 ?_)
          | (go_at_call 13
             refine (holds_c TT TT A1 XA n1 c2 tn xc r.1 (madeP (madeS s) pt) r.2 _ HR.out HI.out HXp.out).mono ?_
             rw [show holdsR (r.1, r.2) (madeP (madeS s) pt) = true from HHt.out]
             rintro e w9 ⟨rfl, hb⟩
             have HM9 := Lib.hid (HMp.out.step hb)
             have HX9 := Lib.hid (HXp.out.below hb)
             clear hb c0 c1))
        go_roundw
        case rel =>
          refine ⟨k + 1, by omega, by go_num, fun q hq => ?_, HM9.out, HX9.out⟩
          rw [List.take_add_one, HRk.out] at hq
          rcases List.mem_append.1 hq with hq | hq
          · exact HAll.out q hq
          · have : q = r := by simpa using hq
            rw [this]; exact HHt.out
        case measure => simp [intOf]; omega
      | false =>
        have HHt := Lib.hid hh
        clear hh
        go_wp2_with (first
          | (refine wpList_load_two rfl 37 (.tmp 29) rfl (ad.add (k * 2)) rfl _ _ HCu.out HCv.out Try.underlying37 size37 ?_)
          | (go_at_call 13
             refine (holds_c TT TT A1 XA n1 c2 tn xc r.1 (madeP (madeS s) pt) r.2 _ HR.out HI.out HXp.out).mono ?_
             rw [show holdsR (r.1, r.2) (madeP (madeS s) pt) = false from HHt.out]
             rintro e w9 ⟨rfl, hb⟩
             have HM9 := Lib.hid (HMp.out.step hb)
             have HX9 := Lib.hid (HXp.out.below hb)
             clear hb c0 c1))
        go_ret
        exact ⟨rfl, HM9.out.b⟩
    · have d1 : decide ((k : Int) < rm) = false := by simp; omega
      have d1n : decide (k < rm) = false := decide_eq_false h1
      have hk : k = (madeS s).2.length := by omega
      have hsat : Sat (madeS s).2 (madeP (madeS s) pt) := sat_of_holds (made_nice s) HCd.out (by have := HAll.out; rwa [hk, List.take_length] at this)
      rcases solve_nice (made_nice s) with ⟨y, he, hl⟩ | ⟨p, _, _, hno⟩
      · have HE := Lib.hid he
        have HL := Lib.hid hl
        have HLs := Lib.hid (hl.2 _ HCd.out hsat)
        clear hk hsat he hl
        go_wp2_with (first
          | (go_at_call 15
             refine (less_c TT TT XA yA tn xc yc _ y _ HX8.out HY8.out).mono ?_
             rw [HLs.out]
             rintro e w9 ⟨rfl, hb⟩
             have HM9 := Lib.hid (HM8.out.step hb)
             clear hb)
          | (go_at_call 10
             refine (solve_yes HMp.out.top HMp.out.rows HE.out (HL.out.1.1.1.trans hn2)).mono ?_
             rintro e w8 ⟨yA, yc, pA, pc, rfl, hy, hb⟩
             have HM8 := Lib.hid (HMp.out.step hb)
             have HX8 := Lib.hid (HXp.out.below hb)
             have HY8 := Lib.hid hy
             clear hb hy))
        go_ret
        exact ⟨rfl, HM9.out.b⟩
      · exact absurd hsat (hno _ HCd.out)

theorem least_holds : Rows.RowsLeastSaid :=
  OpenClaim.holds_of_wide 4 Try.f4 rfl rfl rfl rfl rfl rfl rfl ⟨rfl, rfl, rfl, rfl, rfl⟩ rfl rfl rfl rfl rfl (by kernel_rfl) Try.func4 (by kernel_rfl)
    (of_decide_eq_true (by kernel_rfl)) (by unfold Func.isWrapper; rw [if_neg (of_decide_eq_false (by kernel_rfl))]; exact ⟨rfl, rfl⟩)
    (fun os started H enc _ => law_lifted (s := Rows.rowsLeastSpec) (ts := [25, 22]) os started (by kernel_rfl) Try.func4 (by rw [Try.params4]) (by kernel_rfl) rfl
      (fun ds hd => by
        match ds, hd with
        | [d0, d1], _ => rfl)
      (by intro t ht; simp only [List.mem_cons, List.not_mem_nil, or_false] at ht; rcases ht with rfl | rfl <;> exact ⟨by kernel_rfl, of_decide_eq_true (by kernel_rfl)⟩)
      (ChangeSpec.witness6 (enc := enc) (C := Try.checked) false ⟨#[], #[.agg #[.slice none 0 0, .slice none 0 0], .slice none 0 0], []⟩ 4 (by kernel_rfl) (by kernel_rfl) (by kernel_rfl) (by kernel_rfl))
      (fun W args hok => by
        match hargs : args.toList, hok with
        | [v0, v1], ⟨h0, h1, _⟩ =>
          obtain ⟨A, n, c, B, m, d, s, rfl, r1, r2⟩ := h0.1 rfl
          obtain ⟨P, pn, pc, l, rfl, r3⟩ := h1.2.2.1 rfl
          have : args = #[.agg #[.slice A n c, .slice B m d], .slice P pn pc] := by cases args; simp_all
          rw [this]
          exact law4_walk A B P n c m d pn pc s l W r1 r2 r3))

#print axioms least_holds
end Go.Proofs.Ytjienelkjpodkaa
