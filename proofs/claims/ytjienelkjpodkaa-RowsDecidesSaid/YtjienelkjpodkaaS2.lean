/- The law RowsDecides: for every input it gives true and leaves its arguments as they were.
   Conditions: none beyond the row's own (readable arguments within the form's reach). -/
import Derived.Test.YtjienelkjpodkaaL18
import Derived.Test.YtjienelkjpodkaaS1
namespace Go.Proofs.Ytjienelkjpodkaa
open Go.ChangeShapes Go.WideShapes Go.ChangeAt Go.RowKit

set_option maxRecDepth 100000 in
set_option maxHeartbeats 4000000 in
theorem law3_no (A B : Option Addr) (n c m d : Nat) (s : Sys) (w : World) (h : R1 w TT A n c s.1) (h' : RR w TT B m d s.2) {p : List Step} (he : solveF (madeS s) = ([], p, false, 0)) (hc : checkF (madeS s) p = true) :
    Calls Try.prog 3 #[.agg #[.slice A n c, .slice B m d]] w (Gives w (.bool true)) := by
  have H1 := Lib.hid h
  have H2 := Lib.hid h'
  have HE := Lib.hid he
  have HC := Lib.hid hc
  have HV := Lib.hid (made_nice s).v
  have HB0 := Lib.hid (show Below w.heap.size w (w.alloc (.cells #[.slice A n c, .slice B m d] 25)) from (Below.refl _ _).alloc (Nat.le_refl _) _)
  have HK0 := Lib.hid (Blk.new w 25 #[.slice A n c, .slice B m d])
  have c0 := HK0.out.cell 0
  have c1 := HK0.out.cell 1
  clear h h' he hc
  go_enter Try.func3, Try.ntmps3
  go_wp2_with (first
    | (go_at_call 12
       refine (check_yes HM5.out.top HM5.out.rows HP5.out HC.out).mono ?_
       rintro e w6 ⟨rfl, hb⟩
       have HM6 := Lib.hid (HM5.out.step hb)
       clear hb)
    | (go_at_call 11
       refine (valid_yes HM4.out.top HM4.out.rows HV.out).mono ?_
       rintro e w5 ⟨rfl, hb⟩
       have HM5 := Lib.hid (HM4.out.step hb)
       have HP5 := Lib.hid (HP4.out.below hb)
       clear hb c0 c1
       have c0 := HM5.out.c0
       have c1 := HM5.out.c1)
    | (go_at_call 10
       refine (solve_no HM3.out.top HM3.out.rows HE.out).mono ?_
       rintro e w4 ⟨xA, xc, pA, pn, pc, rfl, hp, hx, hb⟩
       have HM4 := Lib.hid (HM3.out.step hb)
       have HP4 := Lib.hid hp
       have c0 := HM4.out.c0
       have c1 := HM4.out.c1
       clear hb hp hx)
    | (go_at_call 9
       refine (made_c TT A B n c m d s _ (H1.out.below HB1.out) (H2.out.below HB1.out)).mono ?_
       rintro e w2 ⟨TA, tn, tc, RA, rm, rd, rfl, r1, r2, hb⟩
       have HB2 := Lib.hid (HB1.out.trans (hb.mono HB1.out.size))
       have HM3 := Lib.hid (LMem.start (t := madeS s) HB2.out r1 r2)
       have hn2 := r1.len
       have hm2 := r2.len
       have hnc2 := r1.cap
       have hmc2 := r2.cap
       clear r1 r2 hb c0 c1)
    | (go_at_call 8
       refine (sanity_c _).mono ?_
       rintro e w1 ⟨rfl, hb⟩
       have HB1 := Lib.hid (HB0.out.trans (hb.mono HB0.out.size))
       have hk1 := HK0.out.old hb
       clear c0 c1
       have c0 := hk1.cell 0
       have c1 := hk1.cell 1
       clear hb hk1))
  go_ret
  exact ⟨rfl, HM6.out.b⟩

set_option maxRecDepth 100000 in
set_option maxHeartbeats 4000000 in
theorem law3_yes (A B : Option Addr) (n c m d : Nat) (s : Sys) (w : World) (h : R1 w TT A n c s.1) (h' : RR w TT B m d s.2) {x : List Int} (he : solveF (madeS s) = (x, [], true, 0)) (hl : Least (madeS s) x) :
    Calls Try.prog 3 #[.agg #[.slice A n c, .slice B m d]] w (Gives w (.bool true)) := by
  have H1 := Lib.hid h
  have H2 := Lib.hid h'
  have HE := Lib.hid he
  have HL := Lib.hid hl
  have HV := Lib.hid (made_nice s).v
  have HB0 := Lib.hid (show Below w.heap.size w (w.alloc (.cells #[.slice A n c, .slice B m d] 25)) from (Below.refl _ _).alloc (Nat.le_refl _) _)
  have HK0 := Lib.hid (Blk.new w 25 #[.slice A n c, .slice B m d])
  have c0 := HK0.out.cell 0
  have c1 := HK0.out.cell 1
  clear h h' he hl
  go_enter Try.func3, Try.ntmps3
  go_wp2_with (first
    | (go_at_call 11
       refine (valid_yes HM4.out.top HM4.out.rows HV.out).mono ?_
       rintro e w5 ⟨rfl, hb⟩
       have HM5 := Lib.hid (HM4.out.step hb)
       have HX5 := Lib.hid (HX4.out.below hb)
       clear hb c0 c1
       have c0 := HM5.out.c0
       have c1 := HM5.out.c1)
    | (go_at_call 10
       refine (solve_yes HM3.out.top HM3.out.rows HE.out (HL.out.1.1.1.trans hn2)).mono ?_
       rintro e w4 ⟨xA, xc, pA, pc, rfl, hx, hb⟩
       have HM4 := Lib.hid (HM3.out.step hb)
       have HX4 := Lib.hid hx
       have c0 := HM4.out.c0
       have c1 := HM4.out.c1
       clear hb hx)
    | (go_at_call 9
       refine (made_c TT A B n c m d s _ (H1.out.below HB1.out) (H2.out.below HB1.out)).mono ?_
       rintro e w2 ⟨TA, tn, tc, RA, rm, rd, rfl, r1, r2, hb⟩
       have HB2 := Lib.hid (HB1.out.trans (hb.mono HB1.out.size))
       have HM3 := Lib.hid (LMem.start (t := madeS s) HB2.out r1 r2)
       have hn2 := r1.len
       have hm2 := r2.len
       have hnc2 := r1.cap
       have hmc2 := r2.cap
       clear r1 r2 hb c0 c1)
    | (go_at_call 8
       refine (sanity_c _).mono ?_
       rintro e w1 ⟨rfl, hb⟩
       have HB1 := Lib.hid (HB0.out.trans (hb.mono HB0.out.size))
       have hk1 := HK0.out.old hb
       clear c0 c1
       have c0 := hk1.cell 0
       have c1 := hk1.cell 1
       clear hb hk1))
  have ht4 : tn ≤ 4 := by have := (made_top s).2.1; omega
  have hm6 : rm ≤ 6 := by have := made_len s; omega
  go_loopw [9] (fun s9 wr => ∃ i : Nat, i ≤ tn ∧ s9 = .int .i64 i ∧ LMem w w2.heap.size TA tn tc RA rm rd (madeS s) wr ∧ R1 wr TT xA tn xc x) (fun s9 _ => tn - (intOf s9).toNat)
  case atStart => exact ⟨0, Nat.zero_le _, rfl, HM5.out, HX5.out⟩
  case round =>
    clear c0 c1
    obtain ⟨i, hin, rfl, hm, hx⟩ := hrel
    obtain ⟨wo, rfl⟩ : ∃ wo : World, wo = wr := ⟨_, rfl⟩
    have c0 := hm.c0
    have c1 := hm.c1
    have HMo := Lib.hid hm
    have HXo := Lib.hid hx
    clear hm hx
    by_cases h1 : i < tn
    · have d1 : decide ((i : Int) < tn) = true := by simp; omega
      have d1n : decide (i < tn) = true := decide_eq_true h1
      obtain ⟨ad, t, rfl, _, ht, hti, hct⟩ := HMo.out.top.at_ h1
      obtain ⟨xd, y, rfl, _, hy, hyi, hcy⟩ := HXo.out.at_ h1
      have hyb : 0 ≤ y ∧ y ≤ t := by
        have := HL.out.1.1.2 i (by omega)
        rw [List.getD_eq_getElem?_getD, List.getD_eq_getElem?_getD, List.getD_eq_getElem?_getD, hy, ht] at this
        simpa using this
      have d3 : decide (y < 0) = false := by simp; omega
      have d4 : decide (t < y) = false := by simp; omega
      have hi1 : (i : Int) < tn := by omega
      clear hy ht hti hyi hyb
      go_upto_region 13 with fail
      go_quiet (fail)
      clear c0 c1 hct hcy
      have hbq : Below wo.heap.size wo (wo.drewN nq) := below_drew (Below.refl _ _) nq
      have HMq := Lib.hid (HMo.out.step hbq)
      have HXq := Lib.hid (HXo.out.below hbq)
      clear hbq
      go_wp2_with fail
      go_roundw
      case rel => exact ⟨i + 1, by omega, by go_num, HMq.out, HXq.out⟩
      case measure => simp [intOf]; omega
    · have d1 : decide ((i : Int) < tn) = false := by simp; omega
      have d1n : decide (i < tn) = false := decide_eq_false h1
      go_wp2_with fail
      go_loopw [10] (fun s10 wr => ∃ k : Nat, k ≤ rm ∧ s10 = .int .i64 k ∧ LMem w w2.heap.size TA tn tc RA rm rd (madeS s) wr ∧ R1 wr TT xA tn xc x) (fun s10 _ => rm - (intOf s10).toNat)
      case atStart => exact ⟨0, Nat.zero_le _, rfl, HMo.out, HXo.out⟩
      case round =>
        clear c0 c1 d1 d1n h1 hin
        obtain ⟨k, hkm, rfl, hm, hx⟩ := hrel
        obtain ⟨wp, rfl⟩ : ∃ wp : World, wp = wr := ⟨_, rfl⟩
        have c0 := hm.c0
        have c1 := hm.c1
        have HMp := Lib.hid hm
        have HXp := Lib.hid hx
        clear hm hx
        by_cases h1 : k < rm
        · have d1 : decide ((k : Int) < rm) = true := by simp; omega
          have d1n : decide (k < rm) = true := decide_eq_true h1
          obtain ⟨ad, r, A1, n1, c2, rfl, _, hr, hcu, hcv, hR, hI⟩ := HMp.out.rows.at_ h1
          have HHt := Lib.hid (holds_true (t := madeS s) (made_nice s) HL.out.1 (List.mem_of_getElem? hr))
          have HR := Lib.hid hR
          have HI := Lib.hid hI
          have hk1 : (k : Int) < rm := by omega
          have HCu := Lib.hid hcu
          have HCv := Lib.hid (show wp.cell? ((ad.add (k * 2)).add 1) = some (.int .i64 r.2) by rw [add_of_add]; exact hcv)
          clear hr hR hI hcu hcv
          go_wp2_with (first
            | (refine wpList_load_two rfl 37 (.tmp 85) rfl (ad.add (k * 2)) rfl _ _ HCu.out HCv.out Try.underlying37 size37 ?_)
            | (go_at_call 13
               refine (holds_c TT TT A1 xA n1 c2 tn xc r.1 x r.2 _ HR.out HI.out HXp.out).mono ?_
               rw [show holdsR (r.1, r.2) x = true from HHt.out]
               rintro e w9 ⟨rfl, hb⟩
               have HM9 := Lib.hid (HMp.out.step hb)
               have HX9 := Lib.hid (HXp.out.below hb)
               clear hb c0 c1))
          go_roundw
          case rel => exact ⟨k + 1, by omega, by go_num, HM9.out, HX9.out⟩
          case measure => simp [intOf]; omega
        · have d1 : decide ((k : Int) < rm) = false := by simp; omega
          have d1n : decide (k < rm) = false := decide_eq_false h1
          go_wp2_with fail
          go_ret
          exact ⟨rfl, HMp.out.b⟩

theorem law3_walk (A B : Option Addr) (n c m d : Nat) (s : Sys) (w : World) (h : R1 w TT A n c s.1) (h' : RR w TT B m d s.2) :
    Calls Try.prog 3 #[.agg #[.slice A n c, .slice B m d]] w (Gives w (.bool true)) := by
  rcases solve_nice (made_nice s) with ⟨x, e, hl⟩ | ⟨p, e, hc, _⟩
  · exact law3_yes A B n c m d s w h h' e hl
  · exact law3_no A B n c m d s w h h' e hc

theorem decides_holds : Rows.RowsDecidesSaid :=
  OpenClaim.holds_of_wide 3 Try.f3 rfl rfl rfl rfl rfl rfl rfl ⟨rfl, rfl, rfl, rfl, rfl⟩ rfl rfl rfl rfl rfl (by kernel_rfl) Try.func3 (by kernel_rfl)
    (of_decide_eq_true (by kernel_rfl)) (by unfold Func.isWrapper; rw [if_neg (of_decide_eq_false (by kernel_rfl))]; exact ⟨rfl, rfl⟩)
    (fun os started H enc _ => law_lifted (s := Rows.rowsDecidesSpec) (ts := [25]) os started (by kernel_rfl) Try.func3 (by rw [Try.params3]) (by kernel_rfl) rfl
      (fun ds hd => by
        match ds, hd with
        | [d0], _ => rfl)
      (by intro t ht; simp only [List.mem_cons, List.not_mem_nil, or_false] at ht; subst ht; exact ⟨by kernel_rfl, of_decide_eq_true (by kernel_rfl)⟩)
      (ChangeSpec.witness6 (enc := enc) (C := Try.checked) false ⟨#[], #[.agg #[.slice none 0 0, .slice none 0 0]], []⟩ 3 (by kernel_rfl) (by kernel_rfl) (by kernel_rfl) (by kernel_rfl))
      (fun W args hok => by
        match hargs : args.toList, hok with
        | [v0], ⟨h0, _⟩ =>
          obtain ⟨A, n, c, B, m, d, s, rfl, r1, r2⟩ := h0.1 rfl
          have : args = #[.agg #[.slice A n c, .slice B m d]] := by cases args; simp_all
          rw [this]
          exact law3_walk A B n c m d s W r1 r2))

#print axioms decides_holds
end Go.Proofs.Ytjienelkjpodkaa
