/- The law ClauseCoreIsMinimal: for every input it gives true and leaves its arguments as they were.
   Conditions: none beyond the row's own (readable arguments within the form's reach). -/
import Derived.Test.YtekbkdbmkjdgbaaW23
import Derived.Test.YtekbkdbmkjdgbaaL5
import Derived.Test.YtekbkdbmkjdgbaaW24
namespace Go.Proofs.Ytekbkdbmkjdgbaa
open Go.ChangeShapes Go.WideShapes Go.ChangeAt Go.RowKit

theorem skipI_ne {α : Type} {F : List α} {d k : Nat} {x : α} (hx : F[k]? = some x) (h : k ≠ d) : (F.take (k + 1)).eraseIdx d = (F.take k).eraseIdx d ++ [x] := by
  have hk := (List.getElem?_eq_some_iff.1 hx).1
  have hl : (F.take k).length = k := by simp; omega
  rw [take_snoc_of hx]
  by_cases hd : d < k
  · rw [List.eraseIdx_append_of_lt_length (by omega)]
  · rw [List.eraseIdx_of_length_le (by rw [List.length_append, hl, List.length_singleton]; omega), List.eraseIdx_of_length_le (by omega)]
theorem skipI_eq {α : Type} {F : List α} {k : Nat} {x : α} (hx : F[k]? = some x) : (F.take (k + 1)).eraseIdx k = (F.take k).eraseIdx k := by
  have hk := (List.getElem?_eq_some_iff.1 hx).1
  have hl : (F.take k).length = k := by simp; omega
  rw [take_snoc_of hx, List.eraseIdx_append_of_length_le (by omega), List.eraseIdx_of_length_le (l := F.take k) (by omega), hl]
  simp
theorem pick_skip_eq {F : List (List Int)} {C : List Int} {j k : Nat} {v : Int} (hv : C[j]? = some v) (h : j = k) : pickF F ((C.take (j + 1)).eraseIdx k) = pickF F ((C.take j).eraseIdx k) := by
  subst h; rw [skipI_eq hv]
theorem pick_skip_ne {F : List (List Int)} {C : List Int} {j k q : Nat} {x : List Int} (hv : C[j]? = some (q : Int)) (hx : F[q]? = some x) (h : ¬ j = k) : pickF F ((C.take (j + 1)).eraseIdx k) = pickF F ((C.take j).eraseIdx k) ++ [x] := by
  rw [skipI_ne hv h, pickF, List.map_append, List.map_singleton]
  have : F.getD (q : Int).toNat [] = x := by simp [List.getD_eq_getElem?_getD, hx]
  rw [this]; rfl
theorem core_lt {C : List Int} {i : Nat} {u v : Int} (h : C.Pairwise (· < ·)) (hu : C[i]? = some u) (hv : C[i + 1]? = some v) : u < v := by
  obtain ⟨h1, rfl⟩ := List.getElem?_eq_some_iff.1 hu
  obtain ⟨h2, rfl⟩ := List.getElem?_eq_some_iff.1 hv
  exact List.pairwise_iff_getElem.1 h i (i + 1) h1 h2 (by omega)
theorem core_sol {F : List (List Int)} {C : List Int} (hv : validB F 4 = true) (h : CoreInv F 4 0 C) (k : Nat) : (solveF (pickF F (C.eraseIdx k)) 4).2.2.1 = decide (k < C.length) := by
  have hval : validB (pickF F (C.eraseIdx k)) 4 = true := pick_valid hv (fun x hx => h.rng x (List.mem_of_mem_eraseIdx hx)) (Nat.le_trans (List.length_eraseIdx_le C k) h.len)
  have hs := solve_iff hval
  by_cases hk : k < C.length
  · rw [decide_eq_true hk]
    exact hs.2 (core_min h hk)
  · rw [decide_eq_false hk]
    cases hq : (solveF (pickF F (C.eraseIdx k)) 4).2.2.1
    · rfl
    · obtain ⟨m, hm⟩ := hs.1 hq
      rw [List.eraseIdx_of_length_le (by omega)] at hm
      exact absurd hm (h.un m)
structure CoreRng (F : List (List Int)) (C : List Int) : Prop where
  inc : C.Pairwise (· < ·)
  rng : ∀ x ∈ C, 0 ≤ x ∧ x < F.length
  len : C.length ≤ F.length

set_option maxHeartbeats 8000000 in
set_option maxRecDepth 100000 in
theorem law12_walk (A : Option Addr) (n c : Nat) (f : List (List Int)) (w : World) (h : R2 w (fun _ => True) A n c f) :
    Calls Try.prog 12 #[.slice A n c] w (Gives w (.bool true)) := by
  have HF := Lib.hid h
  have hb1 := h.big
  have hc1 := h.cap
  clear h
  have HN12 := Lib.hid (madeF_len f)
  obtain ⟨N, hN⟩ : ∃ N, (madeF f).length = N := ⟨_, rfl⟩
  have hN12 : N ≤ 12 := by have := HN12.out; omega
  have HN := Lib.hid hN
  clear hN
  rcases core_spec (madeF_valid f) with ⟨hst, hco⟩ | ⟨hst, C, hco, hI⟩
  · have HSt := Lib.hid hst
    obtain ⟨C, hC⟩ : ∃ C : List Int, C = [] := ⟨_, rfl⟩
    rw [← hC] at hco
    have HCo := Lib.hid hco
    obtain ⟨cn, hcn⟩ : ∃ cn, C.length = cn := ⟨_, rfl⟩
    have hcn0 : cn ≤ 0 := by rw [← hcn, hC]; exact Nat.le_refl _
    have hcn12 : cn ≤ 12 := by omega
    have HCl := Lib.hid hcn
    have HIv := Lib.hid (show CoreRng (madeF f) C by rw [hC]; exact ⟨List.Pairwise.nil, by simp, by simp⟩)
    have d8 : decide (0 < cn) = false := by simp; omega
    have d9 : decide (0 < (cn : Int)) = false := by simp; omega
    clear hst hco hcn hC
    go_enter Try.func12, Try.ntmps12
    go_wp2_with (first | (go_at_call 15; refine (sanity_c _).mono ?_; rintro e w1 ⟨rfl, hb⟩; have HB1 := Lib.hid hb; clear hb) | (go_at_call 30; refine (madeF_c _ A n c f _ (HF.out.below HB1.out)).mono ?_; rintro e w2 ⟨fad, fn, fc, rfl, hf, hn12, hb⟩; have HB2 := Lib.hid (HB1.out.trans (hb.mono HB1.out.size)); have HM2 := Lib.hid (hf.weak (K' := fun _ => True) fun _ _ _ => trivial); have hfc := hf.cap; obtain rfl : N = fn := (by have h8 := hf.len; have h9 := HN.out; omega); clear hb hf) | (go_at_call 16; refine (solve4 _ (some fad) N fc (madeF f) w2 HM2.out).mono ?_; rintro e w3 ⟨mA, mn, mc, pA, pn, pc, rfl, hm, hp, hb⟩; rw [HSt.out]; have HB3 := Lib.hid (HB2.out.trans (hb.mono HB2.out.size)); have HM3 := Lib.hid (HM2.out.below hb); clear hb hm hp) | (go_at_call 28; refine (core_c _ (some fad) N fc (madeF f) 4 w3 HM3.out (by omega) (by omega)).mono ?_; rw [HCo.out]; rintro e w4 ⟨cA, cn', cc, rfl, hcr, hb⟩; obtain rfl : cn = cn' := (by have h8 := hcr.len; have h9 := HCl.out; exact h9.symm.trans h8); have hccap := hcr.cap; have HB4 := Lib.hid (HB3.out.trans (hb.mono HB3.out.size)); have HM4 := Lib.hid (HM3.out.below hb); have HC4 := Lib.hid hcr; clear hb hcr))
    have HMk := Lib.hid (HM4.out.weak (K' := fun q => q < w4.heap.size) fun k hk _ => hk)
    go_loopw [12] (fun s12 wr => ∃ k : Nat, k ≤ cn + 1 ∧ s12 = .int .i64 k ∧ Below w4.heap.size w4 wr) (fun s12 _ => cn + 1 - (intOf s12).toNat)
    case atStart => exact ⟨0, by omega, rfl, Below.refl _ _⟩
    case round =>
      obtain ⟨k, hk, rfl, hq⟩ := hrel
      obtain ⟨wo, rfl⟩ : ∃ wo : World, wo = wr := ⟨_, rfl⟩
      have HQ := Lib.hid hq
      clear hq
      by_cases hlt : k ≤ cn
      · have d7 : decide (k ≤ cn) = true := by simp; omega
        go_wp2
        have HBd := Lib.hid (show BdRel wo (wo.alloc (.cells #[] 32)) (pickF (madeF f) ((C.take 0).eraseIdx k)) (some ⟨wo.heap.size, 0, none⟩) 0 0 from BdRel.start wo)
        go_loopw [13, 14] (fun s13 s14 w5 => ∃ (j n0 c0 : Nat) (A0 : Option Addr), j ≤ cn ∧ s14 = .int .i64 j ∧ s13 = .slice A0 n0 c0 ∧ BdRel wo w5 (pickF (madeF f) ((C.take j).eraseIdx k)) A0 n0 c0) (fun _ s14 _ => cn - (intOf s14).toNat)
        case atStart => exact ⟨0, 0, 0, _, Nat.zero_le _, rfl, rfl, HBd.out⟩
        case round =>
          clear HBd
          obtain ⟨j, n0, c0, A0, hj, rfl, rfl, hq⟩ := hrel
          have HQ2 := Lib.hid hq
          have hn0 : n0 ≤ 12 := by
            have h1 := hq.len
            have h2 := List.length_eraseIdx_le (C.take j) k
            rw [List.length_take] at h2
            rw [pickF, List.length_map] at h1
            omega
          by_cases hlj : j < cn
          · obtain ⟨cad, v, hcad, _, hv, _, hcv⟩ := ((HC4.out.below HQ.out).below hq.below).at_ hlj
            obtain ⟨hv0, hv1⟩ := HIv.out.rng v (List.mem_of_getElem? hv)
            have hHN := HN.out
            obtain ⟨q, rfl⟩ : ∃ q : Nat, v = (q : Int) := ⟨v.toNat, by omega⟩
            have hqN : q < N := by omega
            have HVj := Lib.hid hv
            have d1 : decide ((q : Int) < 0) = false := decide_eq_false (by omega)
            have d2 : decide ((N : Int) ≤ (q : Int)) = false := decide_eq_false (by omega)
            have d3 : decide (N ≤ q) = false := decide_eq_false (by omega)
            have hwd : ∃ wd, Below wr.heap.size wr wd ∧ True := ⟨wr, Below.refl _ _, trivial⟩
            clear hwd hv hv0 hv1 hHN hq
            exact absurd hlj (by omega)
          · obtain rfl : cn = j := by omega
            have hq := HQ2.out
            rw [List.take_of_length_le (by have := HCl.out; omega)] at hq
            have HSg := Lib.hid (solve4 _ A0 n0 c0 _ wr (hq.r2 (by omega)))
            have hb0 := HQ.out
            have HQ2 := Lib.hid hq
            clear hq
            go_wp2_with (go_at_call 16; refine HSg.out.mono ?_; rintro e w7 ⟨aA, an, ac, pA, pn, pc, rfl, hm, hp, hb⟩; have HB7 := Lib.hid (hb0.trans ((HQ2.out.below.trans (hb.mono HQ2.out.below.size)).mono hb0.size)); clear hb hm hp)
            go_roundw
            case rel => exact ⟨k + 1, by omega, by go_num, HB7.out⟩
            case measure => simp [intOf]; omega
      · have d7 : decide (k ≤ cn) = false := by simp; omega
        go_wp2
        go_ret
        exact ⟨rfl, HB4.out.trans (HQ.out.mono HB4.out.size)⟩
  · have HSt := Lib.hid hst
    have HCo := Lib.hid hco
    have HSol := Lib.hid fun k => core_sol (madeF_valid f) hI k
    obtain ⟨cn, hcn⟩ : ∃ cn, C.length = cn := ⟨_, rfl⟩
    have hcn0 : 0 < cn := by rw [← hcn]; exact core_nonempty hI
    have hcn12 : cn ≤ 12 := by have := hI.len; have := HN12.out; omega
    have HCl := Lib.hid hcn
    have HIv := Lib.hid (show CoreRng (madeF f) C from ⟨hI.inc, hI.rng, hI.len⟩)
    have d8 : ((cn : Int) == 0) = false := by simp; omega
    have d9 : (cn == 0) = false := by simp; omega
    clear hst hco hcn hI
    go_enter Try.func12, Try.ntmps12
    go_wp2_with (first | (go_at_call 15; refine (sanity_c _).mono ?_; rintro e w1 ⟨rfl, hb⟩; have HB1 := Lib.hid hb; clear hb) | (go_at_call 30; refine (madeF_c _ A n c f _ (HF.out.below HB1.out)).mono ?_; rintro e w2 ⟨fad, fn, fc, rfl, hf, hn12, hb⟩; have HB2 := Lib.hid (HB1.out.trans (hb.mono HB1.out.size)); have HM2 := Lib.hid (hf.weak (K' := fun _ => True) fun _ _ _ => trivial); have hfc := hf.cap; obtain rfl : N = fn := (by have h8 := hf.len; have h9 := HN.out; omega); clear hb hf) | (go_at_call 16; refine (solve4 _ (some fad) N fc (madeF f) w2 HM2.out).mono ?_; rintro e w3 ⟨mA, mn, mc, pA, pn, pc, rfl, hm, hp, hb⟩; rw [HSt.out]; have HB3 := Lib.hid (HB2.out.trans (hb.mono HB2.out.size)); have HM3 := Lib.hid (HM2.out.below hb); clear hb hm hp) | (go_at_call 28; refine (core_c _ (some fad) N fc (madeF f) 4 w3 HM3.out (by omega) (by omega)).mono ?_; rw [HCo.out]; rintro e w4 ⟨cA, cn', cc, rfl, hcr, hb⟩; obtain rfl : cn = cn' := (by have h8 := hcr.len; have h9 := HCl.out; exact h9.symm.trans h8); have hccap := hcr.cap; have HB4 := Lib.hid (HB3.out.trans (hb.mono HB3.out.size)); have HM4 := Lib.hid (HM3.out.below hb); have HC4 := Lib.hid hcr; clear hb hcr))
    have HMk := Lib.hid (HM4.out.weak (K' := fun q => q < w4.heap.size) fun k hk _ => hk)
    go_loopw [12] (fun s12 wr => ∃ k : Nat, k ≤ cn + 1 ∧ s12 = .int .i64 k ∧ Below w4.heap.size w4 wr) (fun s12 _ => cn + 1 - (intOf s12).toNat)
    case atStart => exact ⟨0, by omega, rfl, Below.refl _ _⟩
    case round =>
      obtain ⟨k, hk, rfl, hq⟩ := hrel
      obtain ⟨wo, rfl⟩ : ∃ wo : World, wo = wr := ⟨_, rfl⟩
      have HQ := Lib.hid hq
      clear hq
      by_cases hlt : k ≤ cn
      · have d7 : decide (k ≤ cn) = true := by simp; omega
        go_wp2
        have HBd := Lib.hid (show BdRel wo (wo.alloc (.cells #[] 32)) (pickF (madeF f) ((C.take 0).eraseIdx k)) (some ⟨wo.heap.size, 0, none⟩) 0 0 from BdRel.start wo)
        go_loopw [13, 14] (fun s13 s14 w5 => ∃ (j n0 c0 : Nat) (A0 : Option Addr), j ≤ cn ∧ s14 = .int .i64 j ∧ s13 = .slice A0 n0 c0 ∧ BdRel wo w5 (pickF (madeF f) ((C.take j).eraseIdx k)) A0 n0 c0) (fun _ s14 _ => cn - (intOf s14).toNat)
        case atStart => exact ⟨0, 0, 0, _, Nat.zero_le _, rfl, rfl, HBd.out⟩
        case round =>
          clear HBd
          obtain ⟨j, n0, c0, A0, hj, rfl, rfl, hq⟩ := hrel
          have HQ2 := Lib.hid hq
          have hn0 : n0 ≤ 12 := by
            have h1 := hq.len
            have h2 := List.length_eraseIdx_le (C.take j) k
            rw [List.length_take] at h2
            rw [pickF, List.length_map] at h1
            omega
          by_cases hlj : j < cn
          · obtain ⟨cad, v, hcad, _, hv, _, hcv⟩ := ((HC4.out.below HQ.out).below hq.below).at_ hlj
            obtain ⟨hv0, hv1⟩ := HIv.out.rng v (List.mem_of_getElem? hv)
            have hHN := HN.out
            obtain ⟨q, rfl⟩ : ∃ q : Nat, v = (q : Int) := ⟨v.toNat, by omega⟩
            have hqN : q < N := by omega
            have HVj := Lib.hid hv
            have d1 : decide ((q : Int) < 0) = false := decide_eq_false (by omega)
            have d2 : decide ((N : Int) ≤ (q : Int)) = false := decide_eq_false (by omega)
            have d3 : decide (N ≤ q) = false := decide_eq_false (by omega)
            have hwd : ∃ wd, Below wr.heap.size wr wd ∧ True := ⟨wr, Below.refl _ _, trivial⟩
            clear hwd hv hv0 hv1 hHN hq
            by_cases hj0 : j = 0
            · have d5 : decide (0 < j) = false := by simp; omega
              have d6 : decide (0 < (j : Int)) = false := by simp; omega
              subst hcad
              clear hj0
              go_wp2
              go_quiet (fail)
              have HD := Lib.hid (below_drew (Below.refl wr.heap.size wr) nq)
              have hcw := (HD.out.cell (lt_of_cell hcv)).trans hcv
              generalize wr.drewN nq = wd at *
              by_cases hjk : j = k
              · have HJK := Lib.hid hjk
                have b2 : ((j : Int) != (k : Int)) = false := by simp [hjk]
                clear hjk
                go_wp2
                go_roundw
                case rel => exact ⟨j + 1, n0, c0, A0, by omega, by go_num, rfl, by rw [pick_skip_eq HVj.out HJK.out]; exact HQ2.out.old HD.out⟩
                case measure => simp [intOf]; omega
              · have HJK := Lib.hid hjk
                have b2 : ((j : Int) != (k : Int)) = true := by simp; omega
                have b3 : ((j : Int) == (k : Int)) = false := by simp; omega
                have b4 : (j == k) = false := by simp [hjk]
                obtain ⟨ad, x, xA, xn, xc, had, _, hx, hcell, hx1⟩ := (((HMk.out.below HQ.out).weak (K' := fun q => q < wo.heap.size) fun q hq _ => hq).below (HQ2.out.old HD.out).below).at_ hqN
                cases had
                obtain ⟨us, kn1, kn2⟩ := (HQ2.out.old HD.out).ex
                have HK1 := Lib.hid kn1
                have HKa := Lib.hid kn2
                have hkc := kn1.cap
                have HX := Lib.hid hx
                have HX1 := Lib.hid hx1
                clear kn1 kn2 hx hx1 hjk
                go_wp2_with (at_builtin; refine wpList_push rfl (.tmp 105) (.tmp 113) 22 rfl app22 wo.heap.size A0 n0 c0 us rfl (HK1.out.alloc _) wd.heap.size (.slice xA xn xc) rfl ((Blk.new wd 32 _).cell 0) rfl (by omega) (by omega) (by have := (HQ2.out.old HD.out).below.size; simp; omega) ?_; intro A9 c9 w9 hown hgr hob; have HO := Lib.hid (BdRel.one (HQ2.out.old HD.out).below HK1.out HKa.out (HX1.out.apart HK1.out) hown hgr hob); clear hown hgr hob)
                go_roundw
                case rel => exact ⟨j + 1, n0 + 1, c9, A9, by omega, by go_num, rfl, by rw [pick_skip_ne HVj.out HX.out HJK.out]; exact HO.out⟩
                case measure => simp [intOf]; omega
            · obtain ⟨i, hi⟩ : ∃ i, j = i + 1 := ⟨j - 1, by omega⟩
              have Hi := Lib.hid hi
              have e1 : ((j : Int) - 1) = (i : Int) := by omega
              obtain ⟨cad2, u, hcad2, _, hu, _, hcu⟩ := ((HC4.out.below HQ.out).below HQ2.out.below).at_ (show i < cn by omega)
              have hul : u < (q : Int) := core_lt HIv.out.inc hu (by rw [← hi]; exact HVj.out)
              have d5 : decide (0 < j) = true := by simp; omega
              have d6 : decide (0 < (j : Int)) = true := by simp; omega
              have d4 : decide ((q : Int) ≤ u) = false := by simp; omega
              rw [hcad] at hcad2
              cases hcad2
              subst hcad
              clear hu hul hi hj0
              go_wp2
              go_quiet (fail)
              have HD := Lib.hid (below_drew (Below.refl wr.heap.size wr) nq)
              have hcw := (HD.out.cell (lt_of_cell hcv)).trans hcv
              generalize wr.drewN nq = wd at *
              by_cases hjk : j = k
              · have HJK := Lib.hid hjk
                have b2 : ((j : Int) != (k : Int)) = false := by simp [hjk]
                clear hjk
                go_wp2
                go_roundw
                case rel => exact ⟨j + 1, n0, c0, A0, by omega, by go_num, rfl, by rw [pick_skip_eq HVj.out HJK.out]; exact HQ2.out.old HD.out⟩
                case measure => simp [intOf]; omega
              · have HJK := Lib.hid hjk
                have b2 : ((j : Int) != (k : Int)) = true := by simp; omega
                have b3 : ((j : Int) == (k : Int)) = false := by simp; omega
                have b4 : (j == k) = false := by simp [hjk]
                obtain ⟨ad, x, xA, xn, xc, had, _, hx, hcell, hx1⟩ := (((HMk.out.below HQ.out).weak (K' := fun q => q < wo.heap.size) fun q hq _ => hq).below (HQ2.out.old HD.out).below).at_ hqN
                cases had
                obtain ⟨us, kn1, kn2⟩ := (HQ2.out.old HD.out).ex
                have HK1 := Lib.hid kn1
                have HKa := Lib.hid kn2
                have hkc := kn1.cap
                have HX := Lib.hid hx
                have HX1 := Lib.hid hx1
                clear kn1 kn2 hx hx1 hjk
                go_wp2_with (at_builtin; refine wpList_push rfl (.tmp 105) (.tmp 113) 22 rfl app22 wo.heap.size A0 n0 c0 us rfl (HK1.out.alloc _) wd.heap.size (.slice xA xn xc) rfl ((Blk.new wd 32 _).cell 0) rfl (by omega) (by omega) (by have := (HQ2.out.old HD.out).below.size; simp; omega) ?_; intro A9 c9 w9 hown hgr hob; have HO := Lib.hid (BdRel.one (HQ2.out.old HD.out).below HK1.out HKa.out (HX1.out.apart HK1.out) hown hgr hob); clear hown hgr hob)
                go_roundw
                case rel => exact ⟨j + 1, n0 + 1, c9, A9, by omega, by go_num, rfl, by rw [pick_skip_ne HVj.out HX.out HJK.out]; exact HO.out⟩
                case measure => simp [intOf]; omega
          · obtain rfl : cn = j := by omega
            have hq := HQ2.out
            rw [List.take_of_length_le (by have := HCl.out; omega)] at hq
            have HSg := Lib.hid (solve4 _ A0 n0 c0 _ wr (hq.r2 (by omega)))
            have hb0 := HQ.out
            have HQ2 := Lib.hid hq
            clear hq
            by_cases hkc : k < cn
            · have d5 : decide (k < cn) = true := by simp; omega
              have d6 : decide ((k : Int) < (cn : Int)) = true := by simp; omega
              have HT := Lib.hid (show (solveF (pickF (madeF f) (C.eraseIdx k)) 4).2.2.1 = true by rw [HSol.out k, HCl.out]; exact d5)
              go_wp2_with (go_at_call 16; refine HSg.out.mono ?_; rintro e w7 ⟨aA, an, ac, pA, pn, pc, rfl, hm, hp, hb⟩; rw [HT.out]; have HB7 := Lib.hid (hb0.trans ((HQ2.out.below.trans (hb.mono HQ2.out.below.size)).mono hb0.size)); clear hb hm hp)
              go_roundw
              case rel => exact ⟨k + 1, by omega, by go_num, HB7.out⟩
              case measure => simp [intOf]; omega
            · have d5 : decide (k < cn) = false := by simp; omega
              have d6 : decide ((k : Int) < (cn : Int)) = false := by simp; omega
              have HT := Lib.hid (show (solveF (pickF (madeF f) (C.eraseIdx k)) 4).2.2.1 = false by rw [HSol.out k, HCl.out]; exact d5)
              go_wp2_with (go_at_call 16; refine HSg.out.mono ?_; rintro e w7 ⟨aA, an, ac, pA, pn, pc, rfl, hm, hp, hb⟩; rw [HT.out]; have HB7 := Lib.hid (hb0.trans ((HQ2.out.below.trans (hb.mono HQ2.out.below.size)).mono hb0.size)); clear hb hm hp)
              go_roundw
              case rel => exact ⟨k + 1, by omega, by go_num, HB7.out⟩
              case measure => simp [intOf]; omega
      · have d7 : decide (k ≤ cn) = false := by simp; omega
        go_wp2
        go_ret
        exact ⟨rfl, HB4.out.trans (HQ.out.mono HB4.out.size)⟩

theorem core_minimal_holds : Rows.ClauseCoreIsMinimalSaid :=
  OpenClaim.holds_of_wide 12 Try.f12 rfl rfl rfl rfl rfl rfl rfl ⟨rfl, rfl, rfl, rfl, rfl⟩ rfl rfl rfl rfl rfl (by kernel_rfl) Try.func12 (by kernel_rfl)
    (of_decide_eq_true (by kernel_rfl)) (by unfold Func.isWrapper; rw [if_neg (of_decide_eq_false (by kernel_rfl))]; exact ⟨rfl, rfl⟩)
    (fun os started H enc _ => law_lifted (s := Rows.clauseCoreIsMinimalSpec) (ts := [22]) os started (by kernel_rfl) Try.func12 (by rw [Try.params12]) (by kernel_rfl) rfl
      (fun ds hd => by
        match ds, hd with
        | [d0], _ => rfl)
      (by intro t ht; simp only [List.mem_cons, List.not_mem_nil, or_false] at ht; subst ht; exact ⟨by kernel_rfl, of_decide_eq_true (by kernel_rfl)⟩)
      (ChangeSpec.witness6 (enc := enc) (C := Try.checked) false ⟨#[], #[.slice none 0 0], []⟩ 8 (by kernel_rfl) (by kernel_rfl) (by kernel_rfl) (by kernel_rfl))
      (fun W args hok => by
        match hargs : args.toList, hok with
        | [v0], ⟨h0, _⟩ =>
          obtain ⟨A0, n0, c0, f0, rfl, r0⟩ := h0.1 rfl
          have : args = #[.slice A0 n0 c0] := by cases args; simp_all
          rw [this]
          exact law12_walk A0 n0 c0 f0 W r0))

#print axioms core_minimal_holds
end Go.Proofs.Ytekbkdbmkjdgbaa
