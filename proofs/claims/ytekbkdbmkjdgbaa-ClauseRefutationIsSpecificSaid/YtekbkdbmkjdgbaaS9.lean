/- The law ClauseRefutationIsSpecific: for every input it gives true and leaves its arguments as they were.
   Conditions: none beyond the row's own (readable arguments within the form's reach). -/
import Derived.Test.YtekbkdbmkjdgbaaW23
import Derived.Test.YtekbkdbmkjdgbaaL5
import Derived.Test.YtekbkdbmkjdgbaaW24
namespace Go.Proofs.Ytekbkdbmkjdgbaa
open Go.ChangeShapes Go.WideShapes Go.ChangeAt Go.RowKit

theorem skip_ne {F : List (List Int)} {d k : Nat} {x : List Int} (hx : F[k]? = some x) (h : k ≠ d) : (F.take (k + 1)).eraseIdx d = (F.take k).eraseIdx d ++ [x] := by
  have hk := (List.getElem?_eq_some_iff.1 hx).1
  have hl : (F.take k).length = k := by simp; omega
  rw [take_snoc_of hx]
  by_cases hd : d < k
  · rw [List.eraseIdx_append_of_lt_length (by omega)]
  · rw [List.eraseIdx_of_length_le (by rw [List.length_append, hl, List.length_singleton]; omega), List.eraseIdx_of_length_le (by omega)]
theorem skip_eq {F : List (List Int)} {k : Nat} {x : List Int} (hx : F[k]? = some x) : (F.take (k + 1)).eraseIdx k = (F.take k).eraseIdx k := by
  have hk := (List.getElem?_eq_some_iff.1 hx).1
  have hl : (F.take k).length = k := by simp; omega
  rw [take_snoc_of hx, List.eraseIdx_append_of_length_le (by omega), List.eraseIdx_of_length_le (l := F.take k) (by omega), hl]
  simp
theorem skip_valid {F : List (List Int)} {n : Int} (d : Nat) (h : validB F n = true) : validB (F.eraseIdx d) n = true :=
  valid_part h (Nat.le_trans (List.length_eraseIdx_le F d) (valid_len h)) fun _ hc => List.mem_of_mem_eraseIdx hc

set_option maxHeartbeats 2000000 in
theorem law14_walk (A : Option Addr) (n c : Nat) (f : List (List Int)) (x : Nat) (w : World) (h : R2 w (fun _ => True) A n c f) (hx : x < 256) :
    Calls Try.prog 14 #[.slice A n c, .int .u8 x] w (Gives w (.bool true)) := by
  have HF := Lib.hid h
  have hb1 := h.big
  have hc1 := h.cap
  clear h
  have HS := Lib.hid fun W (fad : Option Addr) {fn fc : Nat} (h : R2 W (fun _ => True) fad fn fc (madeF f)) => solve4 _ fad fn fc (madeF f) W h
  have HV := Lib.hid (madeF_valid f)
  have HN12 := Lib.hid (madeF_len f)
  rcases solve_spec HV.out with ⟨m, e, h1, h2⟩ | ⟨L, e, h1, h2⟩
  · rw [e] at HS
    clear e h1 h2
    go_enter Try.func14, Try.ntmps14
    go_wp2_with (first | (go_at_call 15; refine (sanity_c _).mono ?_; rintro e w1 ⟨rfl, hb⟩; have HB1 := Lib.hid hb; clear hb) | (go_at_call 30; refine (madeF_c _ A n c f _ (HF.out.below HB1.out)).mono ?_; rintro e w2 ⟨fad, fn, fc, rfl, hf, hn12, hb⟩; have HB2 := Lib.hid (HB1.out.trans (hb.mono HB1.out.size)); have HM2 := Lib.hid (hf.weak (K' := fun _ => True) fun _ _ _ => trivial); have hfc := hf.cap; clear hb hf) | (go_at_call 16; refine (HS.out _ _ HM2.out).mono ?_; rintro e w3 ⟨mA, mn, mc, pA, pn, pc, rfl, hm, hp, hb⟩; have HB3 := Lib.hid (HB2.out.trans (hb.mono HB2.out.size)); have HM3 := Lib.hid (HM2.out.below hb); have HX3 := Lib.hid hm; have HP3 := Lib.hid hp; clear hb hm hp))
    go_ret
    exact ⟨rfl, HB3.out⟩
  · have HLs := Lib.hid (len_small e)
    rw [e] at HS
    have HCk := Lib.hid h2
    have HNo := Lib.hid h1
    obtain ⟨N, hN⟩ : ∃ N, (madeF f).length = N := ⟨_, rfl⟩
    have hN0 : N ≠ 0 := fun e0 => by
      have : madeF f = [] := List.eq_nil_of_length_eq_zero (by omega)
      exact h1 (List.replicate 4 false) ⟨by simp, by rw [this]; rfl⟩
    have hN12 : N ≤ 12 := by have := HN12.out; omega
    have HN := Lib.hid hN
    have b0 : ((N : Int) == 0) = false := by simp; omega
    have b1 : (N == 0) = false := by simp; omega
    have hne : ¬ (N : Int) = 0 := by omega
    have hrem : Int.tmod (x : Int) (N : Int) = ((x % N : Nat) : Int) := by
      rw [Int.tmod_eq_emod_of_nonneg (by omega)]; rfl
    generalize x % N = d at *
    clear e h1 h2 hN
    go_enter Try.func14, Try.ntmps14
    go_wp2_with (first | (go_at_call 15; refine (sanity_c _).mono ?_; rintro e w1 ⟨rfl, hb⟩; have HB1 := Lib.hid hb; clear hb) | (go_at_call 30; refine (madeF_c _ A n c f _ (HF.out.below HB1.out)).mono ?_; rintro e w2 ⟨fad, fn, fc, rfl, hf, hn12, hb⟩; have HB2 := Lib.hid (HB1.out.trans (hb.mono HB1.out.size)); have HM2 := Lib.hid (hf.weak (K' := fun _ => True) fun _ _ _ => trivial); have hfc := hf.cap; obtain rfl : N = fn := (by have h8 := hf.len; have h9 := HN.out; omega); clear hb hf) | (go_at_call 16; refine (HS.out _ _ HM2.out).mono ?_; rintro e w3 ⟨mA, mn, mc, pA, pn, pc, rfl, hm, hp, hb⟩; have HB3 := Lib.hid (HB2.out.trans (hb.mono HB2.out.size)); have HM3 := Lib.hid (HM2.out.below hb); have HX3 := Lib.hid hm; have HP3 := Lib.hid hp; obtain rfl : mn = 0 := (by have := hm.len; simpa using this.symm); have hpl := hp.len; clear hb hm hp))
    have hpn : pn ≤ 1000000 := by have := HLs.out; have := HP3.out.len; omega
    have HK3 := Lib.hid (HM3.out.weak (K' := fun q => q < w3.heap.size) fun k hk _ => hk)
    have HBd := Lib.hid (show BdRel w3 (w3.alloc (.cells #[] 32)) (((madeF f).take 0).eraseIdx d) (some ⟨w3.heap.size, 0, none⟩) 0 0 from BdRel.start w3)
    go_loopw [11, 12] (fun s11 s12 wr => ∃ (k n0 c0 : Nat) (A0 : Option Addr), k ≤ N ∧ s12 = .int .i64 k ∧ s11 = .slice A0 n0 c0 ∧ BdRel w3 wr (((madeF f).take k).eraseIdx d) A0 n0 c0) (fun _ s12 _ => N - (intOf s12).toNat)
    case atStart => exact ⟨0, 0, 0, _, Nat.zero_le _, rfl, rfl, HBd.out⟩
    case round =>
      clear HBd
      obtain ⟨k, n0, c0, A0, hk, rfl, rfl, hq⟩ := hrel
      obtain ⟨wo, rfl⟩ : ∃ wo : World, wo = wr := ⟨_, rfl⟩
      have HQ := Lib.hid hq
      have hn0 : n0 ≤ 12 := by
        have h1 := hq.len
        have h2 := List.length_eraseIdx_le ((madeF f).take k) d
        rw [List.length_take] at h2
        omega
      obtain ⟨us, kn1, kn2⟩ := hq.ex
      have HK1 := Lib.hid kn1
      have HKa := Lib.hid kn2
      have hkc := kn1.cap
      clear hq kn1 kn2
      by_cases hlt : k < N
      · obtain ⟨ad, y, yA, yn, yc, had, _, hy, hcell, hy1⟩ := (HK3.out.below HQ.out.below).at_ hlt
        cases had
        have HY := Lib.hid hy
        have HY1 := Lib.hid hy1
        clear hy hy1
        by_cases hkd : k = d
        · subst hkd
          go_wp2
          go_roundw
          case rel => exact ⟨k + 1, n0, c0, A0, by omega, by go_num, rfl, by rw [skip_eq HY.out]; exact HQ.out⟩
          case measure => simp [intOf]; omega
        · have b2 : ((k : Int) != (d : Int)) = true := by simp; omega
          have b3 : ((k : Int) == (d : Int)) = false := by simp; omega
          have b4 : (k == d) = false := by simp [hkd]
          have HKd := Lib.hid hkd
          clear hkd
          go_wp2_with (at_builtin; refine wpList_push rfl (.tmp 48) (.tmp 53) 22 rfl app22 w3.heap.size A0 n0 c0 us rfl (HK1.out.alloc _) wo.heap.size (.slice yA yn yc) rfl ((Blk.new wo 32 _).cell 0) rfl (by omega) (by omega) (by have := HQ.out.below.size; simp; omega) ?_; intro A9 c9 w9 hown hgr hob; have HO := Lib.hid (BdRel.one HQ.out.below HK1.out HKa.out (HY1.out.apart HK1.out) hown hgr hob); clear hown hgr hob)
          go_roundw
          case rel => exact ⟨k + 1, n0 + 1, c9, A9, by omega, by go_num, rfl, by rw [skip_ne HY.out HKd.out]; exact HO.out⟩
          case measure => simp [intOf]; omega
      · obtain rfl : k = N := by omega
        have hq := HQ.out
        rw [List.take_of_length_le (by have := HN.out; omega)] at hq
        have hg := skip_valid d HV.out
        have HSg := Lib.hid (solve4 _ A0 n0 c0 _ wo (hq.r2 (by omega)))
        have HQ2 := Lib.hid hq
        clear hq
        rcases solve_spec hg with ⟨m', e', h1', h2'⟩ | ⟨L', e', h1', h2'⟩
        · rw [e'] at HSg
          have HCn := Lib.hid (show checkF ((madeF f).eraseIdx d) 4 L = false by
            cases hc : checkF ((madeF f).eraseIdx d) 4 L
            · rfl
            · exact (check_sound hc h1').elim)
          clear e' h1' h2' hg
          go_wp2_with (first | (go_at_call 16; refine HSg.out.mono ?_; rintro e w4 ⟨gA, gn, gc, qA, qn, qc, rfl, hm, hp, hb⟩; have HB4 := Lib.hid (HB3.out.trans ((HQ2.out.below.trans (hb.mono HQ2.out.below.size)).mono HB3.out.size)); have HG4 := Lib.hid ((HQ2.out.r2 (by omega)).below hb); have HP4 := Lib.hid ((HP3.out.below HQ2.out.below).below hb); clear hb hm hp) | (go_at_call 26; refine (check_c _ _ A0 pA n0 c0 pn pc _ L 4 w4 HG4.out HP4.out (by omega) (by omega) (by omega)).mono ?_; rintro e w5 ⟨rfl, hb⟩; rw [HCn.out]; have HB5 := Lib.hid (HB4.out.trans (hb.mono HB4.out.size)); clear hb))
          go_ret
          exact ⟨rfl, HB5.out⟩
        · have HLs' := Lib.hid (len_small e')
          rw [e'] at HSg
          have HCn := Lib.hid h2'
          clear e' h1' h2' hg
          go_wp2_with (first | (go_at_call 16; refine HSg.out.mono ?_; rintro e w4 ⟨gA, gn, gc, qA, qn, qc, rfl, hm, hp, hb⟩; have HB4 := Lib.hid (HB3.out.trans ((HQ2.out.below.trans (hb.mono HQ2.out.below.size)).mono HB3.out.size)); have HG4 := Lib.hid ((HQ2.out.r2 (by omega)).below hb); have HP4 := Lib.hid hp; have hqn : qn ≤ 1000000 := (by have h7 := HLs'.out; have h8 : L'.length = qn := hp.len; omega); clear hb hm hp) | (go_at_call 26; refine (check_c _ _ A0 qA n0 c0 qn qc _ L' 4 w4 HG4.out HP4.out (by omega) (by omega) (by omega)).mono ?_; rintro e w5 ⟨rfl, hb⟩; rw [HCn.out]; have HB5 := Lib.hid (HB4.out.trans (hb.mono HB4.out.size)); clear hb))
          go_ret
          exact ⟨rfl, HB5.out⟩

theorem specific_holds : Rows.ClauseRefutationIsSpecificSaid :=
  OpenClaim.holds_of_wide 14 Try.f14 rfl rfl rfl rfl rfl rfl rfl ⟨rfl, rfl, rfl, rfl, rfl⟩ rfl rfl rfl rfl rfl (by kernel_rfl) Try.func14 (by kernel_rfl)
    (of_decide_eq_true (by kernel_rfl)) (by unfold Func.isWrapper; rw [if_neg (of_decide_eq_false (by kernel_rfl))]; exact ⟨rfl, rfl⟩)
    (fun os started H enc _ => law_lifted (s := Rows.clauseRefutationIsSpecificSpec) (ts := [22, 5]) os started (by kernel_rfl) Try.func14 (by rw [Try.params14]) (by kernel_rfl) rfl
      (fun ds hd => by
        match ds, hd with
        | [d0, d1], _ => rfl)
      (by intro t ht; simp only [List.mem_cons, List.not_mem_nil, or_false] at ht; rcases ht with rfl | rfl <;> exact ⟨by kernel_rfl, of_decide_eq_true (by kernel_rfl)⟩)
      (ChangeSpec.witness6 (enc := enc) (C := Try.checked) false ⟨#[], #[.slice none 0 0, .int .u8 0], []⟩ 8 (by kernel_rfl) (by kernel_rfl) (by kernel_rfl) (by kernel_rfl))
      (fun W args hok => by
        match hargs : args.toList, hok with
        | [v0, v1], ⟨h0, h1, _⟩ =>
          obtain ⟨A0, n0, c0, f0, rfl, r0⟩ := h0.1 rfl
          obtain ⟨x1, rfl, r1⟩ := h1.2.2.2.2 rfl
          have : args = #[.slice A0 n0 c0, .int .u8 x1] := by cases args; simp_all
          rw [this]
          exact law14_walk A0 n0 c0 f0 x1 W r0 r1))

#print axioms specific_holds
end Go.Proofs.Ytekbkdbmkjdgbaa
