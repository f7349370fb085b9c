/- automaton.Not. -/
import Derived.Test.YtjgkdfghjeodeaaGreatDoorT37
namespace Go.Proofs.YtjgkdfghjeodeaaGreatDoor
open Go.RowKit

theorem size4_ : (Tryz.prog.info? 4).map (·.size) = some 1 := by kernel_rfl
set_option maxRecDepth 100000 in
set_option maxHeartbeats 2000000 in
theorem not_D_c (K1 : Nat → Prop) (v1 : Value) (a : Dfa) (w : World) (hd1 : RD w K1 v1 a) (hv1 : VD a) (hT : Tab w) (hh : 0 < w.heap.size) :
    Calls Tryz.prog 40 #[v1] w fun e w' => ∃ v, e = .returned (.tuple #[v, vi (notD a).2]) ∧ RD w' (fun k => w.heap.size ≤ k) v (notD a).1 ∧ Below w.heap.size w w' := by
  obtain ⟨cs1, rfl, z1, o1⟩ := hd1.cells
  have HD1 := Lib.hid (And.intro hd1 hv1)
  have HTb := Lib.hid hT
  clear hd1 hv1 hT
  go_enter Tryz.func40, Tryz.ntmps40
  go_upto_region 4 with (first
    | (with_reducible refine at_oper (.box 28 (.tmp 0)) rfl ?_
       refine wpList_box_rowG w.heap.size rfl rfl 28 (.tmp 0) rfl cs1 rfl ?_
       intro w1 k1 b1 s1)
    | (with_reducible refine at_oper (.alloc 28) rfl ?_
       refine wpList_alloc_rowG (w.heap.size + 1) s1 rfl 28 rfl _ zero28 ?_
       intro w2 k2 b2 s2
       have H2 := Lib.hid (And.intro (b1.trans (b2.mono b1.size)) (And.intro (k1.old b2) k2))
       clear k1 k2 b1 b2 s1 s2)
    | (with_reducible refine at_oper (.load 28 (.tmp 1)) rfl ?_
       first
       | refine wpList_load_blk rfl 28 (.tmp 1) rfl w.heap.size rfl 28 cs1 _ H3.out.2.1 Tryz.underlying28 rfl (by rw [z1]; exact size28) ?_
       | refine wpList_load_blk rfl 28 (.tmp 1) rfl w.heap.size rfl 28 cs1 _ H2.out.2.1 Tryz.underlying28 rfl (by rw [z1]; exact size28) ?_)
    | (go_at_call 18
       refine (valid_c K1 _ a w2 (HD1.out.1.below H2.out.1) HD1.out.2).mono ?_
       rintro e w3 ⟨rfl, hb⟩
       have H3 := Lib.hid (And.intro (H2.out.1.trans (hb.mono H2.out.1.size)) (And.intro (H2.out.2.1.old hb) (H2.out.2.2.old hb)))
       clear hb)
    | (go_at_call 23
       refine (tableOf_c K1 _ a w3 (HD1.out.1.below H3.out.1) HD1.out.2 (HTb.out.below hh H3.out.1) (by have := H3.out.1.size; omega)).mono ?_
       rintro e w4 ⟨ct, rfl, hr, hb⟩
       have H4 := Lib.hid (And.intro (hr.weak (K' := fun k => k < w4.heap.size) fun k h _ => h) (And.intro (H3.out.1.trans (hb.mono H3.out.1.size)) (H3.out.2.2.old hb)))
       clear hr hb)
    | (with_reducible refine at_oper (.alloc 73) rfl ?_
       refine wpList_alloc_rowG w4.heap.size rfl rfl 73 rfl _ Tryz.zeroValue73 ?_
       intro w7 k7 b7 s7)
    | (with_reducible refine at_oper (.store 73 (.tmp 4) (.tmp 13)) rfl ?_
       refine wpList_store_blk rfl 73 (.tmp 4) (.tmp 13) rfl rfl w4.heap.size ct _ 73 rfl rfl k7 (by rw [H4.out.1.size]; exact size73) (by rw [H4.out.1.size]; exact Tryz.zeroCells73_size) H4.out.1.one ?_
       intro w8 k8 o8
       have hb8 := below_only b7 o8 (Nat.le_refl _)
       have H8 := Lib.hid (And.intro k8 (And.intro (H4.out.1.below hb8) (And.intro (H4.out.2.1.trans (hb8.mono H4.out.2.1.size)) (And.intro (H4.out.2.2.old hb8) hb8))))
       clear k7 b7 s7 k8 o8 hb8))
  obtain ⟨A2, A3, c2, c3, hcs, hrr, hrl, hcl, hce, hlt⟩ := tab_fields H4.out.1
  have hcap := hrl.cap
  obtain ⟨n, hn⟩ : ∃ n, (tableOf a).acc.length = n := ⟨_, rfl⟩
  rw [hn] at hrl hcap
  have hf : ct[258]? = some (.slice A3 n c3) := by rw [hcs, tcells_258 hcl, hn]
  have hn2 : n ≤ 64 := by rw [← hn]; exact (HD1.out.2.acc ▸ HD1.out.2.top : a.acc.length ≤ 64)
  have f8 : w8.cell? ⟨w4.heap.size, 258, none⟩ = some (.slice A3 n c3) := (H8.out.1.cell 258).trans hf
  have HA := Lib.hid (And.intro hcs (And.intro hrr (And.intro hrl (And.intro hcl (And.intro hce hlt)))))
  have HN := Lib.hid hn
  have hg4 : w.heap.size + 1 < w4.heap.size := H4.out.2.2.lt
  clear hcs hrr hrl hcl hce hlt hn hf
  go_upto_region 5 with (first
    | (with_reducible refine at_oper (.makeSlice 26 (.tmp 16) (.tmp 16)) rfl ?_
       refine wpList_makeFullG w8.heap.size rfl rfl (.tmp 16) (.tmp 16) 26 rfl (.bool false) Tryz.underlying26 info4 rfl n rfl rfl (by omega) (by omega) ?_
       intro w9 k9 b9 s9
       rw [vbs_rep] at k9
       have H9 := Lib.hid (And.intro k9 (And.intro b9 s9))
       clear k9 b9 s9))
  have f9 := cell_below H9.out.2.1 f8
  clear f8
  go_wp2_with fail
  clear f9
  have hg8 : w4.heap.size < w8.heap.size := H8.out.1.lt
  have H9b := Lib.hid (show Below w.heap.size w w9 ∧ Blk w9 (w.heap.size + 1) 28 nil28 ∧ Blk w9 w4.heap.size 73 ct ∧ RT w9 (fun k => k < w4.heap.size) ct (tableOf a) from
    ⟨H8.out.2.2.1.trans (H9.out.2.1.mono H8.out.2.2.1.size), H8.out.2.2.2.1.old H9.out.2.1, H8.out.1.old H9.out.2.1, H8.out.2.1.below H9.out.2.1⟩)
  have HL9 := Lib.hid (show RL_ w9 (fun k => k < w4.heap.size) A3 n c3 (tableOf a).acc from ((HA.out.2.2.1.below H8.out.2.2.2.2).below H9.out.2.1))
  generalize w8.heap.size = gs at *
  go_loopw [21] (fun s21 wr => ∃ (i : Nat), i ≤ n ∧ s21 = vi i ∧ Below w.heap.size w wr ∧ Blk wr (w.heap.size + 1) 28 nil28 ∧ Blk wr w4.heap.size 73 ct ∧ RT wr (fun k => k < w4.heap.size) ct (tableOf a) ∧ RL_ wr (fun k => k < w4.heap.size) A3 n c3 (tableOf a).acc ∧ Blk wr gs 4 (vbs (((tableOf a).acc.map (!·)).take i ++ List.replicate (n - i) false))) (fun s21 _ => n - (intOf s21).toNat)
  case atStart => exact ⟨0, Nat.zero_le _, rfl, H9b.out.1, H9b.out.2.1, H9b.out.2.2.1, H9b.out.2.2.2, HL9.out, by simpa using H9.out.1⟩
  case round =>
    obtain ⟨i, hi, rfl, hB, k1, k2, hr, hl, kb⟩ := hrel
    have HK := Lib.hid (And.intro hB (And.intro k1 (And.intro k2 (And.intro hr (And.intro hl kb)))))
    clear hB k1 k2 hr hl kb
    by_cases hin : i < n
    · have d1 : decide ((i : Int) < n) = true := by simp; omega
      obtain ⟨ad, rfl, _, ca⟩ := HK.out.2.2.2.2.1.at_ hin
      obtain ⟨x, hx⟩ : ∃ x, (tableOf a).acc.getD i false = x := ⟨_, rfl⟩
      rw [hx] at ca
      have HX := Lib.hid hx
      clear hx
      go_wp2_with (first
        | (with_reducible refine at_oper (.store 4 (.tmp 30) (.tmp 29)) rfl ?_
           refine wpList_store_at rfl 4 (.tmp 30) (.tmp 29) rfl rfl gs i (.bool !x) _ 4 rfl rfl HK.out.2.2.2.2.2 (by rw [vbs_size, List.length_append, List.length_take, List.length_map, List.length_replicate, HN.out]; omega) size4_ rfl ?_
           intro w12 k12 o12
           have H12 := Lib.hid (And.intro k12 o12)
           clear k12 o12))
      go_roundw
      case rel =>
        have k12 := H12.out.1
        have o12 := H12.out.2
        rw [vbs_set] at k12
        have e : (List.take i ((tableOf a).acc.map (!·)) ++ List.replicate (n - i) false).set i (!x) = List.take (i + 1) ((tableOf a).acc.map (!·)) ++ List.replicate (n - (i + 1)) false := by
          have hl : (List.take i ((tableOf a).acc.map (!·))).length = i := by rw [List.length_take, List.length_map, HN.out]; omega
          rw [List.set_append_right _ _ (by omega), hl, Nat.sub_self, show n - i = (n - (i + 1)) + 1 by omega, List.replicate_succ, List.set_cons_zero]
          have hg : ((tableOf a).acc.map (!·))[i]? = some (!x) := by
            rw [List.getElem?_map, List.getElem?_eq_getElem (by rw [HN.out]; exact hin)]
            have := HX.out
            rw [List.getD_eq_getElem?_getD, List.getElem?_eq_getElem (by rw [HN.out]; exact hin)] at this
            simp at this
            simp [this]
          rw [List.take_add_one, hg]
          simp
        rw [e] at k12
        exact ⟨i + 1, by omega, by go_num, below_only HK.out.1 o12 (by omega), HK.out.2.1.only o12 (by omega), HK.out.2.2.1.only o12 (by omega), HK.out.2.2.2.1.old fun k hk _ => o12.block k (by omega), HK.out.2.2.2.2.1.old fun k hk _ => o12.block k (by omega), k12⟩
      case measure => simp [intOf]; omega
    · have d1 : decide ((i : Int) < n) = false := by simp; omega
      have hin' : i = n := by omega
      have hkb := HK.out.2.2.2.2.2
      rw [hin', Nat.sub_self, List.replicate_zero, List.append_nil, List.take_of_length_le (by rw [List.length_map, HN.out]; exact Nat.le_refl _)] at hkb
      have HKB := Lib.hid hkb
      clear hkb hin'
      have h258 : 258 < ct.size := by rw [H4.out.1.size]; decide
      go_upto_region 11 with (first
        | (with_reducible refine at_oper (.store 26 (.tmp 33) (.tmp 32)) rfl ?_
           refine wpList_store_at rfl 26 (.tmp 33) (.tmp 32) rfl rfl w4.heap.size 258 (.slice (some ⟨gs, 0, none⟩) n n) ct 73 rfl rfl HK.out.2.2.1 h258 size26 rfl ?_
           intro w13 k13 o13
           have H13 := Lib.hid (And.intro k13 o13)
           clear k13 o13))
      have hR13 : RT w13 TT (ct.setIfInBounds 258 (.slice (some ⟨gs, 0, none⟩) n n)) { tableOf a with acc := (tableOf a).acc.map (!·) } := by
        obtain ⟨B2, B3, e2, e3, hcs', hrr', _, hcl', hce', hlt'⟩ := tab_fields HK.out.2.2.2.1
        refine ⟨B2, some ⟨gs, 0, none⟩, e2, n, ?_, hcl', hce', hlt', (hrr'.old fun k hk _ => H13.out.2.block k (by omega)).weak fun _ _ _ => trivial, ?_⟩
        · rw [hcs']
          have := tcells_ac (tableOf a) B2 B3 e2 e3 hcl' ((tableOf a).acc.map (!·)) (some ⟨gs, 0, none⟩) n
          rw [List.length_map, HN.out] at this
          exact this
        · have hlen : ((tableOf a).acc.map (!·)).length = n := by rw [List.length_map, HN.out]
          have kb := HKB.out.only H13.out.2 (by omega)
          show RL_ w13 TT (some ⟨gs, 0, none⟩) ((tableOf a).acc.map (!·)).length n ((tableOf a).acc.map (!·))
          rw [hlen]
          exact ⟨hlen, Nat.le_refl _, by omega, by omega, fun j u hu => ⟨⟨gs, 0, none⟩, rfl, trivial, by rw [add0, kb.cell, vbs, List.getElem?_toArray]; exact hu⟩⟩
      have hw13 : WT { tableOf a with acc := (tableOf a).acc.map (!·) } := by
        have hw := tableOf_wt HD1.out.2
        exact ⟨hw.cell, hw.cl, hw.pos, hw.top, by simpa using hw.acc, hw.row⟩
      have HR13 := Lib.hid (And.intro hR13 (And.intro hw13 (And.intro (below_only HK.out.1 H13.out.2 (by omega)) (HK.out.2.1.only H13.out.2 (by omega)))))
      have hsz : (ct.setIfInBounds 258 (.slice (some ⟨gs, 0, none⟩) n n)).size = 259 := hR13.size
      obtain ⟨ct2, hct2⟩ : ∃ ct2, ct.setIfInBounds 258 (.slice (some ⟨gs, 0, none⟩) n n) = ct2 := ⟨_, rfl⟩
      rw [hct2] at hsz HR13
      have k13 := H13.out.1
      rw [hct2] at k13
      have K13 := Lib.hid k13
      clear hR13 hw13 hct2 k13
      go_wp2_with (first
        | (with_reducible refine at_oper (.load 73 (.tmp 4)) rfl ?_
           refine wpList_load_blk rfl 73 (.tmp 4) rfl w4.heap.size rfl 73 ct2 _ K13.out Tryz.underlying73 rfl (by rw [hsz]; exact size73) ?_)
        | (go_at_call 75
           refine (canonical_c TT ct2 _ w13 HR13.out.1 HR13.out.2.1).mono ?_
           rintro e w14 ⟨v14, rfl, hd14, hb⟩
           obtain ⟨c14, rfl, z14, o14⟩ := hd14.cells
           have H14 := Lib.hid (And.intro hd14 (And.intro (HR13.out.2.2.1.trans (hb.mono HR13.out.2.2.1.size)) (HR13.out.2.2.2.old hb)))
           clear hd14 hb)
        | (with_reducible refine at_oper (.store 28 (.tmp 2) (.tmp 35)) rfl ?_
           refine wpList_store_blk rfl 28 (.tmp 2) (.tmp 35) rfl rfl (w.heap.size + 1) c14 nil28 28 rfl rfl H14.out.2.2 (by rw [z14]; exact size28) (by rw [z14]; rfl) o14 ?_
           intro w15 k15 o15
           have K15 := Lib.hid k15
           have O15 := Lib.hid o15
           clear k15 o15))
      refine bodyPost_ret (results_ct rfl _ _ _ rfl (w.heap.size + 1) rfl 28 _ K15.out Tryz.underlying28 rfl (by rw [z14]; exact size28)) rfl ?_
      have h2 := HR13.out.2.2.2.lt
      have h3 := HR13.out.2.2.1.size
      exact ⟨_, rfl, (H14.out.1.old fun k hk _ => O15.out.block k (by omega)).weak fun k _ hk => by omega, below_only H14.out.2.1 O15.out (by omega)⟩

set_option maxRecDepth 100000 in
set_option maxHeartbeats 2000000 in
theorem operands_c (k : Nat) (h1 : 1 ≤ k) (h8 : k ≤ 8) (w : World) : Calls Tryz.prog 92 #[vi k] w fun e w' => e = .returned (vi (arN k)) ∧ w' = w := by
  have hk : k = 1 ∨ k = 2 ∨ k = 3 ∨ k = 4 ∨ k = 5 ∨ k = 6 ∨ k = 7 ∨ k = 8 := by omega
  go_enter Tryz.func92, Tryz.ntmps92
  clear h1 h8
  rcases hk with rfl | rfl | rfl | rfl | rfl | rfl | rfl | rfl
  · go_wp2_with fail
    go_ret
    exact ⟨rfl, rfl⟩
  · go_wp2_with fail
    go_ret
    exact ⟨rfl, rfl⟩
  · go_wp2_with fail
    go_ret
    exact ⟨rfl, rfl⟩
  · go_wp2_with fail
    go_ret
    exact ⟨rfl, rfl⟩
  · go_wp2_with fail
    go_ret
    exact ⟨rfl, rfl⟩
  · go_wp2_with fail
    go_ret
    exact ⟨rfl, rfl⟩
  · go_wp2_with fail
    go_ret
    exact ⟨rfl, rfl⟩
  · go_wp2_with fail
    go_ret
    exact ⟨rfl, rfl⟩
/-- any four words are a class -/
theorem words_class (a b c d : Nat) (ha : a < 18446744073709551616) (hb : b < 18446744073709551616) (hc : c < 18446744073709551616) (hd : d < 18446744073709551616) : ∃ x, x < 2 ^ 256 ∧ ccells x = #[vu a, vu b, vu c, vu d] := by
  refine ⟨a + b * 18446744073709551616 + c * 340282366920938463463374607431768211456 + d * 6277101735386680763835789423207666416102355444464034512896, ?_, ?_⟩
  · have e : (2 : Nat) ^ 256 = 115792089237316195423570985008687907853269984665640564039457584007913129639936 := by decide +kernel
    rw [e]; omega
  · unfold ccells wd
    have e0 : (2 : Nat) ^ (64 * 0) = 1 := rfl
    have e1 : (2 : Nat) ^ (64 * 1) = 18446744073709551616 := by decide +kernel
    have e2 : (2 : Nat) ^ (64 * 2) = 340282366920938463463374607431768211456 := by decide +kernel
    have e3 : (2 : Nat) ^ (64 * 3) = 6277101735386680763835789423207666416102355444464034512896 := by decide +kernel
    rw [e0, e1, e2, e3]
    have g0 : (a + b * 18446744073709551616 + c * 340282366920938463463374607431768211456 + d * 6277101735386680763835789423207666416102355444464034512896) / 1 % 18446744073709551616 = a := by omega
    have g1 : (a + b * 18446744073709551616 + c * 340282366920938463463374607431768211456 + d * 6277101735386680763835789423207666416102355444464034512896) / 18446744073709551616 % 18446744073709551616 = b := by omega
    have g2 : (a + b * 18446744073709551616 + c * 340282366920938463463374607431768211456 + d * 6277101735386680763835789423207666416102355444464034512896) / 340282366920938463463374607431768211456 % 18446744073709551616 = c := by omega
    have g3 : (a + b * 18446744073709551616 + c * 340282366920938463463374607431768211456 + d * 6277101735386680763835789423207666416102355444464034512896) / 6277101735386680763835789423207666416102355444464034512896 % 18446744073709551616 = d := by omega
    rw [g0, g1, g2, g3]
theorem class_set (c i v : Nat) (hi : i < 4) (hv : v < 18446744073709551616) : ∃ x, x < 2 ^ 256 ∧ ccells x = (ccells c).setIfInBounds i (vu v) := by
  have : i = 0 ∨ i = 1 ∨ i = 2 ∨ i = 3 := by omega
  rcases this with rfl | rfl | rfl | rfl
  · exact words_class v (wd c 1) (wd c 2) (wd c 3) hv (wd_lt _ _) (wd_lt _ _) (wd_lt _ _)
  · exact words_class (wd c 0) v (wd c 2) (wd c 3) (wd_lt _ _) hv (wd_lt _ _) (wd_lt _ _)
  · exact words_class (wd c 0) (wd c 1) v (wd c 3) (wd_lt _ _) (wd_lt _ _) hv (wd_lt _ _)
  · exact words_class (wd c 0) (wd c 1) (wd c 2) v (wd_lt _ _) (wd_lt _ _) (wd_lt _ _) hv
theorem or_pow_lt {c x : Nat} (hc : c < 2 ^ 256) (hx : x < 256) : c ||| 2 ^ x < 2 ^ 256 := Nat.or_lt_two_pow hc (Nat.pow_lt_pow_right (by decide) hx)
set_option maxRecDepth 100000 in
set_option maxHeartbeats 2000000 in
theorem add95_c (c x : Nat) (hx : x < 256) (w : World) : Calls Tryz.prog 95 #[encC c, .int .u8 x] w (Gives w (encC (c ||| 2 ^ x))) := by
  have hw := wd_lt c (x / 64)
  have hp : (2 : Nat) ^ (x % 64) < 18446744073709551616 := Nat.lt_of_lt_of_le (Nat.pow_lt_pow_right (by decide) (Nat.mod_lt x (by decide))) (by decide)
  have hbits := bits_or_u64_nat (wd c (x / 64)) (2 ^ (x % 64)) hw hp
  have hat := ccells_at c (x / 64) (by omega)
  have hwr : IntKind.u64.wrap ((2 : Int) ^ (x % 64)) = ((2 ^ (x % 64) : Nat) : Int) := by
    rw [IntKind.wrap_u64, Int.natCast_pow]
    have : ((2 ^ (x % 64) : Nat) : Int) < 18446744073709551616 := by omega
    rw [Int.natCast_pow] at this
    exact Int.emod_eq_of_lt (Int.pow_nonneg (by decide)) this
  have HW := Lib.hid hwr
  have HT := Lib.hid hbits
  have HA := Lib.hid hat
  have hl : x / 64 < 4 := by omega
  clear hat hw hwr hbits
  obtain ⟨q, hq⟩ : ∃ q, x / 64 = q := ⟨_, rfl⟩
  obtain ⟨r, hr⟩ : ∃ r, x % 64 = r := ⟨_, rfl⟩
  have q1 : IntKind.u8.wrap ((x : Int) / 64) = (q : Int) := by rw [IntKind.wrap_u8]; omega
  have q2 : IntKind.u8.wrap ((x : Int) % 64) = (r : Int) := by rw [IntKind.wrap_u8]; omega
  have hr64 : r < 64 := by omega
  have HX := Lib.hid (And.intro hq hr)
  rw [hq] at hl HA HT
  rw [hr] at hp HW HT
  clear hq hr
  obtain ⟨CC, hCC⟩ : ∃ CC, ccells c = CC := ⟨_, rfl⟩
  have zCC : CC.size = 4 := by rw [← hCC]; rfl
  have HCC := Lib.hid hCC
  rw [show encC c = .agg CC by rw [← hCC]; rfl]
  clear hCC
  go_enter Tryz.func95, Tryz.ntmps95
  go_upto_region 1 with (first
    | (with_reducible refine at_oper (.box 56 (.tmp 0)) rfl ?_
       refine wpList_box_rowG w.heap.size rfl rfl 56 (.tmp 0) rfl CC rfl ?_
       intro w1 k1 b1 s1)
    | (with_reducible refine at_oper (.alloc 56) rfl ?_
       refine wpList_alloc_rowG (w.heap.size + 1) s1 rfl 56 rfl _ zero56 ?_
       intro w2 k2 b2 s2
       have H2 := Lib.hid (show Below w.heap.size w w2 ∧ Blk w2 w.heap.size 56 CC ∧ Blk w2 (w.heap.size + 1) 56 _ from ⟨b1.trans (b2.mono (by omega)), k1.old (s1 ▸ b2), k2⟩)
       clear k1 b1 k2 b2 s2))
  clear s1
  have fq : w2.cell? ⟨w.heap.size, q, none⟩ = some (vu (wd c q)) := by
    rw [H2.out.2.1.cell, ← HCC.out]
    exact HA.out
  go_upto_region 2 with (first
    | (with_reducible refine at_oper (.store 54 (.tmp 15) (.tmp 14)) rfl ?_
       refine wpList_store_at rfl 54 (.tmp 15) (.tmp 14) rfl rfl w.heap.size q (.int .u64 (bits .or .u64 ((wd c q : Nat) : Int) (IntKind.u64.wrap ((2 : Int) ^ (x % 64))))) _ 56 rfl rfl H2.out.2.1 (by rw [zCC]; exact hl) size54 rfl ?_
       intro w3 k3 o3
       have hv : Value.int .u64 (bits .or .u64 ((wd c q : Nat) : Int) (IntKind.u64.wrap ((2 : Int) ^ (x % 64)))) = vu (wd c (x / 64) ||| 2 ^ (x % 64)) := by
         rw [HX.out.2, HW.out, HT.out, HX.out.1]
       rw [hv, ← HX.out.1, ← HCC.out, ccells_or c x hx] at k3
       have H3 := Lib.hid (show Below w.heap.size w w3 ∧ Blk w3 w.heap.size 56 (ccells (c ||| 2 ^ x)) ∧ Blk w3 (w.heap.size + 1) 56 #[vu 0, vu 0, vu 0, vu 0] from ⟨below_only H2.out.1 o3 (Nat.le_refl _), k3, H2.out.2.2.only o3 (by omega)⟩)
       clear k3 o3 hv))
  clear fq H2
  obtain ⟨DD, hDD⟩ : ∃ DD, ccells (c ||| 2 ^ x) = DD := ⟨_, rfl⟩
  have zDD : DD.size = 4 := by rw [← hDD]; rfl
  have HE := Lib.hid (show encC (c ||| 2 ^ x) = .agg DD by rw [← hDD]; rfl)
  have oDD : DD.all (·.oneCell') = true := by rw [← hDD]; exact one56 _
  rw [hDD] at H3
  clear hDD
  go_wp2_with (first
    | (with_reducible refine at_oper (.load 56 (.tmp 2)) rfl ?_
       refine wpList_load_blk rfl 56 (.tmp 2) rfl w.heap.size rfl 56 DD _ H3.out.2.1 Tryz.underlying56 rfl (by rw [zDD]; exact size56) ?_)
    | (with_reducible refine at_oper (.store 56 (.tmp 4) (.tmp 16)) rfl ?_
       refine wpList_store_blk rfl 56 (.tmp 4) (.tmp 16) rfl rfl (w.heap.size + 1) DD _ 56 rfl rfl H3.out.2.2 (by rw [zDD]; exact size56) (by rw [zDD]; rfl) oDD ?_
       intro w5 k5 o5
       have H5 := Lib.hid (And.intro k5 o5)
       clear k5 o5))
  refine bodyPost_ret (results_cell rfl _ _ (w.heap.size + 1) rfl 56 _ H5.out.1 Tryz.underlying56 rfl (by rw [zDD]; exact size56)) rfl ?_
  exact ⟨by rw [HE.out], below_only H3.out.1 H5.out.2 (by omega)⟩
set_option maxRecDepth 100000 in
theorem one94_c (x : Nat) (hx : x < 256) (w : World) : Calls Tryz.prog 94 #[.int .u8 x] w (Gives w (encC (0 ||| 2 ^ x))) := by
  have hb56 : Tryz.prog.built 56 [] = some #[.int .u64 0, .int .u64 0, .int .u64 0, .int .u64 0] := by kernel_rfl
  obtain ⟨DD, hDD⟩ : ∃ DD, ccells (0 ||| 2 ^ x) = DD := ⟨_, rfl⟩
  have zDD : DD.size = 4 := by rw [← hDD]; rfl
  have eDD : encC (0 ||| 2 ^ x) = .agg DD := by rw [← hDD]; rfl
  have oDD : DD.all (·.oneCell') = true := by rw [← hDD]; exact one56 _
  have hc := fun W => add95_c 0 x hx W
  rw [eDD] at hc ⊢
  have HC := Lib.hid hc
  clear hDD hc eDD
  go_enter Tryz.func94, Tryz.ntmps94
  go_wp2_with (first
    | (with_reducible refine at_oper (.alloc 56) rfl ?_
       refine wpList_alloc_rowG w.heap.size rfl rfl 56 rfl _ zero56 ?_
       intro w1 k1 b1 s1
       have H1 := Lib.hid (And.intro k1 b1)
       clear k1 b1 s1)
    | (go_at_call 95
       rw [← encC_zero]
       refine (HC.out w1).mono ?_
       rintro e w2 ⟨rfl, hb2⟩
       have H2 := Lib.hid (show Below w.heap.size w w2 ∧ Blk w2 w.heap.size 56 #[vu 0, vu 0, vu 0, vu 0] from ⟨H1.out.2.trans (hb2.mono H1.out.2.size), H1.out.1.old hb2⟩)
       clear hb2)
    | (with_reducible refine at_oper (.store 56 (.tmp 2) (.tmp 5)) rfl ?_
       refine wpList_store_blk rfl 56 (.tmp 2) (.tmp 5) rfl rfl w.heap.size DD _ 56 rfl rfl H2.out.2 (by rw [zDD]; exact size56) (by rw [zDD]; rfl) oDD ?_
       intro w5 k5 o5
       have H5 := Lib.hid (And.intro k5 o5)
       clear k5 o5))
  refine bodyPost_ret (results_cell rfl _ _ w.heap.size rfl 56 _ H5.out.1 Tryz.underlying56 rfl (by rw [zDD]; exact size56)) rfl ?_
  exact ⟨rfl, below_only H2.out.1 H5.out.2 (Nat.le_refl _)⟩
abbrev all4 : Array Value := #[.int .u64 18446744073709551615, .int .u64 18446744073709551615, .int .u64 18446744073709551615, .int .u64 18446744073709551615]
theorem all4_eq : encC allC = .agg all4 := by kernel_rfl
set_option maxRecDepth 100000 in
theorem all96_c (w : World) : Calls Tryz.prog 96 #[] w (Gives w (encC allC)) := by
  rw [all4_eq]
  go_enter Tryz.func96, Tryz.ntmps96
  go_wp2_with (first
    | (with_reducible refine at_oper (.alloc 56) rfl ?_
       refine wpList_alloc_rowG w.heap.size rfl rfl 56 rfl _ zero56 ?_
       intro w1 k1 b1 s1
       have H1 := Lib.hid (And.intro k1 b1)
       clear k1 b1 s1)
    | (with_reducible refine at_oper (.store 56 (.tmp 0) (.tmp 1)) rfl ?_
       refine wpList_store_blk rfl 56 (.tmp 0) (.tmp 1) rfl rfl w.heap.size all4 _ 56 rfl rfl H1.out.1 size56 rfl (by simp [Value.oneCell']) ?_
       intro w5 k5 o5
       have H5 := Lib.hid (And.intro k5 o5)
       clear k5 o5))
  refine bodyPost_ret (results_cell rfl _ _ w.heap.size rfl 56 _ H5.out.1 Tryz.underlying56 rfl size56) rfl ?_
  exact ⟨rfl, below_only H1.out.2 H5.out.2 (Nat.le_refl _)⟩
end Go.Proofs.YtjgkdfghjeodeaaGreatDoor
