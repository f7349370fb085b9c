/- univocalref02.leaf. -/
import Derived.Test.YtjgkdfghjeodeaaGreatDoorT38
import Derived.Test.YtjgkdfghjeodeaaGreatDoorT39
namespace Go.Proofs.YtjgkdfghjeodeaaGreatDoor
open Go.RowKit

theorem built58c (c : Nat) : Tryz.prog.built 58 [(0, .int .i64 3), (1, .agg (ccells c))] = some (ndc ⟨3, c, 0, 0, 0, some 0⟩) := by kernel_rfl
/-- a node without operands is handed back -/
def LfR (w : World) (e : Ending) (w' : World) : Prop := ∃ nd, e = .returned (ndV nd) ∧ GoodX [nd] ∧ Below w.heap.size w w'
abbrev ndz : Nd := ⟨0, 0, 0, 0, 0, some 0⟩
set_option maxRecDepth 100000 in
set_option maxHeartbeats 4000000 in
theorem leaf_c (k arg : Nat) (hk : k ≤ 13) (ha : arg ≤ 18) (w : World) : Calls Tryz.prog 45 #[vi k, vi arg] w (LfR w) := by
  obtain ⟨Z, hZ⟩ : ∃ Z, ndc ndz = Z := ⟨_, rfl⟩
  have zZ : Z.size = 9 := by rw [← hZ]; rfl
  go_enter Tryz.func45, Tryz.ntmps45
  go_upto_region 1 with (first
    | (with_reducible refine at_oper (.alloc 58) rfl ?_
       refine wpList_alloc_rowG w.heap.size rfl rfl 58 rfl _ zero58 ?_
       intro w1 k1 b1 s1
       rw [show ndc ⟨0, 0, 0, 0, 0, some 0⟩ = Z from hZ] at k1
       have H1 := Lib.hid (And.intro k1 b1)
       clear k1 b1))
  clear hZ
  by_cases h0 : k = 0
  · subst h0
    go_wp2_with (first
      | (with_reducible refine at_oper (.store 58 (.tmp 4) (.tmp 11)) rfl ?_
         refine wpList_store_blk rfl 58 (.tmp 4) (.tmp 11) rfl rfl w.heap.size (ndc ⟨1, 0, 0, 0, 0, some 0⟩) _ 58 rfl rfl H1.out.1 (by rw [ndc_size]; exact size58) (by rw [ndc_size]; exact zZ) (ndc_one _) ?_
         intro w5 k5 o5
         have H5 := Lib.hid (And.intro k5 o5)
         clear k5 o5))
    refine bodyPost_ret (results_cell rfl _ _ w.heap.size rfl 58 _ H5.out.1 Tryz.underlying58 rfl (by rw [ndc_size]; exact size58)) rfl ?_
    exact ⟨_, rfl, GoodX.leaf 1 0 (.inl rfl) (fun _ => rfl) (by decide), below_only H1.out.2 H5.out.2 (Nat.le_refl _)⟩
  by_cases h1 : k = 1
  · subst h1
    clear h0
    go_wp2_with (first
      | (with_reducible refine at_oper (.store 58 (.tmp 4) (.tmp 14)) rfl ?_
         refine wpList_store_blk rfl 58 (.tmp 4) (.tmp 14) rfl rfl w.heap.size (ndc ⟨2, 0, 0, 0, 0, some 0⟩) _ 58 rfl rfl H1.out.1 (by rw [ndc_size]; exact size58) (by rw [ndc_size]; exact zZ) (ndc_one _) ?_
         intro w5 k5 o5
         have H5 := Lib.hid (And.intro k5 o5)
         clear k5 o5))
    refine bodyPost_ret (results_cell rfl _ _ w.heap.size rfl 58 _ H5.out.1 Tryz.underlying58 rfl (by rw [ndc_size]; exact size58)) rfl ?_
    exact ⟨_, rfl, GoodX.leaf 2 0 (.inr (.inl rfl)) (fun _ => rfl) (by decide), below_only H1.out.2 H5.out.2 (Nat.le_refl _)⟩
  have d0 : ((k : Int) == 0) = false := by rw [beq_eq_false_iff_ne]; omega
  have d1 : ((k : Int) == 1) = false := by rw [beq_eq_false_iff_ne]; omega
  by_cases h3 : k = 3
  · subst h3
    clear h0 h1 d0 d1 hk
    go_upto_region 8 with (first
      | (with_reducible refine at_oper (.alloc 56) rfl ?_
         refine wpList_alloc_rowG (w.heap.size + 1) s1 rfl 56 rfl _ zero56 ?_
         intro w2 k2 b2 s2
         have H2 := Lib.hid (And.intro k2 b2)
         clear k2 b2)
      | (with_reducible refine at_oper (.store 56 (.tmp 5) (.tmp 23)) rfl ?_
         refine wpList_store_blk rfl 56 (.tmp 5) (.tmp 23) rfl rfl (w.heap.size + 1) (ccells 0) _ 56 rfl rfl H2.out.1 size56 rfl (one56 0) ?_
         intro w3 k3 o3
         have H3 := Lib.hid (show Below w.heap.size w w3 ∧ Blk w3 w.heap.size 58 Z ∧ Blk w3 (w.heap.size + 1) 56 (ccells 0) from ⟨below_only (H1.out.2.trans (H2.out.2.mono (by omega))) o3 (by omega), (H1.out.1.below H2.out.2 (by omega)).only o3 (by omega), k3⟩)
         clear k3 o3))
    go_wp2_with fail
    go_loopw [6] (fun s6 wr => ∃ i c : Nat, i ≤ 3 ∧ s6 = vi i ∧ c < 2 ^ 256 ∧ Below w.heap.size w wr ∧ Blk wr w.heap.size 58 Z ∧ Blk wr (w.heap.size + 1) 56 (ccells c)) (fun s6 _ => 3 - (intOf s6).toNat)
    case atStart => exact ⟨0, 0, by decide, rfl, by decide, H3.out⟩
    case round =>
      clear H3
      obtain ⟨i, c, hi, rfl, hc, hB⟩ := hrel
      have HB := Lib.hid hB
      have HC := Lib.hid hc
      clear hc hB
      by_cases hlt : i < 3
      · have d3 : decide ((i : Int) < 3) = true := by simp; omega
        go_upto_region 11 with fail
        go_cut [32] from 24 to 37 (fun s32 wz => ∃ b, s32 = .bool b ∧ wz = wr)
        case first =>
          go_wp2_with fail
          go_meet
          case rel => exact ⟨_, rfl, rfl⟩
        obtain ⟨tb, rfl, rfl⟩ := hcut
        cases tb with
        | false =>
          go_wp2_with fail
          go_roundw
          case rel => exact ⟨i + 1, c, by omega, by go_num, HC.out, HB.out⟩
          case measure => simp [intOf]; omega
        | true =>
          obtain ⟨CC, hCC⟩ : ∃ CC, ccells c = CC := ⟨_, rfl⟩
          have zCC : CC.size = 4 := by rw [← hCC]; rfl
          have HCC := Lib.hid (show encC c = .agg CC by rw [← hCC]; rfl)
          rw [hCC] at HB
          clear hCC
          obtain ⟨b, hb⟩ : ∃ b, 97 + i = b := ⟨_, rfl⟩
          have hsum : (97 : Int) + (i : Int) = (b : Int) := by omega
          have hb2 : b < 256 := by omega
          have hw1 : IntKind.i64.wrap (b : Int) = (b : Int) := i64_wrap _ (by omega)
          have hw2 : IntKind.u8.wrap (b : Int) = (b : Int) := by rw [IntKind.wrap_u8]; omega
          clear hb
          obtain ⟨EE, hEE⟩ : ∃ EE, ccells (c ||| 2 ^ b) = EE := ⟨_, rfl⟩
          have zEE : EE.size = 4 := by rw [← hEE]; rfl
          have oEE : EE.all (·.oneCell') = true := by rw [← hEE]; exact one56 _
          have hadd := add95_c c b hb2 wc
          rw [HCC.out, show encC (c ||| 2 ^ b) = .agg EE by rw [← hEE]; rfl] at hadd
          have HADD := Lib.hid (And.intro hadd hEE)
          clear hadd hEE
          go_wp2_with (first
            | (with_reducible refine at_oper (.load 56 (.tmp 5)) rfl ?_
               refine wpList_load_blk rfl 56 (.tmp 5) rfl (w.heap.size + 1) rfl 56 CC _ HB.out.2.2 Tryz.underlying56 rfl (by rw [zCC]; exact size56) ?_)
            | (go_at_call 95
               refine HADD.out.1.mono ?_
               rintro e w5 ⟨rfl, hb5⟩
               have H5 := Lib.hid (show Below w.heap.size w w5 ∧ Blk w5 w.heap.size 58 Z ∧ Blk w5 (w.heap.size + 1) 56 CC from ⟨HB.out.1.trans (hb5.mono HB.out.1.size), HB.out.2.1.old hb5, HB.out.2.2.old hb5⟩)
               clear hb5)
            | (with_reducible refine at_oper (.store 56 (.tmp 5) (.tmp 37)) rfl ?_
               refine wpList_store_blk rfl 56 (.tmp 5) (.tmp 37) rfl rfl (w.heap.size + 1) EE _ 56 rfl rfl H5.out.2.2 (by rw [zEE]; exact size56) (by rw [zEE]; exact zCC) oEE ?_
               intro w6 k6 o6
               have H6 := Lib.hid (show Below w.heap.size w w6 ∧ Blk w6 w.heap.size 58 Z ∧ Blk w6 (w.heap.size + 1) 56 (ccells (c ||| 2 ^ b)) from ⟨below_only H5.out.1 o6 (by omega), H5.out.2.1.only o6 (by omega), by rw [HADD.out.2]; exact k6⟩)
               clear k6 o6))
          go_roundw
          case rel => exact ⟨i + 1, c ||| 2 ^ b, by omega, by go_num, or_pow_lt HC.out hb2, H6.out⟩
          case measure => simp [intOf]; omega
      · have d3 : decide ((i : Int) < 3) = false := by simp; omega
        go_upto_region 13 with fail
        by_cases h8 : arg ≥ 8
        · have d8 : decide ((arg : Int) ≥ 8) = true := by simp; omega
          have hal := all96_c wr
          rw [all4_eq] at hal
          have HAL := Lib.hid hal
          clear hal h8
          go_upto_region 15 with (first
            | (go_at_call 96
               refine HAL.out.mono ?_
               rintro e w5 ⟨rfl, hb5⟩
               have H5 := Lib.hid (show Below w.heap.size w w5 ∧ Blk w5 w.heap.size 58 Z ∧ Blk w5 (w.heap.size + 1) 56 (ccells c) from ⟨HB.out.1.trans (hb5.mono HB.out.1.size), HB.out.2.1.old hb5, HB.out.2.2.old hb5⟩)
               clear hb5)
            | (with_reducible refine at_oper (.alloc 56) rfl ?_
               refine wpList_alloc_rowG w5.heap.size rfl rfl 56 rfl _ zero56 ?_
               intro w6 k6 b6 s6
               have H6 := Lib.hid (And.intro k6 b6)
               clear k6 b6 s6)
            | (with_reducible refine at_oper (.store 56 (.tmp 7) (.tmp 40)) rfl ?_
               refine wpList_store_blk rfl 56 (.tmp 7) (.tmp 40) rfl rfl w5.heap.size all4 _ 56 rfl rfl H6.out.1 size56 rfl (by simp [Value.oneCell']) ?_
               intro w7 k7 o7
               have hz := H5.out.2.2.lt
               have H7 := Lib.hid (show (Below w.heap.size w w7 ∧ Blk w7 w.heap.size 58 Z ∧ Blk w7 (w.heap.size + 1) 56 (ccells c)) ∧ Blk w7 w5.heap.size 56 all4 ∧ w.heap.size + 1 < w5.heap.size from ⟨⟨below_only (H5.out.1.trans (H6.out.2.mono H5.out.1.size)) o7 H5.out.1.size, (H5.out.2.1.old H6.out.2).only o7 (by omega), (H5.out.2.2.old H6.out.2).only o7 (by omega)⟩, k7, hz⟩)
               clear k7 o7 hz))
          clear H5 H6 HB HAL
          have hg7 := H7.out.2.2
          generalize w5.heap.size = g7 at *
          go_wp2_with fail
          go_loopw [8] (fun s8 wr => ∃ j c : Nat, j ≤ 4 ∧ s8 = vi j ∧ c < 2 ^ 256 ∧ (Below w.heap.size w wr ∧ Blk wr w.heap.size 58 Z ∧ Blk wr (w.heap.size + 1) 56 (ccells c)) ∧ Blk wr g7 56 all4) (fun s8 _ => 4 - (intOf s8).toNat)
          case atStart => exact ⟨0, c, by decide, rfl, HC.out, H7.out.1, H7.out.2.1⟩
          case round =>
            clear H7 HC
            obtain ⟨j, c, hj, rfl, hc, hB, hk⟩ := hrel
            have HB := Lib.hid hB
            have HK := Lib.hid hk
            have HC := Lib.hid hc
            clear hc hB hk
            by_cases hlj : j < 4
            · have d4 : decide ((j : Int) < 4) = true := by simp; omega
              have fx : wr.cell? ⟨g7, j, none⟩ = some (vu 18446744073709551615) := by
                rw [HK.out.cell]
                have : j = 0 ∨ j = 1 ∨ j = 2 ∨ j = 3 := by omega
                rcases this with rfl | rfl | rfl | rfl <;> rfl
              have fc : wr.cell? ⟨w.heap.size + 1, j, none⟩ = some (vu (wd c j)) := by rw [HB.out.2.2.cell]; exact ccells_at c j hlj
              have hx := bits_xor_u64_nat 18446744073709551615 (wd c j) (by decide) (wd_lt c j)
              have HX0 := Lib.hid hx
              clear hx
              go_upto_region 18 with fail
              refine wp_region_wz (by kernel_rfl) [(0, .r), (1, .r), (2, .r), (3, .r), (4, .r), (5, .r), (6, .r), (7, .r), (8, .r), (9, .c)] 9 (fun W => W.cell? ⟨g7, j, none⟩ = some (vu 18446744073709551615) ∧ W.cell? ⟨w.heap.size + 1, j, none⟩ = some (vu (wd c j))) (by decide +kernel) (fun _ _ d _ _ h => by cases d <;> exact h) ⟨fx, fc⟩ ?_
              replace HB := Lib.hid (show Below w.heap.size w wr.drew ∧ Blk wr.drew w.heap.size 58 Z ∧ Blk wr.drew (w.heap.size + 1) 56 (ccells c) from ⟨HB.out.1.drew, HB.out.2.1, HB.out.2.2⟩)
              replace HK := Lib.hid (show Blk wr.drew g7 56 all4 from HK.out)
              clear fx fc
              generalize wr.drew = wr at *
              iterate 9 (refine wz_r (by simp only [List.getElem?_toArray, List.getElem?_cons_succ, List.getElem?_cons_zero]; rfl) ?_ (fun W hS => ?_) ?_; rotate_left; (focus (obtain ⟨q1, q2⟩ := hS; go_simp; first | done | rfl | rw [if_pos (by omega)])); simp only [Act.put, List.setIfInBounds_toArray, List.set_cons_zero, List.set_cons_succ])
              refine wz_c (by simp only [List.getElem?_toArray, List.getElem?_cons_succ, List.getElem?_cons_zero]; rfl) ?_
              obtain ⟨c2, hc2, e2⟩ := class_set c j (18446744073709551615 ^^^ wd c j) hlj (Nat.xor_lt_two_pow (n := 64) (by decide) (wd_lt c j))
              have HC2 := Lib.hid (And.intro hc2 e2)
              clear hc2 e2
              go_wp2_with (first
                | (with_reducible refine at_oper (.store 54 (.tmp 53) (.tmp 52)) rfl ?_
                   refine wpList_store_at rfl 54 (.tmp 53) (.tmp 52) rfl rfl (w.heap.size + 1) j (.int .u64 (bits .xor .u64 ((18446744073709551615 : Nat) : Int) ((wd c j : Nat) : Int))) _ 56 rfl rfl HB.out.2.2 (by show j < 4; exact hlj) size54 rfl ?_
                   intro w9 k9 o9
                   rw [HX0.out, ← HC2.out.2] at k9
                   have H9 := Lib.hid (show (Below w.heap.size w w9 ∧ Blk w9 w.heap.size 58 Z ∧ Blk w9 (w.heap.size + 1) 56 (ccells c2)) ∧ Blk w9 g7 56 all4 from ⟨⟨below_only HB.out.1 o9 (by omega), HB.out.2.1.only o9 (by omega), k9⟩, HK.out.only o9 (by omega)⟩)
                   clear k9 o9))
              dsimp only [segQ]
              first | refine ⟨fun h => absurd h (by decide), ?_⟩ | skip
              refine wz_e ?_
              go_wp2_with fail
              go_roundw
              case rel => exact ⟨j + 1, c2, by omega, by go_num, HC2.out.1, H9.out⟩
              case measure => simp [intOf]; omega
            · have d4 : decide ((j : Int) < 4) = false := by simp; omega
              obtain ⟨X, hX⟩ : ∃ X, ndc ⟨3, c, 0, 0, 0, some 0⟩ = X := ⟨_, rfl⟩
              have zX : X.size = 9 := by rw [← hX]; rfl
              have oX : X.all (·.oneCell') = true := by rw [← hX]; exact ndc_one _
              obtain ⟨CC, hCC⟩ : ∃ CC, ccells c = CC := ⟨_, rfl⟩
              have zCC : CC.size = 4 := by rw [← hCC]; rfl
              have HX := Lib.hid (And.intro (hCC ▸ hX ▸ built58c c) hX)
              rw [hCC] at HB
              clear hX hCC
              go_wp2_with (first
                | (with_reducible refine at_oper (.load 56 (.tmp 5)) rfl ?_
                   refine wpList_load_blk rfl 56 (.tmp 5) rfl (w.heap.size + 1) rfl 56 CC _ HB.out.2.2 Tryz.underlying56 rfl (by rw [zCC]; exact size56) ?_)
                | (with_reducible refine at_oper (.build 58 _) rfl ?_
                   refine wpList_val rfl _ (run_built2 58 0 1 _ (.tmp 54) rfl (.int .i64 3) (.agg CC) rfl rfl _ HX.out.1) ?_)
                | (with_reducible refine at_oper (.store 58 (.tmp 4) (.tmp 55)) rfl ?_
                   refine wpList_store_blk rfl 58 (.tmp 4) (.tmp 55) rfl rfl w.heap.size X _ 58 rfl rfl HB.out.2.1 (by rw [zX]; exact size58) (by rw [zX]; exact zZ) oX ?_
                   intro w15 k15 o15
                   have H15 := Lib.hid (And.intro k15 o15)
                   clear k15 o15))
              refine bodyPost_ret (results_cell rfl _ _ w.heap.size rfl 58 _ H15.out.1 Tryz.underlying58 rfl (by rw [zX]; exact size58)) rfl ?_
              exact ⟨_, by rw [← HX.out.2]; rfl, GoodX.leaf 3 c (.inr (.inr rfl)) (fun h => absurd rfl h) HC.out, below_only HB.out.1 H15.out.2 (Nat.le_refl _)⟩
        · have d8 : decide ((arg : Int) ≥ 8) = false := by simp; omega
          obtain ⟨X, hX⟩ : ∃ X, ndc ⟨3, c, 0, 0, 0, some 0⟩ = X := ⟨_, rfl⟩
          have zX : X.size = 9 := by rw [← hX]; rfl
          have oX : X.all (·.oneCell') = true := by rw [← hX]; exact ndc_one _
          obtain ⟨CC, hCC⟩ : ∃ CC, ccells c = CC := ⟨_, rfl⟩
          have zCC : CC.size = 4 := by rw [← hCC]; rfl
          have HX := Lib.hid (And.intro (hCC ▸ hX ▸ built58c c) hX)
          rw [hCC] at HB
          clear hX hCC
          go_wp2_with (first
            | (with_reducible refine at_oper (.load 56 (.tmp 5)) rfl ?_
               refine wpList_load_blk rfl 56 (.tmp 5) rfl (w.heap.size + 1) rfl 56 CC _ HB.out.2.2 Tryz.underlying56 rfl (by rw [zCC]; exact size56) ?_)
            | (with_reducible refine at_oper (.build 58 _) rfl ?_
               refine wpList_val rfl _ (run_built2 58 0 1 _ (.tmp 54) rfl (.int .i64 3) (.agg CC) rfl rfl _ HX.out.1) ?_)
            | (with_reducible refine at_oper (.store 58 (.tmp 4) (.tmp 55)) rfl ?_
               refine wpList_store_blk rfl 58 (.tmp 4) (.tmp 55) rfl rfl w.heap.size X _ 58 rfl rfl HB.out.2.1 (by rw [zX]; exact size58) (by rw [zX]; exact zZ) oX ?_
               intro w15 k15 o15
               have H15 := Lib.hid (And.intro k15 o15)
               clear k15 o15))
          refine bodyPost_ret (results_cell rfl _ _ w.heap.size rfl 58 _ H15.out.1 Tryz.underlying58 rfl (by rw [zX]; exact size58)) rfl ?_
          exact ⟨_, by rw [← HX.out.2]; rfl, GoodX.leaf 3 c (.inr (.inr rfl)) (fun h => absurd rfl h) HC.out, below_only HB.out.1 H15.out.2 (Nat.le_refl _)⟩
  · have d3 : ((k : Int) == 3) = false := by rw [beq_eq_false_iff_ne]; omega
    obtain ⟨m, hm⟩ : ∃ m, arg % 3 = m := ⟨_, rfl⟩
    have hm3 : m < 3 := by omega
    have hrem : Int.tmod (arg : Int) 3 = (m : Int) := by
      rw [Int.tmod_eq_emod_of_nonneg (by omega)]; omega
    have hemod : (arg : Int) % 3 = (m : Int) := by omega
    have hsum : (97 : Int) + (m : Int) = ((97 + m : Nat) : Int) := by omega
    obtain ⟨b, hb⟩ : ∃ b, 97 + m = b := ⟨_, rfl⟩
    rw [hb] at hsum
    have hb2 : b < 256 := by omega
    have hw1 : IntKind.i64.wrap (b : Int) = (b : Int) := i64_wrap _ (by omega)
    have hw2 : IntKind.u8.wrap (b : Int) = (b : Int) := by rw [IntKind.wrap_u8]; omega
    have d4 : ((k : Int) != 3) = true := by rw [bne, d3]; rfl
    obtain ⟨c, hc⟩ : ∃ c, 0 ||| 2 ^ b = c := ⟨_, rfl⟩
    have hcl : c < 2 ^ 256 := by rw [← hc]; exact or_pow_lt (by decide) hb2
    have hone := one94_c b hb2 w1
    rw [hc] at hone
    have HO := Lib.hid hone
    clear h0 h1 h3 hm hb hc hone
    obtain ⟨X, hX⟩ : ∃ X, ndc ⟨3, c, 0, 0, 0, some 0⟩ = X := ⟨_, rfl⟩
    have zX : X.size = 9 := by rw [← hX]; rfl
    have oX : X.all (·.oneCell') = true := by rw [← hX]; exact ndc_one _
    have HX := Lib.hid (And.intro (built58c c) hX)
    clear hX
    go_wp2_with (first
      | (go_at_call 94
         refine HO.out.mono ?_
         rintro e w2 ⟨rfl, hb2⟩
         have H2 := Lib.hid (show Below w.heap.size w w2 ∧ Blk w2 w.heap.size 58 Z from ⟨H1.out.2.trans (hb2.mono H1.out.2.size), H1.out.1.old hb2⟩)
         clear hb2)
      | (with_reducible refine at_oper (.build 58 _) rfl ?_
         refine wpList_val rfl _ (run_built2 58 0 1 _ (.tmp 21) rfl (.int .i64 3) (encC c) rfl rfl _ HX.out.1) ?_
         rw [HX.out.2])
      | (with_reducible refine at_oper (.store 58 (.tmp 4) (.tmp 22)) rfl ?_
         refine wpList_store_blk rfl 58 (.tmp 4) (.tmp 22) rfl rfl w.heap.size X _ 58 rfl rfl H2.out.2 (by rw [zX]; exact size58) (by rw [zX]; exact zZ) oX ?_
         intro w5 k5 o5
         have H5 := Lib.hid (And.intro k5 o5)
         clear k5 o5))
    refine bodyPost_ret (results_cell rfl _ _ w.heap.size rfl 58 _ H5.out.1 Tryz.underlying58 rfl (by rw [zX]; exact size58)) rfl ?_
    exact ⟨_, by rw [← HX.out.2]; rfl, GoodX.leaf 3 c (.inr (.inr rfl)) (fun h => absurd rfl h) hcl, below_only H2.out.1 H5.out.2 (Nat.le_refl _)⟩

abbrev ndz9 : Array Value := #[.int .i64 0, .int .u64 0, .int .u64 0, .int .u64 0, .int .u64 0, .int .i64 0, .int .i64 0, .int .i64 0, .int .i64 0]
theorem fold_nd (n : Nd) : Array.foldl (fun cs (x : Value × Nat) => cs.setIfInBounds x.snd x.fst) ndz9 ((ndc n).zipIdx) 0 9 = ndc n := by
  simp [ndc]
theorem app33 : AppS Tryz.prog 33 58 9 72 := AppS.of (.agg (ndc ndz)) (by decide) Tryz.underlying33 (by kernel_rfl) rfl
set_option maxRecDepth 100000 in
set_option maxHeartbeats 4000000 in
theorem with93_c (K : Nat → Prop) (A : Option Addr) (n c : Nat) (x : List Nd) (nd : Nd) (w : World) (hx : RX w K A n c x) (hn : n ≤ 3000000) : Calls Tryz.prog 93 #[.slice A n c, ndV nd] w
    fun e w' => ∃ A' c', e = .returned (.slice A' (n + 1) c') ∧ RX w' (fun k => w.heap.size ≤ k) A' (n + 1) c' (x ++ [nd]) ∧ Below w.heap.size w w' := by
  obtain ⟨X, hX⟩ : ∃ X, ndc nd = X := ⟨_, rfl⟩
  have zX : X.size = 9 := by rw [← hX]; rfl
  have hE : ndV nd = .agg X := by rw [← hX]; rfl
  rw [hE]
  have hlen := hx.len
  have hcap := hx.cap
  have HX := Lib.hid (And.intro hX hx)
  have HLen := Lib.hid hlen
  clear hX hE hx hlen
  go_enter Tryz.func93, Tryz.ntmps93
  go_upto_region 2 with (first
    | (with_reducible refine at_oper (.box 58 (.tmp 1)) rfl ?_
       refine wpList_box_rowG w.heap.size rfl rfl 58 (.tmp 1) rfl X rfl ?_
       intro w1 k1 b1 s1
       have H1 := Lib.hid (And.intro k1 b1)
       clear k1 b1))
  have H2 := Lib.hid (show Below w.heap.size w (w1.alloc (.cells #[] 58)) ∧ Blk (w1.alloc (.cells #[] 58)) w.heap.size 58 X ∧ OwnS (w1.alloc (.cells #[] 58)) (w.heap.size + 1) 58 9 (some ⟨w.heap.size + 1, 0, none⟩) 0 0 (ndl (x.take 0)) from
    ⟨H1.out.2.alloc H1.out.2.size _, H1.out.1.alloc _, by have h := OwnS.lit (w := w1) (base := w.heap.size + 1) 58 9 0 #[] (by omega) (by decide) rfl; rw [s1] at h; simpa [ndl] using h⟩)
  generalize w1.alloc (.cells #[] 58) = w2 at *
  clear H1 s1
  have hf := fold_nd nd
  rw [HX.out.1] at hf
  have HF := Lib.hid hf
  clear hf
  go_wp2_with fail
  go_loopw [5, 6] (fun s5 s6 wr => ∃ (i : Nat) (A' : Option Addr) (c' : Nat), i ≤ n ∧ s6 = vi i ∧ s5 = .slice A' i c' ∧ Below w.heap.size w wr ∧ Blk wr w.heap.size 58 X ∧ OwnS wr (w.heap.size + 1) 58 9 A' i c' (ndl (x.take i))) (fun _ s6 _ => n - (intOf s6).toNat)
  case atStart => exact ⟨0, _, _, Nat.zero_le _, rfl, rfl, H2.out⟩
  case round =>
    clear H2
    obtain ⟨i, A', c', hi, rfl, rfl, hB⟩ := hrel
    have HB := Lib.hid hB
    have hc' := hB.2.2.cap.1
    clear hB
    by_cases hlt : i < n
    · have d1 : decide ((i : Int) < n) = true := by simp; omega
      obtain ⟨y, hy⟩ : ∃ y, x[i]? = some y := ⟨_, List.getElem?_eq_getElem (by rw [HLen.out]; exact hlt)⟩
      obtain ⟨ad, rfl, _, hq⟩ := (HX.out.2.below HB.out.1).at_ hy
      obtain ⟨Y, hY⟩ : ∃ Y, ndc y = Y := ⟨_, rfl⟩
      have zY : Y.size = 9 := by rw [← hY]; rfl
      have hfy := fold_nd y
      rw [hY] at hfy
      have HY := Lib.hid (And.intro hY (And.intro hq (And.intro hfy hy)))
      clear hY hq hfy hy
      go_wp2_with (first
        | (with_reducible refine at_oper (.load 58 (.tmp 17)) rfl ?_
           refine wpList_load_nd rfl (.tmp 17) rfl (ad.add (i * 9)) rfl y HY.out.2.1 ?_
           rw [HY.out.1])
        | (at_builtin
           rw [HY.out.2.2.1]
           have hsz := HB.out.2.1.lt
           refine wpList_appendSS rfl (.tmp 14) (.tmp 19) 33 rfl app33 (w.heap.size + 1) A' i c' (ndl (x.take i)) rfl (HB.out.2.2.alloc _) _ 1 1 Y.toList rfl (by rw [Array.length_toList, zY]) (K := TT) ((Blk.new wr 58 Y).sl.weak fun _ _ _ => trivial) (by rw [← HY.out.1]; exact fun u hu => ndl_one [y] u (by simpa [ndl] using hu)) (by omega) (by omega) (by rw [World.size_alloc]; omega) ?_
           intro A4 c4 w4 own4 g4 _
           have H4 := Lib.hid (show Below w.heap.size w w4 ∧ Blk w4 w.heap.size 58 X ∧ OwnS w4 (w.heap.size + 1) 58 9 A4 (i + 1) c4 (ndl (x.take (i + 1))) from
             ⟨below_grown (HB.out.1.alloc HB.out.1.size _) g4 (by rw [World.size_alloc]; omega) (fun k e => by have := (HB.out.2.2.lt _ e).1; omega), (HB.out.2.1.alloc _).grown g4 (fun e => by have := (HB.out.2.2.lt _ e).1; omega), by rw [take_snoc_of HY.out.2.2.2, ndl_snoc, HY.out.1]; exact own4⟩)
           clear own4 g4 hsz))
      go_roundw
      case rel => exact ⟨i + 1, A4, c4, by omega, by go_num, rfl, H4.out⟩
      case measure => simp [intOf]; omega
    · have d1 : decide ((i : Int) < n) = false := by simp; omega
      obtain rfl : n = i := by omega
      go_wp2_with (first
        | (with_reducible refine at_oper (.load 58 (.tmp 3)) rfl ?_
           refine wpList_load_blk rfl 58 (.tmp 3) rfl w.heap.size rfl 58 X _ HB.out.2.1 Tryz.underlying58 rfl (by rw [zX]; exact size58) ?_)
        | (at_builtin
           rw [HF.out]
           have hsz := HB.out.2.1.lt
           refine wpList_appendSS rfl (.tmp 21) (.tmp 23) 33 rfl app33 (w.heap.size + 1) A' n c' (ndl (x.take n)) rfl (HB.out.2.2.alloc _) _ 1 1 X.toList rfl (by rw [Array.length_toList, zX]) (K := TT) ((Blk.new wr 58 X).sl.weak fun _ _ _ => trivial) (by rw [← HX.out.1]; exact fun u hu => ndl_one [nd] u (by simpa [ndl] using hu)) (by omega) (by omega) (by rw [World.size_alloc]; omega) ?_
           intro A4 c4 w4 own4 g4 _
           have H4 := Lib.hid (show Below w.heap.size w w4 ∧ OwnS w4 (w.heap.size + 1) 58 9 A4 (n + 1) c4 (ndl (x ++ [nd])) from
             ⟨below_grown (HB.out.1.alloc HB.out.1.size _) g4 (by rw [World.size_alloc]; omega) (fun k e => by have := (HB.out.2.2.lt _ e).1; omega), by rw [ndl_snoc, HX.out.1]; rw [List.take_of_length_le (by rw [HLen.out]; exact Nat.le_refl _)] at own4; exact own4⟩)
           clear own4 g4 hsz))
      go_ret
      exact ⟨A4, c4, rfl, (H4.out.2.rx (by omega)).weak fun k _ hk => by have hk : w.heap.size + 1 ≤ k := hk; show w.heap.size ≤ k; omega, H4.out.1⟩
end Go.Proofs.YtjgkdfghjeodeaaGreatDoor
