/- automaton.table.targets. -/
import Derived.Test.YtjgkdfghjeodeaaGreatDoorT25
namespace Go.Proofs.YtjgkdfghjeodeaaGreatDoor
open Go.RowKit

def tgStep (t : Tbl) (s b : Nat) (o q : Nat) : Nat := if s.testBit q then o ||| 2 ^ ((t.nxt.getD q []).getD (t.cell.getD b 0) 0) else o
theorem targets_eq (t : Tbl) (s b : Nat) : targets t s b = (List.range t.nxt.length).foldl (tgStep t s b) 0 := rfl
theorem tg_lt (t : Tbl) (hw : WT t) (hn : t.nxt.length ≤ 64) (s b : Nat) (hb : b < 256) : ∀ i, i ≤ t.nxt.length → (List.range i).foldl (tgStep t s b) 0 < 18446744073709551616
  | 0, _ => Nat.zero_lt_succ _
  | i + 1, hi => by
    rw [List.range_succ, List.foldl_append, List.foldl_cons, List.foldl_nil]
    have ih := tg_lt t hw hn s b hb i (by omega)
    have hs := step_lt hw (p := i) (by omega) hb
    unfold tgStep
    split
    · exact Nat.or_lt_two_pow (n := 64) ih (Nat.pow_lt_pow_right (by decide) (by omega))
    · exact ih
theorem zero126 (w : World) : (zeroValue 126).run Tryz.prog w = .ok (.agg #[.int .u64 0]) w := by kernel_rfl
theorem size54 : (Tryz.prog.info? 54).map (·.size) = some 1 := by kernel_rfl
theorem bit_val (s i : Nat) (hs : s < 18446744073709551616) : bits BinOp.and IntKind.u64 ((s : Int) / 2 ^ min i 64) 1 = ((if s.testBit i then 1 else 0 : Nat) : Int) := by
  have e1 : ((s : Int) / 2 ^ min i 64) = ((s / 2 ^ min i 64 : Nat) : Int) := by
    rw [Int.natCast_ediv]; norm_cast
  have e2 : s / 2 ^ min i 64 < 18446744073709551616 := Nat.lt_of_le_of_lt (Nat.div_le_self _ _) hs
  have e4 : bits BinOp.and IntKind.u64 ((s / 2 ^ min i 64 : Nat) : Int) 1 = ((s / 2 ^ min i 64 &&& 1 : Nat) : Int) := bits_and_u64_nat (s / 2 ^ min i 64) 1 e2 (by decide)
  have h := bit_test s i hs
  rw [e1, e4, Nat.and_one_is_mod] at h
  rw [e1, e4, Nat.and_one_is_mod]
  have h2 : s / 2 ^ min i 64 % 2 < 2 := Nat.mod_lt _ (by decide)
  generalize s / 2 ^ min i 64 % 2 = k at h h2 ⊢
  cases hb : s.testBit i with
  | true =>
    rw [hb, beq_iff_eq] at h
    rw [h]; rfl
  | false =>
    rw [hb] at h
    have h3 : k ≠ 1 := fun e => by subst e; cases h
    have h4 : k = 0 := by omega
    rw [h4]; rfl
theorem shl_or (o v : Nat) (ho : o < 18446744073709551616) (hv : v < 64) : bits BinOp.or IntKind.u64 (o : Int) (IntKind.u64.wrap (2 ^ v)) = ((o ||| 2 ^ v : Nat) : Int) := by
  have h1 : (2 : Nat) ^ v < 2 ^ 64 := Nat.pow_lt_pow_right (by decide) hv
  have h2 : ((2 : Int) ^ v) = ((2 ^ v : Nat) : Int) := by norm_cast
  have h3 : IntKind.u64.wrap (2 ^ v) = ((2 ^ v : Nat) : Int) := by
    rw [IntKind.wrap_u64, h2]
    generalize 2 ^ v = k at *
    omega
  rw [h3]
  exact bits_or_u64_nat o (2 ^ v) ho (by omega)
set_option maxRecDepth 100000 in
set_option maxHeartbeats 2000000 in
theorem targets_c (t : Tbl) (cs : Array Value) (s b : Nat) (w : World) (hR : RT w TT cs t) (hw : WT t) (hn64 : t.nxt.length ≤ 64) (hs : s < 18446744073709551616) (hb : b < 256) : Calls Tryz.prog 82 #[.agg cs, .agg #[vu s], vi b] w
    fun e w' => e = .returned (.agg #[vu (targets t s b)]) ∧ Below w.heap.size w w' := by
  have hsz := hR.size
  obtain ⟨A2, A3, c2, c3, hcs, hrr, hrl, hcl, hce, hlt⟩ := tab_fields hR
  have hcap := hrr.cap
  obtain ⟨n, hn⟩ : ∃ n, t.nxt.length = n := ⟨_, rfl⟩
  rw [hn] at hcap
  have hf : cs[257]? = some (.slice A2 n c2) := by rw [hcs, tcells_257 hcl, hn]
  have hn2 : n ≤ 64 := by rw [← hn]; exact hn64
  have HT := Lib.hid (And.intro hR (And.intro hw hn64))
  have HN := Lib.hid hn
  clear hR hcs hrr hrl hcl hce hlt hw hn hn64
  go_enter Tryz.func82, Tryz.ntmps82
  go_upto_region 2 with (first
    | (with_reducible refine at_oper (.box 73 (.tmp 0)) rfl ?_
       refine wpList_box_rowG w.heap.size rfl rfl 73 (.tmp 0) rfl cs rfl ?_
       intro w1 k1 b1 s1)
    | (with_reducible refine at_oper (.box 126 (.tmp 1)) rfl ?_
       refine wpList_box_rowG (w.heap.size + 1) s1 rfl 126 (.tmp 1) rfl #[vu s] rfl ?_
       intro w2 k2 b2 s2)
    | (with_reducible refine at_oper (.alloc 126) rfl ?_
       first
       | (refine wpList_alloc_rowG (w.heap.size + 1 + 1 + 1) s3 rfl 126 rfl _ zero126 ?_
          intro w4 k4 b4 s4)
       | (refine wpList_alloc_rowG (w.heap.size + 1 + 1) s2 rfl 126 rfl _ zero126 ?_
          intro w3 k3 b3 s3)))
  have H0 := Lib.hid (show Below w.heap.size w w4 ∧ Blk w4 w.heap.size 73 cs ∧ Blk w4 (w.heap.size + 1) 126 #[vu s] ∧ Blk w4 (w.heap.size + 1 + 1) 126 #[vu 0] ∧ Blk w4 (w.heap.size + 1 + 1 + 1) 126 #[vu 0] from
    ⟨((b1.trans (b2.mono b1.size)).trans (b3.mono (by omega))).trans (b4.mono (by omega)), ((k1.old b2).old b3).old b4, (k2.old b3).old b4, k3.old b4, k4⟩)
  have f1 := H0.out.2.1.cell 257 |>.trans hf
  clear k1 k2 k3 k4 b1 b2 b3 b4 s1 s2 s3 s4
  go_wp2_with fail
  clear f1
  go_loopw [12] (fun s12 wr => ∃ (i o : Nat), i ≤ n ∧ s12 = vi i ∧ o = (List.range i).foldl (tgStep t s b) 0 ∧ Below w.heap.size w wr ∧ Blk wr w.heap.size 73 cs ∧ Blk wr (w.heap.size + 1) 126 #[vu s] ∧ Blk wr (w.heap.size + 1 + 1) 126 #[vu 0] ∧ Blk wr (w.heap.size + 1 + 1 + 1) 126 #[vu o]) (fun s12 _ => n - (intOf s12).toNat)
  case atStart => exact ⟨0, 0, Nat.zero_le _, rfl, rfl, H0.out⟩
  case round =>
    clear H0
    obtain ⟨i, o, hi, rfl, ho, hB, k1, k2, k3, k4⟩ := hrel
    have HO := Lib.hid ho
    have HK := Lib.hid (And.intro hB (And.intro k1 (And.intro k2 (And.intro k3 k4))))
    have hol : o < 18446744073709551616 := by rw [ho]; exact tg_lt t HT.out.2.1 HT.out.2.2 s b hb i (by rw [HN.out]; exact hi)
    have f2 : wr.cell? ⟨w.heap.size + 1, 0, none⟩ = some (vu s) := k2.cell 0
    clear ho hB k1 k2 k3 k4
    by_cases hin : i < n
    · have d1 : decide ((i : Int) < n) = true := by simp; omega
      obtain ⟨y, hy⟩ : ∃ y, s.testBit i = y := ⟨_, rfl⟩
      have hbt := bit_val s i hs
      rw [hy, show min i 64 = i by omega] at hbt
      have HY := Lib.hid hy
      clear hy
      cases y with
      | false =>
        replace hbt : bits BinOp.and IntKind.u64 ((s : Int) / 2 ^ i) 1 = 0 := hbt
        go_wp2_with fail
        go_roundw
        case rel => exact ⟨i + 1, o, by omega, by go_num, by
          rw [List.range_succ, List.foldl_append, List.foldl_cons, List.foldl_nil, ← HO.out, tgStep, HY.out]; rfl, HK.out⟩
        case measure => simp [intOf]; omega
      | true =>
        replace hbt : bits BinOp.and IntKind.u64 ((s : Int) / 2 ^ i) 1 = 1 := hbt
        go_upto_region 6 with fail
        have tc : TC wr w.heap.size t := ⟨⟨cs, HK.out.2.1, HT.out.1.below HK.out.1⟩, HT.out.2.1⟩
        obtain ⟨n', c1, C, c2', c, v, ax, ar, nf, h1, h2, hv, hv2, hv9, h3, h4⟩ := tc.next (p := i) (by rw [HN.out]; exact hin) hb
        have hS : NF wr w.heap.size i b n' c1 C c2' c v ax ar ∧ wr.cell? ⟨w.heap.size + 1 + 1 + 1, 0, none⟩ = some (vu o) := ⟨nf, HK.out.2.2.2.2.cell 0⟩
        have HV := Lib.hid hv
        have hv64 : v < 64 := by rw [HN.out] at hv2; omega
        clear nf hv tc hv2
        refine wp_region_ws (by kernel_rfl) [true, true, true, true, true, true, true, true, true, true, true, true, true, true, true, true, false] 16 (fun W => NF W w.heap.size i b n' c1 C c2' c v ax ar ∧ W.cell? ⟨w.heap.size + 1 + 1 + 1, 0, none⟩ = some (vu o)) (by decide +kernel) (fun _ _ d _ _ h => by cases d <;> exact h) hS ?_
        clear hS
        iterate 13 (refine ws_r ?_ (fun W hS => ?_) ?_; rotate_left; (focus (obtain ⟨⟨q1, q2, q3, q4⟩, q5⟩ := hS; go_simp; first | done | rfl | rw [if_pos (by omega)])); simp only [Act.put, List.setIfInBounds_toArray, List.set_cons_zero, List.set_cons_succ])
        have HE := Lib.hid (shl_or o v hol hv64)
        iterate 3 (refine ws_r ?_ (fun W hS => ?_) ?_; rotate_left; (focus (obtain ⟨⟨q1, q2, q3, q4⟩, q5⟩ := hS; go_simp; first | done | rfl | rw [if_pos (by omega)])); simp only [Act.put, List.setIfInBounds_toArray, List.set_cons_zero, List.set_cons_succ])
        refine ws_c ?_
        rw [HE.out]
        go_wp2_with (first
          | (with_reducible refine at_oper (.store 54 (.tmp 36) (.tmp 35)) rfl ?_
             refine wpList_store_at rfl 54 (.tmp 36) (.tmp 35) rfl rfl (w.heap.size + 1 + 1 + 1) 0 (vu (o ||| 2 ^ v)) #[vu o] 126 rfl rfl (blk_drew HK.out.2.2.2.2) (show 0 < 1 by decide) size54 rfl ?_
             intro w9 k9 o9
             have H9 := Lib.hid (And.intro k9 o9)
             clear k9 o9))
        first
          | refine ws_e ?_
          | (dsimp only [segQ]
             refine ⟨fun h => absurd h (by decide), ws_e ?_⟩)
        go_wp2_with fail
        go_roundw
        case rel =>
          have o9 : Only (w.heap.size + 1 + 1 + 1) wr w9 := ⟨H9.out.2.os, H9.out.2.tape, H9.out.2.output, H9.out.2.size, H9.out.2.block⟩
          exact ⟨i + 1, o ||| 2 ^ v, by omega, by go_num, by
            rw [List.range_succ, List.foldl_append, List.foldl_cons, List.foldl_nil, ← HO.out, tgStep, HY.out, if_pos rfl, HV.out], below_only HK.out.1 o9 (by omega), HK.out.2.1.only o9 (by omega), HK.out.2.2.1.only o9 (by omega), HK.out.2.2.2.1.only o9 (by omega), H9.out.1⟩
        case measure => simp [intOf]; omega
    · have d1 : decide ((i : Int) < n) = false := by simp; omega
      have hE : o = targets t s b := by rw [HO.out, show i = n by omega, targets_eq, HN.out]
      have HE := Lib.hid hE
      clear hE
      go_wp2_with (first
        | (with_reducible refine at_oper (.load 126 (.tmp 7)) rfl ?_
           refine wpList_load_blk rfl 126 (.tmp 7) rfl (w.heap.size + 1 + 1 + 1) rfl 126 #[vu o] _ HK.out.2.2.2.2 Tryz.underlying126 rfl size126 ?_)
        | (with_reducible refine at_oper (.store 126 (.tmp 6) (.tmp 38)) rfl ?_
           refine wpList_store_blk rfl 126 (.tmp 6) (.tmp 38) rfl rfl (w.heap.size + 1 + 1) #[vu o] #[vu 0] 126 rfl rfl HK.out.2.2.2.1 size126 rfl (by simp [Value.oneCell']) ?_
           intro w9 k9 o9
           have K9 := Lib.hid k9
           have O9 := Lib.hid o9
           clear k9 o9))
      refine bodyPost_ret (results_cell rfl _ _ (w.heap.size + 1 + 1) rfl 126 _ K9.out Tryz.underlying126 rfl size126) rfl ?_
      exact ⟨by rw [← HE.out], below_only HK.out.1 O9.out (by omega)⟩
end Go.Proofs.YtjgkdfghjeodeaaGreatDoor
