/- bits.OnesCount64, class.Size. -/
import Derived.Test.YtjgkdfghjeodeaaGreatDoorT20
import Derived.Test.YtjgkdfghjeodeaaGreatDoorT21
import Derived.WalkMore
import Derived.LoopN
namespace Go.Proofs.YtjgkdfghjeodeaaGreatDoor
open Go.RowKit

theorem nat_half (x k : Nat) : (x : Int) / (k : Int) = ((x / k : Nat) : Int) := by rw [Int.natCast_ediv]
theorem wrap_nat (n : Nat) (h : n < 18446744073709551616) : IntKind.u64.wrap (n : Int) = (n : Int) := by rw [IntKind.wrap_u64]; omega
theorem p256 : (256 : Nat) ^ 8 = 18446744073709551616 := by decide
theorem m85 : (6148914691236517205 : Int) = ((rep8 85 8 : Nat) : Int) := by decide
theorem m51 : (3689348814741910323 : Int) = ((rep8 51 8 : Nat) : Int) := by decide
theorem m15 : (1085102592571150095 : Int) = ((rep8 15 8 : Nat) : Int) := by decide
theorem sw1 (x : Nat) (hx : x < 18446744073709551616) : IntKind.u64.wrap (bits BinOp.and IntKind.u64 ((x : Int) / 2) 6148914691236517205 + bits BinOp.and IntKind.u64 (x : Int) 6148914691236517205) = ((st1 8 x : Nat) : Int) := by
  have h1 := (swar 8 x (by rw [p256]; exact hx)).1
  rw [p256] at h1
  rw [show (x : Int) / 2 = ((x / 2 : Nat) : Int) from nat_half x 2, m85, bits_and_u64_nat _ _ (by omega) (by decide), bits_and_u64_nat _ _ hx (by decide), ← Int.natCast_add]
  exact wrap_nat _ h1
theorem sw2 (x : Nat) (hx : x < 18446744073709551616) : IntKind.u64.wrap (bits BinOp.and IntKind.u64 (((st1 8 x : Nat) : Int) / 4) 3689348814741910323 + bits BinOp.and IntKind.u64 ((st1 8 x : Nat) : Int) 3689348814741910323) = ((st2 8 (st1 8 x) : Nat) : Int) := by
  obtain ⟨h1, h2, _, _⟩ := swar 8 x (by rw [p256]; exact hx)
  rw [p256] at h1 h2
  rw [show ((st1 8 x : Nat) : Int) / 4 = ((st1 8 x / 4 : Nat) : Int) from nat_half _ 4, m51, bits_and_u64_nat _ _ (by omega) (by decide), bits_and_u64_nat _ _ h1 (by decide), ← Int.natCast_add]
  exact wrap_nat (st2 8 (st1 8 x)) (by omega)
theorem sw3 (x : Nat) (hx : x < 18446744073709551616) : bits BinOp.and IntKind.u64 (IntKind.u64.wrap (((st2 8 (st1 8 x) : Nat) : Int) / 16 + ((st2 8 (st1 8 x) : Nat) : Int))) 1085102592571150095 = ((st3 8 (st2 8 (st1 8 x)) : Nat) : Int) := by
  obtain ⟨h1, h2, _, _⟩ := swar 8 x (by rw [p256]; exact hx)
  rw [p256] at h1 h2
  rw [show ((st2 8 (st1 8 x) : Nat) : Int) / 16 = ((st2 8 (st1 8 x) / 16 : Nat) : Int) from nat_half _ 16, m15, ← Int.natCast_add, wrap_nat _ (by omega), bits_and_u64_nat _ _ (by omega) (by decide)]
  rfl
theorem sw_end (x : Nat) (x3 x4 x5 x6 : Nat) (hx : x < 18446744073709551616) (h3 : st3 8 (st2 8 (st1 8 x)) = x3) (e4 : x4 = x3 + x3 / 256) (e5 : x5 = x4 + x4 / 65536) (e6 : x6 = x5 + x5 / 4294967296) :
    x6 % 128 = (memW x).length ∧ x6 < 9223372036854775808 ∧ x5 < 9223372036854775808 ∧ x4 < 9223372036854775808 ∧ x3 < 9223372036854775808 := by
  obtain ⟨_, _, _, h4⟩ := swar 8 x (by rw [p256]; exact hx)
  rw [h3] at h4
  rw [memW_cnt]
  simp only [bytesOf, List.map_cons, List.map_nil, List.sum_cons, List.sum_nil] at h4 ⊢
  have hf := fold_sum _ _ _ _ _ _ _ _ x3 x4 x5 x6 (cntB_le _) (cntB_le _) (cntB_le _) (cntB_le _) (cntB_le _) (cntB_le _) (cntB_le _) (cntB_le _) (by rw [h4]; rfl) e4 e5 e6
  refine ⟨?_, hf.2⟩
  rw [hf.1]
  simp only [Nat.add_assoc, Nat.add_zero]
theorem add_div (x k : Nat) (x' : Nat) (h : x' = x + x / k) (hb : x' < 9223372036854775808) : IntKind.u64.wrap ((x : Int) + (x : Int) / (k : Int)) = (x' : Int) := by
  rw [nat_half, ← Int.natCast_add, ← h]
  exact wrap_nat _ (by omega)
theorem and127 (x : Nat) (h : x < 9223372036854775808) : bits BinOp.and IntKind.i64 (wrap64 (x : Int)) 127 = ((x % 128 : Nat) : Int) := by
  have h1 : wrap64 (x : Int) = (x : Int) := by unfold wrap64; omega
  rw [h1]
  have h2 : bits BinOp.and IntKind.i64 (x : Int) 127 = ((x &&& 127 : Nat) : Int) := by
    have hx : x &&& 127 ≤ 127 := Nat.and_le_right
    have h1 : (BitVec.ofInt 64 (x : Int)).toNat = x := by
      rw [BitVec.ofInt_natCast, BitVec.toNat_ofNat]; exact Nat.mod_eq_of_lt (by omega)
    have h2 : (BitVec.ofInt 64 (127 : Int)).toNat = 127 := by decide
    show IntKind.i64.wrap ((BitVec.ofInt 64 (x : Int) &&& BitVec.ofInt 64 (127 : Int)).toNat : Int) = _
    rw [BitVec.toNat_and, h1, h2, IntKind.wrap_i64]
    omega
  rw [h2, show (127 : Nat) = 2 ^ 7 - 1 from rfl, Nat.and_two_pow_sub_one_eq_mod]
set_option maxRecDepth 100000 in
theorem ones_c (x : Nat) (hx : x < 18446744073709551616) (w : World) : Calls Tryz.prog 101 #[vu x] w fun e w' => e = .returned (vi (memW x).length) ∧ w' = w := by
  go_enter Tryz.func101, Tryz.ntmps101
  go_upto_region 2 with fail
  rw [sw1 x hx]
  have h2 := sw2 x hx
  have h3 := sw3 x hx
  obtain ⟨x1, hx1⟩ : ∃ x1, st1 8 x = x1 := ⟨_, rfl⟩
  rw [hx1] at h2 h3 ⊢
  obtain ⟨x2, hx2⟩ : ∃ x2, st2 8 x1 = x2 := ⟨_, rfl⟩
  rw [hx2] at h2 h3
  obtain ⟨x3, hx3⟩ : ∃ x3, st3 8 x2 = x3 := ⟨_, rfl⟩
  rw [hx3] at h3
  have he := sw_end x x3 (x3 + x3 / 256) (x3 + x3 / 256 + (x3 + x3 / 256) / 65536) (x3 + x3 / 256 + (x3 + x3 / 256) / 65536 + (x3 + x3 / 256 + (x3 + x3 / 256) / 65536) / 4294967296) hx (by rw [hx1, hx2, hx3]) rfl rfl rfl
  obtain ⟨x4, hx4⟩ : ∃ x4, x3 + x3 / 256 = x4 := ⟨_, rfl⟩
  rw [hx4] at he
  obtain ⟨x5, hx5⟩ : ∃ x5, x4 + x4 / 65536 = x5 := ⟨_, rfl⟩
  rw [hx5] at he
  obtain ⟨x6, hx6⟩ : ∃ x6, x5 + x5 / 4294967296 = x6 := ⟨_, rfl⟩
  rw [hx6] at he
  have H2 := Lib.hid h2
  have H3 := Lib.hid h3
  have H4 := Lib.hid (add_div x3 256 x4 hx4.symm he.2.2.2.1)
  have H5 := Lib.hid (add_div x4 65536 x5 hx5.symm he.2.2.1)
  have H6 := Lib.hid (add_div x5 4294967296 x6 hx6.symm he.2.1)
  have H7 := Lib.hid (and127 x6 he.2.1)
  have H8 := Lib.hid he.1
  clear h2 h3 he hx1 hx2 hx3 hx4 hx5 hx6 hx
  go_upto_region 3 with fail
  rw [H2.out]
  go_upto_region 4 with fail
  rw [H3.out]
  go_upto_region 5 with fail
  rw [show (x3 : Int) / 256 = (x3 : Int) / ((256 : Nat) : Int) from rfl, H4.out]
  go_upto_region 6 with fail
  rw [show (x4 : Int) / 65536 = (x4 : Int) / ((65536 : Nat) : Int) from rfl, H5.out]
  go_upto_region 7 with fail
  rw [show (x5 : Int) / 4294967296 = (x5 : Int) / ((4294967296 : Nat) : Int) from rfl, H6.out]
  go_wp2_with fail
  rw [H7.out, H8.out]
  go_ret
  exact ⟨rfl, rfl⟩

set_option maxRecDepth 100000 in
set_option maxHeartbeats 1000000 in
theorem size_c (c : Nat) (w : World) : Calls Tryz.prog 51 #[encC c] w fun e w' => e = .returned (vi (sizeC c)) ∧ Below w.heap.size w w' := by
  obtain ⟨z, hz⟩ : ∃ z, encC c = z := ⟨_, rfl⟩
  have HZ := Lib.hid (show z = .agg (ccells c) from hz.symm)
  rw [hz]
  clear hz
  go_enter Tryz.func51, Tryz.ntmps51
  go_upto_region 2 with (first
    | (with_reducible refine at_oper (.box 56 (.tmp 0)) rfl ?_
       refine wpList_box_rowG w.heap.size rfl rfl 56 (.tmp 0) rfl (ccells c) HZ.out ?_
       intro w1 k1 b1 s1
       have H1 := Lib.hid (And.intro b1 k1)
       clear b1 k1 s1))
  go_wp2_with (first
    | (with_reducible refine at_oper (.load 56 (.tmp 1)) rfl ?_
       refine wpList_load_blk rfl 56 (.tmp 1) rfl w.heap.size rfl 56 (ccells c) _ H1.out.2 Tryz.underlying56 rfl size56 ?_))
  go_loopw [3, 7] (fun s3 s7 wr => ∃ (i n : Nat), i ≤ 4 ∧ s7 = vi i ∧ s3 = vi n ∧ n + (tailC c i).length = sizeC c ∧ n ≤ 64 * i ∧ wr = w1) (fun _ s7 _ => 4 - (intOf s7).toNat)
  case atStart => exact ⟨0, 0, by omega, rfl, rfl, by rw [tailC_zero, Nat.zero_add]; rfl, by omega, rfl⟩
  case round =>
    obtain ⟨i, n, hi, rfl, rfl, hn, h64, rfl⟩ := hrel
    have HN := Lib.hid hn
    clear hn
    by_cases hlt : i < 4
    · have d1 : decide ((i : Int) < 4) = true := by simp; omega
      have hix : ∀ W, (Instr.index 56 (.agg (ccells c)) (vi i)).run Tryz.prog W = .ok (vu (wd c i)) W := fun W => index56 _ _ _ _ i _ (by
        rcases i with _ | _ | _ | _ | i
        · exact .inl ⟨rfl, rfl⟩
        · exact .inr (.inl ⟨rfl, rfl⟩)
        · exact .inr (.inr (.inl ⟨rfl, rfl⟩))
        · exact .inr (.inr (.inr ⟨rfl, rfl⟩))
        · omega) W
      have HT := Lib.hid (tailC_succ c i hlt)
      have hwl := wd_lt c i
      have hml : (memW (wd c i)).length ≤ 64 := by
        have := List.length_filter_le (fun j => (wd c i).testBit j) (List.range 64)
        rw [List.length_range] at this
        exact this
      obtain ⟨m, hm⟩ : ∃ m, (memW (wd c i)).length = m := ⟨_, rfl⟩
      have HM := Lib.hid hm
      rw [hm] at hml
      obtain ⟨x, hx⟩ : ∃ x, wd c i = x := ⟨_, rfl⟩
      have HO := Lib.hid (show ∀ W, Calls Tryz.prog 101 #[vu x] W fun e w' => e = .returned (vi m) ∧ w' = W from fun W => by
        have := ones_c x (by rw [← hx]; exact hwl) W
        rw [← hx, hm] at this
        rw [← hx]
        exact this)
      rw [hx] at hix
      generalize ccells c = A at *
      clear hm hx hwl
      go_wp2_with (first
        | (go_at_call 101
           refine (HO.out _).mono ?_
           rintro e w' ⟨rfl, rfl⟩))
      go_roundw
      case rel =>
        refine ⟨i + 1, n + m, by omega, by go_num, by go_num, ?_, by omega, trivial⟩
        have h := HN.out
        rw [HT.out, List.length_append, List.length_map, HM.out] at h
        omega
      case measure => simp [intOf]; omega
    · have d1 : decide ((i : Int) < 4) = false := by simp; omega
      have HE := Lib.hid (show n = sizeC c by
        have := HN.out
        rw [show i = 4 by omega, tailC_four] at this
        simpa using this)
      go_wp2_with fail
      rw [HE.out]
      go_ret
      exact ⟨rfl, H1.out.1⟩

section
variable {P : Program} {ops : Array Oper} {Q : Exit → Act → World → Prop} {md : Region.Mode} {S : World → Prop}
def WQ (P : Program) (ops : Array Oper) (Q : Exit → Act → World → Prop) (S : World → Prop) (z : Nat) : List (Nat × Bool) → Act → World → Prop
  | (i, true) :: f, a, w => ∃ o v, ops[i]? = some o ∧ YieldsIf P ops S o v a ∧ WQ P ops Q S z f (a.put o.dst v) w
  | (i, false) :: f, a, w => ∃ o, ops[i]? = some o ∧ wpList P ops (segQ Q fun a' w' => (i < z → S w') ∧ WQ P ops Q S z f a' w') [o] a w
  | [], a, w => Q .normal a w
theorem wq_c {z i : Nat} {f : List (Nat × Bool)} {o : Oper} {a : Act} {w : World} (ho : ops[i]? = some o) (h : wpList P ops (segQ Q fun a' w' => (i < z → S w') ∧ WQ P ops Q S z f a' w') [o] a w) : WQ P ops Q S z ((i, false) :: f) a w := ⟨o, ho, h⟩
theorem wq_r {z i : Nat} {f : List (Nat × Bool)} {o : Oper} {a : Act} {w : World} (ho : ops[i]? = some o) (v : Value) (h1 : ∀ W, S W → (execOp a.eval o).run P W = .ok (.value v) W) (h2 : WQ P ops Q S z f (a.put o.dst v) w) (hg : o.guard = none := by rfl) : WQ P ops Q S z ((i, true) :: f) a w := ⟨o, v, ho, .inl ⟨by simp [Region.wanted, hg], h1⟩, h2⟩
/-- its guard is met -/
theorem wq_g {z i : Nat} {f : List (Nat × Bool)} {o : Oper} {a : Act} {w : World} (ho : ops[i]? = some o) (hw : Region.wanted o (yielded ops a.tmps) = true) (v : Value) (h1 : ∀ W, S W → (execOp a.eval o).run P W = .ok (.value v) W) (h2 : WQ P ops Q S z f (a.put o.dst v) w) : WQ P ops Q S z ((i, true) :: f) a w := ⟨o, v, ho, .inl ⟨hw, h1⟩, h2⟩
/-- .. is not -/
theorem wq_s {z i : Nat} {f : List (Nat × Bool)} {o : Oper} {a : Act} {w : World} (ho : ops[i]? = some o) (hw : Region.wanted o (yielded ops a.tmps) = false) (h2 : WQ P ops Q S z f (a.put o.dst undef) w) : WQ P ops Q S z ((i, true) :: f) a w := ⟨o, undef, ho, .inr ⟨hw, rfl⟩, h2⟩
theorem wq_e {z : Nat} {a : Act} {w : World} (h : Q .normal a w) : WQ P ops Q S z [] a w := h
def wqB (md : Region.Mode) (ops : Array Oper) (z : Nat) : List (Nat × Bool) → Bool → Array Bool → Bool
  | (i, true) :: f, lv, listed => (lv && (ops[i]?.isSome && (Region.free md ops listed i && ((Region.ready md ops listed).contains i && lateB2 md ops z i)))) && wqB md ops z f lv (listed.setIfInBounds i true)
  | (i, false) :: f, lv, listed => decide (Region.ready md ops listed = [i]) && wqB md ops z f (lv && decide (i < z)) (listed.setIfInBounds i true)
  | [], _, listed => (Region.ready md ops listed).isEmpty
theorem wq_any {z : Nat} (hsel : Region.noSelect ops = true) (hQ : ∀ c (a : Act) d v w, Q (.panic c) (a.put d v) w → Q (.panic c) a w) :
    ∀ (f : List (Nat × Bool)) (lv : Bool) (listed : Array Bool) (a : Act) (w : World), Shut md ops listed → wqB md ops z f lv listed = true → (lv = true → S w) → WQ P ops Q S z f a w → wpAnyD P md ops Q S z f.length listed a w
  | [], lv, listed, a, w, _, hB, _, h => ⟨by simpa [wqB] using hB, by simpa [WQ] using h⟩
  | (i, true) :: f, lv, listed, a, w, hsh, hB, hS, h => by
    obtain ⟨o, v, ho, hv, h⟩ := h
    rw [wqB, ho] at hB
    simp only [Bool.and_eq_true] at hB
    obtain ⟨⟨hlv, _, b1, b2, b3⟩, b4⟩ := hB
    have hrd : i ∈ Region.ready md ops listed := by simpa using b2
    refine wpAnyD_first2 ho (Region.noSelect_spec hsel) (fun c a w => hQ c a _ _ w) b3 f.length listed a w hsh (Region.free_spec ho b1) hrd hv (hS hlv) ?_
    exact wq_any hsel hQ f lv _ _ w (hsh.put hrd) b4 hS h
  | (i, false) :: f, lv, listed, a, w, hsh, hB, hS, h => by
    obtain ⟨o, ho, h⟩ := h
    rw [wqB, Bool.and_eq_true, decide_eq_true_eq] at hB
    refine ⟨fun h0 => (by rw [hB.1] at h0; cases h0), fun j hj => ?_⟩
    have hrd : i ∈ Region.ready md ops listed := by rw [hB.1]; simp
    rw [hB.1] at hj
    obtain rfl : j = i := by simpa using hj
    have h2 : wpOp P ops (segQ Q fun a' w' => (j < z → S w') ∧ WQ P ops Q S z f a' w') j (fun a' w' => (j < z → S w') ∧ WQ P ops Q S z f a' w') a w := by
      unfold wpOp
      simp only [ho]
      exact h
    refine wpOp_mono (fun a' w' h' => ⟨fun hz => h'.1 hz, ?_⟩) (wpOp_seg h2)
    exact wq_any hsel hQ f _ _ a' w' (hsh.put hrd) hB.2 (fun hl => by
      simp only [Bool.and_eq_true, decide_eq_true_eq] at hl
      exact h'.1 hl.2) h'.2
/-- **A drawn region by a script in any order.** -/
theorem wp_region_wq {id : Nat} {a : Act} {w : World} {l : List Oper} (hm : P.follows .mixedOrders = true) (f : List (Nat × Bool)) (z : Nat) (S : World → Prop)
    (hB : (Region.noSelect l.toArray && (decide (l.length = f.length) && wqB .any l.toArray z f true (Array.replicate l.length false))) = true)
    (hQ : ∀ c (a : Act) d v w, Q (.panic c) (a.put d v) w → Q (.panic c) a w)
    (hS : S w.drew) (h : WQ P l.toArray Q S z f a w.drew) : (Code.region id l.toArray true).wp P Q a w := by
  simp only [Bool.and_eq_true, decide_eq_true_eq] at hB
  obtain ⟨h1, h2, h3⟩ := hB
  have c1 := wq_any (md := .any) h1 hQ f true _ a _ (shut_none _) h3 (fun _ => hS) h
  rw [← h2] at c1
  exact wp_region_any hm (by simpa using wpAny_of_D _ _ _ _ c1)
end

set_option maxRecDepth 100000 in
theorem len64_c (n : Nat) (hn : n < 3) (w : World) : Calls Tryz.prog 144 #[vu n] w fun e w' => (∃ x : Int, e = .returned (.int .i64 x)) ∧ w' = w := by
  have h : n = 0 ∨ n = 1 ∨ n = 2 := by omega
  rcases h with rfl | rfl | rfl
  all_goals
    go_enter Tryz.func144, Tryz.ntmps144
    go_wp2_with fail
    go_ret
    exact ⟨⟨_, rfl⟩, rfl⟩

set_option maxRecDepth 100000 in
theorem len_c (n : Nat) (hn : n < 3) (w : World) : Calls Tryz.prog 125 #[vu n] w fun e w' => (∃ x : Int, e = .returned (.int .i64 x)) ∧ w' = w := by
  have HN := Lib.hid hn
  clear hn
  obtain ⟨v, hv⟩ : ∃ v, v = vu n := ⟨_, rfl⟩
  rw [← hv]
  have HV := Lib.hid hv
  clear hv
  go_enter Tryz.func125, Tryz.ntmps125
  go_wp2_with (first
    | (go_at_call 144
       refine ((show Calls Tryz.prog 144 #[v] w _ from HV.out ▸ len64_c n HN.out w)).mono ?_
       rintro e w' ⟨⟨x, rfl⟩, rfl⟩))
  go_ret
  exact ⟨⟨_, rfl⟩, rfl⟩

theorem leastI_bnd (c : Nat) : -1 ≤ leastI c ∧ leastI c < 256 := by
  unfold leastI
  split
  · omega
  · rename_i b r h
    have : b ∈ bytesC c := by rw [h]; exact List.mem_cons_self
    have := (mem_bytesC.1 this).1
    omega
set_option maxRecDepth 100000 in
theorem cmp_c (a b : Nat) (w : World) (hT : Tab w) (hh : 0 < w.heap.size) : Calls Tryz.prog 111 #[encC a, encC b] w (Gives w (.int .i64 (leastI a - leastI b))) := by
  have HT := Lib.hid (And.intro hT hh)
  clear hT hh
  go_enter Tryz.func111, Tryz.ntmps111
  go_upto_region 1 with (first
    | (with_reducible refine at_oper (.box 56 (.tmp 0)) rfl ?_
       refine wpList_box_rowG w.heap.size rfl rfl 56 (.tmp 0) rfl (ccells a) rfl ?_
       intro w1 k1 b1 s1)
    | (with_reducible refine at_oper (.box 56 (.tmp 1)) rfl ?_
       refine wpList_box_rowG (w.heap.size + 1) s1 rfl 56 (.tmp 1) rfl (ccells b) rfl ?_
       intro w2 k2 b2 s2
       have H2 := Lib.hid (show Below w.heap.size w w2 ∧ Blk w2 w.heap.size 56 (ccells a) ∧ Blk w2 (w.heap.size + 1) 56 (ccells b) from ⟨b1.trans (b2.mono (by omega)), k1.old (s1 ▸ b2), k2⟩)
       clear k1 b1 s1 k2 b2 s2))
  have d1 := H2.out.2.1
  have d2 := H2.out.2.2
  have ha := leastI_bnd a
  have hb := leastI_bnd b
  obtain ⟨x, hx⟩ : ∃ x, leastI a = x := ⟨_, rfl⟩
  obtain ⟨y, hy⟩ : ∃ y, leastI b = y := ⟨_, rfl⟩
  rw [hx] at ha
  rw [hy] at hb
  rw [hx, hy]
  have HXY := Lib.hid (And.intro hx hy)
  have hw : IntKind.i64.wrap (x - y) = x - y := i64_wrap _ (by omega)
  clear hx hy
  refine wp_region_wq (by kernel_rfl) [(0, true), (2, true), (1, false), (3, false), (4, false), (5, false)] 4 (fun W => Blk W w.heap.size 56 (ccells a) ∧ Blk W (w.heap.size + 1) 56 (ccells b)) (by decide +kernel) (fun _ _ d _ _ h => by cases d <;> exact h) ⟨d1, d2⟩ ?_
  clear d1 d2
  refine wq_r (by simp only [List.getElem?_toArray, List.getElem?_cons_zero]; rfl) (encC a) (fun W hS => run_load_blk 56 (.tmp 2) rfl w.heap.size rfl 56 (ccells a) _ hS.1 Tryz.underlying56 rfl size56) ?_
  simp only [Act.put, List.setIfInBounds_toArray, List.set_cons_zero, List.set_cons_succ]
  refine wq_r (by simp only [List.getElem?_toArray, List.getElem?_cons_succ, List.getElem?_cons_zero]; rfl) (encC b) (fun W hS => run_load_blk 56 (.tmp 3) rfl (w.heap.size + 1) rfl 56 (ccells b) _ hS.2 Tryz.underlying56 rfl size56) ?_
  simp only [Act.put, List.setIfInBounds_toArray, List.set_cons_zero, List.set_cons_succ]
  refine wq_c (by simp only [List.getElem?_toArray, List.getElem?_cons_succ, List.getElem?_cons_zero]; rfl) ?_
  go_wp2_with (first
    | (go_at_call 77
       refine (least_c a w2.drew ((HT.out.1.mono HT.out.2 H2.out.1.drew)) (by have := H2.out.2.1.lt; show 0 < w2.heap.size; omega)).mono ?_
       rintro e w3 ⟨rfl, b3⟩
       rw [HXY.out.1]
       have H3 := Lib.hid (show Below w.heap.size w w3 ∧ Blk w3 w.heap.size 56 (ccells a) ∧ Blk w3 (w.heap.size + 1) 56 (ccells b) from ⟨H2.out.1.drew.trans (b3.mono H2.out.1.size), (blk_drew H2.out.2.1).old b3, (blk_drew H2.out.2.2).old b3⟩)
       clear b3))
  dsimp only [segQ]
  refine ⟨fun _ => H3.out.2, ?_⟩
  refine wq_c (by simp only [List.getElem?_toArray, List.getElem?_cons_succ, List.getElem?_cons_zero]; rfl) ?_
  go_wp2_with (first
    | (go_at_call 77
       refine (least_c b w3 ((HT.out.1.mono HT.out.2 H3.out.1)) (by have := HT.out.2; have := H3.out.1.size; omega)).mono ?_
       rintro e w4 ⟨rfl, b4⟩
       rw [HXY.out.2]
       have H4 := Lib.hid (show Below w.heap.size w w4 ∧ Blk w4 w.heap.size 56 (ccells a) ∧ Blk w4 (w.heap.size + 1) 56 (ccells b) from ⟨H3.out.1.trans (b4.mono H3.out.1.size), H3.out.2.1.old b4, H3.out.2.2.old b4⟩)
       clear b4))
  dsimp only [segQ]
  refine ⟨fun _ => H4.out.2, ?_⟩
  refine wq_c (by simp only [List.getElem?_toArray, List.getElem?_cons_succ, List.getElem?_cons_zero]; rfl) ?_
  go_wp2_with fail
  dsimp only [segQ]
  refine ⟨fun h => absurd h (by decide), ?_⟩
  refine wq_c (by simp only [List.getElem?_toArray, List.getElem?_cons_succ, List.getElem?_cons_zero]; rfl) ?_
  go_wp2_with fail
  dsimp only [segQ]
  refine ⟨fun h => absurd h (by decide), ?_⟩
  refine wq_e ?_
  go_wp2_with fail
  go_ret
  exact ⟨by rw [HXY.out.1, HXY.out.2]; rfl, H4.out.1⟩

set_option maxRecDepth 100000 in
theorem pdq_c (A : Option Addr) (n c : Nat) (hn : n < 3) (x : Int) (f : Value) (w : World) (R : World → Prop) (h : Calls Tryz.prog 135 #[.slice A n c, vi 0, vi n, f] w fun e w' => (∃ v, e = .returned v) ∧ R w') :
    Calls Tryz.prog 124 #[.slice A n c, vi 0, vi n, .int .i64 x, f] w fun e w' => (∃ v, e = .returned v) ∧ R w' := by
  have HI := Lib.hid h
  have d1 : decide ((n : Int) ≤ 12) = true := by simp; omega
  clear h
  go_enter Tryz.func124, Tryz.ntmps124
  go_wp2_with fail
  refine wp_loop_rounds 1 ?_
  rw [rounds_succ]
  have hw : IntKind.i64.wrap (n : Int) = (n : Int) := i64_wrap _ (by omega)
  go_wp2_with (first
    | (go_at_call 135
       refine HI.out.mono ?_
       rintro e w3 ⟨⟨v, rfl⟩, hR⟩
       have H3 := Lib.hid hR
       clear hR))
  refine bodyPost_ret (results_none rfl _ _ _) rfl ?_
  exact ⟨⟨_, rfl⟩, H3.out⟩
set_option maxRecDepth 100000 in
theorem sortf_c (A : Option Addr) (n c : Nat) (hn : n < 3) (f : Value) (w : World) (R : World → Prop) (h : Calls Tryz.prog 135 #[.slice A n c, vi 0, vi n, f] w fun e w' => (∃ v, e = .returned v) ∧ R w') :
    Calls Tryz.prog 110 #[.slice A n c, f] w fun e w' => (∃ v, e = .returned v) ∧ R w' := by
  have HI := Lib.hid (And.intro h hn)
  clear h
  go_enter Tryz.func110, Tryz.ntmps110
  have hw : IntKind.u64.wrap (n : Int) = (n : Int) := by rw [IntKind.wrap_u64]; omega
  go_wp2_with (first
    | (go_at_call 125
       refine (len_c n HI.out.2 w).mono ?_
       rintro e w' ⟨⟨x, rfl⟩, rfl⟩)
    | (go_at_call 124
       refine (pdq_c A n c HI.out.2 x f w' R HI.out.1).mono ?_
       rintro e w3 ⟨⟨v, rfl⟩, hR⟩
       have H3 := Lib.hid hR
       clear hR))
  go_end0
  exact ⟨⟨_, rfl⟩, H3.out⟩
set_option maxRecDepth 100000 in
theorem clone64_c (K : Nat → Prop) (ad : Addr) (n c : Nat) (l : List Nat) (w : World) (h : RN w K (some ad) n c l) : Calls Tryz.prog 78 #[.slice (some ad) n c] w
    fun e w' => ∃ A' c', e = .returned (.slice A' n c') ∧ RN w' (fun k => w.heap.size ≤ k) A' n c' l ∧ Below w.heap.size w w' := by
  have e1 := h.cap
  have hn := h.big
  have H := Lib.hid h
  clear h
  have hcl := fun (W : World) (hb : Below w.heap.size w W) => (H.out.below hb).sl
  have hq : ∀ (W : World) (a : Addr), (binOp .eql 64 (.slice (some a) n c) (.slice none 0 0)).run Tryz.prog W = .ok (.bool false) W := fun W a => Lib.run_eql_slice_nil W 64 _ (some a) n c 0 0 Tryz.underlying64
  go_enter Tryz.func78, Tryz.ntmps78
  go_wp2_with (first
    | (at_builtin
       refine wpList_appendSS rfl (.tmp 5) (.tmp 6) 64 rfl (AppS.of (.int .i64 0) (by decide) Tryz.underlying64 info3 rfl) w.heap.size (some ⟨w.heap.size, 0, none⟩) 0 0 [] rfl (Own.lit 3 #[] 0 (Nat.le_refl _) (by decide) rfl) (some ad) n c (vis l) rfl (by rw [vis_len, H.out.len, Nat.mul_one]) (hcl _ ((Below.refl _ _).alloc (Nat.le_refl _) _)) (vis_one l) (by omega) (by omega) (by rw [World.size_alloc]; omega) ?_
       intro A9 c9 w9 hown hgr hA
       have hb9 : Below w.heap.size w w9 := below_grown ((Below.refl _ _).alloc (Nat.le_refl _) _) hgr (by rw [World.size_alloc]; omega) (fun k e => by cases e; exact Nat.le_refl _)
       have H9 := Lib.hid (show Own w9 w.heap.size 3 A9 (0 + n) c9 (vis l) ∧ Below w.heap.size w w9 from ⟨hown, hb9⟩)
       clear hown hgr hA hb9))
  go_ret
  have ho := H9.out.1
  rw [Nat.zero_add] at ho
  refine ⟨A9, c9, rfl, ?_, H9.out.2⟩
  exact ⟨H.out.len, ho.cap.1, hn, ho.cap.2, H.out.lt, ho.sl fun g hg => (ho.lt g hg).1⟩
end Go.Proofs.YtjgkdfghjeodeaaGreatDoor
