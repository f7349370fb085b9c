/- class.Cells at no class and at one. -/
import Derived.Test.YtjgkdfghjeodeaaGreatDoorT31
import Derived.Test.YtjgkdfghjeodeaaGreatDoorT34
namespace Go.Proofs.YtjgkdfghjeodeaaGreatDoor
open Go.RowKit

theorem notC_zero : notC 0 = allC := by unfold notC; simp
theorem encC_zero : encC 0 = .agg #[.int .u64 0, .int .u64 0, .int .u64 0, .int .u64 0] := by unfold encC ccells; simp [wd]
theorem fold_cc (x : Nat) : Array.foldl (fun cs (x : Value × Nat) => cs.setIfInBounds x.snd x.fst) #[Value.int .u64 0, .int .u64 0, .int .u64 0, .int .u64 0] ((ccells x).zipIdx) 0 4 = ccells x := by
  simp [ccells]
set_option maxRecDepth 100000 in
theorem cells0_c (w : World) (hT : Tab w) (hh : 0 < w.heap.size) : Calls Tryz.prog 74 #[.slice none 0 0] w
    fun e w' => ∃ A c', e = .returned (.slice A 1 c') ∧ RC w' (fun k => w.heap.size ≤ k) A 1 c' [allC] ∧ Below w.heap.size w w' := by
  have HT := Lib.hid (And.intro hT hh)
  clear hT hh
  obtain ⟨CC, hCC⟩ : ∃ CC, ccells allC = CC := ⟨_, rfl⟩
  have zCC : CC.size = 4 := by rw [← hCC]; rfl
  have HCC := Lib.hid (And.intro hCC (show encC allC = .agg CC by rw [← hCC]; rfl))
  clear hCC
  have hb56 : Tryz.prog.built 56 [] = some #[.int .u64 0, .int .u64 0, .int .u64 0, .int .u64 0] := by kernel_rfl
  go_enter Tryz.func74, Tryz.ntmps74
  go_wp2_with (first
    | (go_at_call 48
       rw [← encC_zero]
       refine (not_class_c 0 _).mono ?_
       rintro e w3 ⟨rfl, hb⟩
       rw [notC_zero, HCC.out.2]
       have H3 := Lib.hid hb
       clear hb))
  refine wp_loop_rounds 1 ?_
  rw [rounds_succ]
  go_wp2_with (first
    | (go_at_call 110
       rw [show CC = ccells allC from HCC.out.1.symm, fold_cc]
       have hb4 : Below w.heap.size w (w3.alloc (.cells (ccells allC) 56)) := H3.out.alloc H3.out.size _
       refine (sortf_c (some ⟨w3.heap.size, 0, none⟩) 1 1 (by decide) _ (w3.alloc (.cells (ccells allC) 56)) (fun W => W = w3.alloc (.cells (ccells allC) 56)) (ins1_c _ 1 1 (by decide) _ _)).mono ?_
       rintro e w5 ⟨⟨v, rfl⟩, rfl⟩
       have H5 := Lib.hid hb4
       clear hb4))
  go_ret
  have h := (OwnS.lit (w := w3) (base := w.heap.size) 56 4 1 (ccells allC) H3.out.size (by decide) rfl)
  exact ⟨some ⟨w3.heap.size, 0, none⟩, 1, rfl, (show OwnS _ w.heap.size 56 4 _ 1 1 (ccl [allC]) by simpa [ccl] using h).rc (by decide), H5.out⟩

/-- two classes in an array -/
def cc2 (a b : Nat) : Array Value := #[vu (wd a 0), vu (wd a 1), vu (wd a 2), vu (wd a 3), vu (wd b 0), vu (wd b 1), vu (wd b 2), vu (wd b 3)]
theorem built154 (a b : Nat) : Tryz.prog.built 154 [(0, encC a), (1, encC b)] = some (cc2 a b) := by kernel_rfl
/-- a class and what it leaves have different least bytes -/
theorem sort2_eq (c : Nat) (hc : c < 2 ^ 256) (h0 : c ≠ 0) (h1 : notC c ≠ 0) : (if leastC c < leastC (notC c) then [c, notC c] else [notC c, c]) = if leastI (notC c) - leastI c < 0 then [notC c, c] else [c, notC c] := by
  have key : ∀ x, x < 2 ^ 256 → x ≠ 0 → leastI x = (leastC x : Int) ∧ x.testBit (leastC x) = true ∧ leastC x < 256 := fun x hx hx0 => by
    obtain ⟨j, hj⟩ := Nat.exists_testBit_of_ne_zero hx0
    have hj2 : j < 256 := by
      refine Classical.byContradiction fun h => ?_
      have := Nat.testBit_lt_two_pow (Nat.lt_of_lt_of_le hx (Nat.pow_le_pow_right (by decide) (by omega : 256 ≤ j)))
      rw [this] at hj
      cases hj
    have hm := mem_bytesC.2 ⟨hj2, hj⟩
    unfold leastI leastC
    cases hb : bytesC x with
    | nil => rw [hb] at hm; cases hm
    | cons b r =>
      have := mem_bytesC.1 (show b ∈ bytesC x by rw [hb]; exact List.mem_cons_self)
      exact ⟨rfl, this.2, this.1⟩
  obtain ⟨e1, b1, l1⟩ := key c hc h0
  obtain ⟨e2, b2, l2⟩ := key (notC c) (notC_lt c hc) h1
  have hne : leastC c ≠ leastC (notC c) := fun e => by
    rw [← e] at b2
    unfold notC allC at b2
    rw [Nat.testBit_xor, Nat.testBit_two_pow_sub_one, b1] at b2
    simp [l1] at b2
  rw [e1, e2]
  by_cases h : leastC c < leastC (notC c)
  · rw [if_pos h, if_neg (by omega)]
  · rw [if_neg h, if_pos (by omega)]
theorem run_index154a {o : Oper} {ρ : Operand → Value} {w : World} (x y : Operand) (ho : o.op = .index 154 x y) (a b : Nat) (hx : ρ x = .agg (cc2 a b)) (hy : ρ y = vi 0) : (execOp ρ o).run Tryz.prog w = .ok (.value (encC a)) w := by
  unfold execOp
  simp only [ho, hx, hy]
  kernel_rfl
theorem run_index154b {o : Oper} {ρ : Operand → Value} {w : World} (x y : Operand) (ho : o.op = .index 154 x y) (a b : Nat) (hx : ρ x = .agg (cc2 a b)) (hy : ρ y = vi 1) : (execOp ρ o).run Tryz.prog w = .ok (.value (encC b)) w := by
  unfold execOp
  simp only [ho, hx, hy]
  kernel_rfl
set_option maxRecDepth 100000 in
set_option maxHeartbeats 4000000 in
theorem cells1_c (K : Nat → Prop) (A : Option Addr) (c1 c : Nat) (w : World) (hr : RC w K A 1 c1 [c]) (hc : c < 2 ^ 256) (hc0 : c ≠ 0) (hT : Tab w) (hh : 0 < w.heap.size) : Calls Tryz.prog 74 #[.slice A 1 c1] w
    fun e w' => ∃ A' c', e = .returned (.slice A' (cells1 c).length c') ∧ RC w' (fun k => w.heap.size ≤ k) A' (cells1 c).length c' (cells1 c) ∧ Below w.heap.size w w' := by
  obtain ⟨ad, rfl, _, q0⟩ := hr.at_ (k := 0) (by decide)
  have HT := Lib.hid (And.intro hT (And.intro hh (And.intro hr (And.intro hc hc0))))
  have HQ := Lib.hid q0
  have hcap := hr.cap
  clear hT hh hr q0 hc hc0
  obtain ⟨CC, hCC⟩ : ∃ CC, ccells allC = CC := ⟨_, rfl⟩
  obtain ⟨DD, hDD⟩ : ∃ DD, ccells c = DD := ⟨_, rfl⟩
  have zCC : CC.size = 4 := by rw [← hCC]; rfl
  have zDD : DD.size = 4 := by rw [← hDD]; rfl
  have HCC := Lib.hid (And.intro hCC (show encC allC = .agg CC by rw [← hCC]; rfl))
  have HDD := Lib.hid (And.intro hDD (show encC c = .agg DD by rw [← hDD]; rfl))
  clear hCC hDD
  have hb56 : Tryz.prog.built 56 [] = some #[.int .u64 0, .int .u64 0, .int .u64 0, .int .u64 0] := by kernel_rfl
  go_enter Tryz.func74, Tryz.ntmps74
  go_wp2_with (first
    | (go_at_call 48
       rw [← encC_zero]
       refine (not_class_c 0 _).mono ?_
       rintro e w3 ⟨rfl, hb⟩
       rw [notC_zero, HCC.out.2]
       have H3 := Lib.hid hb
       clear hb))
  have hf : Array.foldl (fun cs (x : Value × Nat) => cs.setIfInBounds x.snd x.fst) #[Value.int .u64 0, .int .u64 0, .int .u64 0, .int .u64 0] CC.zipIdx 0 4 = CC := by rw [← HCC.out.1]; exact fold_cc allC
  rw [hf]
  clear hf
  have H4 := Lib.hid (show Below w.heap.size w (w3.alloc (.cells CC 56)) ∧ Blk (w3.alloc (.cells CC 56)) w3.heap.size 56 (ccells allC) from ⟨H3.out.alloc H3.out.size _, by rw [HCC.out.1]; exact Blk.new w3 56 CC⟩)
  have hg3 : w.heap.size ≤ w3.heap.size := H3.out.size
  clear H3
  generalize w3.alloc (.cells CC 56) = w4 at *
  generalize w3.heap.size = g3 at *
  refine wp_loop_rounds 2 ?_
  rw [rounds_succ]
  go_upto_region 6 with (first
    | (with_reducible refine at_oper (.load 56 (.tmp 18)) rfl ?_
       refine wpList_load_class rfl (.tmp 18) rfl ad rfl c (fun j v hv => cell_below H4.out.1 (HQ.out j v hv)) ?_
       rw [HDD.out.1])
    | (with_reducible refine at_oper (.alloc 56) rfl ?_
       refine wpList_alloc_rowG w4.heap.size rfl rfl 56 rfl _ zero56 ?_
       intro w5 k5 b5 s5
       have H5 := Lib.hid (And.intro k5 (And.intro b5 s5))
       clear k5 b5 s5)
    | (with_reducible refine at_oper (.store 56 (.tmp 5) (.tmp 19)) rfl ?_
       refine wpList_store_blk rfl 56 (.tmp 5) (.tmp 19) rfl rfl w4.heap.size DD _ 56 rfl rfl H5.out.1 (by rw [zDD]; exact size56) (by rw [zDD]; rfl) (by rw [← HDD.out.1]; exact one56 c) ?_
       intro w6 k6 o6
       have H6 := Lib.hid (show Below w.heap.size w w6 ∧ Blk w6 g3 56 (ccells allC) ∧ Blk w6 w4.heap.size 56 (ccells c) ∧ w6.heap.size = w4.heap.size + 1 from ⟨below_only (H4.out.1.trans (H5.out.2.1.mono H4.out.1.size)) o6 H4.out.1.size, (H4.out.2.old H5.out.2.1).only o6 (by have := H4.out.2.lt; omega), by rw [HDD.out.1]; exact k6, by rw [o6.size]; exact H5.out.2.2⟩)
       clear k6 o6))
  have hg5 : g3 < w4.heap.size := H4.out.2.lt
  clear H5 H4
  generalize w4.heap.size = g5 at *
  go_wp2_with fail
  refine wp_loop_rounds 2 ?_
  rw [rounds_succ]
  go_upto_region 9 with (first
    | (with_reducible refine at_oper (.load 56 (.tmp 24)) rfl ?_
       refine wpList_load_blk rfl 56 (.tmp 24) rfl g3 rfl 56 (ccells allC) _ H6.out.2.1 Tryz.underlying56 rfl size56 ?_
       rw [HCC.out.1])
    | (with_reducible refine at_oper (.alloc 56) rfl ?_
       refine wpList_alloc_rowG (g5 + 1) H6.out.2.2.2 rfl 56 rfl _ zero56 ?_
       intro w7 k7 b7 s7
       have H7 := Lib.hid (And.intro k7 (And.intro b7 s7))
       clear k7 b7 s7)
    | (with_reducible refine at_oper (.store 56 (.tmp 8) (.tmp 25)) rfl ?_
       refine wpList_store_blk rfl 56 (.tmp 8) (.tmp 25) rfl rfl (g5 + 1) CC _ 56 rfl rfl H7.out.1 (by rw [zCC]; exact size56) (by rw [zCC]; rfl) (by rw [← HCC.out.1]; exact one56 allC) ?_
       intro w8 k8 o8
       have H8 := Lib.hid (show Below w.heap.size w w8.drew ∧ Blk w8.drew (g5 + 1) 56 (ccells allC) ∧ Blk w8.drew g5 56 (ccells c) from ⟨(below_only (H6.out.1.trans (H7.out.2.1.mono H6.out.1.size)) o8 (by omega)).drew, by rw [HCC.out.1]; exact blk_drew k8, blk_drew ((H6.out.2.2.1.old H7.out.2.1).only o8 (by omega))⟩)
       clear k8 o8))
  clear H6 H7
  refine wp_region_wz (by kernel_rfl) [(0, .r), (1, .r), (3, .r), (4, .r), (7, .p), (2, .c), (5, .c), (6, .p)] 8 (fun W => Blk W (g5 + 1) 56 (ccells allC) ∧ Blk W g5 56 (ccells c)) (by decide +kernel) (fun _ _ d _ _ h => by cases d <;> exact h) H8.out.2 ?_
  generalize w8.drew = w8' at *
  refine wz_r (by simp only [List.getElem?_toArray, List.getElem?_cons_zero]; rfl) (encC allC) (fun W hS => run_load_blk 56 (.tmp 8) rfl (g5 + 1) rfl 56 (ccells allC) _ hS.1 Tryz.underlying56 rfl size56) ?_
  simp only [Act.put, List.setIfInBounds_toArray, List.set_cons_zero, List.set_cons_succ]
  refine wz_r (by simp only [List.getElem?_toArray, List.getElem?_cons_succ, List.getElem?_cons_zero]; rfl) (encC c) (fun W hS => run_load_blk 56 (.tmp 5) rfl g5 rfl 56 (ccells c) _ hS.2 Tryz.underlying56 rfl size56) ?_
  simp only [Act.put, List.setIfInBounds_toArray, List.set_cons_zero, List.set_cons_succ]
  refine wz_r (by simp only [List.getElem?_toArray, List.getElem?_cons_succ, List.getElem?_cons_zero]; rfl) (encC allC) (fun W hS => run_load_blk 56 (.tmp 8) rfl (g5 + 1) rfl 56 (ccells allC) _ hS.1 Tryz.underlying56 rfl size56) ?_
  simp only [Act.put, List.setIfInBounds_toArray, List.set_cons_zero, List.set_cons_succ]
  refine wz_r (by simp only [List.getElem?_toArray, List.getElem?_cons_succ, List.getElem?_cons_zero]; rfl) (encC c) (fun W hS => run_load_blk 56 (.tmp 5) rfl g5 rfl 56 (ccells c) _ hS.2 Tryz.underlying56 rfl size56) ?_
  simp only [Act.put, List.setIfInBounds_toArray, List.set_cons_zero, List.set_cons_succ]
  refine wz_p (by simp only [List.getElem?_toArray, List.getElem?_cons_succ, List.getElem?_cons_zero]; rfl) (vi 0) (fun W => by go_simp; try rfl) ?_
  simp only [Act.put, List.setIfInBounds_toArray, List.set_cons_zero, List.set_cons_succ]
  refine wz_c (by simp only [List.getElem?_toArray, List.getElem?_cons_succ, List.getElem?_cons_zero]; rfl) ?_
  have hi : allC &&& c = c := by
    unfold allC
    rw [Nat.and_comm, Nat.and_two_pow_sub_one_eq_mod, Nat.mod_eq_of_lt HT.out.2.2.2.1]
  have hm : minC allC c = notC c := by
    unfold minC allC
    rw [Nat.and_comm, Nat.and_two_pow_sub_one_eq_mod, Nat.mod_eq_of_lt (notC_lt c HT.out.2.2.2.1)]
  have HI := Lib.hid (And.intro hi hm)
  clear hi hm
  go_wp2_with (first
    | (go_at_call 46
       refine (inter_class_c allC c w8').mono ?_
       rintro e w9 ⟨rfl, hb9⟩
       rw [HI.out.1]
       have H9 := Lib.hid (show Below w.heap.size w w9 ∧ Blk w9 (g5 + 1) 56 (ccells allC) ∧ Blk w9 g5 56 (ccells c) from ⟨H8.out.1.trans (hb9.mono H8.out.1.size), H8.out.2.1.old hb9, H8.out.2.2.old hb9⟩)
       clear hb9))
  dsimp only [segQ]
  refine ⟨fun _ _ => H9.out.2, ?_⟩
  refine wz_c (by simp only [List.getElem?_toArray, List.getElem?_cons_succ, List.getElem?_cons_zero]; rfl) ?_
  go_wp2_with (first
    | (go_at_call 109
       refine (minus_class_c allC c w9).mono ?_
       rintro e w10 ⟨rfl, hb10⟩
       rw [HI.out.2]
       have H10 := Lib.hid (show Below w.heap.size w w10 ∧ Blk w10 (g5 + 1) 56 (ccells allC) ∧ Blk w10 g5 56 (ccells c) from ⟨H9.out.1.trans (hb10.mono H9.out.1.size), H9.out.2.1.old hb10, H9.out.2.2.old hb10⟩)
       clear hb10))
  dsimp only [segQ]
  refine ⟨fun _ _ => H10.out.2, ?_⟩
  obtain ⟨E2, hE2⟩ : ∃ E2, cc2 c (notC c) = E2 := ⟨_, rfl⟩
  refine wz_p (by simp only [List.getElem?_toArray, List.getElem?_cons_succ, List.getElem?_cons_zero]; rfl) (.agg E2) (fun W => run_built2 154 0 1 (.tmp 28) (.tmp 31) rfl (encC c) (encC (notC c)) rfl rfl _ (hE2 ▸ built154 c (notC c))) ?_
  simp only [Act.put, List.setIfInBounds_toArray, List.set_cons_zero, List.set_cons_succ]
  have HE2 := Lib.hid hE2
  clear hE2
  refine wz_e ?_
  go_wp2_with fail
  refine wp_loop_rounds 3 ?_
  rw [rounds_succ]
  have H11 := Lib.hid H10.out.1
  have hg10 : g5 + 1 < w10.heap.size := H10.out.2.1.lt
  have HNE := Lib.hid (clB_ne HT.out.2.2.2.2 HT.out.2.2.2.1)
  clear H8 H9 H10 HQ
  have hfD : Array.foldl (fun cs (x : Value × Nat) => cs.setIfInBounds x.snd x.fst) #[Value.int .u64 0, .int .u64 0, .int .u64 0, .int .u64 0] DD.zipIdx 0 4 = DD := by rw [← HDD.out.1]; exact fold_cc c
  have HFD := Lib.hid hfD
  clear hfD
  go_upto_region 14 with (first
    | (with_reducible refine at_oper (.index 154 (.tmp 32) (.tmp 33)) rfl ?_
       refine wpList_val rfl _ (run_index154a (.tmp 32) (.tmp 33) rfl c (notC c) (congrArg Value.agg HE2.out.symm) rfl) ?_
       rw [HDD.out.2])
    | (with_reducible refine at_oper (.alloc 56) rfl ?_
       refine wpList_alloc_rowG w10.heap.size rfl rfl 56 rfl _ zero56 ?_
       intro w11 k11 b11 s11
       have H12 := Lib.hid (And.intro k11 (And.intro b11 s11))
       clear k11 b11 s11)
    | (with_reducible refine at_oper (.store 56 (.tmp 10) (.tmp 35)) rfl ?_
       refine wpList_store_blk rfl 56 (.tmp 10) (.tmp 35) rfl rfl w10.heap.size DD _ 56 rfl rfl H12.out.1 (by rw [zDD]; exact size56) (by rw [zDD]; rfl) (by rw [← HDD.out.1]; exact one56 c) ?_
       intro w12 k12 o12
       have H13 := Lib.hid (show Below w.heap.size w w12 ∧ Blk w12 w10.heap.size 56 DD from ⟨below_only (H11.out.trans (H12.out.2.1.mono H11.out.size)) o12 (by omega), k12⟩)
       clear k12 o12)
    | (with_reducible refine at_oper (.load 56 (.tmp 10)) rfl ?_
       refine wpList_load_blk rfl 56 (.tmp 10) rfl w10.heap.size rfl 56 DD _ H13.out.2 Tryz.underlying56 rfl (by rw [zDD]; exact size56) ?_)
    | (with_reducible refine at_oper (.binOp .neq 56 (.tmp 36) (.tmp 37) 56) rfl ?_
       refine wpList_neq_class rfl (.tmp 36) (.tmp 37) rfl c 0 (by rw [HDD.out.1]; rfl) encC_zero.symm ?_
       rw [HNE.out])
    | (at_builtin
       rw [HFD.out]
       refine wpList_appendSS rfl (.tmp 39) (.tmp 41) 24 rfl app24 w.heap.size none 0 0 [] rfl (OwnS.nil_ _ _ _ _) _ 1 1 DD.toList rfl (by rw [Array.length_toList, zDD]) (K := TT) ((Blk.new w12 56 DD).sl.weak fun _ _ _ => trivial) (by rw [← HDD.out.1]; exact fun u hu => ccl_one [c] u (by simpa [ccl] using hu)) (by omega) (by omega) (by rw [World.size_alloc]; have := H13.out.1.size; omega) ?_
       intro A14 c14 w14 own14 g14 _
       have H14 := Lib.hid (show Below w.heap.size w w14 ∧ OwnS w14 w.heap.size 56 4 A14 1 c14 (ccl [c]) from ⟨below_grown (H13.out.1.alloc H13.out.1.size _) g14 (by rw [World.size_alloc]; have := H13.out.1.size; omega) (fun k e => by cases e), by simpa [ccl, HDD.out.1] using own14⟩)
       clear own14 g14))
  clear H11 H12 H13 HNE
  obtain ⟨FF, hFF⟩ : ∃ FF, ccells (notC c) = FF := ⟨_, rfl⟩
  have zFF : FF.size = 4 := by rw [← hFF]; rfl
  have HFF := Lib.hid (And.intro hFF (show encC (notC c) = .agg FF by rw [← hFF]; rfl))
  have HFG := Lib.hid (show Array.foldl (fun cs (x : Value × Nat) => cs.setIfInBounds x.snd x.fst) #[Value.int .u64 0, .int .u64 0, .int .u64 0, .int .u64 0] FF.zipIdx 0 4 = FF by rw [← hFF]; exact fold_cc (notC c))
  clear hFF
  go_wp2_with fail
  rw [rounds_succ]
  go_upto_region 12 with (first
    | (with_reducible refine at_oper (.index 154 (.tmp 32) (.tmp 33)) rfl ?_
       refine wpList_val rfl _ (run_index154b (.tmp 32) (.tmp 33) rfl c (notC c) (congrArg Value.agg HE2.out.symm) rfl) ?_
       rw [HFF.out.2])
    | (with_reducible refine at_oper (.alloc 56) rfl ?_
       refine wpList_alloc_rowG w14.heap.size rfl rfl 56 rfl _ zero56 ?_
       intro w15 k15 b15 s15
       have H15 := Lib.hid (And.intro k15 (And.intro b15 s15))
       clear k15 b15 s15)
    | (with_reducible refine at_oper (.store 56 (.tmp 10) (.tmp 35)) rfl ?_
       refine wpList_store_blk rfl 56 (.tmp 10) (.tmp 35) rfl rfl w14.heap.size FF _ 56 rfl rfl H15.out.1 (by rw [zFF]; exact size56) (by rw [zFF]; rfl) (by rw [← HFF.out.1]; exact one56 (notC c)) ?_
       intro w16 k16 o16
       have H16 := Lib.hid (show Below w.heap.size w w16 ∧ Blk w16 w14.heap.size 56 FF ∧ OwnS w16 w.heap.size 56 4 A14 1 c14 (ccl [c]) from ⟨below_only (H14.out.1.trans (H15.out.2.1.mono H14.out.1.size)) o16 H14.out.1.size, k16, (H14.out.2.below H15.out.2.1).only o16 (fun e => by have := (H14.out.2.lt _ e).2; omega)⟩)
       clear k16 o16))
  clear H14 H15
  generalize w14.heap.size = g14 at *
  by_cases hn0 : notC c = 0
  · have HZ := Lib.hid hn0
    clear hn0
    go_wp2_with (first
      | (with_reducible refine at_oper (.load 56 (.tmp 10)) rfl ?_
         refine wpList_load_blk rfl 56 (.tmp 10) rfl g14 rfl 56 FF _ H16.out.2.1 Tryz.underlying56 rfl (by rw [zFF]; exact size56) ?_)
      | (with_reducible refine at_oper (.binOp .neq 56 (.tmp 36) (.tmp 37) 56) rfl ?_
         refine wpList_neq_class rfl (.tmp 36) (.tmp 37) rfl 0 0 (by rw [← HZ.out, HFF.out.1]; rfl) encC_zero.symm ?_
         rw [clB_zero]))
    rw [rounds_succ]
    go_wp2_with fail
    rw [rounds_succ]
    go_wp2_with fail
    rw [rounds_succ]
    go_wp2_with (first
      | (go_at_call 110
         refine (sortf_c A14 1 c14 (by decide) _ w16 (fun W => W = w16) (ins1_c _ 1 c14 (by decide) _ _)).mono ?_
         rintro e w17 ⟨⟨v, rfl⟩, rfl⟩))
    go_ret
    have e1 : cells1 c = [c] := by unfold cells1; rw [if_neg HT.out.2.2.2.2, if_pos HZ.out]
    rw [e1]
    exact ⟨A14, c14, rfl, H16.out.2.2.rc (by decide), H16.out.1⟩
  · have HZ := Lib.hid hn0
    have HNE := Lib.hid (clB_ne hn0 (notC_lt c HT.out.2.2.2.1))
    clear hn0
    go_wp2_with (first
      | (with_reducible refine at_oper (.load 56 (.tmp 10)) rfl ?_
         refine wpList_load_blk rfl 56 (.tmp 10) rfl g14 rfl 56 FF _ H16.out.2.1 Tryz.underlying56 rfl (by rw [zFF]; exact size56) ?_)
      | (with_reducible refine at_oper (.binOp .neq 56 (.tmp 36) (.tmp 37) 56) rfl ?_
         refine wpList_neq_class rfl (.tmp 36) (.tmp 37) rfl (notC c) 0 (by rw [HFF.out.1]; rfl) encC_zero.symm ?_
         rw [HNE.out])
      | (at_builtin
         rw [HFG.out]
         refine wpList_appendSS rfl (.tmp 39) (.tmp 41) 24 rfl app24 w.heap.size A14 1 c14 (ccl [c]) rfl (H16.out.2.2.alloc _) _ 1 1 FF.toList rfl (by rw [Array.length_toList, zFF]) (K := TT) ((Blk.new w16 56 FF).sl.weak fun _ _ _ => trivial) (by rw [← HFF.out.1]; exact fun u hu => ccl_one [notC c] u (by simpa [ccl] using hu)) (by omega) (by omega) (by rw [World.size_alloc]; have := H16.out.1.size; omega) ?_
         intro A18 c18 w18 own18 g18 _
         have H18 := Lib.hid (show Below w.heap.size w w18 ∧ OwnS w18 w.heap.size 56 4 A18 2 c18 (ccl [c, notC c]) from ⟨below_grown (H16.out.1.alloc H16.out.1.size _) g18 (by rw [World.size_alloc]; have := H16.out.1.size; omega) (fun k e => (H16.out.2.2.lt _ e).1), by simpa [ccl, HFF.out.1] using own18⟩)
         clear own18 g18))
    rw [rounds_succ]
    go_wp2_with fail
    rw [rounds_succ]
    go_wp2_with fail
    rw [rounds_succ]
    go_wp2_with (first
      | (go_at_call 110
         refine (sortf_c A18 2 c18 (by decide) _ w18 (fun W => OwnS W w.heap.size 56 4 A18 2 c18 (ccl (sort2 c (notC c))) ∧ w18.grownBy W (obl A18)) (ins2_c w.heap.size A18 c18 c (notC c) w18 H18.out.2 (HT.out.1.mono HT.out.2.1 H18.out.1) (by have := H18.out.1.size; have := HT.out.2.1; omega) HT.out.2.1)).mono ?_
         rintro e w19 ⟨⟨v, rfl⟩, hS, hg⟩
         have H19 := Lib.hid (show OwnS w19 w.heap.size 56 4 A18 2 c18 (ccl (sort2 c (notC c))) ∧ Below w.heap.size w w19 from ⟨hS, below_grown H18.out.1 hg H18.out.1.size (fun k e => (H18.out.2.lt _ e).1)⟩)
         clear hS hg))
    go_ret
    have e1 : cells1 c = sort2 c (notC c) := by
      unfold cells1 sort2
      rw [if_neg HT.out.2.2.2.2, if_neg HZ.out]
      exact sort2_eq c HT.out.2.2.2.1 HT.out.2.2.2.2 HZ.out
    have e2 : (sort2 c (notC c)).length = 2 := by unfold sort2; split <;> rfl
    rw [e1, e2]
    exact ⟨A18, c18, rfl, H19.out.1.rc (by decide), H19.out.2⟩

/-- an automaton and a mark are handed back -/
def GD (X : Dfa × Nat) (w : World) (e : Ending) (w' : World) : Prop := ∃ v, e = .returned (.tuple #[v, vi X.2]) ∧ RD w' (fun k => w.heap.size ≤ k) v X.1 ∧ Below w.heap.size w w'
theorem rr_of_blk {w : World} {g : Nat} {t : TypeId} {us : List Value} {ls : List (List Nat)} {K : Nat → Prop} (hb : Blk w g t us.toArray) (hK : K g) (hl : us.length = ls.length) (hn : ls.length ≤ 1048576)
    (h : ∀ (j : Nat) (u : Value), us[j]? = some u → ∃ A' c', u = .slice A' (ls.getD j []).length c' ∧ RN w K A' (ls.getD j []).length c' (ls.getD j [])) : RR w K (some ⟨g, 0, none⟩) ls.length ls.length ls :=
  ⟨rfl, Nat.le_refl _, hn, by omega, us, hb.sl.weak (fun k _ e => by rw [e]; exact hK), hl, h⟩
theorem rl_of_blk {w : World} {g : Nat} {t : TypeId} {bs : List Bool} {K : Nat → Prop} (hb : Blk w g t (bs.map Value.bool).toArray) (hK : K g) (hn : bs.length ≤ 1048576) : RL_ w K (some ⟨g, 0, none⟩) bs.length bs.length bs :=
  ⟨rfl, Nat.le_refl _, hn, by omega, by simpa using hb.sl.weak (fun k _ e => by rw [e]; exact hK)⟩
theorem rn_of_blk {w : World} {g : Nat} {t : TypeId} {l : List Nat} {K : Nat → Prop} (hb : Blk w g t (vis l).toArray) (hK : K g) (hn : l.length ≤ 1048576) (hl : Lt 9223372036854775808 l) : RN w K (some ⟨g, 0, none⟩) l.length l.length l :=
  ⟨rfl, Nat.le_refl _, hn, by omega, hl, by simpa using hb.sl.weak (fun k _ e => by rw [e]; exact hK)⟩
theorem built28s (A1 A2 A3 : Option Addr) (n1 n2 n3 c1 c2 c3 : Nat) : Tryz.prog.built 28 [(0, .slice A1 n1 c1), (1, .slice A2 n2 c2), (2, .slice A3 n3 c3)] = some #[.slice A1 n1 c1, .slice A2 n2 c2, .slice A3 n3 c3] := by kernel_rfl
def none0 : Dfa := ⟨[allC], [[0]], [false]⟩
theorem none0_vd : VD none0 := by
  refine ⟨by decide, by decide, rfl, by decide, by decide, fun r hr => ?_, fun b hb => ⟨0, by decide, fun j => ?_⟩, fun c hc => ?_⟩
  · simp [none0] at hr
    subst hr
    exact ⟨rfl, fun x hx => by simp at hx; subst hx; decide⟩
  · cases j with
    | zero =>
      show allC.testBit b = _
      unfold allC
      rw [Nat.testBit_two_pow_sub_one]
      simp [hb]
    | succ j =>
      show Nat.testBit 0 b = _
      simp
  · simp [none0] at hc
    subst hc
    exact ⟨by decide +kernel, by decide +kernel⟩
set_option maxRecDepth 100000 in
set_option maxHeartbeats 2000000 in
theorem none_c (w : World) (hT : Tab w) (hh : 0 < w.heap.size) : Calls Tryz.prog 34 #[] w (GD noneD w) := by
  have HT := Lib.hid (And.intro hT hh)
  clear hT hh
  have hb28 := built28s
  go_enter Tryz.func34, Tryz.ntmps34
  go_wp2_with (first
    | (with_reducible refine at_oper (.alloc 28) rfl ?_
       refine wpList_alloc_rowG w.heap.size rfl rfl 28 rfl _ zero28 ?_
       intro w2 k2 b2 s2
       have H2 := Lib.hid (And.intro k2 (And.intro b2 s2))
       clear k2 b2 s2)
    | (go_at_call 74
       refine (cells0_c w2 (HT.out.1.mono HT.out.2 H2.out.2.1) (by have := H2.out.2.2; omega)).mono ?_
       rintro e w3 ⟨A, c', rfl, hrc, hb⟩
       have H3 := Lib.hid (show Below w.heap.size w w3 ∧ Blk w3 w.heap.size 28 nil28 ∧ RC w3 (fun k => w.heap.size + 1 ≤ k) A 1 c' [allC] from ⟨H2.out.2.1.trans (hb.mono H2.out.2.1.size), H2.out.1.old hb, by rw [H2.out.2.2] at hrc; exact hrc⟩)
       clear hrc hb)
    | (go_at_call 73
       have b1 : Below w3.heap.size w3 (w3.alloc (.cells #[vi 0] 3)) := (Below.refl _ _).alloc (Nat.le_refl _) _
       have b2 : Below w3.heap.size w3 ((w3.alloc (.cells #[vi 0] 3)).alloc (.cells #[.slice (some ⟨w3.heap.size, 0, none⟩) 1 1] 64)) := b1.alloc (by rw [World.size_alloc]; omega) _
       have b3 : Below w3.heap.size w3 (((w3.alloc (.cells #[vi 0] 3)).alloc (.cells #[.slice (some ⟨w3.heap.size, 0, none⟩) 1 1] 64)).alloc (.cells #[.bool false] 4)) := b2.alloc (by rw [World.size_alloc, World.size_alloc]; omega) _
       have k1 := ((Blk.new w3 3 #[vi 0]).alloc (.cells #[.slice (some ⟨w3.heap.size, 0, none⟩) 1 1] 64)).alloc (.cells #[.bool false] 4)
       have k2 := (Blk.new (w3.alloc (.cells #[vi 0] 3)) 64 #[.slice (some ⟨w3.heap.size, 0, none⟩) 1 1]).alloc (.cells #[.bool false] 4)
       have k3 := Blk.new ((w3.alloc (.cells #[vi 0] 3)).alloc (.cells #[.slice (some ⟨w3.heap.size, 0, none⟩) 1 1] 64)) 4 #[.bool false]
       rw [World.size_alloc] at k2
       rw [World.size_alloc, World.size_alloc] at k3
       generalize (((w3.alloc (.cells #[vi 0] 3)).alloc (.cells #[.slice (some ⟨w3.heap.size, 0, none⟩) 1 1] 64)).alloc (.cells #[.bool false] 4)) = w4 at *
       have hz3 := H3.out.2.1.lt
       have hrd : RD w4 (fun k => w.heap.size + 1 ≤ k) (.agg #[.slice A 1 c', .slice (some ⟨w3.heap.size + 1, 0, none⟩) 1 1, .slice (some ⟨w3.heap.size + 1 + 1, 0, none⟩) 1 1]) none0 :=
         ⟨A, _, _, c', 1, 1, rfl, H3.out.2.2.below b3, rr_of_blk (us := [.slice (some ⟨w3.heap.size, 0, none⟩) 1 1]) (ls := [[0]]) k2 (by omega) rfl (by decide) (fun j u hu => by
           cases j with
           | zero =>
             cases hu
             exact ⟨_, _, rfl, rn_of_blk (l := [0]) k1 (by omega) (by decide) (fun x hx => by simp at hx; subst hx; decide)⟩
           | succ j => simp at hu), rl_of_blk (bs := [false]) k3 (by omega) (by decide)⟩
       have hb4 := H3.out.1.trans (b3.mono H3.out.1.size)
       refine (canon_c _ _ none0 w4 hrd none0_vd (HT.out.1.mono HT.out.2 hb4) (by have := hb4.size; have := HT.out.2; omega)).mono ?_
       rintro e w5 ⟨u, rfl, hrd5, hb5⟩
       obtain ⟨cs, rfl, zcs, ocs⟩ := hrd5.cells
       have H5 := Lib.hid (show Below w.heap.size w w5 ∧ Blk w5 w.heap.size 28 nil28 ∧ RD w5 (fun k => w4.heap.size ≤ k) (.agg cs) noneD.1 ∧ w.heap.size < w4.heap.size from ⟨hb4.trans (hb5.mono hb4.size), (H3.out.2.1.old b3).old hb5, hrd5, by have := b3.size; omega⟩)
       clear b1 b2 b3 k1 k2 k3 hz3 hrd hb4 hrd5 hb5)
    | (with_reducible refine at_oper (.store 28 (.tmp 0) (.tmp 8)) rfl ?_
       refine wpList_store_blk rfl 28 (.tmp 0) (.tmp 8) rfl rfl w.heap.size cs nil28 28 rfl rfl H5.out.2.1 (by rw [zcs]; exact size28) (by rw [zcs]; rfl) ocs ?_
       intro w6 k6 o6
       have H6 := Lib.hid (And.intro k6 o6)
       clear k6 o6))
  refine bodyPost_ret (results_ct rfl _ _ _ rfl w.heap.size rfl 28 _ H6.out.1 Tryz.underlying28 rfl (by rw [zcs]; exact size28)) rfl ?_
  have hz := H5.out.2.2.2
  exact ⟨.agg cs, rfl, (H5.out.2.2.1.old fun k hk _ => H6.out.2.block k (by have h : w4.heap.size ≤ k := hk; omega)).weak (fun k _ hk => by have h : w4.heap.size ≤ k := hk; omega), below_only H5.out.1 H6.out.2 (Nat.le_refl _)⟩
end Go.Proofs.YtjgkdfghjeodeaaGreatDoor
