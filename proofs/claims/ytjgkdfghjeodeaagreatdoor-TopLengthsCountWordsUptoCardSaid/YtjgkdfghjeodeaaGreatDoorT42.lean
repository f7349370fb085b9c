/- regex.arity, checkNode. -/
import Derived.Test.YtjgkdfghjeodeaaGreatDoorT39
namespace Go.Proofs.YtjgkdfghjeodeaaGreatDoor
open Go.RowKit

set_option maxRecDepth 100000 in
set_option maxHeartbeats 2000000 in
theorem arity_c (k : Nat) (h1 : 1 ≤ k) (h8 : k ≤ 8) (w : World) : Calls Tryz.prog 33 #[vi k] w fun e w' => e = .returned (vi (arN k)) ∧ w' = w := by
  have hk : k = 1 ∨ k = 2 ∨ k = 3 ∨ k = 4 ∨ k = 5 ∨ k = 6 ∨ k = 7 ∨ k = 8 := by omega
  go_enter Tryz.func33, Tryz.ntmps33
  clear h1 h8
  rcases hk with rfl | rfl | rfl | rfl | rfl | rfl | rfl | rfl
  · go_wp2_with fail
    go_ret
    exact ⟨rfl, rfl⟩
  · go_wp2_with fail
    go_ret
    exact ⟨rfl, rfl⟩
  · go_wp2_with fail
    go_ret
    exact ⟨rfl, rfl⟩
  · go_wp2_with fail
    go_ret
    exact ⟨rfl, rfl⟩
  · go_wp2_with fail
    go_ret
    exact ⟨rfl, rfl⟩
  · go_wp2_with fail
    go_ret
    exact ⟨rfl, rfl⟩
  · go_wp2_with fail
    go_ret
    exact ⟨rfl, rfl⟩
  · go_wp2_with fail
    go_ret
    exact ⟨rfl, rfl⟩
set_option maxRecDepth 100000 in
theorem check1_c (k i g : Nat) (hk : k < i) (_hi : i ≤ 1000) (w : World) (hc : w.cell? ⟨g, 0, none⟩ = some (vi i)) : Calls Tryz.prog 72 #[vi k, .pointer (some ⟨g, 0, none⟩)] w fun e w' => e = .returned (.bool true) ∧ w' = w := by
  have d1 : decide ((k : Int) < i) = true := by simp; omega
  have d2 : decide ((k : Int) ≥ 0) = true := by simp
  go_enter Tryz.func72, Tryz.ntmps72
  go_wp2_with (first
    | (with_reducible refine wpList_unguard ?_ ?_ ?_
       rfl
       rfl))
  go_ret
  exact ⟨rfl, rfl⟩
set_option maxRecDepth 100000 in
set_option maxHeartbeats 12000000 in
theorem checkNode_c (n : Nd) (i : Nat) (hi : i ≤ 1000) (w : World) (hn : NodeOk i n) : Calls Tryz.prog 32 #[ndV n, vi i] w (Gives w (vi 0)) := by
  obtain ⟨k, cc, l, r, mn, mx⟩ := n
  have HN := Lib.hid hn
  have hk1 := hn.k1
  have hk8 := hn.k8
  dsimp only at hk1 hk8
  clear hn
  obtain ⟨X, hX⟩ : ∃ X, ndc ⟨k, cc, l, r, mn, mx⟩ = X := ⟨_, rfl⟩
  have hE : ndV ⟨k, cc, l, r, mn, mx⟩ = .agg X := by rw [← hX]; rfl
  have zX : X.size = 9 := by rw [← hX]; rfl
  rw [hE]
  have HX := Lib.hid hX
  clear hX hE
  go_enter Tryz.func32, Tryz.ntmps32
  go_upto_region 1 with (first
    | (with_reducible refine at_oper (.box 58 (.tmp 0)) rfl ?_
       refine wpList_box_rowG w.heap.size rfl rfl 58 (.tmp 0) rfl X rfl ?_
       intro w1 k1 b1 s1))
  have H2 := Lib.hid (show Below w.heap.size w (w1.alloc (.cells #[vi i] 3)) ∧ Blk (w1.alloc (.cells #[vi i] 3)) w.heap.size 58 (ndc ⟨k, cc, l, r, mn, mx⟩) ∧ Blk (w1.alloc (.cells #[vi i] 3)) (w.heap.size + 1) 3 #[vi i] from
    ⟨b1.alloc (by omega) _, by rw [HX.out]; exact k1.alloc _, by have h := Blk.new w1 3 #[vi i]; rw [s1] at h; exact h⟩)
  generalize w1.alloc (.cells #[vi i] 3) = w2 at *
  clear k1 b1
  clear s1
  have f0 : w2.cell? ⟨w.heap.size, 0, none⟩ = some (vi k) := H2.out.2.1.cell 0
  have f5 : w2.cell? ⟨w.heap.size, 5, none⟩ = some (vi l) := H2.out.2.1.cell 5
  have f6 : w2.cell? ⟨w.heap.size, 6, none⟩ = some (vi r) := H2.out.2.1.cell 6
  have f7 : w2.cell? ⟨w.heap.size, 7, none⟩ = some (vi mn) := H2.out.2.1.cell 7
  have f8 : w2.cell? ⟨w.heap.size, 8, none⟩ = some (.int .i64 (mxI mx)) := H2.out.2.1.cell 8
  have HFI := Lib.hid (show w2.cell? ⟨w.heap.size + 1, 0, none⟩ = some (vi i) from H2.out.2.2.cell 0)
  have HL3 := Lib.hid (show ∀ j v, (ccells cc).toList[j]? = some v → w2.cell? ((⟨w.heap.size, 1, none⟩ : Addr).add j) = some v from fun j v hv => by
    have hj : j < 4 := by have := (List.getElem?_eq_some_iff.1 hv).1; simpa [ccells] using this
    have h4 := H2.out.2.1.cell (1 + j)
    have e : (⟨w.heap.size, 1, none⟩ : Addr).add j = ⟨w.heap.size, 1 + j, none⟩ := by
      unfold Addr.add
      split <;> simp_all
    rw [e, h4, ← hv]
    have : j = 0 ∨ j = 1 ∨ j = 2 ∨ j = 3 := by omega
    rcases this with rfl | rfl | rfl | rfl <;> rfl)
  have HB := Lib.hid H2.out.1
  clear H2
  have hb56 : Tryz.prog.built 56 [] = some #[.int .u64 0, .int .u64 0, .int .u64 0, .int .u64 0] := by kernel_rfl
  have hk : k = 1 ∨ k = 2 ∨ k = 3 ∨ k = 4 ∨ k = 5 ∨ k = 6 ∨ k = 7 ∨ k = 8 := by omega
  rcases hk with rfl | rfl | rfl | rfl | rfl | rfl | rfl | rfl
  · have hc0 : cc = 0 := HN.out.hc (by show 1 ≠ 3; decide)
    have HCZ := Lib.hid (show ccells cc = #[.int .u64 0, .int .u64 0, .int .u64 0, .int .u64 0] by rw [hc0]; simp [ccells, wd])
    clear hc0
    have hl0 : l = 0 := HN.out.hl.2 (by show arN 1 = 0; decide)
    have hr0 : r = 0 := HN.out.hr.2 (by show arN 1 ≠ 2; decide)
    obtain ⟨hm0, hx0⟩ : mn = 0 ∧ mx = some 0 := HN.out.hm (by show 1 ≠ 8; decide)
    rw [hm0] at f7
    rw [hx0, mxI_some] at f8
    clear hm0 hx0
    rw [hl0] at f5
    clear hl0
    rw [hr0] at f6
    clear hr0
    go_wp2_with (first
      | (with_reducible refine wpList_unguard ?_ ?_ ?_
         rfl
         rfl)
      | (go_at_call 33
         refine (arity_c 1 (by decide) (by decide) w2).mono ?_
         rintro e w3 ⟨rfl, hw⟩
         have hw := hw.symm
         subst hw
         rw [show arN 1 = 0 from rfl])
      | (with_reducible refine at_oper (.load 56 (.tmp 57)) rfl ?_
         refine wpList_load_class rfl (.tmp 57) rfl ⟨w.heap.size, 1, none⟩ rfl cc HL3.out ?_
         rw [HCZ.out])
      | (with_reducible refine at_oper (.binOp .neq 56 (.tmp 58) (.tmp 59) 56) rfl ?_
         refine wpList_neq_class rfl (.tmp 58) (.tmp 59) rfl 0 0 encC_zero.symm encC_zero.symm ?_
         rw [clB_zero]))
    go_ret
    exact ⟨rfl, HB.out⟩
  · have hc0 : cc = 0 := HN.out.hc (by show 2 ≠ 3; decide)
    have HCZ := Lib.hid (show ccells cc = #[.int .u64 0, .int .u64 0, .int .u64 0, .int .u64 0] by rw [hc0]; simp [ccells, wd])
    clear hc0
    have hl0 : l = 0 := HN.out.hl.2 (by show arN 2 = 0; decide)
    have hr0 : r = 0 := HN.out.hr.2 (by show arN 2 ≠ 2; decide)
    obtain ⟨hm0, hx0⟩ : mn = 0 ∧ mx = some 0 := HN.out.hm (by show 2 ≠ 8; decide)
    rw [hm0] at f7
    rw [hx0, mxI_some] at f8
    clear hm0 hx0
    rw [hl0] at f5
    clear hl0
    rw [hr0] at f6
    clear hr0
    go_wp2_with (first
      | (with_reducible refine wpList_unguard ?_ ?_ ?_
         rfl
         rfl)
      | (go_at_call 33
         refine (arity_c 2 (by decide) (by decide) w2).mono ?_
         rintro e w3 ⟨rfl, hw⟩
         have hw := hw.symm
         subst hw
         rw [show arN 2 = 0 from rfl])
      | (with_reducible refine at_oper (.load 56 (.tmp 57)) rfl ?_
         refine wpList_load_class rfl (.tmp 57) rfl ⟨w.heap.size, 1, none⟩ rfl cc HL3.out ?_
         rw [HCZ.out])
      | (with_reducible refine at_oper (.binOp .neq 56 (.tmp 58) (.tmp 59) 56) rfl ?_
         refine wpList_neq_class rfl (.tmp 58) (.tmp 59) rfl 0 0 encC_zero.symm encC_zero.symm ?_
         rw [clB_zero]))
    go_ret
    exact ⟨rfl, HB.out⟩
  · have hl0 : l = 0 := HN.out.hl.2 (by show arN 3 = 0; decide)
    have hr0 : r = 0 := HN.out.hr.2 (by show arN 3 ≠ 2; decide)
    obtain ⟨hm0, hx0⟩ : mn = 0 ∧ mx = some 0 := HN.out.hm (by show 3 ≠ 8; decide)
    rw [hm0] at f7
    rw [hx0, mxI_some] at f8
    clear hm0 hx0
    rw [hl0] at f5
    clear hl0
    rw [hr0] at f6
    clear hr0
    go_wp2_with (first
      | (with_reducible refine wpList_unguard ?_ ?_ ?_
         rfl
         rfl)
      | (go_at_call 33
         refine (arity_c 3 (by decide) (by decide) w2).mono ?_
         rintro e w3 ⟨rfl, hw⟩
         have hw := hw.symm
         subst hw
         rw [show arN 3 = 0 from rfl]))
    go_ret
    exact ⟨rfl, HB.out⟩
  · have hc0 : cc = 0 := HN.out.hc (by show 4 ≠ 3; decide)
    have HCZ := Lib.hid (show ccells cc = #[.int .u64 0, .int .u64 0, .int .u64 0, .int .u64 0] by rw [hc0]; simp [ccells, wd])
    clear hc0
    have hll : l < i := HN.out.hl.1 (by show 1 ≤ arN 4; decide)
    have hrl : r < i := HN.out.hr.1 (by show arN 4 = 2; decide)
    obtain ⟨hm0, hx0⟩ : mn = 0 ∧ mx = some 0 := HN.out.hm (by show 4 ≠ 8; decide)
    rw [hm0] at f7
    rw [hx0, mxI_some] at f8
    clear hm0 hx0
    go_wp2_with (first
      | (with_reducible refine wpList_unguard ?_ ?_ ?_
         rfl
         rfl)
      | (go_at_call 33
         refine (arity_c 4 (by decide) (by decide) w2).mono ?_
         rintro e w3 ⟨rfl, hw⟩
         have hw := hw.symm
         subst hw
         rw [show arN 4 = 2 from rfl])
      | (go_at_call 72
         refine (check1_c _ i (w.heap.size + 1) (by assumption) hi w2 HFI.out).mono ?_
         rintro e w3 ⟨rfl, hw⟩
         have hw := hw.symm
         subst hw)
      | (with_reducible refine at_oper (.load 56 (.tmp 57)) rfl ?_
         refine wpList_load_class rfl (.tmp 57) rfl ⟨w.heap.size, 1, none⟩ rfl cc HL3.out ?_
         rw [HCZ.out])
      | (with_reducible refine at_oper (.binOp .neq 56 (.tmp 58) (.tmp 59) 56) rfl ?_
         refine wpList_neq_class rfl (.tmp 58) (.tmp 59) rfl 0 0 encC_zero.symm encC_zero.symm ?_
         rw [clB_zero]))
    go_ret
    exact ⟨rfl, HB.out⟩
  · have hc0 : cc = 0 := HN.out.hc (by show 5 ≠ 3; decide)
    have HCZ := Lib.hid (show ccells cc = #[.int .u64 0, .int .u64 0, .int .u64 0, .int .u64 0] by rw [hc0]; simp [ccells, wd])
    clear hc0
    have hll : l < i := HN.out.hl.1 (by show 1 ≤ arN 5; decide)
    have hrl : r < i := HN.out.hr.1 (by show arN 5 = 2; decide)
    obtain ⟨hm0, hx0⟩ : mn = 0 ∧ mx = some 0 := HN.out.hm (by show 5 ≠ 8; decide)
    rw [hm0] at f7
    rw [hx0, mxI_some] at f8
    clear hm0 hx0
    go_wp2_with (first
      | (with_reducible refine wpList_unguard ?_ ?_ ?_
         rfl
         rfl)
      | (go_at_call 33
         refine (arity_c 5 (by decide) (by decide) w2).mono ?_
         rintro e w3 ⟨rfl, hw⟩
         have hw := hw.symm
         subst hw
         rw [show arN 5 = 2 from rfl])
      | (go_at_call 72
         refine (check1_c _ i (w.heap.size + 1) (by assumption) hi w2 HFI.out).mono ?_
         rintro e w3 ⟨rfl, hw⟩
         have hw := hw.symm
         subst hw)
      | (with_reducible refine at_oper (.load 56 (.tmp 57)) rfl ?_
         refine wpList_load_class rfl (.tmp 57) rfl ⟨w.heap.size, 1, none⟩ rfl cc HL3.out ?_
         rw [HCZ.out])
      | (with_reducible refine at_oper (.binOp .neq 56 (.tmp 58) (.tmp 59) 56) rfl ?_
         refine wpList_neq_class rfl (.tmp 58) (.tmp 59) rfl 0 0 encC_zero.symm encC_zero.symm ?_
         rw [clB_zero]))
    go_ret
    exact ⟨rfl, HB.out⟩
  · have hc0 : cc = 0 := HN.out.hc (by show 6 ≠ 3; decide)
    have HCZ := Lib.hid (show ccells cc = #[.int .u64 0, .int .u64 0, .int .u64 0, .int .u64 0] by rw [hc0]; simp [ccells, wd])
    clear hc0
    have hll : l < i := HN.out.hl.1 (by show 1 ≤ arN 6; decide)
    have hrl : r < i := HN.out.hr.1 (by show arN 6 = 2; decide)
    obtain ⟨hm0, hx0⟩ : mn = 0 ∧ mx = some 0 := HN.out.hm (by show 6 ≠ 8; decide)
    rw [hm0] at f7
    rw [hx0, mxI_some] at f8
    clear hm0 hx0
    go_wp2_with (first
      | (with_reducible refine wpList_unguard ?_ ?_ ?_
         rfl
         rfl)
      | (go_at_call 33
         refine (arity_c 6 (by decide) (by decide) w2).mono ?_
         rintro e w3 ⟨rfl, hw⟩
         have hw := hw.symm
         subst hw
         rw [show arN 6 = 2 from rfl])
      | (go_at_call 72
         refine (check1_c _ i (w.heap.size + 1) (by assumption) hi w2 HFI.out).mono ?_
         rintro e w3 ⟨rfl, hw⟩
         have hw := hw.symm
         subst hw)
      | (with_reducible refine at_oper (.load 56 (.tmp 57)) rfl ?_
         refine wpList_load_class rfl (.tmp 57) rfl ⟨w.heap.size, 1, none⟩ rfl cc HL3.out ?_
         rw [HCZ.out])
      | (with_reducible refine at_oper (.binOp .neq 56 (.tmp 58) (.tmp 59) 56) rfl ?_
         refine wpList_neq_class rfl (.tmp 58) (.tmp 59) rfl 0 0 encC_zero.symm encC_zero.symm ?_
         rw [clB_zero]))
    go_ret
    exact ⟨rfl, HB.out⟩
  · have hc0 : cc = 0 := HN.out.hc (by show 7 ≠ 3; decide)
    have HCZ := Lib.hid (show ccells cc = #[.int .u64 0, .int .u64 0, .int .u64 0, .int .u64 0] by rw [hc0]; simp [ccells, wd])
    clear hc0
    have hll : l < i := HN.out.hl.1 (by show 1 ≤ arN 7; decide)
    have hr0 : r = 0 := HN.out.hr.2 (by show arN 7 ≠ 2; decide)
    obtain ⟨hm0, hx0⟩ : mn = 0 ∧ mx = some 0 := HN.out.hm (by show 7 ≠ 8; decide)
    rw [hm0] at f7
    rw [hx0, mxI_some] at f8
    clear hm0 hx0
    rw [hr0] at f6
    clear hr0
    go_wp2_with (first
      | (with_reducible refine wpList_unguard ?_ ?_ ?_
         rfl
         rfl)
      | (go_at_call 33
         refine (arity_c 7 (by decide) (by decide) w2).mono ?_
         rintro e w3 ⟨rfl, hw⟩
         have hw := hw.symm
         subst hw
         rw [show arN 7 = 1 from rfl])
      | (go_at_call 72
         refine (check1_c _ i (w.heap.size + 1) (by assumption) hi w2 HFI.out).mono ?_
         rintro e w3 ⟨rfl, hw⟩
         have hw := hw.symm
         subst hw)
      | (with_reducible refine at_oper (.load 56 (.tmp 57)) rfl ?_
         refine wpList_load_class rfl (.tmp 57) rfl ⟨w.heap.size, 1, none⟩ rfl cc HL3.out ?_
         rw [HCZ.out])
      | (with_reducible refine at_oper (.binOp .neq 56 (.tmp 58) (.tmp 59) 56) rfl ?_
         refine wpList_neq_class rfl (.tmp 58) (.tmp 59) rfl 0 0 encC_zero.symm encC_zero.symm ?_
         rw [clB_zero]))
    go_ret
    exact ⟨rfl, HB.out⟩
  · have hc0 : cc = 0 := HN.out.hc (by show 8 ≠ 3; decide)
    have HCZ := Lib.hid (show ccells cc = #[.int .u64 0, .int .u64 0, .int .u64 0, .int .u64 0] by rw [hc0]; simp [ccells, wd])
    clear hc0
    have hll : l < i := HN.out.hl.1 (by show 1 ≤ arN 8; decide)
    have hr0 : r = 0 := HN.out.hr.2 (by show arN 8 ≠ 2; decide)
    rw [hr0] at f6
    clear hr0
    have h8 := HN.out.h8 rfl
    dsimp only at h8
    have hmn := h8.1
    cases mx with
    | none =>
      rw [mxI_none] at f8
      clear h8
      go_wp2_with (first
        | (with_reducible refine wpList_unguard ?_ ?_ ?_
           rfl
           rfl)
        | (go_at_call 33
           refine (arity_c 8 (by decide) (by decide) w2).mono ?_
           rintro e w3 ⟨rfl, hw⟩
           have hw := hw.symm
           subst hw
           rw [show arN 8 = 1 from rfl])
        | (go_at_call 72
           refine (check1_c _ i (w.heap.size + 1) (by assumption) hi w2 HFI.out).mono ?_
           rintro e w3 ⟨rfl, hw⟩
           have hw := hw.symm
           subst hw)
        | (with_reducible refine at_oper (.load 56 (.tmp 57)) rfl ?_
           refine wpList_load_class rfl (.tmp 57) rfl ⟨w.heap.size, 1, none⟩ rfl cc HL3.out ?_
           rw [HCZ.out])
        | (with_reducible refine at_oper (.binOp .neq 56 (.tmp 58) (.tmp 59) 56) rfl ?_
           refine wpList_neq_class rfl (.tmp 58) (.tmp 59) rfl 0 0 encC_zero.symm encC_zero.symm ?_
           rw [clB_zero]))
      go_ret
      exact ⟨rfl, HB.out⟩
    | some m =>
      rw [mxI_some] at f8
      have hm := h8.2 m rfl
      have d1 : ((m : Int) == -1) = false := by
        rw [beq_eq_false_iff_ne]
        omega
      have d2 : decide ((m : Int) < (mn : Int)) = false := by simp; omega
      have d3 : decide ((m : Int) > 16) = false := by simp; omega
      have d4 : decide ((mn : Int) > 16) = false := by simp; omega
      clear h8
      go_wp2_with (first
        | (with_reducible refine wpList_unguard ?_ ?_ ?_
           rfl
           rfl)
        | (go_at_call 33
           refine (arity_c 8 (by decide) (by decide) w2).mono ?_
           rintro e w3 ⟨rfl, hw⟩
           have hw := hw.symm
           subst hw
           rw [show arN 8 = 1 from rfl])
        | (go_at_call 72
           refine (check1_c _ i (w.heap.size + 1) (by assumption) hi w2 HFI.out).mono ?_
           rintro e w3 ⟨rfl, hw⟩
           have hw := hw.symm
           subst hw)
        | (with_reducible refine at_oper (.load 56 (.tmp 57)) rfl ?_
           refine wpList_load_class rfl (.tmp 57) rfl ⟨w.heap.size, 1, none⟩ rfl cc HL3.out ?_
           rw [HCZ.out])
        | (with_reducible refine at_oper (.binOp .neq 56 (.tmp 58) (.tmp 59) 56) rfl ?_
           refine wpList_neq_class rfl (.tmp 58) (.tmp 59) rfl 0 0 encC_zero.symm encC_zero.symm ?_
           rw [clB_zero]))
      go_ret
      exact ⟨rfl, HB.out⟩

theorem useN_le (i : Nat) (n : Nd) : useN i n ≤ 2 := by
  unfold useN
  repeat' split
  all_goals omega
theorem useX_le (i : Nat) : ∀ x : List Nd, useX i x ≤ 2 * x.length
  | [] => Nat.le_refl _
  | n :: r => by
    have h1 := useN_le i n
    have h2 := useX_le i r
    rw [useX, List.length_cons]; omega
/-- what Valid holds -/
structure VR (w wr : World) (n : Nat) (P : List Nat) (x : List Nd) : Prop where
  below : Below w.heap.size w wr
  pb : Blk wr w.heap.size 3 (via P)
  len : P.length = n
  use : ∀ j, j < n → P.getD j 0 = useX j x
theorem VR.step {w wr w' : World} {n : Nat} {P : List Nat} {x : List Nd} (h : VR w wr n P x) (hb : Below wr.heap.size wr w') : VR w w' n P x := ⟨h.below.trans (hb.mono h.below.size), h.pb.old hb, h.len, h.use⟩
set_option maxRecDepth 100000 in
set_option maxHeartbeats 12000000 in
theorem rvalid_c (K : Nat → Prop) (A : Option Addr) (n c : Nat) (x : List Nd) (w : World) (hx : RX w K A n c x) (hg : GoodX x) (hn : n ≤ 200) : Calls Tryz.prog 15 #[.slice A n c] w (Gives w (vi 0)) := by
  have hlen := hx.len
  have hcap := hx.cap
  have hpos : 0 < n := by rw [← hlen]; exact hg.pos
  have HX := Lib.hid (And.intro hx hg)
  have HLen := Lib.hid hlen
  clear hx hg hlen
  have d1 : decide ((n : Int) > 200) = false := by simp; omega
  have d2 : ((n : Int) == 0) = false := by
    rw [beq_eq_false_iff_ne]
    omega
  go_enter Tryz.func15, Tryz.ntmps15
  go_upto_region 6 with (first
    | (with_reducible refine at_oper (.makeSlice 64 (.tmp 18) (.tmp 18)) rfl ?_
       refine wpList_makeFullG w.heap.size rfl rfl (.tmp 18) (.tmp 18) 64 rfl (.int .i64 0) Tryz.underlying64 info3 rfl n rfl rfl (by omega) (by omega) ?_
       intro w1 k1 b1 s1
       rw [via_rep] at k1
       have H1 := Lib.hid (show VR w w1 n (List.replicate n 0) (x.take 0) from ⟨b1, k1, List.length_replicate, fun j hj => by simp [useX, List.getD_eq_getElem?_getD, hj]⟩)
       clear k1 b1 s1))
  clear d1 d2
  go_wp2_with fail
  go_loopw [22] (fun s22 wr => ∃ (i : Nat) (P : List Nat), i ≤ n ∧ s22 = vi i ∧ VR w wr n P (x.take i)) (fun s22 _ => n - (intOf s22).toNat)
  case atStart => exact ⟨0, _, Nat.zero_le _, rfl, H1.out⟩
  case round =>
    clear H1
    obtain ⟨i, P, hi, rfl, hV⟩ := hrel
    have HV := Lib.hid hV
    clear hV
    by_cases hlt : i < n
    · have d1 : decide ((i : Int) < n) = true := by simp; omega
      obtain ⟨nd, hxi⟩ : ∃ nd, x[i]? = some nd := ⟨_, List.getElem?_eq_getElem (by rw [HLen.out]; exact hlt)⟩
      have hok := HX.out.2.node i nd hxi
      obtain ⟨ad, rfl, _, hq⟩ := (HX.out.1.below HV.out.below).at_ hxi
      have HI := Lib.hid (And.intro hxi (And.intro hok hq))
      clear hxi hok hq
      go_upto_region 9 with (first
        | (with_reducible refine at_oper (.load 58 (.tmp 25)) rfl ?_
           refine wpList_load_nd rfl (.tmp 25) rfl (ad.add (i * 9)) rfl nd HI.out.2.2 ?_)
        | (with_reducible refine at_oper (.alloc 58) rfl ?_
           refine wpList_alloc_rowG wr.heap.size rfl rfl 58 rfl _ zero58 ?_
           intro w2 k2 b2 s2
           have H2 := Lib.hid (And.intro k2 b2)
           clear k2 b2 s2)
        | (with_reducible refine at_oper (.store 58 (.tmp 5) (.tmp 26)) rfl ?_
           refine wpList_store_blk rfl 58 (.tmp 5) (.tmp 26) rfl rfl wr.heap.size (ndc nd) _ 58 rfl rfl H2.out.1 (by rw [ndc_size]; exact size58) rfl (ndc_one nd) ?_
           intro w3 k3 o3
           have hz := HV.out.pb.lt
           have H3 := Lib.hid (show VR w w3 n P (x.take i) ∧ Blk w3 wr.heap.size 58 (ndc nd) ∧ w.heap.size < wr.heap.size from
             ⟨⟨below_only (HV.out.below.trans (H2.out.2.mono HV.out.below.size)) o3 HV.out.below.size, (HV.out.pb.old H2.out.2).only o3 (by omega), HV.out.len, HV.out.use⟩, k3, hz⟩)
           clear k3 o3 hz))
      clear HV H2
      generalize wr.heap.size = gn at *
      go_upto_region 12 with (first
        | (with_reducible refine at_oper (.load 58 (.tmp 5)) rfl ?_
           refine wpList_load_blk rfl 58 (.tmp 5) rfl gn rfl 58 (ndc nd) _ H3.out.2.1 Tryz.underlying58 rfl (by rw [ndc_size]; exact size58) ?_)
        | (go_at_call 32
           refine (checkNode_c nd i (by omega) w3 HI.out.2.1).mono ?_
           rintro e w4 ⟨rfl, hb4⟩
           have H4 := Lib.hid (show VR w w4 n P (x.take i) ∧ Blk w4 gn 58 (ndc nd) from ⟨H3.out.1.step hb4, H3.out.2.1.old hb4⟩)
           clear hb4))
      have HZ := Lib.hid H3.out.2.2
      clear H3
      obtain ⟨kd, cc, l, r, mn, mx⟩ := nd
      have f0 : w4.cell? ⟨gn, 0, none⟩ = some (vi kd) := H4.out.2.cell 0
      have f5 : w4.cell? ⟨gn, 5, none⟩ = some (vi l) := H4.out.2.cell 5
      have f6 : w4.cell? ⟨gn, 6, none⟩ = some (vi r) := H4.out.2.cell 6
      have hk1 : 1 ≤ kd := HI.out.2.1.k1
      have hk8 : kd ≤ 8 := HI.out.2.1.k8
      have htk := take_snoc_of HI.out.1
      have huse : ∀ j, useX j (x.take (i + 1)) = useX j (x.take i) + useN j ⟨kd, cc, l, r, mn, mx⟩ := fun j => by
        rw [htk, useX_append]
        simp [useX]
      have hub : ∀ j, useX j (x.take i) ≤ 400 := fun j => by
        have := useX_le j (x.take i)
        rw [List.length_take] at this
        omega
      obtain ⟨ak, hak⟩ : ∃ ak, arN kd = ak := ⟨_, rfl⟩
      have hak3 : ak = 0 ∨ ak = 1 ∨ ak = 2 := by
        rw [← hak]
        unfold arN
        repeat' split
        all_goals omega
      have har := fun W => arity_c kd hk1 hk8 W
      rw [hak] at har
      have HA := Lib.hid (And.intro har (And.intro huse (And.intro hub hak)))
      clear har huse hub htk
      rcases hak3 with rfl | rfl | rfl
      · go_wp2_with (first
          | (go_at_call 33
             refine (HA.out.1 w4).mono ?_
             rintro e w5 ⟨rfl, hw⟩
             have hw := hw.symm
             subst hw))
        go_roundw
        case rel => exact ⟨i + 1, P, by omega, by go_num, H4.out.1.below, H4.out.1.pb, H4.out.1.len, fun j hj => by
          rw [HA.out.2.1, H4.out.1.use j hj]
          unfold useN
          rw [if_neg (by show ¬ (1 ≤ arN kd ∧ _); rw [HA.out.2.2.2]; omega), if_neg (by show ¬ (arN kd = 2 ∧ _); rw [HA.out.2.2.2]; omega)]
          rfl⟩
        case measure => simp [intOf]; omega
      · have hll : l < i := HI.out.2.1.hl.1 (by show 1 ≤ arN kd; rw [HA.out.2.2.2]; decide)
        have hln : l < n := by omega
        obtain ⟨p, hp⟩ : ∃ p, P.getD l 0 = p := ⟨_, rfl⟩
        have fp : w4.cell? ⟨w.heap.size, l, none⟩ = some (vi p) := by
          rw [H4.out.1.pb.cell, via_get (by rw [H4.out.1.len]; exact hln), hp]
        have hp4 : p ≤ 400 := by rw [← hp, H4.out.1.use l hln]; exact HA.out.2.2.1 l
        have HP := Lib.hid hp
        have hwp : IntKind.i64.wrap ((p : Int) + 1) = (p : Int) + 1 := i64_wrap _ (by omega)
        clear hp
        go_upto_region 14 with (first
          | (go_at_call 33
             refine (HA.out.1 w4).mono ?_
             rintro e w5 ⟨rfl, hw⟩
             have hw := hw.symm
             subst hw)
          | (with_reducible refine at_oper (.store 3 (.tmp 43) (.tmp 42)) rfl ?_
             refine wpList_store_at rfl 3 (.tmp 43) (.tmp 42) rfl rfl w.heap.size l (.int .i64 ((p : Int) + 1)) _ 3 rfl rfl H4.out.1.pb (by rw [via_size, H4.out.1.len]; exact hln) size3 rfl ?_
             intro w5 k5 o5
             rw [show ((p : Int) + 1) = ((p + 1 : Nat) : Int) by omega, via_set] at k5
             have H5 := Lib.hid (show Below w.heap.size w w5 ∧ Blk w5 w.heap.size 3 (via (P.set l (p + 1))) ∧ Blk w5 gn 58 (ndc ⟨kd, cc, l, r, mn, mx⟩) from ⟨below_only H4.out.1.below o5 (Nat.le_refl _), k5, H4.out.2.only o5 (by have := HZ.out; omega)⟩)
             clear k5 o5))
        clear f0 f5 f6 fp hwp
        have f0 : w5.cell? ⟨gn, 0, none⟩ = some (vi kd) := H5.out.2.2.cell 0
        have f6 : w5.cell? ⟨gn, 6, none⟩ = some (vi r) := H5.out.2.2.cell 6
        have hp1 : ∀ j, j < n → (P.set l (p + 1)).getD j 0 = useX j (x.take i) + (if l = j then 1 else 0) := fun j hj => by
          rw [getD_set, ← H4.out.1.use j hj]
          by_cases hlj : l = j
          · subst hlj
            rw [if_pos ⟨rfl, by rw [H4.out.1.len]; exact hj⟩, if_pos rfl, HP.out]
          · rw [if_neg (by simp [hlj]), if_neg hlj]; rfl
        have hpl : (P.set l (p + 1)).length = n := by rw [List.length_set]; exact H4.out.1.len
        obtain ⟨P1, hP1⟩ : ∃ P1, P.set l (p + 1) = P1 := ⟨_, rfl⟩
        rw [hP1] at H5 hp1 hpl
        have HQ := Lib.hid (And.intro hp1 hpl)
        clear hP1 hp1 hpl
        go_wp2_with (first
          | (go_at_call 33
             refine (HA.out.1 w5).mono ?_
             rintro e w6 ⟨rfl, hw⟩
             have hw := hw.symm
             subst hw))
        go_roundw
        case rel => exact ⟨i + 1, P1, by omega, by go_num, H5.out.1, H5.out.2.1, HQ.out.2, fun j hj => by
          rw [HA.out.2.1, HQ.out.1 j hj]
          unfold useN
          have e1 : (1 ≤ arN kd ∧ l = j) ↔ l = j := by rw [HA.out.2.2.2]; simp
          have e2 : ¬ (arN kd = 2 ∧ r = j) := by rw [HA.out.2.2.2]; omega
          show _ = useX j (x.take i) + ((if 1 ≤ arN kd ∧ l = j then 1 else 0) + (if arN kd = 2 ∧ r = j then 1 else 0))
          rw [if_neg e2]
          by_cases h : l = j
          · rw [if_pos h, if_pos (e1.2 h)]
          · rw [if_neg h, if_neg (fun h2 => h (e1.1 h2))]⟩
        case measure => simp [intOf]; omega
      · have hll : l < i := HI.out.2.1.hl.1 (by show 1 ≤ arN kd; rw [HA.out.2.2.2]; decide)
        have hrr : r < i := HI.out.2.1.hr.1 (by show arN kd = 2; rw [HA.out.2.2.2])
        have hln : l < n := by omega
        obtain ⟨p, hp⟩ : ∃ p, P.getD l 0 = p := ⟨_, rfl⟩
        have fp : w4.cell? ⟨w.heap.size, l, none⟩ = some (vi p) := by
          rw [H4.out.1.pb.cell, via_get (by rw [H4.out.1.len]; exact hln), hp]
        have hp4 : p ≤ 400 := by rw [← hp, H4.out.1.use l hln]; exact HA.out.2.2.1 l
        have HP := Lib.hid hp
        have hwp : IntKind.i64.wrap ((p : Int) + 1) = (p : Int) + 1 := i64_wrap _ (by omega)
        clear hp
        go_upto_region 14 with (first
          | (go_at_call 33
             refine (HA.out.1 w4).mono ?_
             rintro e w5 ⟨rfl, hw⟩
             have hw := hw.symm
             subst hw)
          | (with_reducible refine at_oper (.store 3 (.tmp 43) (.tmp 42)) rfl ?_
             refine wpList_store_at rfl 3 (.tmp 43) (.tmp 42) rfl rfl w.heap.size l (.int .i64 ((p : Int) + 1)) _ 3 rfl rfl H4.out.1.pb (by rw [via_size, H4.out.1.len]; exact hln) size3 rfl ?_
             intro w5 k5 o5
             rw [show ((p : Int) + 1) = ((p + 1 : Nat) : Int) by omega, via_set] at k5
             have H5 := Lib.hid (show Below w.heap.size w w5 ∧ Blk w5 w.heap.size 3 (via (P.set l (p + 1))) ∧ Blk w5 gn 58 (ndc ⟨kd, cc, l, r, mn, mx⟩) from ⟨below_only H4.out.1.below o5 (Nat.le_refl _), k5, H4.out.2.only o5 (by have := HZ.out; omega)⟩)
             clear k5 o5))
        clear f0 f5 f6 fp hwp
        have f0 : w5.cell? ⟨gn, 0, none⟩ = some (vi kd) := H5.out.2.2.cell 0
        have f6 : w5.cell? ⟨gn, 6, none⟩ = some (vi r) := H5.out.2.2.cell 6
        have hp1 : ∀ j, j < n → (P.set l (p + 1)).getD j 0 = useX j (x.take i) + (if l = j then 1 else 0) := fun j hj => by
          rw [getD_set, ← H4.out.1.use j hj]
          by_cases hlj : l = j
          · subst hlj
            rw [if_pos ⟨rfl, by rw [H4.out.1.len]; exact hj⟩, if_pos rfl, HP.out]
          · rw [if_neg (by simp [hlj]), if_neg hlj]; rfl
        have hpl : (P.set l (p + 1)).length = n := by rw [List.length_set]; exact H4.out.1.len
        obtain ⟨P1, hP1⟩ : ∃ P1, P.set l (p + 1) = P1 := ⟨_, rfl⟩
        rw [hP1] at H5 hp1 hpl
        have HQ := Lib.hid (And.intro hp1 hpl)
        clear hP1 hp1 hpl
        have hrn : r < n := by omega
        obtain ⟨q, hq⟩ : ∃ q, P1.getD r 0 = q := ⟨_, rfl⟩
        have fq : w5.cell? ⟨w.heap.size, r, none⟩ = some (vi q) := by
          rw [H5.out.2.1.cell, via_get (by rw [HQ.out.2]; exact hrn), hq]
        have hq4 : q ≤ 401 := by
          rw [← hq, HQ.out.1 r hrn]
          have := HA.out.2.2.1 r
          split <;> omega
        have HP2 := Lib.hid hq
        have hwq : IntKind.i64.wrap ((q : Int) + 1) = (q : Int) + 1 := i64_wrap _ (by omega)
        clear hq
        go_wp2_with (first
          | (go_at_call 33
             refine (HA.out.1 w5).mono ?_
             rintro e w6 ⟨rfl, hw⟩
             have hw := hw.symm
             subst hw)
          | (with_reducible refine at_oper (.store 3 (.tmp 54) (.tmp 53)) rfl ?_
             refine wpList_store_at rfl 3 (.tmp 54) (.tmp 53) rfl rfl w.heap.size r (.int .i64 ((q : Int) + 1)) _ 3 rfl rfl H5.out.2.1 (by rw [via_size, HQ.out.2]; exact hrn) size3 rfl ?_
             intro w7 k7 o7
             rw [show ((q : Int) + 1) = ((q + 1 : Nat) : Int) by omega, via_set] at k7
             have H7 := Lib.hid (show Below w.heap.size w w7 ∧ Blk w7 w.heap.size 3 (via (P1.set r (q + 1))) from ⟨below_only H5.out.1 o7 (Nat.le_refl _), k7⟩)
             clear k7 o7))
        go_roundw
        case rel => exact ⟨i + 1, P1.set r (q + 1), by omega, by go_num, H7.out.1, H7.out.2, by rw [List.length_set]; exact HQ.out.2, fun j hj => by
          rw [HA.out.2.1, getD_set]
          have h1 := HQ.out.1 j hj
          unfold useN
          have e1 : (1 ≤ arN kd ∧ l = j) ↔ l = j := by rw [HA.out.2.2.2]; simp
          have e2 : (arN kd = 2 ∧ r = j) ↔ r = j := by rw [HA.out.2.2.2]; simp
          show _ = useX j (x.take i) + ((if 1 ≤ arN kd ∧ l = j then 1 else 0) + (if arN kd = 2 ∧ r = j then 1 else 0))
          have g1 : (if 1 ≤ arN kd ∧ l = j then 1 else 0) = if l = j then 1 else 0 := by
            by_cases h : l = j
            · rw [if_pos h, if_pos (e1.2 h)]
            · rw [if_neg h, if_neg (fun h2 => h (e1.1 h2))]
          rw [g1]
          by_cases h : r = j
          · subst h
            rw [if_pos ⟨rfl, by rw [HQ.out.2]; exact hj⟩, if_pos (e2.2 rfl), ← HP2.out, h1]; omega
          · rw [if_neg (by simp [h]), if_neg (fun h2 => h (e2.1 h2)), h1]; omega⟩
        case measure => simp [intOf]; omega
    · have d1 : decide ((i : Int) < n) = false := by simp; omega
      obtain rfl : n = i := by omega
      have hV := HV.out
      rw [List.take_of_length_le (by rw [HLen.out]; exact Nat.le_refl _)] at hV
      have HV2 := Lib.hid hV
      clear hV HV
      obtain ⟨m, hm⟩ : ∃ m, n = m + 1 := ⟨n - 1, by omega⟩
      have hsub : (n : Int) - 1 = (m : Int) := by omega
      have hwm : IntKind.i64.wrap (m : Int) = (m : Int) := i64_wrap _ (by omega)
      have hmn : m ≤ n := by omega
      have HM := Lib.hid hm
      clear hm
      go_wp2_with fail
      go_loopw [62] (fun s62 wx => ∃ k : Nat, k ≤ m ∧ s62 = vi k ∧ wx = wr) (fun s62 _ => m - (intOf s62).toNat)
      case atStart => exact ⟨0, Nat.zero_le _, rfl, rfl⟩
      case round =>
        obtain ⟨k, hk, rfl, rfl⟩ := hrel
        by_cases hkm : k < m
        · have d2 : decide ((k : Int) < m) = true := by simp; omega
          have fk : wr.cell? ⟨w.heap.size, k, none⟩ = some (vi 1) := by
            rw [HV2.out.pb.cell, via_get (by rw [HV2.out.len]; omega), HV2.out.use k (by omega), HX.out.2.use k, if_pos (by rw [HLen.out]; have := HM.out; omega)]
          go_wp2_with fail
          go_roundw
          case rel => exact ⟨k + 1, by omega, by go_num, trivial⟩
          case measure => simp [intOf]; omega
        · have d2 : decide ((k : Int) < m) = false := by simp; omega
          go_wp2_with fail
          go_ret
          exact ⟨rfl, HV2.out.below⟩
end Go.Proofs.YtjgkdfghjeodeaaGreatDoor
