/- class.combine and what stands on it. -/
import Derived.Test.YtjgkdfghjeodeaaGreatDoorT3
import Derived.Test.YtjgkdfghjeodeaaGreatDoorT4
import Derived.Test.YtjgkdfghjeodeaaGreatDoorT5
import Derived.RangeFuncNested
import Derived.RangeFuncBound
import Derived.RangeFuncCalls
import Derived.RangeFuncLeaves
import Derived.RangeFuncGives
import Derived.RangeFuncBox
import Derived.Shelf.Abstract
import Derived.Shelf.RegionOpen
import Derived.OwnWalkIn
import Derived.TacticsInMore
import Derived.LoopNIn
import Derived.LoopIn
namespace Go.Proofs.YtjgkdfghjeodeaaGreatDoor
open Go.RowKit

theorem ccells_at (c i : Nat) (h : i < 4) : (ccells c)[i]? = some (vu (wd c i)) := by
  have : i = 0 ∨ i = 1 ∨ i = 2 ∨ i = 3 := by omega
  rcases this with rfl | rfl | rfl | rfl <;> rfl
/-- the first i words are written -/
def mixC (r i : Nat) : Array Value := #[vu (if 0 < i then wd r 0 else 0), vu (if 1 < i then wd r 1 else 0), vu (if 2 < i then wd r 2 else 0), vu (if 3 < i then wd r 3 else 0)]
theorem mixC_set (r i : Nat) (h : i < 4) : (mixC r i).setIfInBounds i (vu (wd r i)) = mixC r (i + 1) := by
  have : i = 0 ∨ i = 1 ∨ i = 2 ∨ i = 3 := by omega
  rcases this with rfl | rfl | rfl | rfl <;> rfl

set_option maxRecDepth 100000 in
theorem combine_c (F : Nat → Nat → Nat) (g : FuncId) (hf : ∀ x y : Nat, x < 18446744073709551616 → y < 18446744073709551616 → ∀ w : World, Calls Tryz.prog g #[vu x, vu y] w fun e w' => e = .returned (vu (F x y)) ∧ w' = w)
    (eg : ∀ args w, (callFunc g args).run Tryz.prog w = .ok (.enter g args) w) (a b r : Nat) (hr : ∀ i, i < 4 → F (wd a i) (wd b i) = wd r i) (w : World) : Calls Tryz.prog 97 #[encC a, encC b, .func (.func g) #[] #[]] w (Gives w (encC r)) := by
  go_enter Tryz.func97, Tryz.ntmps97
  unfold encC
  obtain ⟨A, hA⟩ : ∃ A, ccells a = A := ⟨_, rfl⟩
  obtain ⟨B, hB⟩ : ∃ B, ccells b = B := ⟨_, rfl⟩
  rw [hA, hB]
  go_upto_region 2 with fail
  have HK := Lib.hid (show (let W := (((w.alloc (.cells A 56)).alloc (.cells B 56)).alloc (.cells #[vu 0, vu 0, vu 0, vu 0] 56)).alloc (.cells #[vu 0, vu 0, vu 0, vu 0] 56)
      Below w.heap.size w W ∧ Blk W w.heap.size 56 A ∧ Blk W (w.heap.size + 1) 56 B ∧ Blk W (w.heap.size + 1 + 1) 56 #[vu 0, vu 0, vu 0, vu 0] ∧ Blk W (w.heap.size + 1 + 1 + 1) 56 (mixC r 0)) from by
    have h1 := (Blk.new w 56 A)
    have h2 := (Blk.new (w.alloc (.cells A 56)) 56 B)
    have h3 := (Blk.new ((w.alloc (.cells A 56)).alloc (.cells B 56)) 56 #[vu 0, vu 0, vu 0, vu 0])
    have h4 := (Blk.new (((w.alloc (.cells A 56)).alloc (.cells B 56)).alloc (.cells #[vu 0, vu 0, vu 0, vu 0] 56)) 56 #[vu 0, vu 0, vu 0, vu 0])
    simp only [World.size_alloc] at h2 h3 h4
    exact ⟨((((Below.refl _ w).alloc (Nat.le_refl _) _).alloc (by simp) _).alloc (by simp; omega) _).alloc (by simp; omega) _, ((h1.alloc _).alloc _).alloc _, (h2.alloc _).alloc _, h3.alloc _, h4⟩)
  generalize (((w.alloc (.cells A 56)).alloc (.cells B 56)).alloc (.cells #[vu 0, vu 0, vu 0, vu 0] 56)).alloc (.cells #[vu 0, vu 0, vu 0, vu 0] 56) = W at *
  go_wp2_with fail
  go_loopw [9] (fun s9 wr => ∃ i : Nat, i ≤ 4 ∧ s9 = vi i ∧ Below w.heap.size w wr ∧ Blk wr w.heap.size 56 A ∧ Blk wr (w.heap.size + 1) 56 B ∧ Blk wr (w.heap.size + 1 + 1) 56 #[vu 0, vu 0, vu 0, vu 0] ∧ Blk wr (w.heap.size + 1 + 1 + 1) 56 (mixC r i)) (fun s9 _ => 4 - (intOf s9).toNat)
  case atStart => exact ⟨0, by decide, rfl, HK.out⟩
  case round =>
    obtain ⟨i, hi, rfl, hm⟩ := hrel
    have HM := Lib.hid hm
    clear hm HK
    by_cases h4 : i < 4
    · have d1 : decide ((i : Int) < 4) = true := by simp; omega
      go_upto_region 5 with fail
      obtain ⟨hb, k0, k1, k2, k3⟩ := HM.out
      have s0 : wr.drew.cell? ⟨w.heap.size, i, none⟩ = some (vu (wd a i)) ∧ wr.drew.cell? ⟨w.heap.size + 1, i, none⟩ = some (vu (wd b i)) := by
        refine ⟨((blk_drew k0).cell i).trans ?_, ((blk_drew k1).cell i).trans ?_⟩
        · rw [← hA]; exact ccells_at a i h4
        · rw [← hB]; exact ccells_at b i h4
      have k5 := (blk_drew k3).set_ i (vu (wd r i))
      rw [mixC_set r i h4] at k5
      have HN := Lib.hid (show Below w.heap.size w (wr.drew.setCell ⟨w.heap.size + 1 + 1 + 1, i, none⟩ (vu (wd r i))) ∧ Blk (wr.drew.setCell ⟨w.heap.size + 1 + 1 + 1, i, none⟩ (vu (wd r i))) w.heap.size 56 A ∧ Blk (wr.drew.setCell ⟨w.heap.size + 1 + 1 + 1, i, none⟩ (vu (wd r i))) (w.heap.size + 1) 56 B ∧ Blk (wr.drew.setCell ⟨w.heap.size + 1 + 1 + 1, i, none⟩ (vu (wd r i))) (w.heap.size + 1 + 1) 56 #[vu 0, vu 0, vu 0, vu 0] ∧ Blk (wr.drew.setCell ⟨w.heap.size + 1 + 1 + 1, i, none⟩ (vu (wd r i))) (w.heap.size + 1 + 1 + 1) 56 (mixC r (i + 1)) from
        ⟨hb.drew.setCell (p := ⟨w.heap.size + 1 + 1 + 1, i, none⟩) (by simp; omega) _, (blk_drew k0).far (by simp; omega) _, (blk_drew k1).far (by simp) _, (blk_drew k2).far (by simp) _, k5⟩)
      have c3 : wr.drew.cell? ⟨w.heap.size + 1 + 1 + 1, i, none⟩ = some (vu (if i < i then wd r i else 0)) := by
        refine ((blk_drew k3).cell i).trans ?_
        have : i = 0 ∨ i = 1 ∨ i = 2 ∨ i = 3 := by omega
        rcases this with rfl | rfl | rfl | rfl <;> rfl
      have f3 := (blk_drew k3).frozen i
      have HE := Lib.hid (hr i h4)
      clear hb k0 k1 k2 k3 k5 hr
      refine wp_region_reads (by kernel_rfl) 8 9 [vi i, .func (.func g) #[] #[], vi i, .pointer (some ⟨w.heap.size, i, none⟩), vu (wd a i), vi i, .pointer (some ⟨w.heap.size + 1, i, none⟩), vu (wd b i)]
        (fun W => W.cell? ⟨w.heap.size, i, none⟩ = some (vu (wd a i)) ∧ W.cell? ⟨w.heap.size + 1, i, none⟩ = some (vu (wd b i))) (by decide +kernel) (fun _ _ d _ _ h => by cases d <;> exact h) s0 (fun W hS => ?_) ?_
      · obtain ⟨s1, s2⟩ := hS
        clear s0 c3
        have d2 : ¬ (4 : Int) ≤ (i : Int) := by omega
        dsimp only [List.take]
        repeat (refine ⟨by go_simp, ?_⟩; simp only [Act.put, List.setIfInBounds_toArray, List.set_cons_zero, List.set_cons_succ])
        exact trivial
      dsimp only [List.take, List.drop, putL]
      simp only [Act.put, List.setIfInBounds_toArray, List.set_cons_zero, List.set_cons_succ]
      have hcall := hf (wd a i) (wd b i) (wd_lt a i) (wd_lt b i)
      refine chain_step #[] rfl (step_call rfl g #[vu (wd a i), vu (wd b i)] (by go_simp) ?_)
      refine (hcall _).mono ?_
      rintro e w' ⟨rfl, rfl⟩
      rw [HE.out]
      refine ⟨_, rfl, fun _ => s0, ?_⟩
      clear s0
      simp only [Act.put, List.setIfInBounds_toArray, List.set_cons_zero, List.set_cons_succ]
      dsimp only [chainW]
      go_simp
      go_wp2_with fail
      go_roundw
      case rel => exact ⟨i + 1, by omega, by go_num, HN.out⟩
      case measure => simp [intOf]; omega
    · have d1 : decide ((i : Int) < 4) = false := by simp; omega
      obtain rfl : i = 4 := by omega
      obtain ⟨hb, k0, k1, k2, k3⟩ := HM.out
      rw [show mixC r 4 = ccells r from rfl] at k3
      have HB := Lib.hid hb
      have H2 := Lib.hid k2
      have H3 := Lib.hid k3
      clear hb k0 k1 k2 k3 hr hf
      go_upto_region 7 with fail
      go_wp2_with (first
        | (refine wpList_load_blk rfl 56 (.tmp 7) rfl (w.heap.size + 1 + 1 + 1) rfl 56 (ccells r) _ H3.out Tryz.underlying56 rfl size56 ?_)
        | (refine wpList_store_blk rfl 56 (.tmp 6) (.tmp 23) rfl rfl (w.heap.size + 1 + 1) (ccells r) _ 56 rfl rfl H2.out size56 rfl (encC_one r) ?_
           intro w5 k5 o5
           have H5 := Lib.hid k5
           have O5 := Lib.hid o5
           clear k5 o5))
      refine bodyPost_ret (results_cell rfl _ _ (w.heap.size + 1 + 1) rfl 56 _ H5.out Tryz.underlying56 rfl size56) rfl ?_
      exact ⟨rfl, below_only HB.out O5.out (by omega)⟩

theorem union_class_c (a b : Nat) (w : World) : Calls Tryz.prog 47 #[encC a, encC b] w (Gives w (encC (a ||| b))) := by
  have hc := fun w => combine_c (fun x y => x ||| y) 99 union_c (enters_of Tryz.func99 (by kernel_rfl) rfl) a b (a ||| b) (fun i hi => (wd_or a b i).symm) w
  have sz : (ccells a).size = (ccells (a ||| b)).size ∧ (ccells b).size = (ccells (a ||| b)).size := ⟨rfl, rfl⟩
  obtain ⟨R, hR⟩ : ∃ R, ccells (a ||| b) = R := ⟨_, rfl⟩
  have HR1 := Lib.hid (show R.all (·.oneCell') = true from hR ▸ encC_one _)
  have HRs := Lib.hid (show R.size = 4 from hR ▸ rfl)
  obtain ⟨A, hA⟩ : ∃ A, ccells a = A := ⟨_, rfl⟩
  obtain ⟨B, hB⟩ : ∃ B, ccells b = B := ⟨_, rfl⟩
  unfold encC at *
  rw [hA, hB] at sz
  simp only [hA, hB, hR] at hc sz ⊢
  have HS := Lib.hid sz
  clear hR hA hB sz
  go_enter Tryz.func47, Tryz.ntmps47
  go_upto_region 1 with fail
  obtain ⟨b1, k1, k2, k3⟩ := al3 w 56 56 56 A B #[vu 0, vu 0, vu 0, vu 0]
  generalize (((w.alloc (.cells A 56)).alloc (.cells B 56)).alloc (.cells #[vu 0, vu 0, vu 0, vu 0] 56)) = W at *
  have K1 := Lib.hid k1
  have K2 := Lib.hid k2
  have K3 := Lib.hid k3
  have B1 := Lib.hid b1
  clear k1 k2 k3 b1
  go_wp2_with (first
    | (refine wpList_load_blk rfl 56 (.tmp 2) rfl w.heap.size rfl 56 A _ K1.out Tryz.underlying56 rfl (by rw [HS.out.1, HRs.out]; exact size56) ?_)
    | (refine wpList_load_blk rfl 56 (.tmp 3) rfl (w.heap.size + 1) rfl 56 B _ K2.out Tryz.underlying56 rfl (by rw [HS.out.2, HRs.out]; exact size56) ?_)
    | (go_at_call 97
       refine (hc _).mono ?_
       rintro e w3 ⟨rfl, hb3⟩
       have B3 := Lib.hid hb3
       clear hb3 hc)
    | (refine wpList_store_blk rfl 56 (.tmp 4) (.tmp 7) rfl rfl (w.heap.size + 1 + 1) R _ 56 rfl rfl (K3.out.old B3.out) (by rw [HRs.out]; exact size56) (by rw [HRs.out]; rfl) HR1.out ?_
       intro w5 k5 o5
       have H5 := Lib.hid k5
       have O5 := Lib.hid o5
       clear k5 o5))
  refine bodyPost_ret (results_cell rfl _ _ (w.heap.size + 1 + 1) rfl 56 _ H5.out Tryz.underlying56 rfl (by rw [HRs.out]; exact size56)) rfl ?_
  exact ⟨rfl, below_only (B1.out.trans (B3.out.mono B1.out.size)) O5.out (by omega)⟩

theorem inter_class_c (a b : Nat) (w : World) : Calls Tryz.prog 46 #[encC a, encC b] w (Gives w (encC (a &&& b))) := by
  have hc := fun w => combine_c (fun x y => x &&& y) 98 inter_c (enters_of Tryz.func98 (by kernel_rfl) rfl) a b (a &&& b) (fun i hi => (wd_and a b i).symm) w
  have sz : (ccells a).size = (ccells (a &&& b)).size ∧ (ccells b).size = (ccells (a &&& b)).size := ⟨rfl, rfl⟩
  obtain ⟨R, hR⟩ : ∃ R, ccells (a &&& b) = R := ⟨_, rfl⟩
  have HR1 := Lib.hid (show R.all (·.oneCell') = true from hR ▸ encC_one _)
  have HRs := Lib.hid (show R.size = 4 from hR ▸ rfl)
  obtain ⟨A, hA⟩ : ∃ A, ccells a = A := ⟨_, rfl⟩
  obtain ⟨B, hB⟩ : ∃ B, ccells b = B := ⟨_, rfl⟩
  unfold encC at *
  rw [hA, hB] at sz
  simp only [hA, hB, hR] at hc sz ⊢
  have HS := Lib.hid sz
  clear hR hA hB sz
  go_enter Tryz.func46, Tryz.ntmps46
  go_upto_region 1 with fail
  obtain ⟨b1, k1, k2, k3⟩ := al3 w 56 56 56 A B #[vu 0, vu 0, vu 0, vu 0]
  generalize (((w.alloc (.cells A 56)).alloc (.cells B 56)).alloc (.cells #[vu 0, vu 0, vu 0, vu 0] 56)) = W at *
  have K1 := Lib.hid k1
  have K2 := Lib.hid k2
  have K3 := Lib.hid k3
  have B1 := Lib.hid b1
  clear k1 k2 k3 b1
  go_wp2_with (first
    | (refine wpList_load_blk rfl 56 (.tmp 2) rfl w.heap.size rfl 56 A _ K1.out Tryz.underlying56 rfl (by rw [HS.out.1, HRs.out]; exact size56) ?_)
    | (refine wpList_load_blk rfl 56 (.tmp 3) rfl (w.heap.size + 1) rfl 56 B _ K2.out Tryz.underlying56 rfl (by rw [HS.out.2, HRs.out]; exact size56) ?_)
    | (go_at_call 97
       refine (hc _).mono ?_
       rintro e w3 ⟨rfl, hb3⟩
       have B3 := Lib.hid hb3
       clear hb3 hc)
    | (refine wpList_store_blk rfl 56 (.tmp 4) (.tmp 7) rfl rfl (w.heap.size + 1 + 1) R _ 56 rfl rfl (K3.out.old B3.out) (by rw [HRs.out]; exact size56) (by rw [HRs.out]; rfl) HR1.out ?_
       intro w5 k5 o5
       have H5 := Lib.hid k5
       have O5 := Lib.hid o5
       clear k5 o5))
  refine bodyPost_ret (results_cell rfl _ _ (w.heap.size + 1 + 1) rfl 56 _ H5.out Tryz.underlying56 rfl (by rw [HRs.out]; exact size56)) rfl ?_
  exact ⟨rfl, below_only (B1.out.trans (B3.out.mono B1.out.size)) O5.out (by omega)⟩

theorem minus_class_c (a b : Nat) (w : World) : Calls Tryz.prog 109 #[encC a, encC b] w (Gives w (encC (minC a b))) := by
  have hc := fun w => combine_c (fun x y => x &&& (18446744073709551615 ^^^ y)) 123 minus_c (enters_of Tryz.func123 (by kernel_rfl) rfl) a b (minC a b) (fun i hi => (wd_min a b i hi).symm) w
  have sz : (ccells a).size = (ccells (minC a b)).size ∧ (ccells b).size = (ccells (minC a b)).size := ⟨rfl, rfl⟩
  obtain ⟨R, hR⟩ : ∃ R, ccells (minC a b) = R := ⟨_, rfl⟩
  have HR1 := Lib.hid (show R.all (·.oneCell') = true from hR ▸ encC_one _)
  have HRs := Lib.hid (show R.size = 4 from hR ▸ rfl)
  obtain ⟨A, hA⟩ : ∃ A, ccells a = A := ⟨_, rfl⟩
  obtain ⟨B, hB⟩ : ∃ B, ccells b = B := ⟨_, rfl⟩
  unfold encC at *
  rw [hA, hB] at sz
  simp only [hA, hB, hR] at hc sz ⊢
  have HS := Lib.hid sz
  clear hR hA hB sz
  go_enter Tryz.func109, Tryz.ntmps109
  go_upto_region 1 with fail
  obtain ⟨b1, k1, k2, k3⟩ := al3 w 56 56 56 A B #[vu 0, vu 0, vu 0, vu 0]
  generalize (((w.alloc (.cells A 56)).alloc (.cells B 56)).alloc (.cells #[vu 0, vu 0, vu 0, vu 0] 56)) = W at *
  have K1 := Lib.hid k1
  have K2 := Lib.hid k2
  have K3 := Lib.hid k3
  have B1 := Lib.hid b1
  clear k1 k2 k3 b1
  go_wp2_with (first
    | (refine wpList_load_blk rfl 56 (.tmp 2) rfl w.heap.size rfl 56 A _ K1.out Tryz.underlying56 rfl (by rw [HS.out.1, HRs.out]; exact size56) ?_)
    | (refine wpList_load_blk rfl 56 (.tmp 3) rfl (w.heap.size + 1) rfl 56 B _ K2.out Tryz.underlying56 rfl (by rw [HS.out.2, HRs.out]; exact size56) ?_)
    | (go_at_call 97
       refine (hc _).mono ?_
       rintro e w3 ⟨rfl, hb3⟩
       have B3 := Lib.hid hb3
       clear hb3 hc)
    | (refine wpList_store_blk rfl 56 (.tmp 4) (.tmp 7) rfl rfl (w.heap.size + 1 + 1) R _ 56 rfl rfl (K3.out.old B3.out) (by rw [HRs.out]; exact size56) (by rw [HRs.out]; rfl) HR1.out ?_
       intro w5 k5 o5
       have H5 := Lib.hid k5
       have O5 := Lib.hid o5
       clear k5 o5))
  refine bodyPost_ret (results_cell rfl _ _ (w.heap.size + 1 + 1) rfl 56 _ H5.out Tryz.underlying56 rfl (by rw [HRs.out]; exact size56)) rfl ?_
  exact ⟨rfl, below_only (B1.out.trans (B3.out.mono B1.out.size)) O5.out (by omega)⟩

theorem not_class_c (a : Nat) (w : World) : Calls Tryz.prog 48 #[encC a] w (Gives w (encC (notC a))) := by
  have hc := fun w => combine_c (fun x _ => 18446744073709551615 ^^^ x) 100 not_c' (enters_of Tryz.func100 (by kernel_rfl) rfl) a a (notC a) (fun i hi => (wd_not a i hi).symm) w
  have sz : (ccells a).size = (ccells (notC a)).size := rfl
  obtain ⟨R, hR⟩ : ∃ R, ccells (notC a) = R := ⟨_, rfl⟩
  have HR1 := Lib.hid (show R.all (·.oneCell') = true from hR ▸ encC_one _)
  have HRs := Lib.hid (show R.size = 4 from hR ▸ rfl)
  obtain ⟨A, hA⟩ : ∃ A, ccells a = A := ⟨_, rfl⟩
  unfold encC at *
  rw [hA] at sz
  simp only [hA, hR] at hc sz ⊢
  have HS := Lib.hid sz
  clear hR hA sz
  go_enter Tryz.func48, Tryz.ntmps48
  go_upto_region 1 with fail
  obtain ⟨b1, k1, k3⟩ := al2 w 56 56 A #[vu 0, vu 0, vu 0, vu 0]
  generalize ((w.alloc (.cells A 56)).alloc (.cells #[vu 0, vu 0, vu 0, vu 0] 56)) = W at *
  have K1 := Lib.hid k1
  have K3 := Lib.hid k3
  have B1 := Lib.hid b1
  clear k1 k3 b1
  go_wp2_with (first
    | (refine wpList_load_blk rfl 56 (.tmp 1) rfl w.heap.size rfl 56 A _ K1.out Tryz.underlying56 rfl (by rw [HS.out, HRs.out]; exact size56) ?_)
    | (go_at_call 97
       refine (hc _).mono ?_
       rintro e w3 ⟨rfl, hb3⟩
       have B3 := Lib.hid hb3
       clear hb3 hc)
    | (refine wpList_store_blk rfl 56 (.tmp 2) (.tmp 5) rfl rfl (w.heap.size + 1) R _ 56 rfl rfl (K3.out.old B3.out) (by rw [HRs.out]; exact size56) (by rw [HRs.out]; rfl) HR1.out ?_
       intro w5 k5 o5
       have H5 := Lib.hid k5
       have O5 := Lib.hid o5
       clear k5 o5))
  refine bodyPost_ret (results_cell rfl _ _ (w.heap.size + 1) rfl 56 _ H5.out Tryz.underlying56 rfl (by rw [HRs.out]; exact size56)) rfl ?_
  exact ⟨rfl, below_only (B1.out.trans (B3.out.mono B1.out.size)) O5.out (by omega)⟩

end Go.Proofs.YtjgkdfghjeodeaaGreatDoor
namespace Go.Proofs.YtjgkdfghjeodeaaGreatDoor
open Go.RowKit

/-- the library's table -/
def Tab (w : World) : Prop := TabAt 0 Lib.deBruijn64tab w

theorem tz_core (x k idx : Nat) (w : World) (hx0 : ((x : Int) == 0) = false)
    (key : IntKind.u64.wrap (bits BinOp.and IntKind.u64 (x : Int) (IntKind.u64.wrap (-(x : Int))) * 285870213051353865) / 288230376151711744 = (idx : Int))
    (hi : idx < 64) (hk : k < 64) (hcell : w.cell? ⟨0, idx, none⟩ = some (.int .u8 k)) :
    Calls Tryz.prog 19 #[vu x] w fun e w' => e = .returned (vi k) ∧ w' = w := by
  go_enter Tryz.func19, Tryz.ntmps19
  go_wp2_with (simp only [key])
  go_ret
  exact ⟨rfl, rfl⟩
theorem tz_c (x : Nat) (hx : x < 18446744073709551616) (hx0 : x ≠ 0) (w : World) (hT : Tab w) : Calls Tryz.prog 19 #[vu x] w fun e w' => e = .returned (vi (Lib.ctz 64 x)) ∧ w' = w := by
  obtain ⟨hlow, hk⟩ := Lib.lowest_bit 64 x hx0 hx
  obtain ⟨hi, htab⟩ := Lib.deBruijn64_at _ hk
  have hcell := hT _ hi
  rw [htab] at hcell
  exact tz_core x _ _ w (by simp; omega) (tz64_key x _ hx hx0 hlow) hi hk hcell

theorem and_pow (n k : Nat) : ((n &&& 2 ^ k : Nat) != 0) = n.testBit k := by
  cases h : n.testBit k with
  | true =>
    have : (n &&& 2 ^ k) ≠ 0 := fun e => by
      have h2 : (n &&& 2 ^ k).testBit k = true := by rw [Nat.testBit_and, h, Nat.testBit_two_pow_self]; rfl
      rw [e] at h2; simp at h2
    simpa using this
  | false =>
    have : (n &&& 2 ^ k) = 0 := Nat.eq_of_testBit_eq fun j => by
      rw [Nat.testBit_and, Nat.testBit_two_pow]
      by_cases e : k = j
      · subst e; simp [h]
      · simp [e]
    simp [this]
theorem nat_bne (n : Nat) : ((n : Int) != 0) = (n != 0) := by cases n <;> rfl
theorem has_c (c x : Nat) (hx : x < 256) (w : World) : Calls Tryz.prog 76 #[encC c, .int .u8 x] w (Gives w (.bool (c.testBit x))) := by
  have hw := wd_lt c (x / 64)
  have hp : (2 : Nat) ^ (x % 64) < 18446744073709551616 := Nat.lt_of_lt_of_le (Nat.pow_lt_pow_right (by decide) (Nat.mod_lt x (by decide))) (by decide)
  have hb := bits_and_u64_nat (wd c (x / 64)) (2 ^ (x % 64)) hw hp
  have hres : ((wd c (x / 64) &&& 2 ^ (x % 64) : Nat) != 0) = c.testBit x := by
    have h2 := wd_bit c (x / 64) (x % 64)
    rw [show 64 * (x / 64) + x % 64 = x by omega, decide_eq_true (Nat.mod_lt x (by decide)), Bool.true_and] at h2
    rw [← h2, and_pow]
  have hat := ccells_at c (x / 64) (by omega)
  unfold encC
  obtain ⟨A, hA⟩ : ∃ A, ccells c = A := ⟨_, rfl⟩
  rw [hA] at hat ⊢
  go_enter Tryz.func76, Tryz.ntmps76
  go_upto_region 1 with fail
  obtain ⟨b1, k1⟩ := al1 w 56 A
  generalize w.alloc (.cells A 56) = W at *
  have c1 : W.cell? ⟨w.heap.size, x / 64, none⟩ = some (vu (wd c (x / 64))) := (k1.cell _).trans hat
  have hl : x / 64 < 4 := by omega
  have Hres := Lib.hid hres
  have B1 := Lib.hid b1
  clear k1 hat hA hres hw b1
  go_wp2
  go_ret
  refine ⟨ret_bool ?_, B1.out⟩
  have hwr : IntKind.u64.wrap ((2 : Int) ^ (x % 64)) = ((2 ^ (x % 64) : Nat) : Int) := by
    rw [IntKind.wrap_u64, Int.natCast_pow]
    have : ((2 ^ (x % 64) : Nat) : Int) < 18446744073709551616 := by omega
    rw [Int.natCast_pow] at this
    exact Int.emod_eq_of_lt (Int.pow_nonneg (by decide)) this
  rw [hwr, hb, ← Hres.out]
  exact nat_bne _
end Go.Proofs.YtjgkdfghjeodeaaGreatDoor
namespace Go.Proofs.YtjgkdfghjeodeaaGreatDoor
open Go.RowKit Go.Shelf
attribute [local go_sem] Oper.semAt_some

abbrev B8 := { x : Nat // x < 256 }
abbrev encB (x : B8) : Value := .int .u8 (x.1 : Int)
def vals (l : List B8) : List Nat := l.map (·.1)

theorem Tab.below {n₀ : Nat} {W W' : World} (h : Tab W) (hn : 0 < n₀) (hb : Below n₀ W W') : Tab W' := fun j hj => (hb.cell (p := ⟨0, j, none⟩) hn).trans (h j hj)

theorem index56 (a b c d : Nat) (i x : Nat) (h : (i = 0 ∧ x = a) ∨ (i = 1 ∧ x = b) ∨ (i = 2 ∧ x = c) ∨ (i = 3 ∧ x = d)) (w : World) : (Instr.index 56 (.agg #[vu a, vu b, vu c, vu d]) (vi i)).run Tryz.prog w = .ok (vu x) w := by
  have hu := run_underlying Tryz.underlying56 w
  rcases h with ⟨rfl, rfl⟩ | ⟨rfl, rfl⟩ | ⟨rfl, rfl⟩ | ⟨rfl, rfl⟩
  all_goals simp [Instr.index, asIntOf, Sem.run_bind, hu, part, go_sem]
set_option maxRecDepth 100000 in
set_option maxHeartbeats 1000000 in
theorem members1_in (n : Nat) (hn : 2 ≤ n) (l Bn n₀ : Nat) (h0n : 0 < n₀) (c : Nat) (J Jx : List B8 → World → Prop)
    (hY : ∀ pre x W, J pre W → pre.length < 256 → YieldAt Fence.wide (n - 1) Tryz.prog l #[encB x] W fun e W' =>
      (e = .returned (.bool true) ∧ J (pre ++ [x]) W' ∧ Below n₀ W W') ∨ (e = .returned (.bool false) ∧ Jx (pre ++ [x]) W'))
    (W : World) (hBn : Blk W Bn 56 (ccells c)) (hT : Tab W) (h0 : J [] W) :
    CallsIn Fence.wide n Tryz.prog 119 #[.func (.yield l) #[] #[], .pointer (some ⟨Bn, 0, none⟩)] W fun e W' => (∃ v, e = .returned v) ∧
      ((∃ ys, vals ys = bytesC c ∧ J ys W') ∨ (∃ pre, vals pre <+: bytesC c ∧ Jx pre W')) := by
  refine callsIn_of_wp Tryz.func119 rfl trivial ?_ rfl
  simp only [Tryz.ntmps119, List.size_toArray, List.length_cons, List.length_nil, Nat.reduceAdd, Nat.reduceSub, Array.replicate_succ, Array.replicate_zero, List.push_toArray, List.append_toArray, List.nil_append, List.cons_append]
  have e0 : W.cell? ⟨Bn, 0, none⟩ = some (vu (wd c 0)) := hBn.cell 0
  have e1 : W.cell? ⟨Bn, 1, none⟩ = some (vu (wd c 1)) := hBn.cell 1
  have e2 : W.cell? ⟨Bn, 2, none⟩ = some (vu (wd c 2)) := hBn.cell 2
  have e3 : W.cell? ⟨Bn, 3, none⟩ = some (vu (wd c 3)) := hBn.cell 3
  clear hBn
  have HT := Lib.hid hT
  clear hT
  gi_wp2
  gi_loopw [6] (fun s6 wr => ∃ (i : Nat) (pre : List B8), i ≤ 4 ∧ s6 = vi i ∧ vals pre ++ tailC c i = bytesC c ∧ Tab wr ∧ J pre wr) (fun s6 _ => 4 - (intOf s6).toNat)
  case atStart => exact ⟨0, [], by decide, rfl, by rw [tailC_zero]; rfl, HT.out, h0⟩
  case round =>
    obtain ⟨i, pre, hi, rfl, hpre, hTw, hJ⟩ := hrel
    have HTw := Lib.hid hTw
    have Hpre := Lib.hid hpre
    clear hTw hpre e0 e1 e2 e3 HT h0
    by_cases h4 : i < 4
    · have d1 : decide ((i : Int) < 4) = true := by simp; omega
      have d2 : decide (i < 4) = true := by simp; omega
      have hix := index56 (wd c 0) (wd c 1) (wd c 2) (wd c 3) i (wd c i) (by
        have : i = 0 ∨ i = 1 ∨ i = 2 ∨ i = 3 := by omega
        rcases this with rfl | rfl | rfl | rfl <;> simp)
      have hwl := wd_lt c i
      gi_wp2
      gi_loopw [4] (fun s4 wr => ∃ (x : Nat) (pre : List B8), x < 18446744073709551616 ∧ s4 = vu x ∧ vals pre ++ ((memW x).map (fun j => 64 * i + j) ++ tailC c (i + 1)) = bytesC c ∧ Tab wr ∧ J pre wr) (fun s4 _ => (intOf s4).toNat)
      case atStart => exact ⟨wd c i, pre, hwl, rfl, by rw [← tailC_succ c i h4]; exact Hpre.out, HTw.out, hJ⟩
      case round =>
        obtain ⟨x, pre, hx, rfl, hpre, hT, hJ⟩ := hrel
        by_cases hx0 : x = 0
        · subst hx0
          rw [memW_zero] at hpre
          have Hp := Lib.hid hpre
          have HT := Lib.hid hT
          clear hpre hT
          gi_wp2
          go_roundw
          case rel => exact ⟨i + 1, pre, by omega, by go_num, Hp.out, HT.out, hJ⟩
          case measure => simp [intOf]; omega
        · have hx0' : ((x : Int) != 0) = true := by rw [nat_bne]; simpa using hx0
          have hw19 : Fence.wide.fn 19 := trivial
          have hn1 : 1 ≤ n := by omega
          have hn2 : 1 ≤ n - 1 := by omega
          have hs := memW_step x hx0 hx
          obtain ⟨hk, _, _, _⟩ := ctz_bits x hx0 hx
          have hcall := tz_c x hx hx0
          rw [hs] at hpre
          obtain ⟨k, hkk⟩ : ∃ k, Lib.ctz 64 x = k := ⟨_, rfl⟩
          rw [hkk] at hpre hk hcall
          have hlt := and_pred_lt x hx0
          have hband := bits_and_u64_nat x (x - 1) hx (by omega)
          have hwr : IntKind.u64.wrap ((x : Int) - 1) = ((x - 1 : Nat) : Int) := by rw [IntKind.wrap_u64]; omega
          obtain ⟨y, hy0⟩ : ∃ y, x &&& (x - 1) = y := ⟨_, rfl⟩
          obtain ⟨z, hz0⟩ : ∃ z, x - 1 = z := ⟨_, rfl⟩
          rw [hy0] at hpre hlt hband
          rw [hz0] at hband hwr
          have hlen : pre.length < 256 := by
            have h1 := congrArg List.length hpre
            have h2 := bytesC_len c
            simp [vals] at h1
            omega
          obtain ⟨q, hq⟩ : ∃ q, 64 * i + k = q := ⟨_, rfl⟩
          have hqb : q < 256 := by omega
          obtain ⟨fn, tmps, assign, body, hyy, hR⟩ := hY pre ⟨q, hqb⟩ wr hJ hlen
          simp only [encB] at hyy
          have HT := Lib.hid hT
          have Hp := Lib.hid (show vals (pre ++ [⟨q, hqb⟩]) ++ ((memW y).map (fun j => 64 * i + j) ++ tailC c (i + 1)) = bytesC c from by
            rw [← hpre]; simp [vals, hq])
          have hw8 : IntKind.u8.wrap (q : Int) = (q : Int) := by simp [IntKind.wrap, IntKind.signed, IntKind.bits]; omega
          have hwm : IntKind.i64.wrap (64 * (i : Int)) = 64 * (i : Int) := i64_wrap _ (by omega)
          have hwa : IntKind.i64.wrap (64 * (i : Int) + (k : Int)) = (q : Int) := (i64_wrap _ (by omega)).trans (by omega)
          clear hT hpre hs hq hix
          gi_wp2_with (first
            | (gi_at_call 19
               refine ((callsIn_wide (n := n - 1)).2 (hcall _ HT.out)).mono ?_
               rintro e w' ⟨rfl, rfl⟩)
            | gi_in)
          refine hR.mono ?_
          rintro e W3 (⟨rfl, hJ3, hk3⟩ | ⟨rfl, hJx3⟩)
          · have HT3 := Lib.hid (HT.out.below h0n hk3)
            clear HT hcall
            gi_wp2
            go_roundw
            case rel => exact ⟨y, pre ++ [⟨q, hqb⟩], by omega, rfl, Hp.out, HT3.out, hJ3⟩
            case measure => simp [intOf]; omega
          · clear hcall
            gi_wp2
            refine bodyPost_ret (results_none rfl _ _ _) rfl ?_
            exact ⟨⟨_, rfl⟩, .inr ⟨pre ++ [⟨q, hqb⟩], ⟨_, Hp.out⟩, hJx3⟩⟩
    · have d1 : decide ((i : Int) < 4) = false := by simp; omega
      obtain rfl : i = 4 := by omega
      gi_wp2
      go_end0
      exact ⟨⟨_, rfl⟩, .inl ⟨pre, by have := Hpre.out; rwa [tailC_four, List.append_nil] at this, hJ⟩⟩
end Go.Proofs.YtjgkdfghjeodeaaGreatDoor
