/- automaton.combine, Or, And. -/
import Derived.Test.YtjgkdfghjeodeaaGreatDoorT29
import Derived.Test.YtjgkdfghjeodeaaGreatDoorT30
namespace Go.Proofs.YtjgkdfghjeodeaaGreatDoor
open Go.RowKit

theorem en88 : ∀ args w, (callFunc 88 args).run Tryz.prog w = .ok (.enter 88 args) w := fun args w => by kernel_rfl
theorem en89 : ∀ args w, (callFunc 89 args).run Tryz.prog w = .ok (.enter 89 args) w := fun args w => by kernel_rfl
set_option maxRecDepth 100000 in
theorem or1_c (a b : Bool) (w : World) : Calls Tryz.prog 88 #[.bool a, .bool b] w fun e w' => e = .returned (.bool (a || b)) ∧ Below w.heap.size w w' := by
  go_enter Tryz.func88, Tryz.ntmps88
  cases a
  · go_wp2_with (first | (refine wpList_unguard rfl rfl ?_))
    go_ret
    exact ⟨rfl, Below.refl _ _⟩
  · go_wp2_with (first | (refine wpList_unguard rfl rfl ?_))
    go_ret
    exact ⟨rfl, Below.refl _ _⟩
set_option maxRecDepth 100000 in
theorem and1_c (a b : Bool) (w : World) : Calls Tryz.prog 89 #[.bool a, .bool b] w fun e w' => e = .returned (.bool (a && b)) ∧ Below w.heap.size w w' := by
  go_enter Tryz.func89, Tryz.ntmps89
  cases a
  · go_wp2_with (first | (refine wpList_unguard rfl rfl ?_))
    go_ret
    exact ⟨rfl, Below.refl _ _⟩
  · go_wp2_with (first | (refine wpList_unguard rfl rfl ?_))
    go_ret
    exact ⟨rfl, Below.refl _ _⟩
theorem hb_or : HB (· || ·) 88 := ⟨en88, fun W a b => or1_c a b W⟩
theorem hb_and : HB (· && ·) 89 := ⟨en89, fun W a b => and1_c a b W⟩

set_option maxRecDepth 100000 in
set_option maxHeartbeats 4000000 in
theorem comb_c (K1 K2 : Nat → Prop) (v1 v2 : Value) (a b : Dfa) (h : Bool → Bool → Bool) (gh : FuncId) (w : World) (hd1 : RD w K1 v1 a) (hv1 : VD a) (hd2 : RD w K2 v2 b) (hv2 : VD b) (hT : Tab w) (hh : 0 < w.heap.size) (hb : HB h gh) :
    Calls Tryz.prog 87 #[v1, v2, .func (.func gh) #[] #[]] w fun e w' => ∃ v, e = .returned (.tuple #[v, vi (combineD a b h).2]) ∧ RD w' (fun k => w.heap.size ≤ k) v (combineD a b h).1 ∧ Below w.heap.size w w' := by
  obtain ⟨cs1, rfl, z1, o1⟩ := hd1.cells
  obtain ⟨cs2, rfl, z2, o2⟩ := hd2.cells
  have HD1 := Lib.hid (And.intro hd1 hv1)
  have HD2 := Lib.hid (And.intro hd2 hv2)
  have HTb := Lib.hid (And.intro hT hb)
  clear hd1 hv1 hd2 hv2 hT hb
  go_enter Tryz.func87, Tryz.ntmps87
  go_upto_region 1 with (first
    | (with_reducible refine at_oper (.box 28 (.tmp 0)) rfl ?_
       refine wpList_box_rowG w.heap.size rfl rfl 28 (.tmp 0) rfl cs1 rfl ?_
       intro w1 k1 b1 s1)
    | (with_reducible refine at_oper (.box 28 (.tmp 1)) rfl ?_
       refine wpList_box_rowG (w.heap.size + 1) s1 rfl 28 (.tmp 1) rfl cs2 rfl ?_
       intro w2 k2 b2 s2)
    | (with_reducible refine at_oper (.alloc 28) rfl ?_
       refine wpList_alloc_rowG (w.heap.size + 1 + 1) s2 rfl 28 rfl _ zero28 ?_
       intro w3 k3 b3 s3
       have H3 := Lib.hid (show Below w.heap.size w w3 ∧ Blk w3 w.heap.size 28 cs1 ∧ Blk w3 (w.heap.size + 1) 28 cs2 ∧ Blk w3 (w.heap.size + 1 + 1) 28 nil28 from
         ⟨(b1.trans (b2.mono b1.size)).trans (b3.mono (by omega)), (k1.old b2).old b3, k2.old b3, k3⟩)
       clear k1 k2 k3 b1 b2 b3))
  clear s1 s2
  go_upto_region 3 with (first
    | (with_reducible refine wpList_unguard ?_ ?_ ?_
       rfl
       rfl)
    | (with_reducible refine at_oper (.load 28 (.tmp 3)) rfl ?_
       refine wpList_load_blk rfl 28 (.tmp 3) rfl w.heap.size rfl 28 cs1 _ H3.out.2.1 Tryz.underlying28 rfl (by rw [z1]; exact size28) ?_)
    | (with_reducible refine at_oper (.load 28 (.tmp 4)) rfl ?_
       refine wpList_load_blk rfl 28 (.tmp 4) rfl (w.heap.size + 1) rfl 28 cs2 _ H4.out.2.2.1 Tryz.underlying28 rfl (by rw [z2]; exact size28) ?_)
    | (go_at_call 18
       first
       | (refine (valid_c K2 _ b w4 (HD2.out.1.below H4.out.1) HD2.out.2).mono ?_
          rintro e w5 ⟨rfl, hb⟩
          have H5 := Lib.hid (show Below w.heap.size w w5 ∧ Blk w5 w.heap.size 28 cs1 ∧ Blk w5 (w.heap.size + 1) 28 cs2 ∧ Blk w5 (w.heap.size + 1 + 1) 28 nil28 from ⟨H4.out.1.trans (hb.mono H4.out.1.size), H4.out.2.1.old hb, H4.out.2.2.1.old hb, H4.out.2.2.2.old hb⟩)
          clear hb)
       | (refine (valid_c K1 _ a w3 (HD1.out.1.below H3.out.1) HD1.out.2).mono ?_
          rintro e w4 ⟨rfl, hb⟩
          have H4 := Lib.hid (show Below w.heap.size w w4 ∧ Blk w4 w.heap.size 28 cs1 ∧ Blk w4 (w.heap.size + 1) 28 cs2 ∧ Blk w4 (w.heap.size + 1 + 1) 28 nil28 from ⟨H3.out.1.trans (hb.mono H3.out.1.size), H3.out.2.1.old hb, H3.out.2.2.1.old hb, H3.out.2.2.2.old hb⟩)
          clear hb)))
  have hcd : ∀ t, product a b h = some t → combineD a b h = limited t := fun t ht => by unfold combineD; rw [ht]
  have HC := Lib.hid hcd
  clear hcd s3
  go_wp2_with (first
    | (with_reducible refine at_oper (.load 28 (.tmp 3)) rfl ?_
       refine wpList_load_blk rfl 28 (.tmp 3) rfl w.heap.size rfl 28 cs1 _ H5.out.2.1 Tryz.underlying28 rfl (by rw [z1]; exact size28) ?_)
    | (with_reducible refine at_oper (.load 28 (.tmp 4)) rfl ?_
       refine wpList_load_blk rfl 28 (.tmp 4) rfl (w.heap.size + 1) rfl 28 cs2 _ H5.out.2.2.1 Tryz.underlying28 rfl (by rw [z2]; exact size28) ?_)
    | (go_at_call 115
       refine (product_c K1 K2 _ _ a b h gh w5 (HD1.out.1.below H5.out.1) HD1.out.2 (HD2.out.1.below H5.out.1) HD2.out.2 (HTb.out.1.below hh H5.out.1) (by have := H5.out.1.size; omega) HTb.out.2).mono ?_
       rintro e w6 ⟨ct, t, rfl, ht, hwt, hrt, hb⟩
       have H6 := Lib.hid (And.intro (HC.out t ht) (And.intro hwt (And.intro hrt (And.intro (H5.out.1.trans (hb.mono H5.out.1.size)) (H5.out.2.2.2.old hb)))))
       clear ht hwt hrt hb)
    | (go_at_call 86
       refine (limited_c _ ct t w6 H6.out.2.2.1 H6.out.2.1).mono ?_
       rw [← H6.out.1]
       rintro e w7 ⟨v7, rfl, hd7, hb⟩
       obtain ⟨c7, rfl, z7, o7⟩ := hd7.cells
       have H7 := Lib.hid (And.intro hd7 (And.intro (H6.out.2.2.2.1.trans (hb.mono H6.out.2.2.2.1.size)) (H6.out.2.2.2.2.old hb)))
       clear hd7 hb)
    | (with_reducible refine at_oper (.store 28 (.tmp 6) (.tmp 22)) rfl ?_
       refine wpList_store_blk rfl 28 (.tmp 6) (.tmp 22) rfl rfl (w.heap.size + 1 + 1) c7 nil28 28 rfl rfl H7.out.2.2 (by rw [z7]; exact size28) (by rw [z7]; rfl) o7 ?_
       intro w8 k8 o8
       have K8 := Lib.hid k8
       have O8 := Lib.hid o8
       clear k8 o8))
  refine bodyPost_ret (results_ct rfl _ _ _ rfl (w.heap.size + 1 + 1) rfl 28 _ K8.out Tryz.underlying28 rfl (by rw [z7]; exact size28)) rfl ?_
  have h2 := H6.out.2.2.2.2.lt
  exact ⟨_, rfl, (H7.out.1.old fun k hk _ => O8.out.block k (by omega)).weak fun k _ hk => by omega, below_only H7.out.2.1 O8.out (by omega)⟩

set_option maxRecDepth 100000 in
set_option maxHeartbeats 4000000 in
theorem or_c (K1 K2 : Nat → Prop) (v1 v2 : Value) (a b : Dfa) (w : World) (hd1 : RD w K1 v1 a) (hv1 : VD a) (hd2 : RD w K2 v2 b) (hv2 : VD b) (hT : Tab w) (hh : 0 < w.heap.size) :
    Calls Tryz.prog 38 #[v1, v2] w fun e w' => ∃ v, e = .returned (.tuple #[v, vi (combineD a b (· || ·)).2]) ∧ RD w' (fun k => w.heap.size ≤ k) v (combineD a b (· || ·)).1 ∧ Below w.heap.size w w' := by
  obtain ⟨cs1, rfl, z1, o1⟩ := hd1.cells
  obtain ⟨cs2, rfl, z2, o2⟩ := hd2.cells
  have HD1 := Lib.hid (And.intro hd1 hv1)
  have HD2 := Lib.hid (And.intro hd2 hv2)
  have HTb := Lib.hid hT
  clear hd1 hv1 hd2 hv2 hT
  obtain ⟨r, hr⟩ : ∃ r, combineD a b (· || ·) = r := ⟨_, rfl⟩
  rw [hr]
  have HR := Lib.hid hr
  clear hr
  go_enter Tryz.func38, Tryz.ntmps38
  go_upto_region 1 with (first
    | (with_reducible refine at_oper (.box 28 (.tmp 0)) rfl ?_
       refine wpList_box_rowG w.heap.size rfl rfl 28 (.tmp 0) rfl cs1 rfl ?_
       intro w1 k1 b1 s1)
    | (with_reducible refine at_oper (.box 28 (.tmp 1)) rfl ?_
       refine wpList_box_rowG (w.heap.size + 1) s1 rfl 28 (.tmp 1) rfl cs2 rfl ?_
       intro w2 k2 b2 s2)
    | (with_reducible refine at_oper (.alloc 28) rfl ?_
       refine wpList_alloc_rowG (w.heap.size + 1 + 1) s2 rfl 28 rfl _ zero28 ?_
       intro w3 k3 b3 s3
       have H3 := Lib.hid (show Below w.heap.size w w3 ∧ Blk w3 w.heap.size 28 cs1 ∧ Blk w3 (w.heap.size + 1) 28 cs2 ∧ Blk w3 (w.heap.size + 1 + 1) 28 nil28 from
         ⟨(b1.trans (b2.mono b1.size)).trans (b3.mono (by omega)), (k1.old b2).old b3, k2.old b3, k3⟩)
       clear k1 k2 k3 b1 b2 b3))
  clear s1 s2
  go_wp2_with (first
    | (with_reducible refine at_oper (.load 28 (.tmp 2)) rfl ?_
       refine wpList_load_blk rfl 28 (.tmp 2) rfl w.heap.size rfl 28 cs1 _ H3.out.2.1 Tryz.underlying28 rfl (by rw [z1]; exact size28) ?_)
    | (with_reducible refine at_oper (.load 28 (.tmp 3)) rfl ?_
       refine wpList_load_blk rfl 28 (.tmp 3) rfl (w.heap.size + 1) rfl 28 cs2 _ H3.out.2.2.1 Tryz.underlying28 rfl (by rw [z2]; exact size28) ?_)
    | (go_at_call 87
       refine (comb_c K1 K2 _ _ a b (· || ·) 88 w3 (HD1.out.1.below H3.out.1) HD1.out.2 (HD2.out.1.below H3.out.1) HD2.out.2 (HTb.out.below hh H3.out.1) (by have := H3.out.1.size; omega) hb_or).mono ?_
       rw [HR.out]
       rintro e w7 ⟨v7, rfl, hd7, hb⟩
       obtain ⟨c7, rfl, z7, o7⟩ := hd7.cells
       have H7 := Lib.hid (And.intro hd7 (And.intro (H3.out.1.trans (hb.mono H3.out.1.size)) (H3.out.2.2.2.old hb)))
       clear hd7 hb)
    | (with_reducible refine at_oper (.store 28 (.tmp 4) (.tmp 9)) rfl ?_
       refine wpList_store_blk rfl 28 (.tmp 4) (.tmp 9) rfl rfl (w.heap.size + 1 + 1) c7 nil28 28 rfl rfl H7.out.2.2 (by rw [z7]; exact size28) (by rw [z7]; rfl) o7 ?_
       intro w8 k8 o8
       have K8 := Lib.hid k8
       have O8 := Lib.hid o8
       clear k8 o8))
  refine bodyPost_ret (results_ct rfl _ _ _ rfl (w.heap.size + 1 + 1) rfl 28 _ K8.out Tryz.underlying28 rfl (by rw [z7]; exact size28)) rfl ?_
  exact ⟨_, rfl, (H7.out.1.old fun k hk _ => O8.out.block k (by omega)).weak fun k _ hk => by omega, below_only H7.out.2.1 O8.out (by omega)⟩

set_option maxRecDepth 100000 in
set_option maxHeartbeats 4000000 in
theorem and_c (K1 K2 : Nat → Prop) (v1 v2 : Value) (a b : Dfa) (w : World) (hd1 : RD w K1 v1 a) (hv1 : VD a) (hd2 : RD w K2 v2 b) (hv2 : VD b) (hT : Tab w) (hh : 0 < w.heap.size) :
    Calls Tryz.prog 39 #[v1, v2] w fun e w' => ∃ v, e = .returned (.tuple #[v, vi (combineD a b (· && ·)).2]) ∧ RD w' (fun k => w.heap.size ≤ k) v (combineD a b (· && ·)).1 ∧ Below w.heap.size w w' := by
  obtain ⟨cs1, rfl, z1, o1⟩ := hd1.cells
  obtain ⟨cs2, rfl, z2, o2⟩ := hd2.cells
  have HD1 := Lib.hid (And.intro hd1 hv1)
  have HD2 := Lib.hid (And.intro hd2 hv2)
  have HTb := Lib.hid hT
  clear hd1 hv1 hd2 hv2 hT
  obtain ⟨r, hr⟩ : ∃ r, combineD a b (· && ·) = r := ⟨_, rfl⟩
  rw [hr]
  have HR := Lib.hid hr
  clear hr
  go_enter Tryz.func39, Tryz.ntmps39
  go_upto_region 1 with (first
    | (with_reducible refine at_oper (.box 28 (.tmp 0)) rfl ?_
       refine wpList_box_rowG w.heap.size rfl rfl 28 (.tmp 0) rfl cs1 rfl ?_
       intro w1 k1 b1 s1)
    | (with_reducible refine at_oper (.box 28 (.tmp 1)) rfl ?_
       refine wpList_box_rowG (w.heap.size + 1) s1 rfl 28 (.tmp 1) rfl cs2 rfl ?_
       intro w2 k2 b2 s2)
    | (with_reducible refine at_oper (.alloc 28) rfl ?_
       refine wpList_alloc_rowG (w.heap.size + 1 + 1) s2 rfl 28 rfl _ zero28 ?_
       intro w3 k3 b3 s3
       have H3 := Lib.hid (show Below w.heap.size w w3 ∧ Blk w3 w.heap.size 28 cs1 ∧ Blk w3 (w.heap.size + 1) 28 cs2 ∧ Blk w3 (w.heap.size + 1 + 1) 28 nil28 from
         ⟨(b1.trans (b2.mono b1.size)).trans (b3.mono (by omega)), (k1.old b2).old b3, k2.old b3, k3⟩)
       clear k1 k2 k3 b1 b2 b3))
  clear s1 s2
  go_wp2_with (first
    | (with_reducible refine at_oper (.load 28 (.tmp 2)) rfl ?_
       refine wpList_load_blk rfl 28 (.tmp 2) rfl w.heap.size rfl 28 cs1 _ H3.out.2.1 Tryz.underlying28 rfl (by rw [z1]; exact size28) ?_)
    | (with_reducible refine at_oper (.load 28 (.tmp 3)) rfl ?_
       refine wpList_load_blk rfl 28 (.tmp 3) rfl (w.heap.size + 1) rfl 28 cs2 _ H3.out.2.2.1 Tryz.underlying28 rfl (by rw [z2]; exact size28) ?_)
    | (go_at_call 87
       refine (comb_c K1 K2 _ _ a b (· && ·) 89 w3 (HD1.out.1.below H3.out.1) HD1.out.2 (HD2.out.1.below H3.out.1) HD2.out.2 (HTb.out.below hh H3.out.1) (by have := H3.out.1.size; omega) hb_and).mono ?_
       rw [HR.out]
       rintro e w7 ⟨v7, rfl, hd7, hb⟩
       obtain ⟨c7, rfl, z7, o7⟩ := hd7.cells
       have H7 := Lib.hid (And.intro hd7 (And.intro (H3.out.1.trans (hb.mono H3.out.1.size)) (H3.out.2.2.2.old hb)))
       clear hd7 hb)
    | (with_reducible refine at_oper (.store 28 (.tmp 4) (.tmp 9)) rfl ?_
       refine wpList_store_blk rfl 28 (.tmp 4) (.tmp 9) rfl rfl (w.heap.size + 1 + 1) c7 nil28 28 rfl rfl H7.out.2.2 (by rw [z7]; exact size28) (by rw [z7]; rfl) o7 ?_
       intro w8 k8 o8
       have K8 := Lib.hid k8
       have O8 := Lib.hid o8
       clear k8 o8))
  refine bodyPost_ret (results_ct rfl _ _ _ rfl (w.heap.size + 1 + 1) rfl 28 _ K8.out Tryz.underlying28 rfl (by rw [z7]; exact size28)) rfl ?_
  exact ⟨_, rfl, (H7.out.1.old fun k hk _ => O8.out.block k (by omega)).weak fun k _ hk => by omega, below_only H7.out.2.1 O8.out (by omega)⟩

set_option maxRecDepth 100000 in
set_option maxHeartbeats 2000000 in
theorem star1_c (y : Tbl) (gy : Nat) (s : St) (b : Nat) (w : World) (hy : TC w gy y) (hb : b < 256) (hn64 : y.nxt.length ≤ 64) (hs : s.s < 18446744073709551616) :
    Calls Tryz.prog 116 #[stV s, vi b, .pointer (some ⟨gy, 0, none⟩)] w fun e w' => e = .returned (stV (stNext y s b)) ∧ Below w.heap.size w w' := by
  obtain ⟨cy, by_, ry⟩ := hy.ex
  have hsy := ry.size
  obtain ⟨k, hk⟩ : ∃ k, s.s = k := ⟨_, rfl⟩
  obtain ⟨z, hz2⟩ : ∃ z, stV s = z := ⟨_, rfl⟩
  have HZ := Lib.hid (show z = .agg (stc s).toArray from hz2.symm)
  rw [hz2]
  obtain ⟨T, hT⟩ : ∃ T, targets y k b = T := ⟨_, rfl⟩
  have hTl : T < 18446744073709551616 := by rw [← hT, targets_eq]; exact tg_lt y hy.wt hn64 k b hb _ (Nat.le_refl _)
  obtain ⟨q, hq⟩ : ∃ q, some_ y T = q := ⟨_, rfl⟩
  have HT := Lib.hid (And.intro hT (And.intro hk hq))
  have HY := Lib.hid (And.intro ry (And.intro hy.wt (And.intro hn64 (And.intro by_ (And.intro hs hb)))))
  clear hy hb hz2 hk by_ ry hn64 hs hT hq
  go_enter Tryz.func116, Tryz.ntmps116
  go_upto_region 2 with (first
    | (with_reducible refine at_oper (.box 128 (.tmp 0)) rfl ?_
       refine wpList_box_rowG w.heap.size rfl rfl 128 (.tmp 0) rfl (stc s).toArray HZ.out ?_
       intro w1 k1 b1 s1)
    | (with_reducible refine at_oper (.alloc 128) rfl ?_
       refine wpList_alloc_rowG (w.heap.size + 1) s1 rfl 128 rfl _ zero128 ?_
       intro w2 k2 b2 s2
       have H2 := Lib.hid (And.intro (b1.trans (b2.mono b1.size)) (And.intro (k1.old b2) k2))
       clear k1 k2 b1 b2 s1 s2)
    | (with_reducible refine at_oper (.load 73 (.tmp 2)) rfl ?_
       refine wpList_load_blk rfl 73 (.tmp 2) rfl gy rfl 73 cy _ (HY.out.2.2.2.1.old H2.out.1) Tryz.underlying73 rfl (by rw [hsy]; exact size73) ?_)
    | (with_reducible refine at_oper (.load 126 (.tmp 8)) rfl ?_
       refine wpList_load_list rfl 126 (.tmp 8) rfl ⟨w.heap.size, 2, none⟩ rfl [vu s.s] (at_set H2.out.2.1) Tryz.underlying126 rfl size126 ?_)
    | (go_at_call 82
       refine (targets_c y cy s.s b w2 (HY.out.1.below H2.out.1) HY.out.2.1 HY.out.2.2.1 HY.out.2.2.2.2.1 HY.out.2.2.2.2.2).mono ?_
       rw [HT.out.2.1, HT.out.1]
       rintro e w3 ⟨rfl, hb⟩
       have H3 := Lib.hid (And.intro (H2.out.1.trans (hb.mono H2.out.1.size)) (H2.out.2.2.old hb))
       clear hb)
    | (with_reducible refine at_oper (.alloc 126) rfl ?_
       refine wpList_alloc_rowG w3.heap.size rfl rfl 126 rfl _ zero126 ?_
       intro w4 k4 b4 s4)
    | (with_reducible refine at_oper (.store 126 (.tmp 6) (.tmp 11)) rfl ?_
       refine wpList_store_blk rfl 126 (.tmp 6) (.tmp 11) rfl rfl w3.heap.size #[vu T] #[vu 0] 126 rfl rfl k4 size126 rfl (by simp [Value.oneCell']) ?_
       intro w5 k5 o5
       have hb5 := below_only b4 o5 (Nat.le_refl _)
       have H5 := Lib.hid (And.intro (H3.out.1.trans (hb5.mono H3.out.1.size)) (And.intro (H3.out.2.old hb5) k5))
       clear k4 b4 s4 k5 o5 hb5))
  have hlt := H3.out.2.lt
  generalize w3.heap.size = g3 at *
  cases q with
  | false =>
    go_upto_region 4 with (first
      | (with_reducible refine at_oper (.load 73 (.tmp 2)) rfl ?_
         refine wpList_load_blk rfl 73 (.tmp 2) rfl gy rfl 73 cy _ (HY.out.2.2.2.1.old H5.out.1) Tryz.underlying73 rfl (by rw [hsy]; exact size73) ?_)
      | (with_reducible refine at_oper (.load 126 (.tmp 6)) rfl ?_
         refine wpList_load_blk rfl 126 (.tmp 6) rfl g3 rfl 126 #[vu T] _ H5.out.2.2 Tryz.underlying126 rfl size126 ?_)
      | (go_at_call 85
         refine (some_c TT cy y T w5 (HY.out.1.below H5.out.1) HY.out.2.1 hTl).mono ?_
         rw [HT.out.2.2]
         rintro e w6 ⟨rfl, hb⟩
         have H6 := Lib.hid (And.intro (H5.out.1.trans (hb.mono H5.out.1.size)) (And.intro (H5.out.2.1.old hb) (H5.out.2.2.old hb)))
         clear hb))
    go_wp2_with (first
      | (with_reducible refine at_oper (.load 126 (.tmp 6)) rfl ?_
         refine wpList_load_blk rfl 126 (.tmp 6) rfl g3 rfl 126 #[vu T] _ H6.out.2.2 Tryz.underlying126 rfl size126 ?_)
      | (with_reducible refine at_oper (.build 128 #[(2, .tmp 19)]) rfl ?_
         refine wpList_build_row rfl 128 #[(2, .tmp 19)] rfl (stc ⟨0, 0, T⟩).toArray [(2, .agg #[.int .u64 ((T : Nat) : Int)])] (by simp only [List.map_toArray, List.map_cons, List.map_nil]; rfl) (built128s (T)) ?_)
      | (with_reducible refine at_oper (.store 128 (.tmp 5) (.tmp 20)) rfl ?_
         refine wpList_store_blk rfl 128 (.tmp 5) (.tmp 20) rfl rfl (w.heap.size + 1) (stc ⟨0, 0, T⟩).toArray _ 128 rfl rfl H6.out.2.1 size128 rfl (stc_all _) ?_
         intro w9 k9 o9
         have K9 := Lib.hid k9
         have B9 := Lib.hid (below_only H6.out.1 o9 (by omega))
         clear k9 o9))
    refine bodyPost_ret (results_cell rfl _ _ (w.heap.size + 1) rfl 128 _ K9.out Tryz.underlying128 rfl size128) rfl ?_
    refine ⟨?_, B9.out⟩
    rw [stV_eq]
    unfold stNext
    rw [HT.out.2.1, HT.out.1, HT.out.2.2]
    rfl
  | true =>
    have hor : bits BinOp.or IntKind.u64 (T : Int) 1 = ((T ||| 1 : Nat) : Int) := bits_or_u64_nat T 1 hTl (by decide)
    go_upto_region 3 with (first
      | (with_reducible refine at_oper (.load 73 (.tmp 2)) rfl ?_
         refine wpList_load_blk rfl 73 (.tmp 2) rfl gy rfl 73 cy _ (HY.out.2.2.2.1.old H5.out.1) Tryz.underlying73 rfl (by rw [hsy]; exact size73) ?_)
      | (with_reducible refine at_oper (.load 126 (.tmp 6)) rfl ?_
         refine wpList_load_blk rfl 126 (.tmp 6) rfl g3 rfl 126 #[vu T] _ H5.out.2.2 Tryz.underlying126 rfl size126 ?_)
      | (go_at_call 85
         refine (some_c TT cy y T w5 (HY.out.1.below H5.out.1) HY.out.2.1 hTl).mono ?_
         rw [HT.out.2.2]
         rintro e w6 ⟨rfl, hb⟩
         have H6 := Lib.hid (And.intro (H5.out.1.trans (hb.mono H5.out.1.size)) (And.intro (H5.out.2.1.old hb) (H5.out.2.2.old hb)))
         clear hb))
    have f6 : w6.cell? ⟨g3, 0, none⟩ = some (vu T) := H6.out.2.2.cell 0
    go_upto_region 4 with (first
      | (with_reducible refine at_oper (.store 54 (.tmp 18) (.tmp 17)) rfl ?_
         refine wpList_store_at rfl 54 (.tmp 18) (.tmp 17) rfl rfl g3 0 (vu (T ||| 1)) #[vu T] 126 rfl rfl H6.out.2.2 (show 0 < 1 by decide) size54 rfl ?_
         intro w7 k7 o7
         have H7 := Lib.hid (show Below w.heap.size w w7 ∧ Blk w7 (w.heap.size + 1) 128 (stc ⟨0, 0, 0⟩).toArray ∧ Blk w7 g3 126 #[vu (T ||| 1)] from ⟨below_only H6.out.1 o7 (by omega), H6.out.2.1.only o7 (by omega), k7⟩)
         clear k7 o7))
    go_wp2_with (first
      | (with_reducible refine at_oper (.load 126 (.tmp 6)) rfl ?_
         refine wpList_load_blk rfl 126 (.tmp 6) rfl g3 rfl 126 #[vu (T ||| 1)] _ H7.out.2.2 Tryz.underlying126 rfl size126 ?_)
      | (with_reducible refine at_oper (.build 128 #[(2, .tmp 19)]) rfl ?_
         refine wpList_build_row rfl 128 #[(2, .tmp 19)] rfl (stc ⟨0, 0, (T ||| 1)⟩).toArray [(2, .agg #[.int .u64 (((T ||| 1) : Nat) : Int)])] (by simp only [List.map_toArray, List.map_cons, List.map_nil]; rfl) (built128s ((T ||| 1))) ?_)
      | (with_reducible refine at_oper (.store 128 (.tmp 5) (.tmp 20)) rfl ?_
         refine wpList_store_blk rfl 128 (.tmp 5) (.tmp 20) rfl rfl (w.heap.size + 1) (stc ⟨0, 0, (T ||| 1)⟩).toArray _ 128 rfl rfl H7.out.2.1 size128 rfl (stc_all _) ?_
         intro w9 k9 o9
         have K9 := Lib.hid k9
         have B9 := Lib.hid (below_only H7.out.1 o9 (by omega))
         clear k9 o9))
    refine bodyPost_ret (results_cell rfl _ _ (w.heap.size + 1) rfl 128 _ K9.out Tryz.underlying128 rfl size128) rfl ?_
    refine ⟨?_, B9.out⟩
    rw [stV_eq]
    unfold stNext
    rw [HT.out.2.1, HT.out.1, HT.out.2.2]
    rfl

theorem en116 : ∀ args w, (callFunc 116 args).run Tryz.prog w = .ok (.enter 116 args) w := fun args w => by kernel_rfl
theorem en117 : ∀ args w, (callFunc 117 args).run Tryz.prog w = .ok (.enter 117 args) w := fun args w => by kernel_rfl
set_option maxRecDepth 100000 in
set_option maxHeartbeats 4000000 in
theorem star_c (K1 : Nat → Prop) (v1 : Value) (a : Dfa) (w : World) (hd1 : RD w K1 v1 a) (hv1 : VD a) (hT : Tab w) (hh : 0 < w.heap.size) :
    Calls Tryz.prog 91 #[v1] w fun e w' => ∃ v, e = .returned (.tuple #[v, vi (starD a).2]) ∧ RD w' (fun k => w.heap.size ≤ k) v (starD a).1 ∧ Below w.heap.size w w' := by
  obtain ⟨cs1, rfl, z1, o1⟩ := hd1.cells
  have HD1 := Lib.hid (And.intro hd1 hv1)
  have HTb := Lib.hid hT
  obtain ⟨c, hc⟩ : ∃ c, canonical (tableOf a) = c := ⟨_, rfl⟩
  have hcv : VD c := by rw [← hc]; exact canonical_vd hv1
  have HC := Lib.hid (And.intro hc hcv)
  clear hd1 hv1 hT hc hcv
  go_enter Tryz.func91, Tryz.ntmps91
  go_upto_region 4 with (first
    | (with_reducible refine at_oper (.box 28 (.tmp 0)) rfl ?_
       refine wpList_box_rowG w.heap.size rfl rfl 28 (.tmp 0) rfl cs1 rfl ?_
       intro w1 k1 b1 s1)
    | (with_reducible refine at_oper (.alloc 28) rfl ?_
       refine wpList_alloc_rowG (w.heap.size + 1) s1 rfl 28 rfl _ zero28 ?_
       intro w2 k2 b2 s2
       have H2 := Lib.hid (And.intro (b1.trans (b2.mono b1.size)) (And.intro (k1.old b2) k2))
       clear k1 k2 b1 b2 s1 s2)
    | (with_reducible refine at_oper (.load 28 (.tmp 1)) rfl ?_
       first
       | refine wpList_load_blk rfl 28 (.tmp 1) rfl w.heap.size rfl 28 cs1 _ H3.out.2.1 Tryz.underlying28 rfl (by rw [z1]; exact size28) ?_
       | refine wpList_load_blk rfl 28 (.tmp 1) rfl w.heap.size rfl 28 cs1 _ H2.out.2.1 Tryz.underlying28 rfl (by rw [z1]; exact size28) ?_)
    | (go_at_call 18
       refine (valid_c K1 _ a w2 (HD1.out.1.below H2.out.1) HD1.out.2).mono ?_
       rintro e w3 ⟨rfl, hb⟩
       have H3 := Lib.hid (And.intro (H2.out.1.trans (hb.mono H2.out.1.size)) (And.intro (H2.out.2.1.old hb) (H2.out.2.2.old hb)))
       clear hb)
    | (go_at_call 23
       first
       | (refine (tableOf_c _ _ c w5 H5.out.1 HC.out.2 (HTb.out.below hh H5.out.2.1) (by have := H5.out.2.1.size; omega)).mono ?_
          rintro e w6 ⟨ct, rfl, hr, hb⟩
          have H6 := Lib.hid (And.intro (hr.weak (K' := fun k => k < w6.heap.size) fun k h _ => h) (And.intro (H5.out.2.1.trans (hb.mono H5.out.2.1.size)) (H5.out.2.2.old hb)))
          clear hr hb)
       | (refine (tableOf_c K1 _ a w3 (HD1.out.1.below H3.out.1) HD1.out.2 (HTb.out.below hh H3.out.1) (by have := H3.out.1.size; omega)).mono ?_
          rintro e w4 ⟨ct4, rfl, hr, hb⟩
          have H4 := Lib.hid (And.intro hr (And.intro (H3.out.1.trans (hb.mono H3.out.1.size)) (H3.out.2.2.old hb)))
          clear hr hb))
    | (go_at_call 75
       refine (canonical_c K1 ct4 (tableOf a) w4 H4.out.1 (tableOf_wt HD1.out.2)).mono ?_
       rw [HC.out.1]
       rintro e w5 ⟨v5, rfl, hd5, hb⟩
       have H5 := Lib.hid (And.intro hd5 (And.intro (H4.out.2.1.trans (hb.mono H4.out.2.1.size)) (H4.out.2.2.old hb)))
       clear hd5 hb)
    | (with_reducible refine at_oper (.alloc 73) rfl ?_
       refine wpList_alloc_rowG w6.heap.size rfl rfl 73 rfl _ Tryz.zeroValue73 ?_
       intro w7 k7 b7 s7)
    | (with_reducible refine at_oper (.store 73 (.tmp 4) (.tmp 17)) rfl ?_
       refine wpList_store_blk rfl 73 (.tmp 4) (.tmp 17) rfl rfl w6.heap.size ct _ 73 rfl rfl k7 (by rw [H6.out.1.size]; exact size73) (by rw [H6.out.1.size]; exact Tryz.zeroCells73_size) H6.out.1.one ?_
       intro w8 k8 o8
       have hb8 := below_only b7 o8 (Nat.le_refl _)
       have H8 := Lib.hid (show TC w8 w6.heap.size (tableOf c) ∧ Below w.heap.size w w8 ∧ Blk w8 (w.heap.size + 1) 28 nil28 from
         ⟨⟨⟨ct, k8, (H6.out.1.below hb8).weak fun _ _ _ => trivial⟩, tableOf_wt HC.out.2⟩, H6.out.2.1.trans (hb8.mono H6.out.2.1.size), H6.out.2.2.old hb8⟩)
       clear k7 b7 s7 k8 o8 hb8))
  have hlt8 := H8.out.2.2.lt
  have hg6 : w.heap.size + 1 < w6.heap.size := H6.out.2.2.lt
  generalize w6.heap.size = gx at *
  obtain ⟨cx, bx, rx⟩ := H8.out.1.ex
  have hsx := rx.size
  have hjc := joint_c TT TT cx cx (tableOf c) (tableOf c) w8 rx rx
  have hjs := joint_spec (tableOf c).cell (tableOf c).cell
  have hwt := explore_spec (J := JS_) (next := stNext (tableOf c)) (accept := fun s => s.p == 1 || some_ (tableOf c) s.s) (most := 4096) (start := ⟨1, 0, 1⟩) (by exact ⟨by decide, rfl, by decide⟩) (by decide) (fun s b _ hb => js_next (tableOf_wt HC.out.2) HC.out.2.top (hjs.2.2.2 b hb)) (fun l h => h.le) hjs.1 hjs.2.1
  have hst : starD a = match explore (joint (tableOf c).cell (tableOf c).cell).1 (joint (tableOf c).cell (tableOf c).cell).2 ⟨1, 0, 1⟩ (stNext (tableOf c)) (fun s => s.p == 1 || some_ (tableOf c) s.s) 4096 5000 with
      | some t => limited t
      | none => (⟨[], [], []⟩, 2) := by
    unfold starD
    rw [HC.out.1]
    dsimp only
    generalize explore (joint (tableOf c).cell (tableOf c).cell).1 (joint (tableOf c).cell (tableOf c).cell).2 ⟨1, 0, 1⟩ (stNext (tableOf c)) (fun s => s.p == 1 || some_ (tableOf c) s.s) 4096 5000 = R
    cases R <;> rfl
  obtain ⟨cellL, hcL⟩ : ∃ c', (joint (tableOf c).cell (tableOf c).cell).1 = c' := ⟨_, rfl⟩
  obtain ⟨bytesL, hbL⟩ : ∃ c', (joint (tableOf c).cell (tableOf c).cell).2 = c' := ⟨_, rfl⟩
  rw [hcL, hbL] at hjc hjs hwt hst
  obtain ⟨nb, hnb⟩ : ∃ nb, bytesL.length = nb := ⟨_, rfl⟩
  rw [hnb] at hjc hjs
  have HJ := Lib.hid (And.intro hjc hjs)
  have HN := Lib.hid hnb
  obtain ⟨R, hR⟩ : ∃ R, explore cellL bytesL ⟨1, 0, 1⟩ (stNext (tableOf c)) (fun s => s.p == 1 || some_ (tableOf c) s.s) 4096 5000 = R := ⟨_, rfl⟩
  rw [hR] at hwt hst
  have HR := Lib.hid (And.intro hR (And.intro hwt hst))
  clear hjc hjs hcL hbL hnb rx hR hwt hst
  go_upto_region 6 with (first
    | (with_reducible refine at_oper (.load 73 (.tmp 4)) rfl ?_
       refine wpList_load_blk rfl 73 (.tmp 4) rfl gx rfl 73 cx _ bx Tryz.underlying73 rfl (by rw [hsx]; exact size73) ?_)
    | (go_at_call 79
       refine HJ.out.1.mono ?_
       rintro e w9 ⟨Ab, cb, rfl, hb9, hrn, hl1, hl2, hl3, hl4⟩
       have H9 := Lib.hid (And.intro hb9 (And.intro hrn hl1))
       clear hb9 hrn hl1 hl2 hl3 hl4)
    | (with_reducible refine at_oper (.alloc 71) rfl ?_
       refine wpList_alloc_rowG w9.heap.size rfl rfl 71 rfl _ zero71 ?_
       intro w10 k10 b10 s10
       have H10 := Lib.hid (And.intro k10 (And.intro b10 s10))
       clear k10 b10 s10)
    | (with_reducible refine at_oper (.store 71 (.tmp 5) (.tmp 22)) rfl ?_
       refine wpList_store_blk rfl 71 (.tmp 5) (.tmp 22) rfl rfl w9.heap.size (via cellL) _ 71 rfl rfl H10.out.1 (by rw [via_size, H9.out.2.2]; exact size71) (by rw [via_size, via_size, H9.out.2.2]; rfl) (via_one _) ?_
       intro w11 k11 o11
       have hb11 : Below w9.heap.size w9 w11 := below_only H10.out.2.1 o11 (Nat.le_refl _)
       have H11 := Lib.hid (And.intro (H9.out.1.trans (hb11.mono H9.out.1.size)) (And.intro (H9.out.2.1.below hb11) k11))
       clear k11 o11 hb11))
  have hb11 : Below w.heap.size w w11 := H8.out.2.1.trans (H11.out.1.mono H8.out.2.1.size)
  have hX : EX w11 bytesL ⟨1, 0, 1⟩ (stNext (tableOf c)) (fun s => s.p == 1 || some_ (tableOf c) s.s) 4096 116 117 #[.pointer (some ⟨gx, 0, none⟩)] #[.pointer (some ⟨gx, 0, none⟩)] JS_ := by
    refine ⟨⟨by decide, rfl, by decide⟩, fun s hs => ?_, fun s b _ hb => js_next (tableOf_wt HC.out.2) HC.out.2.top (HJ.out.2.2.2.2 b hb), by decide, by decide, fun l _ _ h => h, en116, en117, fun W s b hW hs hb => ?_, fun W s hW hs => ?_⟩
    · obtain ⟨h1, h2, h3⟩ := hs
      omega
    · have e : (#[stV s, vi b] : Array Value) ++ #[.pointer (some ⟨gx, 0, none⟩)] = #[stV s, vi b, .pointer (some ⟨gx, 0, none⟩)] := by simp
      rw [e]
      exact star1_c _ gx s b W ((H8.out.1.below H11.out.1).below hW) (HJ.out.2.2.2.2 b hb) HC.out.2.top hs.2.2
    · have e : (#[stV s] : Array Value) ++ #[.pointer (some ⟨gx, 0, none⟩)] = #[stV s, .pointer (some ⟨gx, 0, none⟩)] := by simp
      rw [e]
      exact star2_c _ gx s W ((H8.out.1.below H11.out.1).below hW) hs.2.2
  have hec := explore_c (fun k => w8.heap.size ≤ k) cellL bytesL ⟨1, 0, 1⟩ (stNext (tableOf c)) (fun s => s.p == 1 || some_ (tableOf c) s.s) 4096 Ab cb 116 117 _ _ JS_ w11 H9.out.2.2 (lt_mono HJ.out.2.2.1 (by have := HJ.out.2.2.2.1; omega)) (by rw [HN.out]; exact H11.out.2.1) (by rw [HN.out]; exact HJ.out.2.2.2.1) hX
  rw [HR.out.1, HN.out] at hec
  have HEC := Lib.hid hec
  have H11b := Lib.hid hb11
  have k11 := H11.out.2.2
  have hcl := H9.out.2.2
  clear hec hX hb11
  go_upto_region 7 with (first
    | (with_reducible refine at_oper (.load 71 (.tmp 5)) rfl ?_
       refine wpList_load_blk rfl 71 (.tmp 5) rfl w9.heap.size rfl 71 (via cellL) _ k11 Tryz.underlying71 rfl (by rw [via_size, hcl]; exact size71) ?_)
    | (with_reducible refine at_oper (.build 126 #[(0, .const (.int .u64 1))]) rfl ?_
       refine wpList_build_row rfl 126 #[(0, .const (.int .u64 1))] rfl #[.int .u64 1] [(0, .int .u64 1)] (by simp only [List.map_toArray, List.map_cons, List.map_nil]; rfl) (by kernel_rfl) ?_)
    | (with_reducible refine at_oper (.build 128 #[(0, .const (.int .i64 1)), (2, .tmp 28)]) rfl ?_
       refine wpList_build_row rfl 128 #[(0, .const (.int .i64 1)), (2, .tmp 28)] rfl (stc ⟨1, 0, 1⟩).toArray [(0, vi 1), (2, .agg #[.int .u64 ((1 : Nat) : Int)])] (by simp only [List.map_toArray, List.map_cons, List.map_nil]; rfl) (built128c 1 1) ?_)
    | (go_at_call 83
       refine HEC.out.mono ?_
       rintro e w12 ⟨cs, ok, rfl, hb12, z12, o12, hr12⟩
       have H12 := Lib.hid (And.intro hb12 hr12)
       clear hb12 hr12)
    | (with_reducible refine at_oper (.alloc 73) rfl ?_
       refine wpList_alloc_rowG w12.heap.size rfl rfl 73 rfl _ Tryz.zeroValue73 ?_
       intro w13 k13 b13 s13
       have H13 := Lib.hid (And.intro k13 (And.intro b13 s13))
       clear k13 b13 s13)
    | (with_reducible refine at_oper (.store 73 (.tmp 8) (.tmp 33)) rfl ?_
       refine wpList_store_blk rfl 73 (.tmp 8) (.tmp 33) rfl rfl w12.heap.size cs _ 73 rfl rfl H13.out.1 (by rw [z12]; exact size73) (by rw [z12]; exact Tryz.zeroCells73_size) o12 ?_
       intro w14 k14 o14
       have hb14 := below_only H13.out.2.1 o14 (Nat.le_refl _)
       have H14 := Lib.hid (And.intro k14 hb14)
       clear k14 o14 hb14))
  have hbw : Below w.heap.size w w14 := (H11b.out.trans (H12.out.1.mono H11b.out.size)).trans (H14.out.2.mono (by have := H12.out.1.size; have := H11b.out.size; omega))
  have hk28 : Blk w14 (w.heap.size + 1) 28 nil28 := ((H8.out.2.2.old H11.out.1).old H12.out.1).old H14.out.2
  have HW := Lib.hid (And.intro hbw hk28)
  clear hbw hk28
  cases R with
  | none =>
    obtain rfl : ok = false := H12.out.2
    go_wp2_with (first
      | (with_reducible refine at_oper (.store 28 (.tmp 2) (.tmp 37)) rfl ?_
         refine wpList_store_blk rfl 28 (.tmp 2) (.tmp 37) rfl rfl (w.heap.size + 1) nil28 nil28 28 rfl rfl HW.out.2 size28 rfl (one3 ..) ?_
         intro w15 k15 o15
         have K15 := Lib.hid k15
         have O15 := Lib.hid o15
         clear k15 o15))
    refine bodyPost_ret (results_ct rfl _ _ _ rfl (w.heap.size + 1) rfl 28 _ K15.out Tryz.underlying28 rfl size28) rfl ?_
    rw [HR.out.2.2]
    exact ⟨_, rfl, RD.nil_ _ _, below_only HW.out.1 O15.out (by omega)⟩
  | some t =>
    obtain ⟨rfl, hrt⟩ := H12.out.2
    have HRT := Lib.hid (hrt.below H14.out.2)
    clear hrt
    have k14 := H14.out.1
    go_wp2_with (first
      | (with_reducible refine at_oper (.load 73 (.tmp 8)) rfl ?_
         refine wpList_load_blk rfl 73 (.tmp 8) rfl w12.heap.size rfl 73 cs _ k14 Tryz.underlying73 rfl (by rw [z12]; exact size73) ?_)
      | (go_at_call 86
         refine (limited_c _ cs t w14 HRT.out HR.out.2.1).mono ?_
         rw [← show starD a = limited t from HR.out.2.2]
         rintro e w15 ⟨v15, rfl, hd15, hb⟩
         obtain ⟨c15, rfl, z15, o15⟩ := hd15.cells
         have H15 := Lib.hid (And.intro hd15 (And.intro (HW.out.1.trans (hb.mono HW.out.1.size)) (HW.out.2.old hb)))
         clear hd15 hb)
      | (with_reducible refine at_oper (.store 28 (.tmp 2) (.tmp 40)) rfl ?_
         refine wpList_store_blk rfl 28 (.tmp 2) (.tmp 40) rfl rfl (w.heap.size + 1) c15 nil28 28 rfl rfl H15.out.2.2 (by rw [z15]; exact size28) (by rw [z15]; rfl) o15 ?_
         intro w16 k16 o16
         have K16 := Lib.hid k16
         have O16 := Lib.hid o16
         clear k16 o16))
    refine bodyPost_ret (results_ct rfl _ _ _ rfl (w.heap.size + 1) rfl 28 _ K16.out Tryz.underlying28 rfl (by rw [z15]; exact size28)) rfl ?_
    have h2 := HW.out.2.lt
    exact ⟨_, rfl, (H15.out.1.old fun k hk _ => O16.out.block k (by omega)).weak fun k _ hk => by omega, below_only H15.out.2.1 O16.out (by omega)⟩
end Go.Proofs.YtjgkdfghjeodeaaGreatDoor
