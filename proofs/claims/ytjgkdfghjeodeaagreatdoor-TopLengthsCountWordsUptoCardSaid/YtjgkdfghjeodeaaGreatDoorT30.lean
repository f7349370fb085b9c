/- The functions of Concat and Star. -/
import Derived.Test.YtjgkdfghjeodeaaGreatDoorT26
namespace Go.Proofs.YtjgkdfghjeodeaaGreatDoor
open Go.RowKit

theorem at_set {W : World} {g : Nat} {s : St} (h : Blk W g 128 (stc s).toArray) : ∀ j v, ([vu s.s] : List Value)[j]? = some v → W.cell? ((⟨g, 2, none⟩ : Addr).add j) = some v := fun j v hj => by
  have h2 := h.cell 2
  rcases j with _ | j
  · simp at hj
    subst hj
    exact h2
  · simp at hj
set_option maxRecDepth 100000 in
set_option maxHeartbeats 1000000 in
theorem concat3_c (y : Tbl) (gy : Nat) (s : St) (w : World) (hy : TC w gy y) (hs : s.s < 18446744073709551616) : Calls Tryz.prog 84 #[stV s, .pointer (some ⟨gy, 0, none⟩)] w fun e w' => e = .returned (.bool (some_ y s.s)) ∧ Below w.heap.size w w' := by
  obtain ⟨cy, by_, ry⟩ := hy.ex
  have hsy := ry.size
  have HY := Lib.hid (And.intro ry (And.intro hy.wt (And.intro hs by_)))
  obtain ⟨z, hz2⟩ : ∃ z, stV s = z := ⟨_, rfl⟩
  have HZ := Lib.hid (show z = .agg (stc s).toArray from hz2.symm)
  rw [hz2]
  obtain ⟨q, hq⟩ : ∃ q, some_ y s.s = q := ⟨_, rfl⟩
  have HQ := Lib.hid hq
  rw [hq]
  clear hy ry by_ hs hz2 hq
  go_enter Tryz.func84, Tryz.ntmps84
  go_wp2_with (first
    | (with_reducible refine at_oper (.box 128 (.tmp 0)) rfl ?_
       refine wpList_box_rowG w.heap.size rfl rfl 128 (.tmp 0) rfl (stc s).toArray HZ.out ?_
       intro w1 k1 b1 s1
       have H1 := Lib.hid (And.intro k1 b1)
       clear k1 b1)
    | (with_reducible refine at_oper (.load 73 (.tmp 1)) rfl ?_
       refine wpList_load_blk rfl 73 (.tmp 1) rfl gy rfl 73 cy _ (HY.out.2.2.2.old H1.out.2) Tryz.underlying73 rfl (by rw [hsy]; exact size73) ?_)
    | (with_reducible refine at_oper (.load 126 (.tmp 5)) rfl ?_
       refine wpList_load_list rfl 126 (.tmp 5) rfl ⟨w.heap.size, 2, none⟩ rfl [vu s.s] (at_set H1.out.1) Tryz.underlying126 rfl size126 ?_)
    | (go_at_call 85
       refine (some_c TT cy y s.s w1 (HY.out.1.below H1.out.2) HY.out.2.1 HY.out.2.2.1).mono ?_
       rw [HQ.out]
       rintro e w2 ⟨rfl, hb⟩
       have H2 := Lib.hid (H1.out.2.trans (hb.mono H1.out.2.size))
       clear hb))
  go_ret
  exact ⟨rfl, H2.out⟩
set_option maxRecDepth 100000 in
set_option maxHeartbeats 1000000 in
theorem star2_c (y : Tbl) (gy : Nat) (s : St) (w : World) (hy : TC w gy y) (hs : s.s < 18446744073709551616) : Calls Tryz.prog 117 #[stV s, .pointer (some ⟨gy, 0, none⟩)] w fun e w' => e = .returned (.bool (s.p == 1 || some_ y s.s)) ∧ Below w.heap.size w w' := by
  obtain ⟨cy, by_, ry⟩ := hy.ex
  have hsy := ry.size
  have HY := Lib.hid (And.intro ry (And.intro hy.wt (And.intro hs by_)))
  obtain ⟨z, hz2⟩ : ∃ z, stV s = z := ⟨_, rfl⟩
  have HZ := Lib.hid (show z = .agg (stc s).toArray from hz2.symm)
  rw [hz2]
  obtain ⟨q, hq⟩ : ∃ q, some_ y s.s = q := ⟨_, rfl⟩
  have HQ := Lib.hid hq
  rw [hq]
  obtain ⟨p, hp⟩ : ∃ p, s.p = p := ⟨_, rfl⟩
  have HP := Lib.hid hp
  rw [hp]
  clear hy ry by_ hs hz2 hq hp
  go_enter Tryz.func117, Tryz.ntmps117
  go_upto_region 1 with (first
    | (with_reducible refine at_oper (.box 128 (.tmp 0)) rfl ?_
       refine wpList_box_rowG w.heap.size rfl rfl 128 (.tmp 0) rfl (stc s).toArray HZ.out ?_
       intro w1 k1 b1 s1
       have H1 := Lib.hid (And.intro k1 b1)
       clear k1 b1))
  have c0 : w1.cell? ⟨w.heap.size, 0, none⟩ = some (vi p) := by rw [← HP.out]; exact H1.out.1.cell 0
  by_cases hp1 : p = 1
  · have d1 : ((p : Int) == 1) = true := by simp; omega
    have HP1 := Lib.hid hp1
    clear hp1
    go_wp2_with fail
    go_ret
    exact ⟨by rw [HP1.out]; rfl, H1.out.2⟩
  · have d1 : ((p : Int) == 1) = false := by simp; omega
    have hp2 : (p == 1) = false := by simpa using hp1
    have HP1 := Lib.hid hp2
    clear hp1 hp2
    go_wp2_with (first
      | (with_reducible refine wpList_unguard ?_ ?_ ?_
         rfl
         rfl)
      | (with_reducible refine at_oper (.load 73 (.tmp 1)) rfl ?_
         refine wpList_load_blk rfl 73 (.tmp 1) rfl gy rfl 73 cy _ (HY.out.2.2.2.old H1.out.2) Tryz.underlying73 rfl (by rw [hsy]; exact size73) ?_)
      | (with_reducible refine at_oper (.load 126 (.tmp 9)) rfl ?_
         refine wpList_load_list rfl 126 (.tmp 9) rfl ⟨w.heap.size, 2, none⟩ rfl [vu s.s] (at_set H1.out.1) Tryz.underlying126 rfl size126 ?_)
      | (go_at_call 85
         refine (some_c TT cy y s.s w1 (HY.out.1.below H1.out.2) HY.out.2.1 HY.out.2.2.1).mono ?_
         rw [HQ.out]
         rintro e w2 ⟨rfl, hb⟩
         have H2 := Lib.hid (H1.out.2.trans (hb.mono H1.out.2.size))
         clear hb))
    go_ret
    exact ⟨by rw [HP1.out]; rfl, H2.out⟩

set_option maxRecDepth 100000 in
set_option maxHeartbeats 1000000 in
theorem enter_c (x : Tbl) (gx : Nat) (s : St) (w : World) (hx : TC w gx x) (hp : s.p < x.nxt.length) (hs : s.s < 18446744073709551616) : Calls Tryz.prog 80 #[stV s, .pointer (some ⟨gx, 0, none⟩)] w fun e w' => e = .returned (stV (ccEnter x s)) ∧ Below w.heap.size w w' := by
  have HX := Lib.hid (And.intro hx hp)
  obtain ⟨p, hp2⟩ : ∃ p, s.p = p := ⟨_, rfl⟩
  obtain ⟨k, hk⟩ : ∃ k, s.s = k := ⟨_, rfl⟩
  obtain ⟨z, hz2⟩ : ∃ z, stV s = z := ⟨_, rfl⟩
  have HZ := Lib.hid (show z = .agg (stc s).toArray from hz2.symm)
  rw [hz2]
  have HPQ := Lib.hid (And.intro hp2 hk)
  rw [hk] at hs
  clear hx hp hz2 hp2 hk
  go_enter Tryz.func80, Tryz.ntmps80
  go_upto_region 1 with (first
    | (with_reducible refine at_oper (.box 128 (.tmp 0)) rfl ?_
       refine wpList_box_rowG w.heap.size rfl rfl 128 (.tmp 0) rfl (stc s).toArray HZ.out ?_
       intro w1 k1 b1 s1)
    | (with_reducible refine at_oper (.alloc 128) rfl ?_
       refine wpList_alloc_rowG (w.heap.size + 1) s1 rfl 128 rfl _ zero128 ?_
       intro w2 k2 b2 s2))
  have hb2 := b1.trans (b2.mono b1.size)
  obtain ⟨n, c1, v, ax, nf, h1, hv, h3⟩ := (HX.out.1.below hb2).acc HX.out.2
  rw [HPQ.out.1] at nf h1 hv
  have H2 := Lib.hid (And.intro hb2 (And.intro (k1.old b2) k2))
  have hst := stBlk0 (k1.old b2)
  rw [HPQ.out.1, HPQ.out.2] at hst
  obtain ⟨n1, n2⟩ := nf
  have f0 := hst.1
  have f2 := hst.2.2
  have HV := Lib.hid hv
  clear hb2 k1 k2 b1 b2 s1 s2 hst hv
  cases v with
  | false =>
    go_wp2_with (first
      | (with_reducible refine at_oper (.load 128 (.tmp 2)) rfl ?_
         refine wpList_load_blk rfl 128 (.tmp 2) rfl w.heap.size rfl 128 (stc s).toArray _ H2.out.2.1 Tryz.underlying128 rfl size128 ?_)
      | (with_reducible refine at_oper (.store 128 (.tmp 3) (.tmp 16)) rfl ?_
         refine wpList_store_blk rfl 128 (.tmp 3) (.tmp 16) rfl rfl (w.heap.size + 1) (stc s).toArray _ 128 rfl rfl H2.out.2.2 size128 rfl (stc_all _) ?_
         intro w3 k3 o3
         have K3 := Lib.hid k3
         have B3 := Lib.hid (below_only H2.out.1 o3 (by omega))
         clear k3 o3))
    refine bodyPost_ret (results_cell rfl _ _ (w.heap.size + 1) rfl 128 _ K3.out Tryz.underlying128 rfl size128) rfl ?_
    refine ⟨?_, B3.out⟩
    rw [stV_eq]
    unfold ccEnter
    rw [HPQ.out.1, HV.out]
    rfl
  | true =>
    have hor : bits BinOp.or IntKind.u64 (k : Int) 1 = ((k ||| 1 : Nat) : Int) := bits_or_u64_nat k 1 hs (by decide)
    go_wp2_with (first
      | (with_reducible refine at_oper (.store 54 (.tmp 15) (.tmp 13)) rfl ?_
         refine wpList_store_at rfl 54 (.tmp 15) (.tmp 13) rfl rfl w.heap.size 2 (vu (k ||| 1)) (stc s).toArray 128 rfl rfl H2.out.2.1 (show 2 < 3 by decide) size54 rfl ?_
         intro w4 k4 o4
         have H4 := Lib.hid (show Below w.heap.size w w4 ∧ Blk w4 w.heap.size 128 (stc { s with s := k ||| 1 }).toArray ∧ Blk w4 (w.heap.size + 1) 128 (stc ⟨0, 0, 0⟩).toArray from ⟨below_only H2.out.1 o4 (by omega), k4, H2.out.2.2.only o4 (by omega)⟩)
         clear k4 o4)
      | (with_reducible refine at_oper (.load 128 (.tmp 2)) rfl ?_
         refine wpList_load_blk rfl 128 (.tmp 2) rfl w.heap.size rfl 128 (stc { s with s := k ||| 1 }).toArray _ H4.out.2.1 Tryz.underlying128 rfl size128 ?_)
      | (with_reducible refine at_oper (.store 128 (.tmp 3) (.tmp 16)) rfl ?_
         refine wpList_store_blk rfl 128 (.tmp 3) (.tmp 16) rfl rfl (w.heap.size + 1) (stc { s with s := k ||| 1 }).toArray _ 128 rfl rfl H4.out.2.2 size128 rfl (stc_all _) ?_
         intro w3 k3 o3
         have K3 := Lib.hid k3
         have B3 := Lib.hid (below_only H4.out.1 o3 (by omega))
         clear k3 o3))
    refine bodyPost_ret (results_cell rfl _ _ (w.heap.size + 1) rfl 128 _ K3.out Tryz.underlying128 rfl size128) rfl ?_
    refine ⟨?_, B3.out⟩
    rw [stV_eq]
    unfold ccEnter
    rw [HPQ.out.1, HV.out, HPQ.out.2]
    rfl

theorem en80 : ∀ args w, (callFunc 80 args).run Tryz.prog w = .ok (.enter 80 args) w := fun args w => by kernel_rfl
theorem run_load_set {o : Oper} {ρ : Operand → Value} {w : World} (x : Operand) (ho : o.op = .load 126 x) (p : Addr) (hx : ρ x = .pointer (some p)) (s : Nat)
    (hc : ∀ j v, ([vu s] : List Value)[j]? = some v → w.cell? (p.add j) = some v) : (execOp ρ o).run Tryz.prog w = .ok (.value (.agg #[vu s])) w := by
  have hl : (loadCells p 1).run Tryz.prog w = .ok #[vu s] w := by
    have := run_loadCells_list (P := Tryz.prog) w p [vu s] hc
    simpa using this
  have hv : (loadVar 126 p).run Tryz.prog w = .ok (.agg #[vu s]) w := by
    cases hq : Tryz.prog.info? 126 with
    | none => have := size126; rw [hq] at this; cases this
    | some i =>
      have hs : i.size = 1 := by have := size126; rw [hq] at this; simpa using this
      have hagg : (isAgg 126).run Tryz.prog w = .ok true w := by
        unfold isAgg
        rw [Sem.run_bind, run_underlying Tryz.underlying126 w]
        rfl
      simp [loadVar, Sem.run_bind, hagg, sizeOf, typeInfo, hq, hs, hl]
  unfold execOp
  simp only [ho, hx, Instr.loadAt, Instr.sureAddr, Sem.run_bind, Sem.run_pure, Result.andThen_ok, hv]
set_option maxRecDepth 100000 in
set_option maxHeartbeats 2000000 in
theorem concat2_c (x y : Tbl) (gf gx gy : Nat) (s : St) (b : Nat) (w : World) (hf : w.cell? ⟨gf, 0, none⟩ = some (.func (.func 80) #[] #[.pointer (some ⟨gx, 0, none⟩)])) (hx : TC w gx x) (hy : TC w gy y) (hp : s.p < x.nxt.length) (hb : b < 256) (hn64 : y.nxt.length ≤ 64) (hs : s.s < 18446744073709551616) :
    Calls Tryz.prog 81 #[stV s, vi b, .pointer (some ⟨gf, 0, none⟩), .pointer (some ⟨gx, 0, none⟩), .pointer (some ⟨gy, 0, none⟩)] w fun e w' => e = .returned (stV (ccNext x y s b)) ∧ Below w.heap.size w w' := by
  obtain ⟨cy, by_, ry⟩ := hy.ex
  have hsy := ry.size
  have HY := Lib.hid (And.intro ry (And.intro hy.wt (And.intro hn64 (And.intro by_ hs))))
  have HX := Lib.hid (And.intro hx (And.intro hp hb))
  have HF := Lib.hid hf
  obtain ⟨p, hp2⟩ : ∃ p, s.p = p := ⟨_, rfl⟩
  obtain ⟨k, hk⟩ : ∃ k, s.s = k := ⟨_, rfl⟩
  obtain ⟨z, hz2⟩ : ∃ z, stV s = z := ⟨_, rfl⟩
  have HZ := Lib.hid (show z = .agg (stc s).toArray from hz2.symm)
  rw [hz2]
  have HPQ := Lib.hid (And.intro hp2 hk)
  obtain ⟨T, hT⟩ : ∃ T, targets y k b = T := ⟨_, rfl⟩
  have HT := Lib.hid (And.intro hT (show T < 18446744073709551616 by rw [← hT, targets_eq]; exact tg_lt y hy.wt hn64 k b hb _ (Nat.le_refl _)))
  clear hx hy hp hb hz2 hp2 hk hf by_ ry hn64 hs hT
  go_enter Tryz.func81, Tryz.ntmps81
  go_upto_region 1 with (first
    | (with_reducible refine at_oper (.box 128 (.tmp 0)) rfl ?_
       refine wpList_box_rowG w.heap.size rfl rfl 128 (.tmp 0) rfl (stc s).toArray HZ.out ?_
       intro w1 k1 b1 s1)
    | (with_reducible refine at_oper (.alloc 128) rfl ?_
       refine wpList_alloc_rowG (w.heap.size + 1) s1 rfl 128 rfl _ zero128 ?_
       intro w2 k2 b2 s2))
  have hb2 := b1.trans (b2.mono b1.size)
  obtain ⟨n, c1, C, c2, c, v, ax, ar, nf, h1, h2, hv, hvn, hv9, h3, h4⟩ := (HX.out.1.below hb2).next HX.out.2.1 HX.out.2.2
  rw [HPQ.out.1] at nf h1 hv
  have hset := at_set (k1.old b2)
  have hst := stBlk0 (k1.old b2)
  rw [HPQ.out.1] at hst
  rw [HPQ.out.2] at hset
  have HV := Lib.hid (And.intro hv hvn)
  have HB := Lib.hid (And.intro hb2 k2)
  have hS : w2.cell? ⟨gf, 0, none⟩ = some (.func (.func 80) #[] #[.pointer (some ⟨gx, 0, none⟩)]) ∧ NF w2 gx p b n c1 C c2 c v ax ar ∧ Blk w2 gy 73 cy ∧ w2.cell? ⟨w.heap.size, 0, none⟩ = some (vi p) ∧ ∀ j v, ([vu k] : List Value)[j]? = some v → w2.cell? ((⟨w.heap.size, 2, none⟩ : Addr).add j) = some v := ⟨cell_below hb2 HF.out, nf, HY.out.2.2.2.1.old hb2, hst.1, hset⟩
  clear nf hst hset hv hvn hb2 k2 k1 b1 b2 s1 s2
  have hb9 := HX.out.2.2
  have HS := Lib.hid hS
  refine wp_region_ws (by kernel_rfl) [true, true, true, true, true, true, true, true, true, true, true, true, true, true, true, true, true, false, false, false, false] 19 (fun W => W.cell? ⟨gf, 0, none⟩ = some (.func (.func 80) #[] #[.pointer (some ⟨gx, 0, none⟩)]) ∧ NF W gx p b n c1 C c2 c v ax ar ∧ Blk W gy 73 cy ∧ W.cell? ⟨w.heap.size, 0, none⟩ = some (vi p) ∧ ∀ j v, ([vu k] : List Value)[j]? = some v → W.cell? ((⟨w.heap.size, 2, none⟩ : Addr).add j) = some v) (by decide +kernel) (fun _ _ d _ _ h => by cases d <;> exact h) hS ?_
  clear hS
  iterate 13 (refine ws_r ?_ (fun W hS => ?_) ?_; rotate_left; (focus (obtain ⟨q0, ⟨q1, q2, q3, q4⟩, q5, q6, q7⟩ := hS; clear q5 q7; go_simp; first | done | rfl | rw [if_pos (by omega)])); simp only [Act.put, List.setIfInBounds_toArray, List.set_cons_zero, List.set_cons_succ])
  refine ws_r (.agg cy) (fun W hS => ?_) ?_
  · refine run_load_blk 73 (.tmp 4) ?_ gy ?_ 73 cy _ hS.2.2.1 Tryz.underlying73 rfl (by rw [hsy]; exact size73) <;> rfl
  simp only [Act.put, List.setIfInBounds_toArray, List.set_cons_zero, List.set_cons_succ]
  refine ws_r ?_ (fun W hS => ?_) ?_
  rotate_left
  · clear hS
    go_simp
    first | done | rfl
  simp only [Act.put, List.setIfInBounds_toArray, List.set_cons_zero, List.set_cons_succ]
  refine ws_r (.agg #[vu k]) (fun W hS => ?_) ?_
  · refine run_load_set (.tmp 22) ?_ ⟨w.heap.size, 2, none⟩ ?_ k hS.2.2.2.2 <;> rfl
  simp only [Act.put, List.setIfInBounds_toArray, List.set_cons_zero, List.set_cons_succ]
  refine ws_r ?_ (fun W hS => ?_) ?_
  rotate_left
  · clear hS
    go_simp
    first | done | rfl
  simp only [Act.put, List.setIfInBounds_toArray, List.set_cons_zero, List.set_cons_succ]
  refine ws_c ?_
  have en := en80
  have hbd : Below w.heap.size w w2.drew := HB.out.1.drew
  go_wp2_with (first
    | (go_at_call 82
       refine (targets_c y cy k b w2.drew (HY.out.1.below hbd) HY.out.2.1 HY.out.2.2.1 (by rw [← HPQ.out.2]; exact HY.out.2.2.2.2) HX.out.2.2).mono ?_
       rw [HT.out.1]
       rintro e w3 ⟨rfl, hb⟩
       have H3 := Lib.hid (And.intro (hbd.trans (hb.mono hbd.size)) ((blk_drew HB.out.2).old hb))
       have HB3 := Lib.hid (show Below w2.heap.size w2 w3 from (Below.refl _ _).drew.trans hb)
       clear hb))
  have hb23 : Below w2.heap.size w2 w3 := HB3.out
  have hS3 : ∀ W, Below w2.heap.size w2 W → W.cell? ⟨gf, 0, none⟩ = some (.func (.func 80) #[] #[.pointer (some ⟨gx, 0, none⟩)]) ∧ NF W gx p b n c1 C c2 c v ax ar ∧ Blk W gy 73 cy ∧ W.cell? ⟨w.heap.size, 0, none⟩ = some (vi p) ∧ ∀ j v, ([vu k] : List Value)[j]? = some v → W.cell? ((⟨w.heap.size, 2, none⟩ : Addr).add j) = some v := fun W hW =>
    ⟨cell_below hW HS.out.1, ⟨cell_below hW HS.out.2.1.1, cell_below hW HS.out.2.1.2.1, cell_below hW HS.out.2.1.2.2.1, cell_below hW HS.out.2.1.2.2.2⟩, HS.out.2.2.1.old hW, cell_below hW HS.out.2.2.2.1, fun j v h => cell_below hW (HS.out.2.2.2.2 j v h)⟩
  have HS3 := Lib.hid hS3
  clear hS3
  first
    | refine ⟨HS3.out _ hb23, ws_c ?_⟩
    | (dsimp only [segQ]
       refine ⟨fun _ => HS3.out _ hb23, ws_c ?_⟩)
  go_wp2_with (first
    | (with_reducible refine at_oper (.build 128 #[(0, .tmp 20), (2, .tmp 25)]) rfl ?_
       refine wpList_build_row rfl 128 #[(0, .tmp 20), (2, .tmp 25)] rfl (stc ⟨v, 0, T⟩).toArray [(0, vi v), (2, .agg #[.int .u64 (T : Int)])] (by simp only [List.map_toArray, List.map_cons, List.map_nil]; rfl) (built128c v T) ?_))
  dsimp only [segQ]
  have hS4 := HS3.out _ hb23
  refine ⟨⟨hS4.1, hS4.2.1, hS4.2.2.1, hS4.2.2.2.1, fun j v h => by
    have e : (⟨w.heap.size, 2, none⟩ : Addr).add j = ⟨w.heap.size, 2 + j, none⟩ := by unfold Addr.add; split <;> simp_all
    have q := hS4.2.2.2.2 j v h
    rw [e] at q
    exact q⟩, ws_c ?_⟩
  clear hS4
  go_wp2_with (first
    | (go_at_call 80
       refine (enter_c x gx ⟨v, 0, T⟩ w3 ((HX.out.1.below HB.out.1).below hb23) HV.out.2 HT.out.2).mono ?_
       rintro e w4 ⟨rfl, hb⟩
       rw [stV_eq]
       have H4 := Lib.hid (And.intro (H3.out.1.trans (hb.mono H3.out.1.size)) (H3.out.2.old hb))
       clear hb))
  first
    | refine ws_c ?_
    | (dsimp only [segQ]
       refine ⟨fun h => absurd h (by decide), ws_c ?_⟩)
    | trace_state
  go_wp2_with (first
    | (with_reducible refine at_oper (.store 128 (.tmp 7) (.tmp 27)) rfl ?_
       refine wpList_store_blk rfl 128 (.tmp 7) (.tmp 27) rfl rfl (w.heap.size + 1) (stc (ccEnter x ⟨v, 0, T⟩)).toArray _ 128 rfl rfl H4.out.2 size128 rfl (stc_all _) ?_
       intro w5 k5 o5
       have K5 := Lib.hid k5
       have B5 := Lib.hid (below_only H4.out.1 o5 (by omega))
       clear k5 o5))
  first
    | refine ws_e ?_
    | (dsimp only [segQ]
       refine ⟨fun h => absurd h (by decide), ws_e ?_⟩)
  go_wp2_with fail
  refine bodyPost_ret (results_cell rfl _ _ (w.heap.size + 1) rfl 128 _ K5.out Tryz.underlying128 rfl size128) rfl ?_
  refine ⟨?_, B5.out⟩
  rw [stV_eq]
  unfold ccNext
  rw [HPQ.out.1, HPQ.out.2, HV.out.1, HT.out.1]
end Go.Proofs.YtjgkdfghjeodeaaGreatDoor
