/- automaton.product's functions. -/
import Derived.Test.YtjgkdfghjeodeaaGreatDoorT22
import Derived.Test.YtjgkdfghjeodeaaGreatDoorT23
namespace Go.Proofs.YtjgkdfghjeodeaaGreatDoor
open Go.RowKit

theorem zero128 (w : World) : (zeroValue 128).run Tryz.prog w = .ok (.agg (stc ⟨0, 0, 0⟩).toArray) w := by kernel_rfl
theorem stBlk0 {W : World} {g : Nat} {s : St} (h : Blk W g 128 (stc s).toArray) : W.cell? ⟨g, 0, none⟩ = some (vi s.p) ∧ W.cell? ⟨g, 1, none⟩ = some (vi s.q) ∧ W.cell? ⟨g, 2, none⟩ = some (.int .u64 (s.s : Int)) := ⟨h.cell 0, h.cell 1, h.cell 2⟩

set_option maxRecDepth 100000 in
set_option maxHeartbeats 4000000 in
theorem product1_c (x y : Tbl) (gx gy : Nat) (s : St) (b : Nat) (w : World) (hx : TC w gx x) (hy : TC w gy y) (hp : s.p < x.nxt.length) (hq : s.q < y.nxt.length) (hb : b < 256) :
    Calls Tryz.prog 127 #[stV s, vi b, .pointer (some ⟨gx, 0, none⟩), .pointer (some ⟨gy, 0, none⟩)] w fun e w' => e = .returned (stV (prodNext x y s b)) ∧ Below w.heap.size w w' := by
  have HX := Lib.hid (And.intro hx (And.intro hp hb))
  have HY := Lib.hid (And.intro hy (And.intro hq hb))
  obtain ⟨p, hp2⟩ : ∃ p, s.p = p := ⟨_, rfl⟩
  obtain ⟨q, hq2⟩ : ∃ q, s.q = q := ⟨_, rfl⟩
  obtain ⟨z, hz2⟩ : ∃ z, stV s = z := ⟨_, rfl⟩
  have HZ := Lib.hid (show z = .agg (stc s).toArray from hz2.symm)
  rw [hz2]
  have HPQ := Lib.hid (And.intro hp2 hq2)
  clear hx hy hp hq hp2 hq2 hz2
  go_enter Tryz.func127, Tryz.ntmps127
  go_upto_region 1 with (first
    | (with_reducible refine at_oper (.box 128 (.tmp 0)) rfl ?_
       refine wpList_box_rowG w.heap.size rfl rfl 128 (.tmp 0) rfl (stc s).toArray HZ.out ?_
       intro w1 k1 b1 s1)
    | (with_reducible refine at_oper (.alloc 128) rfl ?_
       refine wpList_alloc_rowG (w.heap.size + 1) s1 rfl 128 rfl _ zero128 ?_
       intro w2 k2 b2 s2))
  have hb2 := b1.trans (b2.mono b1.size)
  obtain ⟨n, c1, C, c2, c, v, ax, ar, nf, h1, h2, hv, _, hv9, h3, h4⟩ := (HX.out.1.below hb2).next HX.out.2.1 HX.out.2.2
  obtain ⟨n', c1', C', c2', c', v', ax', ar', nf', h1', h2', hv', _, hv9', h3', h4'⟩ := (HY.out.1.below hb2).next HY.out.2.1 HY.out.2.2
  rw [HPQ.out.1] at nf h1 hv
  rw [HPQ.out.2] at nf' h1' hv'
  have hst := stBlk0 (k1.old b2)
  rw [HPQ.out.1, HPQ.out.2] at hst
  have HV := Lib.hid (And.intro hv hv')
  have HB := Lib.hid (And.intro hb2 k2)
  have hS : NF w2 gx p b n c1 C c2 c v ax ar ∧ NF w2 gy q b n' c1' C' c2' c' v' ax' ar' ∧ w2.cell? ⟨w.heap.size, 0, none⟩ = some (vi p) ∧ w2.cell? ⟨w.heap.size, 1, none⟩ = some (vi q) := ⟨nf, nf', hst.1, hst.2.1⟩
  clear nf nf' hst hv hv' hb2 k2 k1 b1 b2 s1 s2
  refine wp_region_ws (by kernel_rfl) [true, true, true, true, true, true, true, true, true, true, true, true, true, true, true, true, true, true, true, true, true, true, true, true, true, false] 25 (fun W => NF W gx p b n c1 C c2 c v ax ar ∧ NF W gy q b n' c1' C' c2' c' v' ax' ar' ∧ W.cell? ⟨w.heap.size, 0, none⟩ = some (vi p) ∧ W.cell? ⟨w.heap.size, 1, none⟩ = some (vi q)) (by decide +kernel) (fun _ _ d _ _ h => by cases d <;> exact h) hS ?_
  clear hS
  iterate 24 (refine ws_r ?_ (fun W hS => ?_) ?_; rotate_left; (focus (obtain ⟨⟨q1, q2, q3, q4⟩, ⟨q5, q6, q7, q8⟩, q9, q10⟩ := hS; go_simp; first | done | rfl | rw [if_pos (by omega)])); simp only [Act.put, List.setIfInBounds_toArray, List.set_cons_zero, List.set_cons_succ])
  refine ws_r (.agg (stc ⟨v, v', 0⟩).toArray) (fun W hS => ?_) ?_
  · refine run_built2 128 0 1 (.tmp 18) (.tmp 30) ?_ (vi v) (vi v') ?_ ?_ _ (built128 _ _) <;> rfl
  simp only [Act.put, List.setIfInBounds_toArray, List.set_cons_zero, List.set_cons_succ]
  refine ws_c ?_
  go_wp2_with (first
    | (with_reducible refine at_oper (.store 128 (.tmp 6) (.tmp 31)) rfl ?_
       refine wpList_store_blk rfl 128 (.tmp 6) (.tmp 31) rfl rfl (w.heap.size + 1) (stc ⟨v, v', 0⟩).toArray _ 128 rfl rfl (blk_drew HB.out.2) size128 rfl (stc_all _) ?_
       intro w3 k3 o3
       have K3 := Lib.hid k3
       have B3 := Lib.hid (below_only HB.out.1.drew o3 (by omega))
       clear k3 o3))
  first
    | refine ws_e ?_
    | (dsimp only [segQ]
       refine ⟨fun h => absurd h (by decide), ws_e ?_⟩)
  go_wp2_with fail
  refine bodyPost_ret (results_cell rfl _ _ (w.heap.size + 1) rfl 128 _ K3.out Tryz.underlying128 rfl size128) rfl ?_
  refine ⟨?_, B3.out⟩
  rw [stV_eq]
  unfold prodNext
  rw [HPQ.out.1, HPQ.out.2, HV.out.1, HV.out.2]

set_option maxRecDepth 100000 in
set_option maxHeartbeats 4000000 in
theorem product2_c (x y : Tbl) (h : Bool → Bool → Bool) (gf gx gy : Nat) (gh : FuncId) (s : St) (w : World) (hf : w.cell? ⟨gf, 0, none⟩ = some (.func (.func gh) #[] #[])) (hgf : gf < w.heap.size) (eh : ∀ args w, (callFunc gh args).run Tryz.prog w = .ok (.enter gh args) w)
    (hh : ∀ W a b, Calls Tryz.prog gh #[.bool a, .bool b] W fun e W' => e = .returned (.bool (h a b)) ∧ Below W.heap.size W W')
    (hx : TC w gx x) (hy : TC w gy y) (hp : s.p < x.nxt.length) (hq : s.q < y.nxt.length) :
    Calls Tryz.prog 128 #[stV s, .pointer (some ⟨gf, 0, none⟩), .pointer (some ⟨gx, 0, none⟩), .pointer (some ⟨gy, 0, none⟩)] w fun e w' => e = .returned (.bool (h (x.acc.getD s.p false) (y.acc.getD s.q false))) ∧ Below w.heap.size w w' := by
  have HX := Lib.hid (And.intro hx hp)
  have HY := Lib.hid (And.intro hy hq)
  have HF := Lib.hid (And.intro hf (And.intro hgf hh))
  obtain ⟨p, hp2⟩ : ∃ p, s.p = p := ⟨_, rfl⟩
  obtain ⟨q, hq2⟩ : ∃ q, s.q = q := ⟨_, rfl⟩
  obtain ⟨z, hz2⟩ : ∃ z, stV s = z := ⟨_, rfl⟩
  have HZ := Lib.hid (show z = .agg (stc s).toArray from hz2.symm)
  rw [hz2, hp2, hq2]
  have HPQ := Lib.hid (And.intro hp2 hq2)
  clear hx hy hp hq hp2 hq2 hz2 hf hgf hh
  go_enter Tryz.func128, Tryz.ntmps128
  go_upto_region 1 with (first
    | (with_reducible refine at_oper (.box 128 (.tmp 0)) rfl ?_
       refine wpList_box_rowG w.heap.size rfl rfl 128 (.tmp 0) rfl (stc s).toArray HZ.out ?_
       intro w1 k1 b1 s1))
  obtain ⟨n, c1, v, ax, nf, h1, hv, h3⟩ := (HX.out.1.below b1).acc HX.out.2
  obtain ⟨n', c1', v', ax', nf', h1', hv', h3'⟩ := (HY.out.1.below b1).acc HY.out.2
  rw [HPQ.out.1] at nf h1 hv
  rw [HPQ.out.2] at nf' h1' hv'
  have hst := stBlk0 k1
  rw [HPQ.out.1, HPQ.out.2] at hst
  have HV := Lib.hid (And.intro hv hv')
  have HB := Lib.hid b1
  have hS : w1.cell? ⟨gf, 0, none⟩ = some (.func (.func gh) #[] #[]) ∧ AF w1 gx p n c1 v ax ∧ AF w1 gy q n' c1' v' ax' ∧ w1.cell? ⟨w.heap.size, 0, none⟩ = some (vi p) ∧ w1.cell? ⟨w.heap.size, 1, none⟩ = some (vi q) := ⟨cell_below b1 HF.out.1, nf, nf', hst.1, hst.2.1⟩
  clear nf nf' hst hv hv' k1 b1 s1
  refine wp_region_ws (by kernel_rfl) [true, true, true, true, true, true, true, true, true, true, true, true, true, false, false] 13 (fun W => W.cell? ⟨gf, 0, none⟩ = some (.func (.func gh) #[] #[]) ∧ AF W gx p n c1 v ax ∧ AF W gy q n' c1' v' ax' ∧ W.cell? ⟨w.heap.size, 0, none⟩ = some (vi p) ∧ W.cell? ⟨w.heap.size, 1, none⟩ = some (vi q)) (by decide +kernel) (fun _ _ d _ _ h => by cases d <;> exact h) hS ?_
  clear hS
  iterate 13 (refine ws_r ?_ (fun W hS => ?_) ?_; rotate_left; (focus (obtain ⟨q0, ⟨q1, q2⟩, ⟨q5, q6⟩, q9, q10⟩ := hS; go_simp; first | done | rfl | rw [if_pos (by omega)])); simp only [Act.put, List.setIfInBounds_toArray, List.set_cons_zero, List.set_cons_succ])
  refine ws_c ?_
  go_wp2_with (first
    | (with_reducible refine at_calls ?_
       refine (HF.out.2.2 w1.drew v v').mono ?_
       rintro e w2 ⟨rfl, hb2⟩
       have H2 := Lib.hid (HB.out.drew.trans (hb2.mono HB.out.size))
       clear hb2))
  first
    | refine ws_c ?_
    | (dsimp only [segQ]
       refine ⟨fun h => absurd h (by decide), ws_c ?_⟩)
  go_wp2_with fail
  first
    | refine ws_e ?_
    | (dsimp only [segQ]
       refine ⟨fun h => absurd h (by decide), ws_e ?_⟩)
  go_wp2_with fail
  go_ret
  exact ⟨by rw [HV.out.1, HV.out.2]; rfl, H2.out⟩

theorem RD.cells {w : World} {K : Nat → Prop} {v : Value} {d : Dfa} (h : RD w K v d) : ∃ cs, v = .agg cs ∧ cs.size = 3 ∧ cs.all (·.oneCell') = true := by
  obtain ⟨A1, A2, A3, c1, c2, c3, rfl, _, _, _⟩ := h.open_
  exact ⟨_, rfl, rfl, one3 ..⟩
theorem en127 : ∀ args w, (callFunc 127 args).run Tryz.prog w = .ok (.enter 127 args) w := fun args w => by kernel_rfl
theorem en128 : ∀ args w, (callFunc 128 args).run Tryz.prog w = .ok (.enter 128 args) w := fun args w => by kernel_rfl
/-- a function of two truth values -/
structure HB (h : Bool → Bool → Bool) (gh : FuncId) : Prop where
  en : ∀ args w, (callFunc gh args).run Tryz.prog w = .ok (.enter gh args) w
  ca : ∀ W a b, Calls Tryz.prog gh #[.bool a, .bool b] W fun e W' => e = .returned (.bool (h a b)) ∧ Below W.heap.size W W'
set_option maxRecDepth 100000 in
set_option maxHeartbeats 4000000 in
theorem product_c (K1 K2 : Nat → Prop) (v1 v2 : Value) (a b : Dfa) (h : Bool → Bool → Bool) (gh : FuncId) (w : World) (hd1 : RD w K1 v1 a) (hv1 : VD a) (hd2 : RD w K2 v2 b) (hv2 : VD b) (hT : Tab w) (hh : 0 < w.heap.size) (hb : HB h gh) :
    Calls Tryz.prog 115 #[v1, v2, .func (.func gh) #[] #[]] w fun e w' => ∃ cs t, e = .returned (.agg cs) ∧ product a b h = some t ∧ WT t ∧ RT w' (fun k => w.heap.size ≤ k) cs t ∧ Below w.heap.size w w' := by
  obtain ⟨cs1, rfl, z1, o1⟩ := hd1.cells
  obtain ⟨cs2, rfl, z2, o2⟩ := hd2.cells
  have HD1 := Lib.hid (And.intro (hd1.weak (K' := fun k => k < w.heap.size) fun _ h _ => h) hv1)
  have HD2 := Lib.hid (And.intro (hd2.weak (K' := fun k => k < w.heap.size) fun _ h _ => h) hv2)
  have HTb := Lib.hid hT
  have HHb := Lib.hid hb
  have HP := Lib.hid (product_spec hv1 hv2 h)
  clear hd1 hv1 hd2 hv2 hT hb
  go_enter Tryz.func115, Tryz.ntmps115
  go_upto_region 1 with (first
    | (with_reducible refine at_oper (.box 28 (.tmp 0)) rfl ?_
       refine wpList_box_rowG w.heap.size rfl rfl 28 (.tmp 0) rfl cs1 rfl ?_
       intro w1 k1 b1 s1)
    | (with_reducible refine at_oper (.box 28 (.tmp 1)) rfl ?_
       refine wpList_box_rowG (w.heap.size + 1) s1 rfl 28 (.tmp 1) rfl cs2 rfl ?_
       intro w2 k2 b2 s2)
    | (with_reducible refine at_oper (.alloc 73) rfl ?_
       refine wpList_alloc_rowG (w.heap.size + 1 + 1 + 1) (by rw [World.size_alloc, s2]) rfl 73 rfl _ Tryz.zeroValue73 ?_
       intro w3 k3 b3 s3))
  simp only [Act.put, List.setIfInBounds_toArray, List.set_cons_zero, List.set_cons_succ]
  have hbb : Below w.heap.size w (w2.alloc (.cells #[Value.func (Fn.func gh) #[] #[]] 137)) := (b1.trans (b2.mono b1.size)).alloc (by omega) _
  have hb3 : Below w.heap.size w w3 := hbb.trans (b3.mono hbb.size)
  have kf := (Blk.new w2 137 #[Value.func (Fn.func gh) #[] #[]]).old b3
  rw [s2] at kf
  have k1' := ((k1.old b2).alloc (.cells #[Value.func (Fn.func gh) #[] #[]] 137)).old b3
  have k2' := (k2.alloc (.cells #[Value.func (Fn.func gh) #[] #[]] 137)).old b3
  have H3 := Lib.hid (And.intro hb3 (And.intro k1' (And.intro k2' (And.intro kf (And.intro k3 s3)))))
  clear k1 k2 k3 b1 b2 b3 s1 s2 s3 hbb hb3 kf k1' k2'
  refine wp_region_float (by kernel_rfl) 6 (fun i => if i = 4 ∨ i = 5 then some (73, Tryz.zeroCells73) else none) (fun K i v W => match i with
    | 0 => v = .agg cs1
    | 1 => ∃ cs, v = .agg cs ∧ RT W K cs (tableOf a)
    | 2 => v = .agg cs2
    | 3 => ∃ cs, v = .agg cs ∧ RT W K cs (tableOf b)
    | _ => True) (by decide +kernel) (by decide +kernel) (by kernel_rfl) ?_ ?_ ?_ ?_ ?_
  · intro i o t z hi ho hk
    rcases i with _ | _ | _ | _ | _ | _ | i
    any_goals (simp at hk; done)
    · simp at ho hk
      subst ho
      obtain ⟨rfl, rfl⟩ := hk
      exact ⟨rfl, Tryz.zeroValue73⟩
    · simp at ho hk
      subst ho
      obtain ⟨rfl, rfl⟩ := hk
      exact ⟨rfl, Tryz.zeroValue73⟩
  · intro K i v W W' hD hb
    rcases i with _ | _ | _ | _ | i
    · exact hD
    · obtain ⟨cs, e, hr⟩ := hD
      exact ⟨cs, e, hr.below hb⟩
    · exact hD
    · obtain ⟨cs, e, hr⟩ := hD
      exact ⟨cs, e, hr.below hb⟩
    · trivial
  · intro K K' i v W hD hb
    rcases i with _ | _ | _ | _ | i
    · exact hD
    · obtain ⟨cs, e, hr⟩ := hD
      exact ⟨cs, e, hr.weak hb⟩
    · exact hD
    · obtain ⟨cs, e, hr⟩ := hD
      exact ⟨cs, e, hr.weak hb⟩
    · trivial
  · intro K i o hi ho hk vs a' W hK hW hdep hout
    have hK0 : ∀ k, k < w.heap.size → K k := fun k hk => hK k (.inl (by have q3 : w3.drew.heap.size = w3.heap.size := rfl; have := H3.out.2.2.2.2.2; omega))
    have hW2 : Below w.heap.size w W := (H3.out.1.drew).trans (hW.mono H3.out.1.size)
    rcases i with _ | _ | _ | _ | _ | _ | i
    · simp at ho
      subst ho
      have e3 : a'.eval (.tmp 3) = .pointer (some ⟨w.heap.size, 0, none⟩) := hout 3 (by decide +kernel)
      exact wpList_load_blk rfl 28 (.tmp 3) rfl w.heap.size e3 28 cs1 _ ((blk_drew H3.out.2.1).old hW) Tryz.underlying28 rfl (by rw [z1]; exact size28) ⟨_, rfl, rfl, Below.refl _ _⟩
    · simp at ho
      subst ho
      have hd := hdep ⟨0, .data⟩ (by simp) rfl (by decide)
      have e14 : a'.eval (.tmp 14) = .agg cs1 := (hd.2 _ rfl 14 rfl).trans (hd.1 rfl)
      refine wpList_callG rfl 23 (.tmp 14) _ rfl _ e14 en23 ((tableOf_c K _ a W ((HD1.out.1.below hW2).weak fun k _ h => hK0 k h) HD1.out.2 (HTb.out.below hh hW2) (by have := hW2.size; omega)).mono ?_)
      rintro e W2 ⟨cs, rfl, hr, hb⟩
      exact ⟨_, rfl, _, rfl, ⟨cs, rfl, hr⟩, hb⟩
    · simp at ho
      subst ho
      have e4 : a'.eval (.tmp 4) = .pointer (some ⟨w.heap.size + 1, 0, none⟩) := hout 4 (by decide +kernel)
      exact wpList_load_blk rfl 28 (.tmp 4) rfl (w.heap.size + 1) e4 28 cs2 _ ((blk_drew H3.out.2.2.1).old hW) Tryz.underlying28 rfl (by rw [z2]; exact size28) ⟨_, rfl, rfl, Below.refl _ _⟩
    · simp at ho
      subst ho
      have hd := hdep ⟨2, .data⟩ (by simp) rfl (by decide)
      have e16 : a'.eval (.tmp 16) = .agg cs2 := (hd.2 _ rfl 16 rfl).trans (hd.1 rfl)
      refine wpList_callG rfl 23 (.tmp 16) _ rfl _ e16 en23 ((tableOf_c K _ b W ((HD2.out.1.below hW2).weak fun k _ h => hK0 k h) HD2.out.2 (HTb.out.below hh hW2) (by have := hW2.size; omega)).mono ?_)
      rintro e W2 ⟨cs, rfl, hr, hb⟩
      exact ⟨_, rfl, _, rfl, ⟨cs, rfl, hr⟩, hb⟩
    · simp at hk
    · simp at hk
    · omega
  intro vs a' W hF
  have hW2 : Below w.heap.size w W := (H3.out.1.drew).trans (hF.below.mono H3.out.1.size)
  have e0 : vs 0 = .agg cs1 := hF.d 0 (by decide) rfl rfl
  obtain ⟨csx, e1, hrx⟩ : ∃ cs, vs 1 = .agg cs ∧ RT W _ cs (tableOf a) := hF.d 1 (by decide) rfl rfl
  have e2 : vs 2 = .agg cs2 := hF.d 2 (by decide) rfl rfl
  obtain ⟨csy, e3, hry⟩ : ∃ cs, vs 3 = .agg cs ∧ RT W _ cs (tableOf b) := hF.d 3 (by decide) rfl rfl
  obtain ⟨gx, e4, kx, lx⟩ := hF.al 4 (by decide) rfl 73 Tryz.zeroCells73 rfl
  obtain ⟨gy, e5, ky, ly⟩ := hF.al 5 (by decide) rfl 73 Tryz.zeroCells73 rfl
  have hne : gx ≠ gy := fun e => hF.ne 4 5 (by decide) (by decide) rfl rfl rfl rfl (by decide) (by rw [e4, e5, e])
  replace hrx := hrx.weak (K' := fun k => k ≠ gx ∧ k ≠ gy) fun k _ h => ⟨fun e => h 4 (by decide) rfl rfl (by rw [e4, e]), fun e => h 5 (by decide) rfl rfl (by rw [e5, e])⟩
  replace hry := hry.weak (K' := fun k => k ≠ gx ∧ k ≠ gy) fun k _ h => ⟨fun e => h 4 (by decide) rfl rfl (by rw [e4, e]), fun e => h 5 (by decide) rfl rfl (by rw [e5, e])⟩
  have ea := hF.a
  simp only [List.take, putS, if_true, Act.put, List.setIfInBounds_toArray, List.set_cons_zero, List.set_cons_succ, e0, e1, e2, e3, e4, e5] at ea
  subst ea
  have hl3 : w.heap.size + 1 + 1 + 1 < gx ∧ w.heap.size + 1 + 1 + 1 < gy := by have := H3.out.2.2.2.2.2; have q1 : w3.drew.heap.size ≤ gx := lx; have q2 : w3.drew.heap.size ≤ gy := ly; have q3 : w3.drew.heap.size = w3.heap.size := rfl; omega
  have HW := Lib.hid (And.intro hW2 (And.intro ((blk_drew H3.out.2.2.2.1).old hF.below) (And.intro ((blk_drew H3.out.2.2.2.2.1).old hF.below) (And.intro kx (And.intro ky (And.intro hrx hry))))))
  clear hF e0 e1 e2 e3 e4 e5 kx ky lx ly hrx hry hW2 H3 vs
  dsimp only [List.drop]
  go_upto_region 2 with (first
    | (with_reducible refine at_oper (.store 73 (.tmp 7) (.tmp 15)) rfl ?_
       refine wpList_store_blk rfl 73 (.tmp 7) (.tmp 15) rfl rfl gx csx _ 73 rfl rfl HW.out.2.2.2.1 (by rw [HW.out.2.2.2.2.2.1.size]; exact size73) (by rw [HW.out.2.2.2.2.2.1.size]; exact Tryz.zeroCells73_size) HW.out.2.2.2.2.2.1.one ?_
       intro w5 k5 o5
       have H5 := Lib.hid (And.intro k5 o5)
       clear k5 o5)
    | (with_reducible refine at_oper (.store 73 (.tmp 8) (.tmp 17)) rfl ?_
       refine wpList_store_blk rfl 73 (.tmp 8) (.tmp 17) rfl rfl gy csy _ 73 rfl rfl (HW.out.2.2.2.2.1.only H5.out.2 (Ne.symm hne)) (by rw [HW.out.2.2.2.2.2.2.size]; exact size73) (by rw [HW.out.2.2.2.2.2.2.size]; exact Tryz.zeroCells73_size) HW.out.2.2.2.2.2.2.one ?_
       intro w6 k6 o6
       have hbw : Below w.heap.size w w6 := below_only (below_only HW.out.1 H5.out.2 (by omega)) o6 (by omega)
       have H6 := Lib.hid (show TC w6 gx (tableOf a) ∧ TC w6 gy (tableOf b) ∧ Below w.heap.size w w6 ∧ Blk w6 (w.heap.size + 1 + 1) 137 #[Value.func (Fn.func gh) #[] #[]] ∧ Blk w6 (w.heap.size + 1 + 1 + 1) 73 Tryz.zeroCells73 from
         ⟨⟨⟨csx, H5.out.1.only o6 hne, ((HW.out.2.2.2.2.2.1.old fun k hk _ => H5.out.2.block k hk.1).old fun k hk _ => o6.block k hk.2).weak fun _ _ _ => trivial⟩, tableOf_wt HD1.out.2⟩,
         ⟨⟨csy, k6, ((HW.out.2.2.2.2.2.2.old fun k hk _ => H5.out.2.block k hk.1).old fun k hk _ => o6.block k hk.2).weak fun _ _ _ => trivial⟩, tableOf_wt HD2.out.2⟩, hbw,
         (HW.out.2.1.only H5.out.2 (by omega)).only o6 (by omega), (HW.out.2.2.1.only H5.out.2 (by omega)).only o6 (by omega)⟩)
       clear k6 o6 hbw))
  obtain ⟨cx, bx, rx⟩ := H6.out.1.ex
  obtain ⟨cy, by_, ry⟩ := H6.out.2.1.ex
  have hsx := rx.size
  have hsy := ry.size
  have hjc := joint_c TT TT cx cy (tableOf a) (tableOf b) w6 rx ry
  have hjs := joint_spec (tableOf a).cell (tableOf b).cell
  obtain ⟨t, ht, hwt⟩ := HP.out
  have hex : explore (joint (tableOf a).cell (tableOf b).cell).1 (joint (tableOf a).cell (tableOf b).cell).2 ⟨0, 0, 0⟩ (prodNext (tableOf a) (tableOf b)) (fun s => h ((tableOf a).acc.getD s.p false) ((tableOf b).acc.getD s.q false)) 1073741824 5000 = some t := ht
  obtain ⟨cellL, hcL⟩ : ∃ c, (joint (tableOf a).cell (tableOf b).cell).1 = c := ⟨_, rfl⟩
  obtain ⟨bytesL, hbL⟩ : ∃ c, (joint (tableOf a).cell (tableOf b).cell).2 = c := ⟨_, rfl⟩
  rw [hcL, hbL] at hjc hjs hex
  obtain ⟨nb, hnb⟩ : ∃ nb, bytesL.length = nb := ⟨_, rfl⟩
  rw [hnb] at hjc hjs
  have HJ := Lib.hid (And.intro hjc hjs)
  have HE := Lib.hid (And.intro ht (And.intro hwt hex))
  have HN := Lib.hid hnb
  clear hjc hjs ht hwt hex hcL hbL hnb HP rx ry
  go_upto_region 4 with (first
    | (with_reducible refine at_oper (.load 73 (.tmp 7)) rfl ?_
       refine wpList_load_blk rfl 73 (.tmp 7) rfl gx rfl 73 cx _ bx Tryz.underlying73 rfl (by rw [hsx]; exact size73) ?_)
    | (with_reducible refine at_oper (.load 73 (.tmp 8)) rfl ?_
       refine wpList_load_blk rfl 73 (.tmp 8) rfl gy rfl 73 cy _ by_ Tryz.underlying73 rfl (by rw [hsy]; exact size73) ?_)
    | (go_at_call 79
       refine HJ.out.1.mono ?_
       rintro e w7 ⟨Ab, cb, rfl, hb7, hrn, hl1, hl2, hl3, hl4⟩
       have H7 := Lib.hid (And.intro hb7 (And.intro hrn hl1))
       clear hb7 hrn hl1 hl2 hl3 hl4)
    | (with_reducible refine at_oper (.alloc 71) rfl ?_
       refine wpList_alloc_rowG w7.heap.size rfl rfl 71 rfl _ zero71 ?_
       intro w8 k8 b8 s8
       have H8 := Lib.hid (And.intro k8 (And.intro b8 s8))
       clear k8 b8 s8)
    | (with_reducible refine at_oper (.store 71 (.tmp 9) (.tmp 22)) rfl ?_
       refine wpList_store_blk rfl 71 (.tmp 9) (.tmp 22) rfl rfl w7.heap.size (via cellL) _ 71 rfl rfl H8.out.1 (by rw [via_size, H7.out.2.2]; exact size71) (by rw [via_size, via_size, H7.out.2.2]; rfl) (via_one _) ?_
       intro w9 k9 o9
       have hb9 : Below w7.heap.size w7 w9 := below_only H8.out.2.1 o9 (Nat.le_refl _)
       have hb69 : Below w6.heap.size w6 w9 := H7.out.1.trans (hb9.mono H7.out.1.size)
       have H9 := Lib.hid (And.intro hb69 (And.intro (H7.out.2.1.below hb9) k9))
       clear k9 o9 hb9 hb69))
  have hgy : gx ≠ gy := hne
  have hb9 : Below w.heap.size w w9 := H6.out.2.2.1.trans (H9.out.1.mono H6.out.2.2.1.size)
  have hlt6 := H6.out.2.2.2.2.lt
  have hX : EX w9 bytesL ⟨0, 0, 0⟩ (prodNext (tableOf a) (tableOf b)) (fun s => h ((tableOf a).acc.getD s.p false) ((tableOf b).acc.getD s.q false)) 1073741824 127 128 #[.pointer (some ⟨gx, 0, none⟩), .pointer (some ⟨gy, 0, none⟩)] #[.pointer (some ⟨w.heap.size + 1 + 1, 0, none⟩), .pointer (some ⟨gx, 0, none⟩), .pointer (some ⟨gy, 0, none⟩)] (JP (tableOf a) (tableOf b)) := by
    have wa := tableOf_wt HD1.out.2
    have wb := tableOf_wt HD2.out.2
    have ta := wa.top
    have tb := wb.top
    refine ⟨⟨wa.pos, wb.pos, rfl⟩, fun s hs => ?_, fun s c hs hc => jp_next wa wb hs (HJ.out.2.2.2.2 c hc), by decide, by decide, fun l hn hj _ => jp_fin HD1.out.2.top HD2.out.2.top l hn hj, en127, en128, fun W s c hW hs hc => ?_, fun W s hW hs => ?_⟩
    · obtain ⟨h1, h2, h3⟩ := hs
      omega
    · have e : (#[stV s, vi c] : Array Value) ++ #[.pointer (some ⟨gx, 0, none⟩), .pointer (some ⟨gy, 0, none⟩)] = #[stV s, vi c, .pointer (some ⟨gx, 0, none⟩), .pointer (some ⟨gy, 0, none⟩)] := by simp
      rw [e]
      exact product1_c _ _ gx gy s c W ((H6.out.1.below H9.out.1).below hW) ((H6.out.2.1.below H9.out.1).below hW) hs.1 hs.2.1 (HJ.out.2.2.2.2 c hc)
    · have e : (#[stV s] : Array Value) ++ #[.pointer (some ⟨w.heap.size + 1 + 1, 0, none⟩), .pointer (some ⟨gx, 0, none⟩), .pointer (some ⟨gy, 0, none⟩)] = #[stV s, .pointer (some ⟨w.heap.size + 1 + 1, 0, none⟩), .pointer (some ⟨gx, 0, none⟩), .pointer (some ⟨gy, 0, none⟩)] := by simp
      rw [e]
      have kf := (H6.out.2.2.2.1.old H9.out.1).old hW
      exact product2_c _ _ h _ gx gy gh s W (kf.cell 0) kf.lt HHb.out.en HHb.out.ca ((H6.out.1.below H9.out.1).below hW) ((H6.out.2.1.below H9.out.1).below hW) hs.1 hs.2.1
  have hec := explore_c (fun k => w6.heap.size ≤ k) cellL bytesL ⟨0, 0, 0⟩ (prodNext (tableOf a) (tableOf b)) (fun s => h ((tableOf a).acc.getD s.p false) ((tableOf b).acc.getD s.q false)) 1073741824 Ab cb 127 128 _ _ (JP (tableOf a) (tableOf b)) w9 H7.out.2.2 (lt_mono HJ.out.2.2.1 (by have := HJ.out.2.2.2.1; omega)) (by rw [HN.out]; exact H9.out.2.1) (by rw [HN.out]; exact HJ.out.2.2.2.1) hX
  rw [HE.out.2.2, HN.out] at hec
  have HEC := Lib.hid hec
  have H9b := Lib.hid hb9
  have k9 := H9.out.2.2
  have hcl := H7.out.2.2
  clear hec hX hb9
  go_wp2_with (first
    | (with_reducible refine at_oper (.load 71 (.tmp 9)) rfl ?_
       refine wpList_load_blk rfl 71 (.tmp 9) rfl w7.heap.size rfl 71 (via cellL) _ k9 Tryz.underlying71 rfl (by rw [via_size, hcl]; exact size71) ?_)
    | (go_at_call 83
       refine HEC.out.mono ?_
       rintro e w10 ⟨cs, ok, rfl, hb10, z10, o10, hr10⟩
       obtain ⟨rfl, hrt⟩ := hr10
       have H10 := Lib.hid (And.intro hb10 (hrt.weak (K' := fun k => w9.heap.size ≤ k ∧ k < w10.heap.size) fun k h h' => ⟨h', h⟩))
       clear hb10 hrt)
    | (with_reducible refine at_oper (.alloc 73) rfl ?_
       refine wpList_alloc_rowG w10.heap.size rfl rfl 73 rfl _ Tryz.zeroValue73 ?_
       intro w11 k11 b11 s11
       have H11 := Lib.hid (And.intro k11 (And.intro b11 s11))
       clear k11 b11 s11)
    | (with_reducible refine at_oper (.store 73 (.tmp 12) (.tmp 32)) rfl ?_
       refine wpList_store_blk rfl 73 (.tmp 12) (.tmp 32) rfl rfl w10.heap.size cs _ 73 rfl rfl H11.out.1 (by rw [z10]; exact size73) (by rw [z10]; exact Tryz.zeroCells73_size) o10 ?_
       intro w12 k12 o12
       have hb12 := below_only H11.out.2.1 o12 (Nat.le_refl _)
       have H12 := Lib.hid (And.intro k12 hb12)
       clear k12 o12 hb12)
    | (with_reducible refine at_oper (.load 73 (.tmp 12)) rfl ?_
       refine wpList_load_blk rfl 73 (.tmp 12) rfl w10.heap.size rfl 73 cs _ H12.out.1 Tryz.underlying73 rfl (by rw [z10]; exact size73) ?_)
    | (with_reducible refine at_oper (.store 73 (.tmp 6) (.tmp 34)) rfl ?_
       refine wpList_store_blk rfl 73 (.tmp 6) (.tmp 34) rfl rfl (w.heap.size + 1 + 1 + 1) cs _ 73 rfl rfl (((H6.out.2.2.2.2.old H9.out.1).old H10.out.1).old H12.out.2) (by rw [z10]; exact size73) (by rw [z10]; exact Tryz.zeroCells73_size) o10 ?_
       intro w13 k13 o13
       have H13 := Lib.hid (And.intro k13 o13)
       clear k13 o13))
  refine bodyPost_ret (results_cell rfl _ _ (w.heap.size + 1 + 1 + 1) rfl 73 _ H13.out.1 Tryz.underlying73 rfl (by rw [z10]; exact size73)) rfl ?_
  have hz := H9b.out.size
  have hz9 := H9.out.1.size
  have hbw := (H9b.out.trans (H10.out.1.mono H9b.out.size)).trans (H12.out.2.mono (by have := H10.out.1.size; omega))
  exact ⟨cs, t, rfl, HE.out.1, HE.out.2.1, ((H10.out.2.below H12.out.2).old fun k hk _ => H13.out.2.block k (by omega)).weak fun k _ hk => by omega, below_only hbw H13.out.2 (by omega)⟩

theorem any_range {n i : Nat} {p : Nat → Bool} (hi : i < n) (h : p i = true) : (List.range n).any p = true := by
  rw [List.any_eq_true]
  exact ⟨i, List.mem_range.2 hi, h⟩
theorem bit_test (s i : Nat) (hs : s < 18446744073709551616) : (bits BinOp.and IntKind.u64 ((s : Int) / 2 ^ min i 64) 1 == 1) = s.testBit i := by
  have e1 : ((s : Int) / 2 ^ min i 64) = ((s / 2 ^ min i 64 : Nat) : Int) := by
    rw [Int.natCast_ediv]; norm_cast
  have e2 : s / 2 ^ min i 64 < 18446744073709551616 := Nat.lt_of_le_of_lt (Nat.div_le_self _ _) hs
  have e3 := bits_and_u64_nat (s / 2 ^ min i 64) 1 e2 (by decide)
  rw [e1]
  have e4 : bits BinOp.and IntKind.u64 ((s / 2 ^ min i 64 : Nat) : Int) 1 = ((s / 2 ^ min i 64 &&& 1 : Nat) : Int) := e3
  rw [e4, Nat.and_one_is_mod]
  by_cases hi : i < 64
  · rw [show min i 64 = i by omega, Nat.testBit_eq_decide_div_mod_eq, Bool.eq_iff_iff]
    generalize s / 2 ^ i % 2 = k
    rw [beq_iff_eq, decide_eq_true_eq]
    omega
  · rw [show min i 64 = 64 by omega, Nat.div_eq_of_lt (by omega), Nat.testBit_lt_two_pow (Nat.lt_of_lt_of_le (show s < 2 ^ 64 by omega) (Nat.pow_le_pow_right (by decide) (by omega)))]
    rfl
set_option maxRecDepth 100000 in
set_option maxHeartbeats 1000000 in
theorem some_c (K : Nat → Prop) (cs : Array Value) (t : Tbl) (s : Nat) (w : World) (hR : RT w K cs t) (hw : WT t) (hs : s < 18446744073709551616) : Calls Tryz.prog 85 #[.agg cs, .agg #[vu s]] w
    fun e w' => e = .returned (.bool (some_ t s)) ∧ Below w.heap.size w w' := by
  obtain ⟨A2, A3, c2, c3, hcs, hrr, hrl, hcl, hce, hlt⟩ := tab_fields hR
  have hcap := hrl.cap
  obtain ⟨n, hn⟩ : ∃ n, t.acc.length = n := ⟨_, rfl⟩
  rw [hn] at hrl hcap
  have hf : cs[258]? = some (.slice A3 n c3) := by rw [hcs, tcells_258 hcl, hn]
  have hn2 : n ≤ 4096 := by rw [← hn, hw.acc]; exact hw.top
  have HL := Lib.hid hrl
  obtain ⟨z, hz⟩ : ∃ z, some_ t s = z := ⟨_, rfl⟩
  have hsz : (List.range n).any (fun q => t.acc.getD q false && s.testBit q) = z := by rw [← hz, ← hn]; rfl
  have HS := Lib.hid hsz
  rw [hz]
  clear hR hcs hrr hrl hcl hce hlt hw hsz hz hn
  go_enter Tryz.func85, Tryz.ntmps85
  go_upto_region 1 with (first
    | (with_reducible refine at_oper (.box 73 (.tmp 0)) rfl ?_
       refine wpList_box_rowG w.heap.size rfl rfl 73 (.tmp 0) rfl cs rfl ?_
       intro w1 k1 b1 s1)
    | (with_reducible refine at_oper (.box 126 (.tmp 1)) rfl ?_
       refine wpList_box_rowG (w.heap.size + 1) s1 rfl 126 (.tmp 1) rfl #[vu s] rfl ?_
       intro w2 k2 b2 s2))
  have f1 := ((k1.old b2).cell 258).trans hf
  have f2 : w2.cell? ⟨w.heap.size + 1, 0, none⟩ = some (vu s) := k2.cell 0
  have HB := Lib.hid (b1.trans (b2.mono b1.size))
  clear k1 k2 b1 b2 s1 s2 hf
  have HL2 := Lib.hid (HL.out.below HB.out)
  go_wp2_with fail
  go_loopw [10] (fun s10 wr => ∃ i : Nat, i ≤ n ∧ s10 = vi i ∧ wr = w2 ∧ ∀ q, q < i → (t.acc.getD q false && s.testBit q) = false) (fun s10 _ => n - (intOf s10).toNat)
  case atStart => exact ⟨0, Nat.zero_le _, rfl, rfl, fun q hq => by omega⟩
  case round =>
    obtain ⟨i, hi, rfl, rfl, hq⟩ := hrel
    have HQ := Lib.hid hq
    clear hq
    by_cases hin : i < n
    · have d1 : decide ((i : Int) < n) = true := by simp; omega
      obtain ⟨ad, rfl, _, ca⟩ := HL2.out.at_ hin
      obtain ⟨x, hx⟩ : ∃ x, t.acc.getD i false = x := ⟨_, rfl⟩
      rw [hx] at ca
      have HX := Lib.hid hx
      clear hx
      cases x with
      | false =>
        go_wp2_with (first
          | (with_reducible refine wpList_unguard ?_ ?_ ?_
             rfl
             rfl))
        go_roundw
        case rel => exact ⟨i + 1, by omega, by go_num, trivial, fun q hq => by
          by_cases h : q = i
          · rw [h, HX.out]; rfl
          · exact HQ.out q (by omega)⟩
        case measure => simp [intOf]; omega
      | true =>
        obtain ⟨y, hy⟩ : ∃ y, s.testBit i = y := ⟨_, rfl⟩
        have hbt := bit_test s i hs
        rw [hy] at hbt
        have HY := Lib.hid hy
        clear hy
        cases y with
        | true =>
          go_wp2_with (first
            | (with_reducible refine wpList_unguard ?_ ?_ ?_
               rfl
               rfl))
          go_ret
          have h1 := HS.out
          rw [any_range hin (by rw [HX.out, HY.out]; rfl)] at h1
          exact ⟨by rw [← h1]; rfl, HB.out⟩
        | false =>
          go_wp2_with (first
            | (with_reducible refine wpList_unguard ?_ ?_ ?_
               rfl
               rfl))
          go_roundw
          case rel => exact ⟨i + 1, by omega, by go_num, trivial, fun q hq => by
            by_cases h : q = i
            · rw [h, HY.out]; simp
            · exact HQ.out q (by omega)⟩
          case measure => simp [intOf]; omega
    · have d1 : decide ((i : Int) < n) = false := by simp; omega
      go_wp2_with fail
      go_ret
      have h1 := HS.out
      have h2 : (List.range n).any (fun q => t.acc.getD q false && s.testBit q) = false := by
        rw [List.any_eq_false]
        intro q hq
        rw [HQ.out q (by have := List.mem_range.1 hq; omega)]
        decide
      rw [h2] at h1
      exact ⟨by rw [← h1]; rfl, HB.out⟩
end Go.Proofs.YtjgkdfghjeodeaaGreatDoor
