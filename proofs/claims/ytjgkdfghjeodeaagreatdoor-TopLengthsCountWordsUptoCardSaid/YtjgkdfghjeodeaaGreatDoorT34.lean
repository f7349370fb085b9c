/- automaton.Concat. -/
import Derived.Test.YtjgkdfghjeodeaaGreatDoorT29
import Derived.Test.YtjgkdfghjeodeaaGreatDoorT30
namespace Go.Proofs.YtjgkdfghjeodeaaGreatDoor
open Go.RowKit

theorem en75 : ∀ args w, (callFunc 75 args).run Tryz.prog w = .ok (.enter 75 args) w := fun args w => by kernel_rfl
theorem en81 : ∀ args w, (callFunc 81 args).run Tryz.prog w = .ok (.enter 81 args) w := fun args w => by kernel_rfl
theorem en83 : ∀ args w, (callFunc 83 args).run Tryz.prog w = .ok (.enter 83 args) w := fun args w => by kernel_rfl
theorem en84 : ∀ args w, (callFunc 84 args).run Tryz.prog w = .ok (.enter 84 args) w := fun args w => by kernel_rfl

/-- a call of a function value -/
theorem wpList_callV {P : Program} {w : World} {ops : Array Oper} {rest : List Oper} {o : Oper} {a : Act} {Q : Exit → Act → World → Prop} (hgd : o.guard = none) (x : Operand) (xs : Array Operand) (ts : Array TypeId) (ho : o.op = .call { callee := .value x, args := xs, argTypes := ts }) (g : FuncId) (caps : Array Value) (hx : a.eval x = .func (.func g) #[] caps) (vs : Array Value) (hv : xs.map a.eval = vs)
    (en : ∀ args w, (callFunc g args).run P w = .ok (.enter g args) w) (h : Calls P g (vs ++ caps) w fun e w' => ∃ u, e = .returned u ∧ wpList P ops Q rest (a.put o.dst u) w') : wpList P ops Q (o :: rest) a w := by
  refine wpList_plain hgd fun K hK => ?_
  have e : (execOp a.eval o).run P w = .ok (.enter g (vs ++ caps)) w := by
    unfold execOp
    simp [ho, resolve, hx, hv, Deferred.ofValue, invoke, en]
  unfold Oper.wp
  rw [e, Oper.upon_enter]
  refine h.mono ?_
  rintro e w' ⟨u, rfl, h⟩
  exact hK _ _ h
/-- an operation that hands back a value -/
theorem wpList_val {P : Program} {w w' : World} {ops : Array Oper} {rest : List Oper} {o : Oper} {a : Act} {Q : Exit → Act → World → Prop} (hgd : o.guard = none) (v : Value) (e : (execOp a.eval o).run P w = .ok (.value v) w') (h : wpList P ops Q rest (a.put o.dst v) w') : wpList P ops Q (o :: rest) a w := by
  refine wpList_plain hgd fun K hK => ?_
  unfold Oper.wp
  rw [e]
  exact hK _ _ h
theorem agg129 (w : World) : (isAgg 129).run Tryz.prog w = .ok false w := by kernel_rfl
theorem run_load_one {o : Oper} {ρ : Operand → Value} {w : World} (ty : TypeId) (x : Operand) (ho : o.op = .load ty x) (p : Addr) (hx : ρ x = .pointer (some p)) (v : Value) (hc : w.cell? p = some v) (hagg : (isAgg ty).run Tryz.prog w = .ok false w) :
    (execOp ρ o).run Tryz.prog w = .ok (.value v) w := by
  unfold execOp
  simp [ho, hx, Instr.loadAt, Instr.sureAddr, Sem.run_bind, loadVar, hagg, hc]
/-- what explore's table reads as -/
def GR (R : Option Tbl) (W : World) (K : Nat → Prop) (cs : Array Value) : Prop := cs.size = 259 ∧ cs.all (·.oneCell') = true ∧ ∀ t, R = some t → RT W K cs t
theorem GR.below {R : Option Tbl} {W W' : World} {K : Nat → Prop} {cs : Array Value} (h : GR R W K cs) (hb : Below W.heap.size W W') : GR R W' K cs := ⟨h.1, h.2.1, fun t ht => (h.2.2 t ht).below hb⟩
theorem GR.weak {R : Option Tbl} {W : World} {K K' : Nat → Prop} {cs : Array Value} (h : GR R W K cs) (hK : ∀ k, k < W.heap.size → K k → K' k) : GR R W K' cs := ⟨h.1, h.2.1, fun t ht => (h.2.2 t ht).weak hK⟩
theorem ExR.gr {w' : World} {B : Nat} {cs : Array Value} {ok : Bool} {R : Option Tbl} (h : ExR w' B cs ok R) (h1 : cs.size = 259) (h2 : cs.all (·.oneCell') = true) : ok = R.isSome ∧ GR R w' (fun k => B ≤ k) cs := by
  cases R with
  | none => exact ⟨h, h1, h2, fun t ht => by cases ht⟩
  | some t => exact ⟨h.1, h1, h2, fun t' ht => by cases ht; exact h.2⟩
theorem size129 : (Tryz.prog.info? 129).map (·.size) = some 1 := by kernel_rfl
theorem built128z : Tryz.prog.built 128 [] = some (stc ⟨0, 0, 0⟩).toArray := by kernel_rfl
set_option maxRecDepth 100000 in
set_option maxHeartbeats 8000000 in
theorem concat_c (K1 K2 : Nat → Prop) (v1 v2 : Value) (a b : Dfa) (w : World) (hd1 : RD w K1 v1 a) (hv1 : VD a) (hd2 : RD w K2 v2 b) (hv2 : VD b) (hT : Tab w) (hh : 0 < w.heap.size) :
    Calls Tryz.prog 37 #[v1, v2] w fun e w' => ∃ v, e = .returned (.tuple #[v, vi (concatD a b).2]) ∧ RD w' (fun k => w.heap.size ≤ k) v (concatD a b).1 ∧ Below w.heap.size w w' := by
  obtain ⟨cs1, rfl, z1, o1⟩ := hd1.cells
  obtain ⟨cs2, rfl, z2, o2⟩ := hd2.cells
  have HD1 := Lib.hid (And.intro (hd1.weak (K' := fun k => k < w.heap.size) fun _ h _ => h) hv1)
  have HD2 := Lib.hid (And.intro (hd2.weak (K' := fun k => k < w.heap.size) fun _ h _ => h) hv2)
  have HTb := Lib.hid hT
  have hcv := canonical_vd hv1
  have hdv := canonical_vd hv2
  obtain ⟨ca, hca⟩ : ∃ c, canonical (tableOf a) = c := ⟨_, rfl⟩
  obtain ⟨cb, hcb⟩ : ∃ c, canonical (tableOf b) = c := ⟨_, rfl⟩
  rw [hca] at hcv
  rw [hcb] at hdv
  have HC := Lib.hid (And.intro hca (And.intro hcb (And.intro hcv hdv)))
  clear hd1 hv1 hd2 hv2 hT hcv hdv hca hcb
  go_enter Tryz.func37, Tryz.ntmps37
  go_upto_region 1 with (first
    | (with_reducible refine at_oper (.box 28 (.tmp 0)) rfl ?_
       refine wpList_box_rowG w.heap.size rfl rfl 28 (.tmp 0) rfl cs1 rfl ?_
       intro w1 k1 b1 s1)
    | (with_reducible refine at_oper (.box 28 (.tmp 1)) rfl ?_
       refine wpList_box_rowG (w.heap.size + 1) s1 rfl 28 (.tmp 1) rfl cs2 rfl ?_
       intro w2 k2 b2 s2)
    | (with_reducible refine at_oper (.alloc 28) rfl ?_
       refine wpList_alloc_rowG (w.heap.size + 1 + 1) s2 rfl 28 rfl _ zero28 ?_
       intro w3 k3 b3 s3
       have H3 := Lib.hid (show Below w.heap.size w w3 ∧ Blk w3 w.heap.size 28 cs1 ∧ Blk w3 (w.heap.size + 1) 28 cs2 ∧ Blk w3 (w.heap.size + 1 + 1) 28 nil28 from
         ⟨(b1.trans (b2.mono b1.size)).trans (b3.mono (by omega)), (k1.old b2).old b3, k2.old b3, k3⟩)
       clear k1 k2 k3 b1 b2 b3))
  clear s1 s2
  go_upto_region 3 with (first
    | (with_reducible refine wpList_unguard ?_ ?_ ?_
       rfl
       rfl)
    | (with_reducible refine at_oper (.load 28 (.tmp 2)) rfl ?_
       refine wpList_load_blk rfl 28 (.tmp 2) rfl w.heap.size rfl 28 cs1 _ H3.out.2.1 Tryz.underlying28 rfl (by rw [z1]; exact size28) ?_)
    | (with_reducible refine at_oper (.load 28 (.tmp 3)) rfl ?_
       refine wpList_load_blk rfl 28 (.tmp 3) rfl (w.heap.size + 1) rfl 28 cs2 _ H4.out.2.2.1 Tryz.underlying28 rfl (by rw [z2]; exact size28) ?_)
    | (go_at_call 18
       first
       | (refine (valid_c (fun k => k < w.heap.size) _ b w4 (HD2.out.1.below H4.out.1) HD2.out.2).mono ?_
          rintro e w5 ⟨rfl, hb⟩
          have H5 := Lib.hid (show Below w.heap.size w w5 ∧ Blk w5 w.heap.size 28 cs1 ∧ Blk w5 (w.heap.size + 1) 28 cs2 ∧ Blk w5 (w.heap.size + 1 + 1) 28 nil28 from ⟨H4.out.1.trans (hb.mono H4.out.1.size), H4.out.2.1.old hb, H4.out.2.2.1.old hb, H4.out.2.2.2.old hb⟩)
          clear hb)
       | (refine (valid_c (fun k => k < w.heap.size) _ a w3 (HD1.out.1.below H3.out.1) HD1.out.2).mono ?_
          rintro e w4 ⟨rfl, hb⟩
          have H4 := Lib.hid (show Below w.heap.size w w4 ∧ Blk w4 w.heap.size 28 cs1 ∧ Blk w4 (w.heap.size + 1) 28 cs2 ∧ Blk w4 (w.heap.size + 1 + 1) 28 nil28 from ⟨H3.out.1.trans (hb.mono H3.out.1.size), H3.out.2.1.old hb, H3.out.2.2.1.old hb, H3.out.2.2.2.old hb⟩)
          clear hb)))
  have HS5 := Lib.hid (show w.heap.size + 1 + 1 + 1 ≤ w5.heap.size from by have := H5.out.2.2.2.lt; omega)
  clear s3
  refine wp_region_float (by kernel_rfl) 10 (fun i => if i = 8 ∨ i = 9 then some (73, Tryz.zeroCells73) else none) (fun K i v W => match i with
    | 0 => v = .agg cs1
    | 1 => ∃ cs, v = .agg cs ∧ RT W K cs (tableOf a)
    | 2 => RD W K v ca
    | 3 => ∃ cs, v = .agg cs ∧ RT W K cs (tableOf ca)
    | 4 => v = .agg cs2
    | 5 => ∃ cs, v = .agg cs ∧ RT W K cs (tableOf b)
    | 6 => RD W K v cb
    | 7 => ∃ cs, v = .agg cs ∧ RT W K cs (tableOf cb)
    | _ => True) (by decide +kernel) (by decide +kernel) (by kernel_rfl) ?_ ?_ ?_ ?_ ?_
  · intro i o t z hi ho hk
    rcases i with _ | _ | _ | _ | _ | _ | _ | _ | _ | _ | i
    any_goals (simp at hk; done)
    · simp at ho hk
      subst ho
      obtain ⟨rfl, rfl⟩ := hk
      exact ⟨rfl, Tryz.zeroValue73⟩
    · simp at ho hk
      subst ho
      obtain ⟨rfl, rfl⟩ := hk
      exact ⟨rfl, Tryz.zeroValue73⟩
  · intro K i v W W' hD hb
    rcases i with _ | _ | _ | _ | _ | _ | _ | _ | i
    · exact hD
    · obtain ⟨cs, e, hr⟩ := hD
      exact ⟨cs, e, hr.below hb⟩
    · exact RD.below hD hb
    · obtain ⟨cs, e, hr⟩ := hD
      exact ⟨cs, e, hr.below hb⟩
    · exact hD
    · obtain ⟨cs, e, hr⟩ := hD
      exact ⟨cs, e, hr.below hb⟩
    · exact RD.below hD hb
    · obtain ⟨cs, e, hr⟩ := hD
      exact ⟨cs, e, hr.below hb⟩
    · trivial
  · intro K K' i v W hD hb
    rcases i with _ | _ | _ | _ | _ | _ | _ | _ | i
    · exact hD
    · obtain ⟨cs, e, hr⟩ := hD
      exact ⟨cs, e, hr.weak hb⟩
    · exact RD.weak hD hb
    · obtain ⟨cs, e, hr⟩ := hD
      exact ⟨cs, e, hr.weak hb⟩
    · exact hD
    · obtain ⟨cs, e, hr⟩ := hD
      exact ⟨cs, e, hr.weak hb⟩
    · exact RD.weak hD hb
    · obtain ⟨cs, e, hr⟩ := hD
      exact ⟨cs, e, hr.weak hb⟩
    · trivial
  · intro K i o hi ho hk vs a' W hK hW hdep hout
    have hK0 : ∀ k, k < w.heap.size → K k := fun k hk => hK k (.inl (by have q3 : w5.drew.heap.size = w5.heap.size := rfl; have := HS5.out; omega))
    have hW2 : Below w.heap.size w W := (H5.out.1.drew).trans (hW.mono H5.out.1.size)
    have hTW := HTb.out.below hh hW2
    have hW0 : 0 < W.heap.size := by have := hW2.size; omega
    rcases i with _ | _ | _ | _ | _ | _ | _ | _ | _ | _ | i
    · simp at ho
      subst ho
      have e2 : a'.eval (.tmp 2) = .pointer (some ⟨w.heap.size, 0, none⟩) := hout 2 (by decide +kernel)
      exact wpList_load_blk rfl 28 (.tmp 2) rfl w.heap.size e2 28 cs1 _ ((blk_drew H5.out.2.1).old hW) Tryz.underlying28 rfl (by rw [z1]; exact size28) ⟨_, rfl, rfl, Below.refl _ _⟩
    · simp at ho
      subst ho
      have hd := hdep ⟨0, .data⟩ (by simp) rfl (by decide)
      have e14 : a'.eval (.tmp 23) = .agg cs1 := (hd.2 _ rfl 23 rfl).trans (hd.1 rfl)
      refine wpList_callG rfl 23 (.tmp 23) _ rfl _ e14 en23 ((tableOf_c K _ a W ((HD1.out.1.below hW2).weak fun k _ h => hK0 k h) HD1.out.2 hTW hW0).mono ?_)
      rintro e W2 ⟨cs, rfl, hr, hb⟩
      exact ⟨_, rfl, _, rfl, ⟨cs, rfl, hr⟩, hb⟩
    · simp at ho
      subst ho
      have hd := hdep ⟨1, .data⟩ (by simp) rfl (by decide)
      obtain ⟨cs, ecs, hr⟩ : ∃ cs, vs 1 = .agg cs ∧ RT W K cs (tableOf a) := hd.1 rfl
      have e14 : a'.eval (.tmp 24) = .agg cs := (hd.2 _ rfl 24 rfl).trans ecs
      refine wpList_callG rfl 75 (.tmp 24) _ rfl _ e14 en75 ((canonical_c K cs (tableOf a) W hr (tableOf_wt HD1.out.2)).mono ?_)
      rw [HC.out.1]
      rintro e W2 ⟨v5, rfl, hr5, hb⟩
      exact ⟨_, rfl, _, rfl, hr5.weak fun k _ h => hK k (.inr h), hb⟩
    · simp at ho
      subst ho
      have hd := hdep ⟨2, .data⟩ (by simp) rfl (by decide)
      have hr : RD W K (vs 2) ca := hd.1 rfl
      refine wpList_callG rfl 23 (.tmp 25) _ rfl _ (hd.2 _ rfl 25 rfl) en23 ((tableOf_c K _ ca W hr HC.out.2.2.1 hTW hW0).mono ?_)
      rintro e W2 ⟨cs, rfl, hr, hb⟩
      exact ⟨_, rfl, _, rfl, ⟨cs, rfl, hr⟩, hb⟩
    · simp at ho
      subst ho
      have e4 : a'.eval (.tmp 3) = .pointer (some ⟨w.heap.size + 1, 0, none⟩) := hout 3 (by decide +kernel)
      exact wpList_load_blk rfl 28 (.tmp 3) rfl (w.heap.size + 1) e4 28 cs2 _ ((blk_drew H5.out.2.2.1).old hW) Tryz.underlying28 rfl (by rw [z2]; exact size28) ⟨_, rfl, rfl, Below.refl _ _⟩
    · simp at ho
      subst ho
      have hd := hdep ⟨4, .data⟩ (by simp) rfl (by decide)
      have e14 : a'.eval (.tmp 27) = .agg cs2 := (hd.2 _ rfl 27 rfl).trans (hd.1 rfl)
      refine wpList_callG rfl 23 (.tmp 27) _ rfl _ e14 en23 ((tableOf_c K _ b W ((HD2.out.1.below hW2).weak fun k _ h => hK0 k h) HD2.out.2 hTW hW0).mono ?_)
      rintro e W2 ⟨cs, rfl, hr, hb⟩
      exact ⟨_, rfl, _, rfl, ⟨cs, rfl, hr⟩, hb⟩
    · simp at ho
      subst ho
      have hd := hdep ⟨5, .data⟩ (by simp) rfl (by decide)
      obtain ⟨cs, ecs, hr⟩ : ∃ cs, vs 5 = .agg cs ∧ RT W K cs (tableOf b) := hd.1 rfl
      have e14 : a'.eval (.tmp 28) = .agg cs := (hd.2 _ rfl 28 rfl).trans ecs
      refine wpList_callG rfl 75 (.tmp 28) _ rfl _ e14 en75 ((canonical_c K cs (tableOf b) W hr (tableOf_wt HD2.out.2)).mono ?_)
      rw [HC.out.2.1]
      rintro e W2 ⟨v5, rfl, hr5, hb⟩
      exact ⟨_, rfl, _, rfl, hr5.weak fun k _ h => hK k (.inr h), hb⟩
    · simp at ho
      subst ho
      have hd := hdep ⟨6, .data⟩ (by simp) rfl (by decide)
      have hr : RD W K (vs 6) cb := hd.1 rfl
      refine wpList_callG rfl 23 (.tmp 29) _ rfl _ (hd.2 _ rfl 29 rfl) en23 ((tableOf_c K _ cb W hr HC.out.2.2.2 hTW hW0).mono ?_)
      rintro e W2 ⟨cs, rfl, hr, hb⟩
      exact ⟨_, rfl, _, rfl, ⟨cs, rfl, hr⟩, hb⟩
    · simp at hk
    · simp at hk
    · omega
  intro vs a' W hF
  have hW2 : Below w.heap.size w W := (H5.out.1.drew).trans (hF.below.mono H5.out.1.size)
  obtain ⟨csx, e3, hrx⟩ : ∃ cs, vs 3 = .agg cs ∧ RT W _ cs (tableOf ca) := hF.d 3 (by decide) rfl rfl
  obtain ⟨csy, e7, hry⟩ : ∃ cs, vs 7 = .agg cs ∧ RT W _ cs (tableOf cb) := hF.d 7 (by decide) rfl rfl
  obtain ⟨gx, e8, kx, lx⟩ := hF.al 8 (by decide) rfl 73 Tryz.zeroCells73 rfl
  obtain ⟨gy, e9, ky, ly⟩ := hF.al 9 (by decide) rfl 73 Tryz.zeroCells73 rfl
  have hne : gx ≠ gy := fun e => hF.ne 8 9 (by decide) (by decide) rfl rfl rfl rfl (by decide) (by rw [e8, e9, e])
  replace hrx := hrx.weak (K' := fun k => k ≠ gx ∧ k ≠ gy) fun k _ h => ⟨fun e => h 8 (by decide) rfl rfl (by rw [e8, e]), fun e => h 9 (by decide) rfl rfl (by rw [e9, e])⟩
  replace hry := hry.weak (K' := fun k => k ≠ gx ∧ k ≠ gy) fun k _ h => ⟨fun e => h 8 (by decide) rfl rfl (by rw [e8, e]), fun e => h 9 (by decide) rfl rfl (by rw [e9, e])⟩
  have ea := hF.a
  obtain ⟨x0, hx0⟩ : ∃ x, vs 0 = x := ⟨_, rfl⟩
  obtain ⟨x1, hx1⟩ : ∃ x, vs 1 = x := ⟨_, rfl⟩
  obtain ⟨x2, hx2⟩ : ∃ x, vs 2 = x := ⟨_, rfl⟩
  obtain ⟨x4, hx4⟩ : ∃ x, vs 4 = x := ⟨_, rfl⟩
  obtain ⟨x5, hx5⟩ : ∃ x, vs 5 = x := ⟨_, rfl⟩
  obtain ⟨x6, hx6⟩ : ∃ x, vs 6 = x := ⟨_, rfl⟩
  simp only [List.take, putS, if_true, Act.put, List.setIfInBounds_toArray, List.set_cons_zero, List.set_cons_succ, e3, e7, e8, e9, hx0, hx1, hx2, hx4, hx5, hx6] at ea
  subst ea
  have hl3 : w.heap.size + 1 + 1 < gx ∧ w.heap.size + 1 + 1 < gy := by have := HS5.out; have q1 : w5.drew.heap.size ≤ gx := lx; have q2 : w5.drew.heap.size ≤ gy := ly; have q3 : w5.drew.heap.size = w5.heap.size := rfl; omega
  have HW := Lib.hid (And.intro hW2 (And.intro ((blk_drew H5.out.2.2.2).old hF.below) (And.intro kx (And.intro ky (And.intro hrx hry)))))
  clear hF e3 e7 e8 e9 hx0 hx1 hx2 hx4 hx5 hx6 kx ky lx ly hrx hry hW2 H5 vs
  dsimp only [List.drop]
  go_upto_region 4 with (first
    | (with_reducible refine at_oper (.store 73 (.tmp 6) (.tmp 26)) rfl ?_
       refine wpList_store_blk rfl 73 (.tmp 6) (.tmp 26) rfl rfl gx csx _ 73 rfl rfl HW.out.2.2.1 (by rw [HW.out.2.2.2.2.1.size]; exact size73) (by rw [HW.out.2.2.2.2.1.size]; exact Tryz.zeroCells73_size) HW.out.2.2.2.2.1.one ?_
       intro w5 k5 o5
       have H5 := Lib.hid (And.intro k5 o5)
       clear k5 o5)
    | (with_reducible refine at_oper (.store 73 (.tmp 7) (.tmp 30)) rfl ?_
       refine wpList_store_blk rfl 73 (.tmp 7) (.tmp 30) rfl rfl gy csy _ 73 rfl rfl (HW.out.2.2.2.1.only H5.out.2 (Ne.symm hne)) (by rw [HW.out.2.2.2.2.2.size]; exact size73) (by rw [HW.out.2.2.2.2.2.size]; exact Tryz.zeroCells73_size) HW.out.2.2.2.2.2.one ?_
       intro w6 k6 o6
       have hbw : Below w.heap.size w w6 := below_only (below_only HW.out.1 H5.out.2 (by omega)) o6 (by omega)
       have H6 := Lib.hid (show TC w6 gx (tableOf ca) ∧ TC w6 gy (tableOf cb) ∧ Below w.heap.size w w6 ∧ Blk w6 (w.heap.size + 1 + 1) 28 nil28 from
         ⟨⟨⟨csx, H5.out.1.only o6 hne, ((HW.out.2.2.2.2.1.old fun k hk _ => H5.out.2.block k hk.1).old fun k hk _ => o6.block k hk.2).weak fun _ _ _ => trivial⟩, tableOf_wt HC.out.2.2.1⟩,
         ⟨⟨csy, k6, ((HW.out.2.2.2.2.2.old fun k hk _ => H5.out.2.block k hk.1).old fun k hk _ => o6.block k hk.2).weak fun _ _ _ => trivial⟩, tableOf_wt HC.out.2.2.2⟩, hbw,
         (HW.out.2.1.only H5.out.2 (by omega)).only o6 (by omega)⟩)
       clear k6 o6 hbw))
  obtain ⟨cx, bx, rx⟩ := H6.out.1.ex
  obtain ⟨cy, by_, ry⟩ := H6.out.2.1.ex
  have hsx := rx.size
  have hsy := ry.size
  have hjc := joint_c TT TT cx cy (tableOf ca) (tableOf cb) w6 rx ry
  have hjs := joint_spec (tableOf ca).cell (tableOf cb).cell
  have hwta := tableOf_wt HC.out.2.2.1
  have hwtb := tableOf_wt HC.out.2.2.2
  have hst0 : JC (tableOf ca) (ccEnter (tableOf ca) ⟨0, 0, 0⟩) := jc_enter ⟨hwta.pos, rfl, by decide⟩
  have hwt := explore_spec (J := JC (tableOf ca)) (next := ccNext (tableOf ca) (tableOf cb)) (accept := fun s => some_ (tableOf cb) s.s) (most := 4096) (start := ccEnter (tableOf ca) ⟨0, 0, 0⟩) hst0 (by decide) (fun s b hs hb => jc_next hwta hwtb HC.out.2.2.2.top hs (hjs.2.2.2 b hb)) (fun l h => h.le) hjs.1 hjs.2.1
  have hst : concatD a b = match explore (joint (tableOf ca).cell (tableOf cb).cell).1 (joint (tableOf ca).cell (tableOf cb).cell).2 (ccEnter (tableOf ca) ⟨0, 0, 0⟩) (ccNext (tableOf ca) (tableOf cb)) (fun s => some_ (tableOf cb) s.s) 4096 5000 with
      | some t => limited t
      | none => (⟨[], [], []⟩, 2) := by
    unfold concatD
    rw [HC.out.1, HC.out.2.1]
    dsimp only
    generalize explore (joint (tableOf ca).cell (tableOf cb).cell).1 (joint (tableOf ca).cell (tableOf cb).cell).2 (ccEnter (tableOf ca) ⟨0, 0, 0⟩) (ccNext (tableOf ca) (tableOf cb)) (fun s => some_ (tableOf cb) s.s) 4096 5000 = R
    cases R <;> rfl
  obtain ⟨cellL, hcL⟩ : ∃ c', (joint (tableOf ca).cell (tableOf cb).cell).1 = c' := ⟨_, rfl⟩
  obtain ⟨bytesL, hbL⟩ : ∃ c', (joint (tableOf ca).cell (tableOf cb).cell).2 = c' := ⟨_, rfl⟩
  rw [hcL, hbL] at hjc hjs hwt hst
  obtain ⟨nb, hnb⟩ : ∃ nb, bytesL.length = nb := ⟨_, rfl⟩
  rw [hnb] at hjc hjs
  have HJ := Lib.hid (And.intro hjc hjs)
  have HN := Lib.hid hnb
  obtain ⟨R, hR⟩ : ∃ R, explore cellL bytesL (ccEnter (tableOf ca) ⟨0, 0, 0⟩) (ccNext (tableOf ca) (tableOf cb)) (fun s => some_ (tableOf cb) s.s) 4096 5000 = R := ⟨_, rfl⟩
  rw [hR] at hwt hst
  have HR := Lib.hid (And.intro hR (And.intro hwt (And.intro hst hst0)))
  clear hjc hjs hcL hbL hnb rx ry hR hwt hst hwta hwtb hst0 HW
  go_upto_region 5 with (first
    | (with_reducible refine at_oper (.load 73 (.tmp 6)) rfl ?_
       refine wpList_load_blk rfl 73 (.tmp 6) rfl gx rfl 73 cx _ bx Tryz.underlying73 rfl (by rw [hsx]; exact size73) ?_)
    | (with_reducible refine at_oper (.load 73 (.tmp 7)) rfl ?_
       refine wpList_load_blk rfl 73 (.tmp 7) rfl gy rfl 73 cy _ by_ Tryz.underlying73 rfl (by rw [hsy]; exact size73) ?_)
    | (go_at_call 79
       refine HJ.out.1.mono ?_
       rintro e w9 ⟨Ab, cb2, rfl, hb9, hrn, hl1, hl2, hl3, hl4⟩
       have H9 := Lib.hid (And.intro hb9 (And.intro hrn hl1))
       clear hb9 hrn hl1 hl2 hl3 hl4)
    | (with_reducible refine at_oper (.alloc 71) rfl ?_
       refine wpList_alloc_rowG w9.heap.size rfl rfl 71 rfl _ zero71 ?_
       intro w10 k10 b10 s10
       have H10 := Lib.hid (And.intro k10 (And.intro b10 s10))
       clear k10 b10 s10)
    | (with_reducible refine at_oper (.store 71 (.tmp 8) (.tmp 35)) rfl ?_
       refine wpList_store_blk rfl 71 (.tmp 8) (.tmp 35) rfl rfl w9.heap.size (via cellL) _ 71 rfl rfl H10.out.1 (by rw [via_size, H9.out.2.2]; exact size71) (by rw [via_size, via_size, H9.out.2.2]; rfl) (via_one _) ?_
       intro w11 k11 o11
       have hb11 : Below w9.heap.size w9 w11 := below_only H10.out.2.1 o11 (Nat.le_refl _)
       have H11 := Lib.hid (And.intro (H9.out.1.trans (hb11.mono H9.out.1.size)) (And.intro (H9.out.2.1.below hb11) k11))
       clear k11 o11 hb11))
  go_upto_region 7 with (first
    | (with_reducible refine at_oper (.store 129 (.tmp 10) (.tmp 37)) rfl ?_
       refine wpList_store_at rfl 129 (.tmp 10) (.tmp 37) rfl rfl w11.heap.size 0 (.func (.func 80) #[] #[.pointer (some ⟨gx, 0, none⟩)]) #[.nilFunc] 129 rfl rfl (Blk.new w11 129 #[.nilFunc]) (by decide) size129 rfl ?_
       intro w12 k12 o12
       have hb12 : Below w11.heap.size w11 w12 := below_only ((Below.refl _ _).alloc (Nat.le_refl _) _) o12 (Nat.le_refl _)
       have H12 := Lib.hid (show Blk w12 w11.heap.size 129 #[.func (.func 80) #[] #[.pointer (some ⟨gx, 0, none⟩)]] ∧ Below w11.heap.size w11 w12 from ⟨k12, hb12⟩)
       clear k12 o12 hb12))
  have hb6 : Below w6.heap.size w6 w12 := H11.out.1.trans (H12.out.2.mono H11.out.1.size)
  have HB := Lib.hid (And.intro hb6 (H6.out.2.2.1.trans (hb6.mono H6.out.2.2.1.size)))
  have hm1 := H9.out.1.size
  have HM := Lib.hid (show w6.heap.size ≤ w9.heap.size ∧ w9.heap.size < w11.heap.size ∧ w.heap.size + 1 + 1 < w6.heap.size from ⟨hm1, H11.out.2.2.lt, H6.out.2.2.2.lt⟩)
  have hX : EX w12 bytesL (ccEnter (tableOf ca) ⟨0, 0, 0⟩) (ccNext (tableOf ca) (tableOf cb)) (fun s => some_ (tableOf cb) s.s) 4096 81 84 #[.pointer (some ⟨w11.heap.size, 0, none⟩), .pointer (some ⟨gx, 0, none⟩), .pointer (some ⟨gy, 0, none⟩)] #[.pointer (some ⟨gy, 0, none⟩)] (JC (tableOf ca)) := by
    have wa := tableOf_wt HC.out.2.2.1
    have wb := tableOf_wt HC.out.2.2.2
    have ta := wa.top
    refine ⟨HR.out.2.2.2, fun s hs => ?_, fun s c hs hc => jc_next wa wb HC.out.2.2.2.top hs (HJ.out.2.2.2.2 c hc), by decide, by decide, fun l _ _ h => h, en81, en84, fun W s c hW hs hc => ?_, fun W s hW hs => ?_⟩
    · obtain ⟨h1, h2, h3⟩ := hs
      omega
    · have e : (#[stV s, vi c] : Array Value) ++ #[.pointer (some ⟨w11.heap.size, 0, none⟩), .pointer (some ⟨gx, 0, none⟩), .pointer (some ⟨gy, 0, none⟩)] = #[stV s, vi c, .pointer (some ⟨w11.heap.size, 0, none⟩), .pointer (some ⟨gx, 0, none⟩), .pointer (some ⟨gy, 0, none⟩)] := by simp
      rw [e]
      exact concat2_c _ _ w11.heap.size gx gy s c W ((H12.out.1.old hW).cell 0) ((H6.out.1.below HB.out.1).below hW) ((H6.out.2.1.below HB.out.1).below hW) hs.1 (HJ.out.2.2.2.2 c hc) HC.out.2.2.2.top hs.2.2
    · have e : (#[stV s] : Array Value) ++ #[.pointer (some ⟨gy, 0, none⟩)] = #[stV s, .pointer (some ⟨gy, 0, none⟩)] := by simp
      rw [e]
      exact concat3_c _ gy s W ((H6.out.2.1.below HB.out.1).below hW) hs.2.2
  have hmk : ∀ W, Below w12.heap.size w12 W → EX W bytesL (ccEnter (tableOf ca) ⟨0, 0, 0⟩) (ccNext (tableOf ca) (tableOf cb)) (fun s => some_ (tableOf cb) s.s) 4096 81 84 #[.pointer (some ⟨w11.heap.size, 0, none⟩), .pointer (some ⟨gx, 0, none⟩), .pointer (some ⟨gy, 0, none⟩)] #[.pointer (some ⟨gy, 0, none⟩)] (JC (tableOf ca)) := fun W hW =>
    ⟨hX.j0, hX.jb, hX.jn, hX.mle, hX.m1, hX.fin, hX.en, hX.ea, fun W' s b hW' => hX.cn W' s b (hW.trans (hW'.mono hW.size)), fun W' s hW' => hX.ca W' s (hW.trans (hW'.mono hW.size))⟩
  have HX := Lib.hid hmk
  clear hX hmk
  refine wp_region_floatP (by kernel_rfl) 12 (fun i => i == 10) (fun _ _ d _ _ h => by cases d <;> exact h) (fun i => if i = 11 then some (73, Tryz.zeroCells73) else none) (fun K i v W => match i with
    | 0 => v = .agg (via cellL)
    | 1 => v = .slice Ab nb cb2
    | 2 => v = .func (.func 80) #[] #[.pointer (some ⟨gx, 0, none⟩)]
    | 3 => v = stV ⟨0, 0, 0⟩
    | 4 => v = stV (ccEnter (tableOf ca) ⟨0, 0, 0⟩)
    | 5 => v = .func (.func 81) #[] #[.pointer (some ⟨w11.heap.size, 0, none⟩), .pointer (some ⟨gx, 0, none⟩), .pointer (some ⟨gy, 0, none⟩)]
    | 6 => v = .func (.func 84) #[] #[.pointer (some ⟨gy, 0, none⟩)]
    | 7 => ∃ cs, v = .tuple #[.agg cs, .bool R.isSome] ∧ GR R W K cs
    | 8 => ∃ cs, v = .tuple #[.agg cs, .bool R.isSome] ∧ GR R W K cs
    | 9 => ∃ cs, v = .agg cs ∧ GR R W K cs
    | 10 => v = .bool R.isSome
    | _ => True) (by decide +kernel) (by decide +kernel) (by kernel_rfl) ?_ ?_ ?_ ?_ ?_ ?_
  · intro i o t z hi ho hk
    rcases i with _ | _ | _ | _ | _ | _ | _ | _ | _ | _ | _ | _ | i
    any_goals (simp at hk; done)
    · simp at ho hk
      subst ho
      obtain ⟨rfl, rfl⟩ := hk
      exact ⟨rfl, Tryz.zeroValue73⟩
  · intro K i v W W' hD hb
    rcases i with _ | _ | _ | _ | _ | _ | _ | _ | _ | _ | _ | i
    any_goals exact hD
    · obtain ⟨cs, e, hr⟩ := hD
      exact ⟨cs, e, hr.below hb⟩
    · obtain ⟨cs, e, hr⟩ := hD
      exact ⟨cs, e, hr.below hb⟩
    · obtain ⟨cs, e, hr⟩ := hD
      exact ⟨cs, e, hr.below hb⟩
  · intro K K' i v W hD hb
    rcases i with _ | _ | _ | _ | _ | _ | _ | _ | _ | _ | _ | i
    any_goals exact hD
    · obtain ⟨cs, e, hr⟩ := hD
      exact ⟨cs, e, hr.weak hb⟩
    · obtain ⟨cs, e, hr⟩ := hD
      exact ⟨cs, e, hr.weak hb⟩
    · obtain ⟨cs, e, hr⟩ := hD
      exact ⟨cs, e, hr.weak hb⟩
  · intro K i o hi hpu ho
    obtain rfl : i = 10 := by simpa using hpu
    simp at ho
    subst ho
    refine ⟨rfl, fun vs a' W hdep => ?_⟩
    have hd8 := hdep ⟨8, .data⟩ (by simp) rfl (by decide)
    obtain ⟨cs, ecs, hg⟩ : ∃ cs, vs 8 = .tuple #[.agg cs, .bool R.isSome] ∧ GR R W K cs := hd8.1 rfl
    have e39 := (hd8.2 _ rfl 39 rfl).trans ecs
    refine ⟨.bool R.isSome, fun W' => ?_, rfl⟩
    unfold execOp
    simp [e39, Instr.extract]
  · intro K i o hi ho hk vs a' W hK hW hdep hout
    have hW2 : Below w12.heap.size w12 W := (Below.refl _ _).drew.trans hW
    rcases i with _ | _ | _ | _ | _ | _ | _ | _ | _ | _ | _ | _ | i
    · simp at ho
      subst ho
      have e8 : a'.eval (.tmp 8) = .pointer (some ⟨w9.heap.size, 0, none⟩) := hout 8 (by decide +kernel)
      exact wpList_load_blk rfl 71 (.tmp 8) rfl w9.heap.size e8 71 (via cellL) _ ((H11.out.2.2.old H12.out.2).old hW2) Tryz.underlying71 rfl (by rw [via_size, H9.out.2.2]; exact size71) ⟨_, rfl, rfl, Below.refl _ _⟩
    · simp at ho
      subst ho
      have e9 : a'.eval (.tmp 9) = .slice Ab nb cb2 := hout 9 (by decide +kernel)
      refine wpList_val rfl _ (move_run rfl a' W) ⟨_, rfl, e9, Below.refl _ _⟩
    · simp at ho
      subst ho
      have e10 : a'.eval (.tmp 10) = .pointer (some ⟨w11.heap.size, 0, none⟩) := hout 10 (by decide +kernel)
      exact wpList_val rfl _ (run_load_one 129 (.tmp 10) rfl _ e10 _ ((H12.out.1.old hW2).cell 0) (agg129 W)) ⟨_, rfl, rfl, Below.refl _ _⟩
    · simp at ho
      subst ho
      exact wpList_build_row rfl 128 #[] rfl (stc ⟨0, 0, 0⟩).toArray [] (by simp) built128z ⟨_, rfl, rfl, Below.refl _ _⟩
    · simp at ho
      subst ho
      have hd2 := hdep ⟨2, .data⟩ (by simp) rfl (by decide)
      have hd3 := hdep ⟨3, .data⟩ (by simp) rfl (by decide)
      have e42 : a'.eval (.tmp 42) = .func (.func 80) #[] #[.pointer (some ⟨gx, 0, none⟩)] := (hd2.2 _ rfl 42 rfl).trans (hd2.1 rfl)
      have e43 : a'.eval (.tmp 43) = stV ⟨0, 0, 0⟩ := (hd3.2 _ rfl 43 rfl).trans (hd3.1 rfl)
      refine wpList_callV rfl (.tmp 42) #[.tmp 43] _ rfl 80 _ e42 #[stV ⟨0, 0, 0⟩] (by simp [e43]) en80 ?_
      have e : (#[stV ⟨0, 0, 0⟩] : Array Value) ++ #[.pointer (some ⟨gx, 0, none⟩)] = #[stV ⟨0, 0, 0⟩, .pointer (some ⟨gx, 0, none⟩)] := by simp
      rw [e]
      refine (enter_c (tableOf ca) gx ⟨0, 0, 0⟩ W ((H6.out.1.below HB.out.1).below hW2) (tableOf_wt HC.out.2.2.1).pos (by decide)).mono ?_
      rintro e W2 ⟨rfl, hb⟩
      exact ⟨_, rfl, _, rfl, rfl, hb⟩
    · simp at ho
      subst ho
      have e11 : a'.eval (.tmp 11) = .func (.func 81) #[] #[.pointer (some ⟨w11.heap.size, 0, none⟩), .pointer (some ⟨gx, 0, none⟩), .pointer (some ⟨gy, 0, none⟩)] := hout 11 (by decide +kernel)
      exact wpList_val rfl _ (move_run rfl a' W) ⟨_, rfl, e11, Below.refl _ _⟩
    · simp at ho
      subst ho
      have e7 : a'.eval (.tmp 7) = .pointer (some ⟨gy, 0, none⟩) := hout 7 (by decide +kernel)
      refine wpList_val (w' := W) rfl (.func (.func 84) #[] #[.pointer (some ⟨gy, 0, none⟩)]) ?_ ⟨_, rfl, rfl, Below.refl _ _⟩
      unfold execOp
      simp [Instr.makeFunc, e7]
    · simp at ho
      subst ho
      have hd0 := hdep ⟨0, .data⟩ (by simp) rfl (by decide)
      have hd1 := hdep ⟨1, .data⟩ (by simp) rfl (by decide)
      have hd4 := hdep ⟨4, .data⟩ (by simp) rfl (by decide)
      have hd5 := hdep ⟨5, .data⟩ (by simp) rfl (by decide)
      have hd6 := hdep ⟨6, .data⟩ (by simp) rfl (by decide)
      have e40 : a'.eval (.tmp 40) = .agg (via cellL) := (hd0.2 _ rfl 40 rfl).trans (hd0.1 rfl)
      have e41 : a'.eval (.tmp 41) = .slice Ab nb cb2 := (hd1.2 _ rfl 41 rfl).trans (hd1.1 rfl)
      have e44 : a'.eval (.tmp 44) = stV (ccEnter (tableOf ca) ⟨0, 0, 0⟩) := (hd4.2 _ rfl 44 rfl).trans (hd4.1 rfl)
      have e45 : a'.eval (.tmp 45) = .func (.func 81) #[] #[.pointer (some ⟨w11.heap.size, 0, none⟩), .pointer (some ⟨gx, 0, none⟩), .pointer (some ⟨gy, 0, none⟩)] := (hd5.2 _ rfl 45 rfl).trans (hd5.1 rfl)
      have e46 : a'.eval (.tmp 46) = .func (.func 84) #[] #[.pointer (some ⟨gy, 0, none⟩)] := (hd6.2 _ rfl 46 rfl).trans (hd6.1 rfl)
      refine wpList_callV rfl (.func 83) #[.tmp 40, .tmp 41, .tmp 44, .tmp 45, .tmp 46, .const (.int .i64 4096)] _ rfl 83 #[] rfl #[.agg (via cellL), .slice Ab nb cb2, stV (ccEnter (tableOf ca) ⟨0, 0, 0⟩), .func (.func 81) #[] #[.pointer (some ⟨w11.heap.size, 0, none⟩), .pointer (some ⟨gx, 0, none⟩), .pointer (some ⟨gy, 0, none⟩)], .func (.func 84) #[] #[.pointer (some ⟨gy, 0, none⟩)], .int .i64 4096] (by rw [List.map_toArray]; simp only [List.map_cons, List.map_nil, e40, e41, e44, e45, e46]; rfl) en83 ?_
      rw [Array.append_empty]
      have hec := explore_c (fun k => w6.heap.size ≤ k) cellL bytesL (ccEnter (tableOf ca) ⟨0, 0, 0⟩) (ccNext (tableOf ca) (tableOf cb)) (fun s => some_ (tableOf cb) s.s) 4096 Ab cb2 81 84 _ _ (JC (tableOf ca)) W H9.out.2.2 (lt_mono HJ.out.2.2.1 (by have := HJ.out.2.2.2.1; omega)) (by rw [HN.out]; exact (H11.out.2.1.below H12.out.2).below hW2) (by rw [HN.out]; exact HJ.out.2.2.2.1) (HX.out W hW2)
      rw [HR.out.1, HN.out] at hec
      refine hec.mono ?_
      rintro e W2 ⟨cs, ok, rfl, hb, z12, o12, hr12⟩
      obtain ⟨rfl, hg⟩ := hr12.gr z12 o12
      exact ⟨_, rfl, _, rfl, ⟨cs, rfl, hg.weak fun k _ h => hK k (.inr h)⟩, hb⟩
    · simp at ho
      subst ho
      have hd7 := hdep ⟨7, .data⟩ (by simp) rfl (by decide)
      obtain ⟨cs, ecs, hg⟩ : ∃ cs, vs 7 = .tuple #[.agg cs, .bool R.isSome] ∧ GR R W K cs := hd7.1 rfl
      exact wpList_val rfl _ (move_run rfl a' W) ⟨_, rfl, ⟨cs, (hd7.2 _ rfl 47 rfl).trans ecs, hg⟩, Below.refl _ _⟩
    · simp at ho
      subst ho
      have hd8 := hdep ⟨8, .data⟩ (by simp) rfl (by decide)
      obtain ⟨cs, ecs, hg⟩ : ∃ cs, vs 8 = .tuple #[.agg cs, .bool R.isSome] ∧ GR R W K cs := hd8.1 rfl
      have e39 := (hd8.2 _ rfl 39 rfl).trans ecs
      refine wpList_val (w' := W) rfl (.agg cs) ?_ ⟨_, rfl, ⟨cs, rfl, hg⟩, Below.refl _ _⟩
      unfold execOp
      simp [e39, Instr.extract]
    · simp at ho
      subst ho
      have hd8 := hdep ⟨8, .data⟩ (by simp) rfl (by decide)
      obtain ⟨cs, ecs, hg⟩ : ∃ cs, vs 8 = .tuple #[.agg cs, .bool R.isSome] ∧ GR R W K cs := hd8.1 rfl
      have e39 := (hd8.2 _ rfl 39 rfl).trans ecs
      refine wpList_val (w' := W) rfl (.bool R.isSome) ?_ ⟨_, rfl, rfl, Below.refl _ _⟩
      unfold execOp
      simp [e39, Instr.extract]
    · simp at hk
    · omega
  intro vs a' W hF
  have hWB : Below w12.heap.size w12 W := (Below.refl _ _).drew.trans hF.below
  obtain ⟨cs, e9, hg⟩ : ∃ cs, vs 9 = .agg cs ∧ GR R W _ cs := hF.d 9 (by decide) rfl rfl
  have e10 : vs 10 = .bool R.isSome := hF.d 10 (by decide) rfl rfl
  obtain ⟨gt, e11, kt, lt⟩ := hF.al 11 (by decide) rfl 73 Tryz.zeroCells73 rfl
  replace hg := hg.weak (K' := fun k => k ≠ gt) fun k _ h e => h 11 (by decide) rfl rfl (by rw [e11, e])
  have ea := hF.a
  obtain ⟨y0, hy0⟩ : ∃ x, vs 0 = x := ⟨_, rfl⟩
  obtain ⟨y1, hy1⟩ : ∃ x, vs 1 = x := ⟨_, rfl⟩
  obtain ⟨y2, hy2⟩ : ∃ x, vs 2 = x := ⟨_, rfl⟩
  obtain ⟨y3, hy3⟩ : ∃ x, vs 3 = x := ⟨_, rfl⟩
  obtain ⟨y4, hy4⟩ : ∃ x, vs 4 = x := ⟨_, rfl⟩
  obtain ⟨y5, hy5⟩ : ∃ x, vs 5 = x := ⟨_, rfl⟩
  obtain ⟨y6, hy6⟩ : ∃ x, vs 6 = x := ⟨_, rfl⟩
  obtain ⟨y7, hy7⟩ : ∃ x, vs 7 = x := ⟨_, rfl⟩
  obtain ⟨y8, hy8⟩ : ∃ x, vs 8 = x := ⟨_, rfl⟩
  simp only [List.take, putS, if_true, Act.put, List.setIfInBounds_toArray, List.set_cons_zero, List.set_cons_succ, e9, e10, e11, hy0, hy1, hy2, hy3, hy4, hy5, hy6, hy7, hy8] at ea
  subst ea
  have hgt : w12.heap.size ≤ gt := lt
  have hg12 : w.heap.size + 1 + 1 < w12.heap.size := by have := HM.out; have := H12.out.2.size; omega
  have hbw := HB.out.2.trans (hWB.mono HB.out.2.size)
  have hk28 : Blk W (w.heap.size + 1 + 1) 28 nil28 := (H6.out.2.2.2.old HB.out.1).old hWB
  have HW := Lib.hid (And.intro hbw (And.intro hk28 (And.intro kt hg)))
  have zc := hg.1
  have oc := hg.2.1
  obtain ⟨ok, hok⟩ : ∃ ok, R.isSome = ok := ⟨_, rfl⟩
  have HOk := Lib.hid hok
  rw [hok]
  clear hF e9 e10 e11 hy0 hy1 hy2 hy3 hy4 hy5 hy6 hy7 hy8 kt lt hg hbw hk28 hok vs H12 hWB
  dsimp only [List.drop]
  go_upto_region 8 with (first
    | (with_reducible refine at_oper (.store 73 (.tmp 12) (.tmp 48)) rfl ?_
       refine wpList_store_blk rfl 73 (.tmp 12) (.tmp 48) rfl rfl gt cs _ 73 rfl rfl HW.out.2.2.1 (by rw [zc]; exact size73) (by rw [zc]; exact Tryz.zeroCells73_size) oc ?_
       intro w14 k14 o14
       have H14 := Lib.hid (And.intro k14 (And.intro o14 (And.intro (below_only HW.out.1 o14 (by omega)) (HW.out.2.1.only o14 (by omega)))))
       clear k14 o14))
  cases ok with
  | false =>
    go_wp2_with (first
      | (with_reducible refine at_oper (.store 28 (.tmp 4) (.tmp 52)) rfl ?_
         refine wpList_store_blk rfl 28 (.tmp 4) (.tmp 52) rfl rfl (w.heap.size + 1 + 1) nil28 nil28 28 rfl rfl H14.out.2.2.2 size28 rfl (one3 ..) ?_
         intro w15 k15 o15
         have K15 := Lib.hid k15
         have O15 := Lib.hid o15
         clear k15 o15))
    refine bodyPost_ret (results_ct rfl _ _ _ rfl (w.heap.size + 1 + 1) rfl 28 _ K15.out Tryz.underlying28 rfl size28) rfl ?_
    have hc := HR.out.2.2.1
    have hn := HOk.out
    cases R with
    | some t => cases hn
    | none =>
      rw [hc]
      exact ⟨_, rfl, RD.nil_ _ _, below_only H14.out.2.2.1 O15.out (by omega)⟩
  | true =>
    obtain ⟨t, rfl⟩ := Option.isSome_iff_exists.1 HOk.out
    have HRT := Lib.hid ((HW.out.2.2.2.2.2 t rfl).old fun k hk _ => H14.out.2.1.block k hk)
    go_wp2_with (first
      | (with_reducible refine at_oper (.load 73 (.tmp 12)) rfl ?_
         refine wpList_load_blk rfl 73 (.tmp 12) rfl gt rfl 73 cs _ H14.out.1 Tryz.underlying73 rfl (by rw [zc]; exact size73) ?_)
      | (go_at_call 86
         refine (limited_c _ cs t w14 HRT.out HR.out.2.1).mono ?_
         rw [← show concatD a b = limited t from HR.out.2.2.1]
         rintro e w15 ⟨v15, rfl, hd15, hb⟩
         obtain ⟨c15, rfl, z15, o15⟩ := hd15.cells
         have H15 := Lib.hid (And.intro hd15 (And.intro (H14.out.2.2.1.trans (hb.mono H14.out.2.2.1.size)) (H14.out.2.2.2.old hb)))
         clear hd15 hb)
      | (with_reducible refine at_oper (.store 28 (.tmp 4) (.tmp 55)) rfl ?_
         refine wpList_store_blk rfl 28 (.tmp 4) (.tmp 55) rfl rfl (w.heap.size + 1 + 1) c15 nil28 28 rfl rfl H15.out.2.2 (by rw [z15]; exact size28) (by rw [z15]; rfl) o15 ?_
         intro w16 k16 o16
         have K16 := Lib.hid k16
         have O16 := Lib.hid o16
         clear k16 o16))
    refine bodyPost_ret (results_ct rfl _ _ _ rfl (w.heap.size + 1 + 1) rfl 28 _ K16.out Tryz.underlying28 rfl (by rw [z15]; exact size28)) rfl ?_
    have h2 := H14.out.2.2.2.lt
    exact ⟨_, rfl, (H15.out.1.old fun k hk _ => O16.out.block k (by omega)).weak fun k _ hk => by have := H14.out.2.2.1.size; omega, below_only H15.out.2.1 O16.out (by omega)⟩
end Go.Proofs.YtjgkdfghjeodeaaGreatDoor
