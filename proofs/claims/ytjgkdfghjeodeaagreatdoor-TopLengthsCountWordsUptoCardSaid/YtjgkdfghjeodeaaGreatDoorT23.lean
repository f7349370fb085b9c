/- automaton.joint. -/
import Derived.Test.YtjgkdfghjeodeaaGreatDoorT19
namespace Go.Proofs.YtjgkdfghjeodeaaGreatDoor
open Go.RowKit

/-- what 'joint' holds in memory -/
structure JS (w wr : World) (csx csy : Array Value) (cell : List Nat) (keys : List (Nat × Nat)) (bytes : List Nat) (Ab : Option Addr) (cb : Nat) : Prop where
  below : Below w.heap.size w wr
  tx : Blk wr w.heap.size 73 csx
  ty : Blk wr (w.heap.size + 1) 73 csy
  res : Blk wr (w.heap.size + 1 + 1) 71 (via (List.replicate 256 0))
  cel : Blk wr (w.heap.size + 1 + 1 + 1) 71 (via cell)
  map : IdMap 163 pairV wr (w.heap.size + 1 + 1 + 1 + 1) keys
  by_ : Own wr (w.heap.size + 1 + 1 + 1 + 1 + 1) 3 Ab bytes.length cb (vis bytes)
  bz : w.heap.size + 1 + 1 + 1 + 1 + 1 ≤ wr.heap.size
section
variable {w wr w' : World} {csx csy : Array Value} {cell bytes : List Nat} {keys : List (Nat × Nat)} {Ab : Option Addr} {cb : Nat}
theorem JS.step (h : JS w wr csx csy cell keys bytes Ab cb) (hb : Below wr.heap.size wr w') : JS w w' csx csy cell keys bytes Ab cb :=
  ⟨h.below.trans (hb.mono h.below.size), h.tx.old hb, h.ty.old hb, h.res.old hb, h.cel.old hb, h.map.below hb, h.by_.below hb, Nat.le_trans h.bz hb.size⟩
theorem JS.put (h : JS w wr csx csy cell keys bytes Ab cb) {k : Nat × Nat} (hm : IdMap 163 pairV w' (w.heap.size + 1 + 1 + 1 + 1) (keys ++ [k])) (hg : wr.grownBy w' (some (w.heap.size + 1 + 1 + 1 + 1))) : JS w w' csx csy cell (keys ++ [k]) bytes Ab cb := by
  have h2 := h.bz
  have h3 := hg.size
  exact ⟨below_grown h.below hg (by omega) (fun k e => by cases e; omega), h.tx.grown hg (fun e => by injection e with e; omega), h.ty.grown hg (fun e => by injection e with e; omega), h.res.grown hg (fun e => by injection e with e; omega), h.cel.grown hg (fun e => by injection e with e; omega), hm, h.by_.keepg hg (fun g e e' => by have := (h.by_.lt _ e).1; cases e'; omega), by omega⟩
theorem JS.push (h : JS w wr csx csy cell keys bytes Ab cb) {t : TypeId} {x : Nat} {A' : Option Addr} {c' : Nat} (hown : Own w' (w.heap.size + 1 + 1 + 1 + 1 + 1) 3 A' (bytes.length + 1) c' (vis bytes ++ [vi x])) (hgr : (wr.alloc (.cells #[vi x] t)).grownBy w' (obl Ab)) : JS w w' csx csy cell keys (bytes ++ [x]) A' c' := by
  have h2 := h.step (w' := wr.alloc (.cells #[vi x] t)) ((Below.refl _ _).alloc (Nat.le_refl _) _)
  have hA : ∀ k, obl Ab = some k → w.heap.size + 1 + 1 + 1 + 1 + 1 ≤ k := fun k e => (h.by_.lt _ e).1
  have h3 := hgr.size
  have h4 := h2.bz
  exact ⟨below_grown h2.below hgr (by omega) (fun k e => by have := hA k e; omega), h2.tx.grown hgr (fun e => by have := hA _ e; omega), h2.ty.grown hgr (fun e => by have := hA _ e; omega), h2.res.grown hgr (fun e => by have := hA _ e; omega), h2.cel.grown hgr (fun e => by have := hA _ e; omega), h2.map.grown hgr (fun e => by have := hA _ e; omega), by rw [vis_snoc, List.length_append]; exact hown, by omega⟩
theorem JS.setc (h : JS w wr csx csy cell keys bytes Ab cb) {x y : Nat} (h2 : Blk w' (w.heap.size + 1 + 1 + 1) 71 ((via cell).setIfInBounds x (vi y))) (ho : Only (w.heap.size + 1 + 1 + 1) wr w') : JS w w' csx csy (cell.set x y) keys bytes Ab cb := by
  rw [via_set] at h2
  exact ⟨below_only h.below ho (by omega), h.tx.only ho (by omega), h.ty.only ho (by omega), h.res.only ho (by omega), h2, h.map.only ho (by omega), h.by_.only ho (fun e => by have := (h.by_.lt _ e).1; omega), by rw [ho.size]; exact h.bz⟩
end
/-- what holds of the parts of 'joint' ahead of byte x -/
structure JI (x : Nat) (keys : List (Nat × Nat)) (bytes cell : List Nat) : Prop where
  len : keys.length = bytes.length
  le : bytes.length ≤ x
  cl : cell.length = 256
  by_ : Lt 256 bytes
  ce : Lt 257 cell
theorem JI.old {x : Nat} {keys : List (Nat × Nat)} {bytes cell : List Nat} (h : JI x keys bytes cell) {id : Nat} (hid : id < keys.length) (hx : x < 256) : JI (x + 1) keys bytes (cell.set x id) :=
  ⟨h.len, by have := h.le; omega, by rw [List.length_set]; exact h.cl, h.by_, fun z hz => by
    rcases List.mem_or_eq_of_mem_set hz with h1 | h1
    · exact h.ce z h1
    · have := h.len; have := h.le; omega⟩
theorem JI.new {x : Nat} {keys : List (Nat × Nat)} {bytes cell : List Nat} (h : JI x keys bytes cell) (k : Nat × Nat) (hx : x < 256) : JI (x + 1) (keys ++ [k]) (bytes ++ [x]) (cell.set x bytes.length) :=
  ⟨by simp [h.len], by have := h.le; simp; omega, by rw [List.length_set]; exact h.cl, fun z hz => by
    rcases List.mem_append.1 hz with h1 | h1
    · exact h.by_ z h1
    · simp at h1; omega, fun z hz => by
    rcases List.mem_or_eq_of_mem_set hz with h1 | h1
    · exact h.ce z h1
    · have := h.le; omega⟩

set_option maxRecDepth 100000 in
set_option maxHeartbeats 4000000 in
theorem joint_c (K1 K2 : Nat → Prop) (csx csy : Array Value) (x y : Tbl) (w : World) (hX : RT w K1 csx x) (hY : RT w K2 csy y) : Calls Tryz.prog 79 #[.agg csx, .agg csy] w
    fun e w' => ∃ Ab cb, e = .returned (.tuple #[.agg (via (joint x.cell y.cell).1), .slice Ab (joint x.cell y.cell).2.length cb]) ∧ Below w.heap.size w w' ∧ RN w' (fun k => w.heap.size ≤ k) Ab (joint x.cell y.cell).2.length cb (joint x.cell y.cell).2 ∧ (joint x.cell y.cell).1.length = 256 ∧ Lt 257 (joint x.cell y.cell).1 ∧ (joint x.cell y.cell).2.length ≤ 256 ∧ Lt 256 (joint x.cell y.cell).2 := by
  obtain ⟨A2, A3, c2, c3, hcs, _, _, hcl, _, hlt⟩ := tab_fields hX
  obtain ⟨A2', A3', c2', c3', hcs', _, _, hcl', _, hlt'⟩ := tab_fields hY
  have HC := Lib.hid (show ∀ b, b < 256 → csx[b]? = some (vi (x.cell.getD b 0)) ∧ csy[b]? = some (vi (y.cell.getD b 0)) ∧ x.cell.getD b 0 < 1048577 ∧ y.cell.getD b 0 < 1048577 from fun b hb => ⟨by rw [hcs]; exact tcells_at hcl hb, by rw [hcs']; exact tcells_at hcl' hb, getD_lt hlt (by rw [hcl]; exact hb), getD_lt hlt' (by rw [hcl']; exact hb)⟩)
  clear hcs hcs' hlt hlt' hcl hcl' hX hY
  obtain ⟨R, hR⟩ : ∃ R, joint x.cell y.cell = R := ⟨_, rfl⟩
  rw [hR]
  have HR := Lib.hid (show jtLoop x.cell y.cell 256 0 [] [] (List.replicate 256 0) = R from hR)
  clear hR
  go_enter Tryz.func79, Tryz.ntmps79
  go_upto_region 4 with (first
    | (with_reducible refine at_oper (.box 73 (.tmp 0)) rfl ?_
       refine wpList_box_rowG w.heap.size rfl rfl 73 (.tmp 0) rfl csx rfl ?_
       intro w1 k1 b1 s1)
    | (with_reducible refine at_oper (.box 73 (.tmp 1)) rfl ?_
       refine wpList_box_rowG (w.heap.size + 1) s1 rfl 73 (.tmp 1) rfl csy rfl ?_
       intro w2 k2 b2 s2)
    | (with_reducible refine at_oper (.alloc 71) rfl ?_
       first
       | (refine wpList_alloc_rowG (w.heap.size + 1 + 1) s2 rfl 71 rfl _ zero71 ?_
          intro w3 k3 b3 s3)
       | (refine wpList_alloc_rowG (w.heap.size + 1 + 1 + 1) s3 rfl 71 rfl _ zero71 ?_
          intro w4 k4 b4 s4))
    | (with_reducible refine at_oper (.makeMap 162 none) rfl ?_
       refine wpList_makeMapG 163 pairV (w.heap.size + 1 + 1 + 1 + 1) s4 rfl 162 rfl ?_
       intro w5 k5 b5 s5))
  have H0 := Lib.hid (show JS w w5 csx csy (List.replicate 256 0) [] [] none 0 from
    ⟨((b1.trans (b2.mono b1.size)).trans (b3.mono (by omega))).trans ((b4.mono (by omega)).trans (b5.mono (by omega))), (((k1.old b2).old b3).old b4).old b5, ((k2.old b3).old b4).old b5, (k3.old b4).old b5, k4.old b5, k5, Own.nil_ _ _ _, by omega⟩)
  clear k1 k2 k3 k4 k5 b1 b2 b3 b4 b5 s1 s2 s3 s4 s5
  go_wp2_with fail
  go_loopw [7, 14] (fun s7 s14 wr => ∃ (i : Nat) (keys : List (Nat × Nat)) (bytes cell : List Nat) (Ab : Option Addr) (cb : Nat), i ≤ 256 ∧ s14 = vi i ∧ s7 = .slice Ab bytes.length cb ∧ JS w wr csx csy cell keys bytes Ab cb ∧ JI i keys bytes cell ∧ jtLoop x.cell y.cell (256 - i) i keys bytes cell = R) (fun _ s14 _ => 256 - (intOf s14).toNat)
  case atStart => exact ⟨0, [], [], List.replicate 256 0, none, 0, by decide, rfl, rfl, H0.out, ⟨rfl, Nat.le_refl _, by simp, fun z hz => by simp at hz, fun z hz => by simp at hz; omega⟩, HR.out⟩
  case round =>
    clear H0
    obtain ⟨i, keys, bytes, cell, Ab, cb, hi, rfl, rfl, hjs, hji, hq⟩ := hrel
    have HJ := Lib.hid hjs
    have HI := Lib.hid hji
    have HQ := Lib.hid hq
    have hle := hji.le
    have hbc := hjs.by_.cap.1
    clear hjs hji hq
    by_cases hi6 : i < 256
    · have d1 : decide ((i : Int) < 256) = true := by simp; omega
      obtain ⟨p, hp⟩ : ∃ p, x.cell.getD i 0 = p := ⟨_, rfl⟩
      obtain ⟨q, hq⟩ : ∃ q, y.cell.getD i 0 = q := ⟨_, rfl⟩
      have hc := HC.out i hi6
      rw [hp, hq] at hc
      have HP := Lib.hid (And.intro hp (And.intro hq hc.2.2))
      have HF := Lib.hid (And.intro hc.1 hc.2.1)
      clear hp hq hc
      go_upto_region 7 with fail
      have hS : Blk wr w.heap.size 73 csx ∧ Blk wr (w.heap.size + 1) 73 csy := ⟨HJ.out.tx, HJ.out.ty⟩
      refine wp_region_ws (by kernel_rfl) [true, true, true, true, true, true, true, true, true, false, false] 10 (fun W => Blk W w.heap.size 73 csx ∧ Blk W (w.heap.size + 1) 73 csy) (by decide +kernel) (fun _ _ d _ _ h => by cases d <;> exact h) ⟨blk_drew hS.1, blk_drew hS.2⟩ ?_
      clear hS
      iterate 8 (refine ws_r ?_ (fun W hS => ?_) ?_; rotate_left; (focus (have q1 := (hS.1.cell i).trans HF.out.1; have q2 := (hS.2.cell i).trans HF.out.2; clear hS; go_simp; first | done | rfl | rw [if_pos (by omega)])); simp only [Act.put, List.setIfInBounds_toArray, List.set_cons_zero, List.set_cons_succ])
      refine ws_r (.agg (pairA (p, q))) (fun W hS => ?_) ?_
      · refine run_built2 163 0 1 (.tmp 20) (.tmp 24) ?_ (vi p) (vi q) ?_ ?_ (pairA (p, q)) (built163 _ _ rfl rfl) <;> rfl
      simp only [Act.put, List.setIfInBounds_toArray, List.set_cons_zero, List.set_cons_succ]
      refine ws_c ?_
      go_wp2_with (first
        | (with_reducible refine at_oper (.alloc 163) rfl ?_
           refine wpList_alloc_rowG wr.heap.size rfl rfl 163 rfl _ zero163 ?_
           intro w6 k6 b6 s6))
      have hb6 : Below wr.heap.size wr w6 := (Below.refl _ _).drew.trans b6
      dsimp only [segQ]
      refine ⟨⟨HJ.out.tx.old hb6, HJ.out.ty.old hb6⟩, ws_c ?_⟩
      go_wp2_with (first
        | (with_reducible refine at_oper (.store 163 (.tmp 10) (.tmp 25)) rfl ?_
           refine wpList_store_blk rfl 163 (.tmp 10) (.tmp 25) rfl rfl wr.heap.size (pairA (p, q)) _ 163 rfl rfl k6 size163 rfl (pairA_one _) ?_
           intro w7 k7 o7
           have hb7 := below_only hb6 o7 (Nat.le_refl _)
           have H7 := Lib.hid (And.intro (HJ.out.step hb7) k7)
           clear k6 b6 s6 k7 o7 hb7 hb6))
      first
        | refine ws_e ?_
        | (dsimp only [segQ]
           refine ⟨fun h => absurd h (by decide), ws_e ?_⟩)
      have HGb := Lib.hid (show w.heap.size + 1 + 1 + 1 + 1 + 1 ≤ wr.heap.size from HJ.out.bz)
      generalize wr.heap.size = gp at *
      obtain ⟨r, hr⟩ : ∃ r, idxK (p, q) keys 0 = r := ⟨_, rfl⟩
      have HRr := Lib.hid hr
      clear hr
      have hq1 : jtLoop x.cell y.cell (256 - i) i keys bytes cell = match idxK (p, q) keys 0 with
          | some id => jtLoop x.cell y.cell (256 - (i + 1)) (i + 1) keys bytes (cell.set i id)
          | none => jtLoop x.cell y.cell (256 - (i + 1)) (i + 1) (keys ++ [(p, q)]) (bytes ++ [i]) (cell.set i bytes.length) := by
        rw [show 256 - i = (256 - (i + 1)) + 1 by omega, jtLoop, HP.out.1, HP.out.2.1]
        cases idxK (p, q) keys 0 <;> rfl
      rw [HRr.out] at hq1
      have HQ1 := Lib.hid hq1
      clear hq1
      have hpq : p < 9223372036854775808 ∧ q < 9223372036854775808 := by have := HP.out.2.2; omega
      cases r with
      | some id =>
        have hid := (idxK_is _ _ HRr.out).2
        go_wp2_with (first
          | (with_reducible refine at_oper (.load 163 (.tmp 10)) rfl ?_
             refine wpList_load_blk rfl 163 (.tmp 10) rfl gp rfl 163 (pairA (p, q)) _ H7.out.2 Tryz.underlying163 rfl size163 ?_)
          | (with_reducible refine at_oper (.lookup 162 (.tmp 27) (.tmp 28) true) rfl ?_
             refine wpList_lookup_id rfl (.tmp 27) (.tmp 28) 162 rfl kt_pair Tryz.underlying162 rfl H7.out.1.map (p, q) hpq rfl ?_
             intro cI hcI
             obtain rfl := hcI id HRr.out
             rw [HRr.out]
             clear hcI)
          | (with_reducible refine at_oper (.store 3 (.tmp 45) (.tmp 44)) rfl ?_
             refine wpList_store_at rfl 3 (.tmp 45) (.tmp 44) rfl rfl (w.heap.size + 1 + 1 + 1) i (vi id) (via cell) 71 rfl rfl H7.out.1.cel (by rw [via_size, HI.out.cl]; exact hi6) size3 rfl ?_
             intro w8 k8 o8
             have H8 := Lib.hid (H7.out.1.setc k8 o8)
             clear k8 o8))
        go_roundw
        case rel => exact ⟨i + 1, keys, bytes, cell.set i id, Ab, cb, by omega, by go_num, rfl, H8.out, HI.out.old (by simpa using hid) hi6, HQ1.out.symm.trans HQ.out⟩
        case measure => simp [intOf]; omega
      | none =>
        have HNK := Lib.hid (show (p, q) ∉ keys from (idxK_none _ _ 0).1 HRr.out)
        have hkl := HI.out.len
        have HKl := Lib.hid hkl
        go_wp2_with (first
          | (with_reducible refine at_oper (.load 163 (.tmp 10)) rfl ?_
             first
             | refine wpList_load_blk rfl 163 (.tmp 10) rfl gp rfl 163 (pairA (p, q)) _ H7.out.2 Tryz.underlying163 rfl size163 ?_)
          | (with_reducible refine at_oper (.lookup 162 (.tmp 27) (.tmp 28) true) rfl ?_
             refine wpList_lookup_id rfl (.tmp 27) (.tmp 28) 162 rfl kt_pair Tryz.underlying162 rfl H7.out.1.map (p, q) hpq rfl ?_
             intro cI _
             rw [HRr.out])
          | (with_reducible refine at_oper (.mapUpdate 162 (.tmp 36) (.tmp 37) (.tmp 38)) rfl ?_
             refine wpList_mapUpdate_id rfl (.tmp 36) (.tmp 37) (.tmp 38) 162 rfl kt_pair Tryz.underlying162 rfl H7.out.1.map (p, q) hpq HNK.out rfl (by rw [HKl.out]; rfl) (by rw [HKl.out]; omega) ?_
             intro w8 k8 g8
             have H8 := Lib.hid (H7.out.1.put k8 g8)
             clear k8 g8)
          | (at_builtin
             refine wpList_push rfl (.tmp 39) (.tmp 41) 64 rfl app64 (w.heap.size + 1 + 1 + 1 + 1 + 1) Ab bytes.length cb (vis bytes) rfl (H8.out.by_.alloc _) _ (vi i) rfl ((Blk.new _ 3 _).cell 0) rfl (by omega) (by omega) (by have := H8.out.bz; rw [World.size_alloc]; omega) ?_
             intro A9 c9 w9 own9 g9 _
             have H9 := Lib.hid (H8.out.push own9 g9)
             clear own9 g9)
          | (with_reducible refine at_oper (.store 3 (.tmp 45) (.tmp 44)) rfl ?_
             refine wpList_store_at rfl 3 (.tmp 45) (.tmp 44) rfl rfl (w.heap.size + 1 + 1 + 1) i (vi bytes.length) (via cell) 71 rfl rfl H9.out.cel (by rw [via_size, HI.out.cl]; exact hi6) size3 rfl ?_
             intro w10 k10 o10
             have H10 := Lib.hid (H9.out.setc k10 o10)
             clear k10 o10))
        go_roundw
        case rel => exact ⟨i + 1, keys ++ [(p, q)], bytes ++ [i], cell.set i bytes.length, A9, c9, by omega, by go_num, by simp, H10.out, HI.out.new _ hi6, HQ1.out.symm.trans HQ.out⟩
        case measure => simp [intOf]; omega
    · have d1 : decide ((i : Int) < 256) = false := by simp; omega
      have hi7 : i = 256 := by omega
      have HE := Lib.hid (show R = (cell, bytes) by
        have := HQ.out
        rw [hi7] at this
        exact this.symm)
      clear hi7
      go_wp2_with (first
        | (with_reducible refine at_oper (.load 71 (.tmp 6)) rfl ?_
           refine wpList_load_blk rfl 71 (.tmp 6) rfl (w.heap.size + 1 + 1 + 1) rfl 71 (via cell) _ HJ.out.cel Tryz.underlying71 rfl (by rw [via_size, HI.out.cl]; exact size71) ?_)
        | (with_reducible refine at_oper (.store 71 (.tmp 4) (.tmp 47)) rfl ?_
           refine wpList_store_blk rfl 71 (.tmp 4) (.tmp 47) rfl rfl (w.heap.size + 1 + 1) (via cell) _ 71 rfl rfl HJ.out.res (by rw [via_size, HI.out.cl]; exact size71) (by rw [via_size, via_size, HI.out.cl]; rfl) (via_one _) ?_
           intro w13 k13 o13
           have K13 := Lib.hid k13
           have O13 := Lib.hid o13
           clear k13 o13))
      refine bodyPost_ret (results_ct rfl _ _ _ rfl (w.heap.size + 1 + 1) rfl 71 _ K13.out Tryz.underlying71 rfl (by rw [via_size, HI.out.cl]; exact size71)) rfl ?_
      rw [HE.out]
      have hb := HI.out.by_
      refine ⟨Ab, cb, rfl, below_only HJ.out.below O13.out (by omega), ?_, HI.out.cl, HI.out.ce, by show bytes.length ≤ 256; omega, hb⟩
      exact ((HJ.out.by_.rn (by omega) (lt_mono hb (by decide))).old (w' := w13) fun k hk _ => O13.out.block k (by omega)).weak fun k _ hk => by omega

section
variable {Q : Exit → Act → World → Prop}
def floatBP (l : List Oper) (m : Nat) (pu : Nat → Bool) : Bool :=
  (List.range m).all (fun i => match l[i]? with
    | some o => o.guard.isNone && (o.dst.isSome && o.after.all fun e => !Region.binds .any e || decide (e.on < i))
    | none => false) && (decide (m ≤ l.length) && ((List.range l.length).all (fun j => decide (j < m) || (List.range m).all fun i => waitsB .any l.toArray i 9 j || (pu i && (match l.toArray[i]? with
      | some o => o.after.all fun e => !Region.binds .any e || waitsB .any l.toArray e.on 9 j
      | none => false))) &&
    (Region.noSelect l.toArray && ((List.range m).all (fun q => !pu q || (List.range l.length).all fun j => match l.toArray[q]?, l.toArray[j]? with
      | some oq, some oj => ((decide (j = q) || oj.after.any fun e => Region.binds .any e && e.on == q) || oq.after.any fun e => Region.binds .any e && e.on == j) || oq.apart l.toArray oj
      | _, _ => false) && endB .any l.toArray (List.range' m (l.length - m)) (setAll (Array.replicate l.length false) (List.range' 0 m))))))
theorem wp_region_floatP {id : Nat} {a0 : Act} {w : World} {l : List Oper} (hm : Tryz.prog.follows .mixedOrders = true) (m : Nat) (pu : Nat → Bool) (hQ : ∀ c (a : Act) d v w, Q (.panic c) (a.put d v) w → Q (.panic c) a w) (ks : Nat → Option (TypeId × Array Value)) (D : (Nat → Prop) → Nat → Value → World → Prop)
    (hB : floatBP l m pu = true) (hd : (l.take m).Pairwise Dst) (hdz : ((l.take m).all fun o => match o.dst with | some d => decide (d < a0.tmps.size) | none => true) = true)
    (hz : ∀ i o t z, i < m → l[i]? = some o → ks i = some (t, z) → o.op = .alloc t ∧ ∀ w, (zeroValue t).run Tryz.prog w = .ok (.agg z) w)
    (hst : ∀ K i v w w', D K i v w → Below w.heap.size w w' → D K i v w')
    (hwk : ∀ K K' i v w, D K i v w → (∀ k, k < w.heap.size → K k → K' k) → D K' i v w)
    (hpure : ∀ (K : Nat → Prop) i o, i < m → pu i = true → l[i]? = some o → ks i = none ∧ ∀ (vs : Nat → Value) (a : Act) (w' : World), (∀ e ∈ o.after, Region.binds .any e = true → e.on < m → (ks e.on = none → D K e.on (vs e.on) w') ∧ ∀ o', l[e.on]? = some o' → ∀ d, o'.dst = some d → a.eval (.tmp d) = vs e.on) →
      ∃ v, (∀ W, (execOp a.eval o).run Tryz.prog W = .ok (.value v) W) ∧ D K i v w')
    (step : ∀ (K : Nat → Prop) i o, i < m → l[i]? = some o → ks i = none → ∀ (vs : Nat → Value) (a : Act) (w' : World), (∀ k, k < w.drew.heap.size ∨ w'.heap.size ≤ k → K k) → Below w.drew.heap.size w.drew w' → (∀ e ∈ o.after, Region.binds .any e = true → e.on < m → (ks e.on = none → D K e.on (vs e.on) w') ∧ ∀ o', l[e.on]? = some o' → ∀ d, o'.dst = some d → a.eval (.tmp d) = vs e.on) → (∀ d, (∀ o ∈ l.take m, o.dst ≠ some d) → a.eval (.tmp d) = a0.eval (.tmp d)) →
      wpList Tryz.prog l.toArray (segQ Q fun a' w'' => ∃ v, a' = a.put o.dst v ∧ D K i v w'' ∧ Below w'.heap.size w' w'') [o] a w')
    (fin : ∀ (vs : Nat → Value) (a : Act) (w' : World), FI l m ks D a0 w.drew (fun _ => true) vs a w' → wpList Tryz.prog l.toArray Q (l.drop m) a w') : (Code.region id l.toArray true).wp Tryz.prog Q a0 w := by
  have hdz : ∀ o ∈ l.take m, ∀ d, o.dst = some d → d < a0.tmps.size := fun o ho d h => by
    have h2 := List.all_eq_true.1 hdz o ho
    rw [h] at h2
    simpa using h2
  unfold floatBP at hB
  simp only [Bool.and_eq_true, decide_eq_true_eq, List.all_eq_true, List.mem_range, Bool.or_eq_true] at hB
  obtain ⟨hB1, hml, hB2, hns, hB3, hend⟩ := hB
  have hop : ∀ i, i < m → ∃ o, l[i]? = some o ∧ o.guard = none ∧ o.dst.isSome = true ∧ ∀ e ∈ o.after, Region.binds .any e = true → e.on < i := fun i hi => by
    have h := hB1 i hi
    cases ho : l[i]? with
    | none => rw [ho] at h; cases h
    | some o =>
      rw [ho] at h
      simp only [Bool.and_eq_true, Array.all_eq_true_iff_forall_mem, Bool.or_eq_true, Bool.not_eq_true', decide_eq_true_eq] at h
      refine ⟨o, rfl, by simpa using h.1, h.2.1, fun e he hb => ?_⟩
      rcases h.2.2 e he with h1 | h1
      · rw [hb] at h1; cases h1
      · exact h1
  have hds : ∀ o ∈ l.take m, o.dst.isSome = true := fun o ho => by
    obtain ⟨i, hi, rfl⟩ := List.getElem_of_mem ho
    have hi2 : i < m := by simp at hi; omega
    obtain ⟨o, h1, _, h3, _⟩ := hop i hi2
    rw [List.getElem_take]
    rw [List.getElem?_eq_getElem (by simp at hi; omega)] at h1
    injection h1 with h1
    rw [h1]; exact h3
  have main : ∀ (k : Nat) (listed : Array Bool) (vs : Nat → Value) (a : Act) (w' : World), listed.size = l.length → (∀ j, m ≤ j → listed.getD j false = false) → Shut .any l.toArray listed → k = cnt (fun i => listed.getD i false) m → FI l m ks D a0 w.drew (fun i => listed.getD i false) vs a w' → wpAny Tryz.prog .any l.toArray Q (k + (l.length - m)) listed a w' := by
    intro k
    induction k with
    | zero =>
      intro listed vs a w' hsz hl2 _ hk hI
      have hall := cnt_zero _ m hk.symm
      have hL : listed = setAll (Array.replicate l.length false) (List.range' 0 m) := by
        have hs := setAll_getD (List.range' 0 m) (Array.replicate l.length false) 0 fun i hi => by simp at hi ⊢; omega
        refine Array.ext (by rw [hsz, hs.1]; simp) fun i h1 h2 => ?_
        have h3 := (setAll_getD (List.range' 0 m) (Array.replicate l.length false) i fun i hi => by simp at hi ⊢; omega).2
        have e1 : listed.getD i false = listed[i] := by simp [Array.getD_eq_getD_getElem?, h1]
        have e2 : (setAll (Array.replicate l.length false) (List.range' 0 m)).getD i false = (setAll (Array.replicate l.length false) (List.range' 0 m))[i] := by simp [Array.getD_eq_getD_getElem?, h2]
        rw [← e1, ← e2, h3]
        by_cases him : i < m
        · rw [hall i him]; simp [him]
        · rw [hl2 i (by omega)]
          have : i < l.length := by omega
          simp [Array.getD_eq_getD_getElem?, this]; omega
      have hf := fin vs a w' ⟨by rw [hI.a]; exact putS_congr' _ _ trivial hall hml, hI.below, fun i hi _ hk => hwk _ _ i _ _ (hI.d i hi (hall i hi) hk) fun k _ h i hi _ hk => h i hi (hall i hi) hk, fun i hi _ => hI.al i hi (hall i hi), fun i j hi hj _ _ => hI.ne i j hi hj (hall i hi) (hall j hj)⟩
      have h5 := list_anyD (P := Tryz.prog) (ops := l.toArray) (Q := Q) (md := .any) (S := fun _ => True) (z := 0) (List.range' m (l.length - m)) (l.drop m) m listed a w' (all2_drop l m) (by simp) (Nat.zero_le _) (by rw [hL]; exact hend) hf
      rw [List.length_range'] at h5
      rw [Nat.zero_add]
      exact wpAny_of_D _ _ _ _ h5
    | succ k ih =>
      intro listed vs a w' hsz hl2 hsh hk hI
      rw [show k + 1 + (l.length - m) = (k + (l.length - m)) + 1 by omega]
      have next : ∀ i o, i < m → l[i]? = some o → i ∈ Region.ready .any l.toArray listed → listed.getD i false = false → ∀ v w'', Below w'.heap.size w' w'' → (ks i = none → D (FK m ks (fun j => listed.getD j false) vs) i v w'') → (∀ t z, ks i = some (t, z) → v = .pointer (some ⟨w'.heap.size, 0, none⟩) ∧ Blk w'' w'.heap.size t z) → wpAny Tryz.prog .any l.toArray Q (k + (l.length - m)) (listed.setIfInBounds i true) (a.put o.dst v) w'' := by
        intro i o him ho' hi hif
        have hil : i < l.length := (List.getElem?_eq_some_iff.1 ho').1
        have htk : (l.take m)[i]? = some o := by rw [List.getElem?_take_of_lt him]; exact ho'
        intro v w'' hb hD hA
        have hfun : (fun j => (listed.setIfInBounds i true).getD j false) = upd (fun j => listed.getD j false) i true := by
          funext j
          by_cases hj : j = i
          · subst hj; simp [upd, Array.getD_eq_getD_getElem?, show j < listed.size by omega]
          · simp [upd, hj, Array.getD_eq_getD_getElem?, Ne.symm hj]
        have hup : ∀ j, upd (fun j => listed.getD j false) i true j = true → j ≠ i → listed.getD j false = true := fun j h hj => by simpa [upd, hj] using h
        have hlow := hI.below.size
        refine ih _ (upd vs i v) _ w'' (by simp [hsz]) (fun j hj => ?_) (hsh.put hi) ?_ ?_
        · have := congrFun hfun j
          rw [this, upd, if_neg (by omega)]
          exact hl2 j hj
        · rw [hfun]
          have := cnt_upd (fun j => listed.getD j false) i hif m
          rw [if_pos him] at this
          omega
        · rw [hfun]
          refine ⟨by rw [hI.a]; exact (putS_upd (l.take m) 0 i o _ vs v a0 hd hds (Nat.zero_le _) (by simpa using htk) hif).symm, hI.below.trans (hb.mono hlow), fun j hj hf hk => ?_, fun j hj hf t z hk => ?_, fun j j' hj hj' hf hf' hk hk' hne => ?_⟩
          · have hkk : ∀ k, k < w'.heap.size ∨ ks i = none → FK m ks (fun j => listed.getD j false) vs k → FK m ks (upd (fun j => listed.getD j false) i true) (upd vs i v) k := by
              intro k hk0 hK j' hj' hf' hs'
              by_cases hji' : j' = i
              · subst hji'
                obtain ⟨⟨t, z⟩, hks⟩ := Option.isSome_iff_exists.1 hs'
                rw [show upd vs j' v j' = v by simp [upd], (hA t z hks).1]
                intro e
                simp at e
                rcases hk0 with h | h
                · omega
                · rw [hks] at h; cases h
              · rw [show upd vs i v j' = vs j' by simp [upd, hji']]
                exact hK j' hj' (hup j' hf' hji') hs'
            by_cases hji : j = i
            · subst hji
              rw [show upd vs j v j = v by simp [upd]]
              exact hwk _ _ _ _ _ (hD hk) fun k _ => hkk k (.inr hk)
            · rw [show upd vs i v j = vs j by simp [upd, hji]]
              exact hst _ _ _ _ _ (hwk _ _ _ _ _ (hI.d j hj (hup j hf hji) hk) fun k hk' => hkk k (.inl hk')) hb
          · by_cases hji : j = i
            · subst hji
              obtain ⟨g1, g2⟩ := hA t z hk
              exact ⟨w'.heap.size, by simp [upd, g1], g2, hlow⟩
            · obtain ⟨g, g1, g2, g3⟩ := hI.al j hj (hup j hf hji) t z hk
              exact ⟨g, by simp [upd, hji, g1], g2.old hb, g3⟩
          · have key : ∀ j, j < m → j ≠ i → upd (fun j => listed.getD j false) i true j = true → (ks j).isSome = true → (ks i).isSome = true → vs j ≠ v := by
              intro j hj hji hf hk hki
              obtain ⟨⟨t, z⟩, hks⟩ := Option.isSome_iff_exists.1 hk
              obtain ⟨⟨t', z'⟩, hks'⟩ := Option.isSome_iff_exists.1 hki
              obtain ⟨g, g1, g2, _⟩ := hI.al j hj (hup j hf hji) t z hks
              have g4 := g2.lt
              rw [g1, (hA t' z' hks').1]
              intro e
              simp at e
            by_cases hji : j = i
            · subst hji
              have : j' ≠ j := Ne.symm hne
              rw [show upd vs j v j = v by simp [upd], show upd vs j v j' = vs j' by simp [upd, this]]
              exact (key j' hj' this hf' hk' hk).symm
            · by_cases hji' : j' = i
              · subst hji'
                rw [show upd vs j' v j' = v by simp [upd], show upd vs j' v j = vs j by simp [upd, hji]]
                exact key j hj hji hf hk hk'
              · rw [show upd vs i v j = vs j by simp [upd, hji], show upd vs i v j' = vs j' by simp [upd, hji']]
                exact hI.ne j j' hj hj' (hup j hf hji) (hup j' hf' hji') hk hk' hne
      by_cases hpq : ∃ q, q < m ∧ pu q = true ∧ q ∈ Region.ready .any l.toArray listed
      · obtain ⟨q, hqm, hpu, hqr⟩ := hpq
        obtain ⟨g1, o, ho, g2⟩ := mem_ready.1 hqr
        have ho' : l[q]? = some o := by simpa using ho
        have hql : q < l.length := (List.getElem?_eq_some_iff.1 ho').1
        have hqf : listed.getD q false = false := by
          simp [Array.getD_eq_getD_getElem?, show q < listed.size by omega] at g1 ⊢; exact g1
        obtain ⟨hks, hpv⟩ := hpure (FK m ks (fun j => listed.getD j false) vs) q o hqm hpu ho'
        obtain ⟨v, hrun, hD⟩ := hpv vs a w' (fun e he hb hem => by
          have h7 := g2 e he hb
          refine ⟨hI.d e.on hem h7, fun o' ho'' d hdd => ?_⟩
          have htk' : (l.take m)[e.on]? = some o' := by rw [List.getElem?_take_of_lt hem]; exact ho''
          rw [hI.a]
          exact putS_in hd hds htk' hdd _ vs a0 (hdz o' (List.mem_of_getElem? htk') d hdd) h7)
        have hgd' : o.guard = none := by
          obtain ⟨o2, h3, h4, _⟩ := hop q hqm
          rw [ho'] at h3; cases h3; exact h4
        refine wpAny_first (v := v) ho (Region.noSelect_spec hns) (fun c a w => hQ c a _ _ w) _ listed a w' (fun j oj hj hne hun hno => ?_) hqr (.inl ⟨by unfold Region.wanted; rw [hgd'], hrun⟩) ?_
        · have h5 := (hB3 q hqm).resolve_left (by rw [hpu]; decide) j (by have := (Array.getElem?_eq_some_iff.1 hj).1; simpa using this)
          rw [ho, hj] at h5
          simp only [Bool.or_eq_true, decide_eq_true_eq] at h5
          rcases h5 with ((h5 | h5) | h5) | h5
          · exact absurd h5 hne
          · obtain ⟨e, he, hb⟩ := Array.any_eq_true'.1 h5
            simp only [Bool.and_eq_true, beq_iff_eq] at hb
            exact absurd hb.2 (hno e he hb.1)
          · obtain ⟨e, he, hb⟩ := Array.any_eq_true'.1 h5
            simp only [Bool.and_eq_true, beq_iff_eq] at hb
            have h6 := g2 e he hb.1
            rw [hb.2] at h6
            have hjl : j < listed.size := by have := (Array.getElem?_eq_some_iff.1 hj).1; simp at this; omega
            simp [Array.getD_eq_getD_getElem?, hjl] at h6 hun
            rw [h6] at hun
            cases hun
          · exact h5
        · exact next q o hqm ho' hqr hqf v w' (Below.refl _ _) (fun _ => hD) (fun t z h => by rw [hks] at h; cases h)
      rw [wpAny]
      have hin : ∀ {i : Nat}, i < l.length → listed.getD i false = false → listed.getD i true = false := fun {i} h1 h2 => by
        simp [Array.getD_eq_getD_getElem?, show i < listed.size by omega] at h2 ⊢; exact h2
      refine ⟨fun h0 => ?_, fun i hi => ?_⟩
      · obtain ⟨i, h1, h2, h3⟩ := cnt_least (fun i => listed.getD i false) m (by omega)
        obtain ⟨o, h4, _, _, h5⟩ := hop i h1
        have : i ∈ Region.ready .any l.toArray listed := mem_ready.2 ⟨hin (by omega) h2, o, by simpa using h4, fun e he hb => h3 _ (h5 e he hb)⟩
        rw [h0] at this
        cases this
      · obtain ⟨h1, o, ho, h2⟩ := mem_ready.1 hi
        have ho' : l[i]? = some o := by simpa using ho
        have hil : i < l.length := (List.getElem?_eq_some_iff.1 ho').1
        have hif : listed.getD i false = false := by
          simp [Array.getD_eq_getD_getElem?, show i < listed.size by omega] at h1 ⊢; exact h1
        by_cases him : i < m
        · obtain ⟨o2, h3, h4, h5, h6⟩ := hop i him
          rw [ho'] at h3
          cases h3
          have htk : (l.take m)[i]? = some o := by rw [List.getElem?_take_of_lt him]; exact ho'
          have next := next i o him ho' hi hif
          cases hki : ks i with
          | none =>
            have hs := step (FK m ks (fun j => listed.getD j false) vs) i o him ho' hki vs a w' (fun k hk j hj hf hs => by
              obtain ⟨⟨t, z⟩, hks⟩ := Option.isSome_iff_exists.1 hs
              obtain ⟨g, g1, g2, g3⟩ := hI.al j hj hf t z hks
              have g4 := g2.lt
              rw [g1]
              intro e
              have e2 : g = k := by injection e with e; injection e with e; injection e
              omega) hI.below (fun e he hb hem => by
              have h7 := h2 e he hb
              refine ⟨hI.d e.on hem h7, fun o' ho'' d hdd => ?_⟩
              have htk' : (l.take m)[e.on]? = some o' := by rw [List.getElem?_take_of_lt hem]; exact ho''
              rw [hI.a]
              exact putS_in hd hds htk' hdd _ vs a0 (hdz o' (List.mem_of_getElem? htk') d hdd) h7) (fun d hdd => by rw [hI.a]; exact putS_out d _ _ _ _ _ hdd)
            have hw : wpOp Tryz.prog l.toArray (segQ Q fun a' w'' => ∃ v, a' = a.put o.dst v ∧ D (FK m ks (fun j => listed.getD j false) vs) i v w'' ∧ Below w'.heap.size w' w'') i (fun a' w'' => ∃ v, a' = a.put o.dst v ∧ D (FK m ks (fun j => listed.getD j false) vs) i v w'' ∧ Below w'.heap.size w' w'') a w' := by
              unfold wpOp
              simp only [ho]
              exact hs
            refine wpOp_mono (fun a' w'' h => ?_) (wpOp_seg hw)
            obtain ⟨v, rfl, hD, hb⟩ := h
            exact next v w'' hb (fun _ => hD) (fun t z h => by rw [hki] at h; cases h)
          | some tz =>
            obtain ⟨t, z⟩ := tz
            obtain ⟨g1, g2⟩ := hz i o t z him ho' hki
            have hs : wpList Tryz.prog l.toArray (segQ Q fun a' w'' => ∃ v, a' = a.put o.dst v ∧ (v = .pointer (some ⟨w'.heap.size, 0, none⟩) ∧ Blk w'' w'.heap.size t z) ∧ Below w'.heap.size w' w'') [o] a w' :=
              wpList_alloc_rowG w'.heap.size rfl h4 t g1 z g2 fun w'' k b _ => ⟨_, rfl, ⟨rfl, k⟩, b⟩
            have hw : wpOp Tryz.prog l.toArray (segQ Q fun a' w'' => ∃ v, a' = a.put o.dst v ∧ (v = .pointer (some ⟨w'.heap.size, 0, none⟩) ∧ Blk w'' w'.heap.size t z) ∧ Below w'.heap.size w' w'') i (fun a' w'' => ∃ v, a' = a.put o.dst v ∧ (v = .pointer (some ⟨w'.heap.size, 0, none⟩) ∧ Blk w'' w'.heap.size t z) ∧ Below w'.heap.size w' w'') a w' := by
              unfold wpOp
              simp only [ho]
              exact hs
            refine wpOp_mono (fun a' w'' h => ?_) (wpOp_seg hw)
            obtain ⟨v, rfl, hD, hb⟩ := h
            exact next v w'' hb (fun h => by rw [hki] at h; cases h) (fun t' z' h => by rw [hki] at h; cases h; exact hD)
        · exfalso
          obtain ⟨i', h3, h4, _⟩ := cnt_least (fun i => listed.getD i false) m (by omega)
          have h4' : listed.getD i' false = false := h4
          have h5 := hB2 i hil
          rcases h5 with h5 | h5
          · omega
          · rcases h5 i' h3 with h5 | ⟨h5, h8⟩
            · have h6 := waits_listed hsh 9 i (fun o' ho'' e he hb => by rw [ho] at ho''; cases ho''; exact h2 e he hb) h5
              rw [h6] at h4'
              cases h4'
            · obtain ⟨o9, h9, _, _, _⟩ := hop i' h3
              refine hpq ⟨i', h3, h5, mem_ready.2 ⟨hin (by omega) h4', o9, by simpa using h9, fun e he hb => ?_⟩⟩
              rw [show l.toArray[i']? = some o9 by simpa using h9] at h8
              have h10 := Array.all_eq_true_iff_forall_mem.1 h8 e he
              simp only [Bool.or_eq_true, Bool.not_eq_true'] at h10
              rcases h10 with h10 | h10
              · rw [hb] at h10; cases h10
              · exact waits_listed hsh 9 i (fun o' ho'' e he hb => by rw [ho] at ho''; cases ho''; exact h2 e he hb) h10
  refine wp_region_any hm ?_
  have hcnt : ∀ m', cnt (fun i => (Array.replicate l.length false).getD i false) m' = m' := fun m' => by
    induction m' with
    | zero => rfl
    | succ m' ih =>
      rw [cnt, ih]
      have : (Array.replicate l.length false).getD m' false = false := by simp [Array.getD_eq_getD_getElem?, Array.getElem?_replicate]; split <;> rfl
      simp [this]
  have h9 := main m (Array.replicate l.length false) (fun _ => undef) a0 w.drew (by simp) (fun j _ => by simp [Array.getD_eq_getD_getElem?, Array.getElem?_replicate]; split <;> rfl) (shut_none _) (hcnt m).symm ⟨?_, Below.refl _ _, fun i _ h => ?_, fun i _ h => ?_, fun i j _ _ h => ?_⟩
  · rw [show m + (l.length - m) = l.length by omega] at h9
    simpa using h9
  · rw [putS_none]
    intro j
    simp [Array.getD_eq_getD_getElem?, Array.getElem?_replicate]; split <;> rfl
  all_goals
    exfalso
    simp [Array.getD_eq_getD_getElem?, Array.getElem?_replicate] at h
    split at h <;> cases h
end
end Go.Proofs.YtjgkdfghjeodeaaGreatDoor
