/- lengths.Of. -/
import Derived.Test.YtjgkdfghjeodeaaGreatDoorT32
namespace Go.Proofs.YtjgkdfghjeodeaaGreatDoor
open Go.RowKit

set_option maxRecDepth 100000 in
theorem of1_c (K : Nat → Prop) (gf : Nat) (A : Option Addr) (m c : Nat) (l : List Bool) (n : Nat) (w : World) (hc : w.cell? ⟨gf, 0, none⟩ = some (.slice A m c)) (hl : RB w K A m c l) (hn : n < m) : Calls Tryz.prog 21 #[vi n, .pointer (some ⟨gf, 0, none⟩)] w
    fun e w' => e = .returned (.bool (l.getD n false)) ∧ Below w.heap.size w w' := by
  have hb := hl.big
  have hcap := hl.cap
  obtain ⟨ad, rfl, ca⟩ := hl.get hn
  obtain ⟨x, hx⟩ : ∃ x, l.getD n false = x := ⟨_, rfl⟩
  rw [hx] at ca ⊢
  clear hx hl
  go_enter Tryz.func21, Tryz.ntmps21
  go_wp2_with fail
  go_ret
  exact ⟨rfl, Below.refl _ _⟩
/-- unsigned numbers in memory -/
def vua (l : List Nat) : Array Value := (l.map fun n => vu n).toArray
theorem vua_size (l : List Nat) : (vua l).size = l.length := by simp [vua]
theorem vua_get {l : List Nat} {i : Nat} (h : i < l.length) : (vua l)[i]? = some (vu (l.getD i 0)) := by simp [vua, h]
theorem vua_set (l : List Nat) (i x : Nat) : (vua l).setIfInBounds i (vu x) = vua (l.set i x) := by simp [vua, List.map_set]
theorem vua_rep (n : Nat) : (List.replicate n (Value.int .u64 0)).toArray = vua (List.replicate n 0) := by simp [vua]
theorem info54 : (Tryz.prog.info? 54).map (fun i => (i.zero, i.size, i.bytes)) = some (some (.int .u64 0), 1, 8) := by kernel_rfl
theorem accMask_lt (acc : List Bool) : ∀ n, n ≤ 64 → accMask acc n < 18446744073709551616
  | 0, _ => Nat.zero_lt_succ _
  | n + 1, h => by
    have ih := accMask_lt acc n (by omega)
    rw [accMask]
    split
    · exact Nat.or_lt_two_pow (n := 64) ih (Nat.pow_lt_pow_right (by decide) (by omega))
    · exact ih

theorem vua_mid (pre post : List Nat) (x : Nat) : (vua (pre ++ x :: post))[pre.length]? = some (vu x) := by simp [vua]
theorem vua_setmid (pre post : List Nat) (x y : Nat) : (vua (pre ++ x :: post)).setIfInBounds pre.length (vu y) = vua (pre ++ y :: post) := by rw [vua_set]; simp
theorem folRow_snoc (t : Nat) : ∀ (r : List Nat) (o : Nat), folRow (r ++ [t]) o = folRow r o ||| 2 ^ t
  | [], _ => rfl
  | _ :: r, _o => folRow_snoc t r _
theorem fol_mid0 {l : List Nat} {n i : Nat} (_ : l.length = n) (hi : i < n) : l.take i ++ List.replicate (n - i) 0 = l.take i ++ 0 :: List.replicate (n - (i + 1)) 0 := by
  rw [show n - i = (n - (i + 1)) + 1 by omega, List.replicate_succ]
theorem fol_mid1 {l : List Nat} {n i : Nat} (hl : l.length = n) (hi : i < n) : l.take i ++ l.getD i 0 :: List.replicate (n - (i + 1)) 0 = l.take (i + 1) ++ List.replicate (n - (i + 1)) 0 := by
  rw [List.take_succ_eq_append_getElem (by omega : i < l.length), List.getD_eq_getElem?_getD, List.getElem?_eq_getElem (by omega), List.append_assoc]; rfl

/-- what 'Of' holds in memory in its search for the first set that comes again -/
structure OS (w wr : World) (D : Array Value) (gf gc gm : Nat) (fol : List Nat) (l : List Bool) (sets : List Nat) (Al : Option Addr) (cl : Nat) : Prop where
  below : Below w.heap.size w wr
  box : Blk wr w.heap.size 28 D
  res : Blk wr (w.heap.size + 1) 36 #[.slice none 0 0, .slice none 0 0]
  fo : Blk wr gf 54 (vua fol)
  fc : Blk wr gc 26 #[.slice Al l.length cl]
  mp : IdMap 54 (fun n : Nat => Value.int .u64 (n : Int)) wr gm sets
  lst : Own wr (gm + 1) 4 Al l.length cl (l.map Value.bool)
  bz : gm + 1 ≤ wr.heap.size
section
variable {w wr w' : World} {D : Array Value} {gf gc gm : Nat} {fol sets : List Nat} {l : List Bool} {Al : Option Addr} {cl : Nat}
theorem OS.step (h : OS w wr D gf gc gm fol l sets Al cl) (hb : Below wr.heap.size wr w') : OS w w' D gf gc gm fol l sets Al cl :=
  ⟨h.below.trans (hb.mono h.below.size), h.box.old hb, h.res.old hb, h.fo.old hb, h.fc.old hb, h.mp.below hb, h.lst.below hb, Nat.le_trans h.bz hb.size⟩
theorem OS.put (h : OS w wr D gf gc gm fol l sets Al cl) (h1 : w.heap.size + 1 < gf) (h2 : gf < gc) (h3 : gc < gm) {k : Nat} (hm : IdMap 54 (fun n : Nat => Value.int .u64 (n : Int)) w' gm (sets ++ [k])) (hg : wr.grownBy w' (some gm)) : OS w w' D gf gc gm fol l (sets ++ [k]) Al cl :=
  ⟨below_grown h.below hg (by have := h.bz; omega) (fun k e => by cases e; omega), h.box.grown hg (fun e => by injection e with e; omega), h.res.grown hg (fun e => by injection e with e; omega), h.fo.grown hg (fun e => by injection e with e; omega), h.fc.grown hg (fun e => by injection e with e; omega), hm, h.lst.keepg hg (fun g e e' => by have := (h.lst.lt _ e).1; cases e'; omega), Nat.le_trans h.bz hg.size⟩
theorem OS.push (h : OS w wr D gf gc gm fol l sets Al cl) (h1 : w.heap.size + 1 < gf) (h2 : gf < gc) (h3 : gc < gm) {t : TypeId} {x : Value} {y : Bool} {A' : Option Addr} {c' : Nat} {w2 : World} (hown : Own w' (gm + 1) 4 A' (l.length + 1) c' (l.map Value.bool ++ [.bool y])) (hgr : (wr.alloc (.cells #[x] t)).grownBy w' (obl Al))
    (k : Blk w2 gc 26 #[.slice A' (l.length + 1) c']) (ho : Only gc w' w2) : OS w w2 D gf gc gm fol (l ++ [y]) sets A' c' := by
  have hs := h.step (w' := wr.alloc (.cells #[x] t)) ((Below.refl _ _).alloc (Nat.le_refl _) _)
  have hA : ∀ k, obl Al = some k → gm + 1 ≤ k := fun k e => (h.lst.lt _ e).1
  have hA' : ∀ k, obl A' = some k → gm + 1 ≤ k := fun k e => (hown.lt _ e).1
  have hb := hs.bz
  have hz := hgr.size
  refine ⟨below_only (below_grown hs.below hgr (by omega) (fun k e => by have := hA k e; omega)) ho (by omega), (hs.box.grown hgr (fun e => by have := hA _ e; omega)).only ho (by omega), (hs.res.grown hgr (fun e => by have := hA _ e; omega)).only ho (by omega), (hs.fo.grown hgr (fun e => by have := hA _ e; omega)).only ho (by omega), by rw [List.length_append]; exact k, (hs.mp.grown hgr (fun e => by have := hA _ e; omega)).only ho (by omega), ?_, by have := ho.size; omega⟩
  rw [List.length_append, List.map_append]
  exact hown.only ho (fun e => by have := hA' _ e; omega)
end
/-- the length of the slice in a cell -/
def cellLen (W : World) (g : Nat) : Nat := match W.cell? ⟨g, 0, none⟩ with
  | some (.slice _ n _) => n
  | _ => 0
theorem cellLen_of {W : World} {g n c : Nat} {A : Option Addr} {t : TypeId} (h : Blk W g t #[.slice A n c]) : cellLen W g = n := by
  unfold cellLen
  rw [h.cell]
  rfl
theorem under65 : Tryz.prog.underlying 65 = some (.map 54 3) := by kernel_rfl
theorem en21 : ∀ args w, (callFunc 21 args).run Tryz.prog w = .ok (.enter 21 args) w := fun args w => by kernel_rfl
theorem nodup_sets {fol : List Nat} {m : Nat} (h : ∀ i j, i < j → j < m → setAt fol i ≠ setAt fol j) (hn : setAt fol m ∉ (List.range m).map (setAt fol)) : ∀ i j, i < j → j < m + 1 → setAt fol i ≠ setAt fol j := fun i j h1 h2 => by
  by_cases hj : j < m
  · exact h i j h1 hj
  · rw [show j = m by omega]
    exact fun e => hn (List.mem_map.2 ⟨i, List.mem_range.2 (by omega), e⟩)

set_option maxRecDepth 100000 in
set_option maxHeartbeats 8000000 in
theorem lof_c (K1 : Nat → Prop) (v1 : Value) (d : Dfa) (w : World) (hd1 : RD w K1 v1 d) (hv : VD d) (hT : Tab w) (hh : 0 < w.heap.size) : Calls Tryz.prog 7 #[v1] w
    fun e w' => ∃ h p v, 0 < p ∧ setAt (folD d) (h + p) = setAt (folD d) h ∧ (∀ i j, i < j → j < h + p → setAt (folD d) i ≠ setAt (folD d) j) ∧ CanR (canonL ((List.range (h + p)).map (lenF d)) h p) v e w' w.heap.size ∧ Below w.heap.size w w' := by
  obtain ⟨A1, A2, A3, c1, c2, c3, rfl, hC, hNx, hL⟩ := hd1.open_
  obtain ⟨n, hn⟩ : ∃ n, d.nxt.length = n := ⟨_, rfl⟩
  have hac := hv.acc
  rw [hn] at hac hNx
  rw [hac] at hL
  obtain ⟨D, hD⟩ : ∃ D : Array Value, #[Value.slice A1 d.cls.length c1, .slice A2 d.nxt.length c2, .slice A3 d.acc.length c3] = D := ⟨_, rfl⟩
  have zD : D.size = 3 := by rw [← hD]; rfl
  have oD : D.all (·.oneCell') = true := by rw [← hD]; exact one3 ..
  have HD := Lib.hid (And.intro hd1 (And.intro hv (And.intro hT (And.intro hn hD))))
  have HN := Lib.hid (And.intro hNx hL)
  have h1 : 1 ≤ n := by rw [← hn]; exact hv.pos
  have h2 : n ≤ 64 := by rw [← hn]; exact hv.top
  have hDc : ∀ (W : World) (g : Nat), Blk W g 28 D → W.cell? ⟨g, 1, none⟩ = some (.slice A2 n c2) ∧ W.cell? ⟨g, 2, none⟩ = some (.slice A3 n c3) := fun W g hb => by
    rw [← hD, hn, hac] at hb
    exact ⟨hb.cell 1, hb.cell 2⟩
  have HDc := Lib.hid hDc
  rw [hD] at hd1 ⊢
  have HR := Lib.hid hd1
  clear hd1 hv hT hC hNx hL hn hac hD hDc
  go_enter Tryz.func7, Tryz.ntmps7
  go_wp2_with (first
    | (with_reducible refine at_oper (.box 28 (.tmp 0)) rfl ?_
       refine wpList_box_rowG w.heap.size rfl rfl 28 (.tmp 0) rfl D rfl ?_
       intro w1 k1 b1 s1)
    | (with_reducible refine at_oper (.alloc 36) rfl ?_
       refine wpList_alloc_rowG (w.heap.size + 1) s1 rfl 36 rfl _ zero36 ?_
       intro w2 k2 b2 s2
       have H2 := Lib.hid (And.intro (b1.trans (b2.mono b1.size)) (And.intro (k1.old b2) k2))
       clear k1 k2 b1 b2 s1 s2))
  go_step3
  go_upto_region 3 with (first
    | (with_reducible refine at_oper (.load 28 (.tmp 1)) rfl ?_
       refine wpList_load_blk rfl 28 (.tmp 1) rfl w.heap.size rfl 28 D _ H2.out.2.1 Tryz.underlying28 rfl (by rw [zD]; exact size28) ?_)
    | (go_at_call 18
       refine (valid_c K1 _ d w2 (HR.out.below H2.out.1) HD.out.2.1).mono ?_
       rintro e w3 ⟨rfl, hb⟩
       have H3 := Lib.hid (And.intro (H2.out.1.trans (hb.mono H2.out.1.size)) (And.intro (H2.out.2.1.old hb) (H2.out.2.2.old hb)))
       clear hb))
  have hfl : (folD d).length = n := by unfold folD; rw [List.length_map]; exact HD.out.2.2.2.1
  have HF := Lib.hid hfl
  clear hfl
  obtain ⟨f1, f2⟩ := HDc.out _ _ H3.out.2.1
  go_upto_region 5 with (first
    | (with_reducible refine at_oper (.makeSlice 63 (.tmp 24) (.tmp 24)) rfl ?_
       refine wpList_makeFullG w3.heap.size rfl rfl (.tmp 24) (.tmp 24) 63 rfl (.int .u64 0) Tryz.underlying63 info54 rfl n rfl rfl (by omega) (by omega) ?_
       intro w4 k4 b4 s4
       rw [vua_rep] at k4
       have H4 := Lib.hid (And.intro (H3.out.1.trans (b4.mono H3.out.1.size)) (And.intro (H3.out.2.1.old b4) (And.intro (H3.out.2.2.old b4) k4)))
       clear k4 b4 s4))
  have hg3 : w.heap.size + 1 < w3.heap.size := H3.out.2.2.lt
  clear f1 f2 H3
  generalize w3.heap.size = gf at *
  obtain ⟨f1, f2⟩ := HDc.out _ _ H4.out.2.1
  go_wp2_with fail
  clear f1 f2
  go_loopw [4, 29] (fun s4 s29 wr => ∃ i : Nat, i ≤ n ∧ s29 = vi i ∧ s4 = vu (accMask d.acc i) ∧ Below w.heap.size w wr ∧ Blk wr w.heap.size 28 D ∧ Blk wr (w.heap.size + 1) 36 #[.slice none 0 0, .slice none 0 0] ∧ Blk wr gf 54 (vua ((folD d).take i ++ List.replicate (n - i) 0))) (fun _ s29 _ => n - (intOf s29).toNat)
  case atStart => exact ⟨0, Nat.zero_le _, rfl, rfl, H4.out.1, H4.out.2.1, H4.out.2.2.1, by simpa using H4.out.2.2.2⟩
  case round =>
    clear H4
    obtain ⟨i, hi, rfl, rfl, hB, k1, k2, k3⟩ := hrel
    obtain ⟨f1, f2⟩ := HDc.out _ _ k1
    have HK := Lib.hid (And.intro hB (And.intro k1 (And.intro k2 k3)))
    clear hB k1 k2 k3
    have hml := accMask_lt d.acc i (by omega)
    by_cases hlt : i < n
    · have d1 : decide ((i : Int) < n) = true := by simp; omega
      obtain ⟨ar, Ar, cr, rfl, _, ca1, hrow⟩ := HN.out.1.at_ hlt
      replace ca1 := cell_below HK.out.1 ca1
      obtain ⟨aa, rfl, _, ca2⟩ := (HN.out.2.below HK.out.1).at_ hlt
      have hrl := HD.out.2.1.row (d.nxt.getD i []) (getD_mem' (by rw [HD.out.2.2.2.1]; exact hlt))
      obtain ⟨row, hrw⟩ : ∃ row, d.nxt.getD i [] = row := ⟨_, rfl⟩
      rw [hrw] at ca1 hrow hrl
      obtain ⟨m, hm⟩ : ∃ m, row.length = m := ⟨_, rfl⟩
      rw [hm] at ca1 hrow
      rw [HD.out.2.2.2.1] at hrl
      have hmb := hrow.cap
      have hm256 : m ≤ 1048576 := hrow.big
      have HRow := Lib.hid (And.intro hrow (And.intro hrl.2 (And.intro hm hrw)))
      clear hrow hrl hm hrw
      obtain ⟨x, hx⟩ : ∃ x, d.acc.getD i false = x := ⟨_, rfl⟩
      rw [hx] at ca2
      obtain ⟨M, hM⟩ : ∃ M, accMask d.acc i = M := ⟨_, rfl⟩
      rw [hM] at hml ⊢
      have HX := Lib.hid (And.intro hx hM)
      clear hx hM
      have hor := shl_or M i hml (by omega)
      obtain ⟨M', hM'⟩ : ∃ M', M ||| 2 ^ i = M' := ⟨_, rfl⟩
      rw [hM'] at hor
      have HM' := Lib.hid (show accMask d.acc (i + 1) = if x then M' else M by rw [accMask, HX.out.1, HX.out.2, hM'])
      clear hM'
      have hfi : (folD d).getD i 0 = folRow row 0 := by
        unfold folD
        rw [List.getD_eq_getElem?_getD, List.getElem?_map, List.getElem?_eq_getElem (by rw [HD.out.2.2.2.1]; exact hlt)]
        have h := HRow.out.2.2.2
        rw [List.getD_eq_getElem?_getD, List.getElem?_eq_getElem (by rw [HD.out.2.2.2.1]; exact hlt)] at h
        simp only [Option.getD_some] at h
        simp [h]
      have HFi := Lib.hid hfi
      clear hfi
      obtain ⟨pre, hpre⟩ : ∃ pre, (folD d).take i = pre := ⟨_, rfl⟩
      have hprl : pre.length = i := by rw [← hpre, List.length_take, HF.out]; omega
      obtain ⟨post, hpost⟩ : ∃ post : List Nat, List.replicate (n - (i + 1)) 0 = post := ⟨_, rfl⟩
      have hpol : post.length = n - (i + 1) := by rw [← hpost, List.length_replicate]
      have HK1 := Lib.hid (show Below w.heap.size w wr ∧ Blk wr w.heap.size 28 D ∧ Blk wr (w.heap.size + 1) 36 #[.slice none 0 0, .slice none 0 0] ∧ Blk wr gf 54 (vua (pre ++ 0 :: post)) from by
        refine ⟨HK.out.1, HK.out.2.1, HK.out.2.2.1, ?_⟩
        have h := HK.out.2.2.2
        rw [fol_mid0 HF.out hlt, hpre, hpost] at h
        exact h)
      have HPr := Lib.hid (And.intro hpre (And.intro hpost (And.intro hprl hpol)))
      clear HK hpre hpost hprl hpol
      go_upto_region 7 with fail
      go_cut [6, 7] from 34 to 58 (fun s6 s7 wz => s6 = vi i ∧ s7 = .slice Ar m cr ∧ wz = wr)
      case first =>
        go_wp2_with fail
        go_meet
        case rel => exact ⟨rfl, rfl, rfl⟩
      obtain ⟨rfl, rfl, rfl⟩ := hcut
      apply_assumption
      apply wp_seq_k
      intro _ _
      go_cut [4] from 34 to 58 (fun s4 wz => s4 = vu (accMask d.acc (i + 1)) ∧ wz = wc)
      case first =>
        cases x
        · go_wp2_with fail
          go_meet
          case rel => exact ⟨by rw [HM'.out]; rfl, rfl⟩
        · go_wp2_with fail
          go_meet
          case rel => exact ⟨by rw [HM'.out]; rfl, rfl⟩
      obtain ⟨rfl, rfl⟩ := hcut
      apply_assumption
      go_wp2_with fail
      go_loopw [45] (fun s45 wx => ∃ j : Nat, j ≤ m ∧ s45 = vi j ∧ Below w.heap.size w wx ∧ Blk wx w.heap.size 28 D ∧ Blk wx (w.heap.size + 1) 36 #[.slice none 0 0, .slice none 0 0] ∧ Blk wx gf 54 (vua (pre ++ folRow (row.take j) 0 :: post))) (fun s45 _ => m - (intOf s45).toNat)
      case atStart => exact ⟨0, Nat.zero_le _, rfl, HK1.out⟩
      case round =>
        clear HK1
        obtain ⟨j, hj, rfl, hB, k1, k2, k3⟩ := hrel
        have HK := Lib.hid (And.intro hB (And.intro k1 (And.intro k2 k3)))
        clear hB k1 k2 k3
        obtain ⟨f1, f2⟩ := HDc.out _ _ HK.out.2.1
        by_cases hjm : j < m
        · have d2 : decide ((j : Int) < (m : Int)) = true := by simp; omega
          obtain ⟨rad, rfl, _, ca3⟩ := (HRow.out.1.below HK.out.1).at_ hjm
          obtain ⟨t, ht⟩ : ∃ t, row.getD j 0 = t := ⟨_, rfl⟩
          have ht64 : t < 64 := by
            have := HRow.out.2.1 _ (getD_mem' (l := row) (i := j) (d := 0) (by rw [HRow.out.2.2.1]; exact hjm))
            rw [ht] at this
            omega
          rw [ht] at ca3
          obtain ⟨y, hy⟩ : ∃ y, folRow (row.take j) 0 = y := ⟨_, rfl⟩
          rw [hy] at HK
          have hyl : y < 18446744073709551616 := by
            rw [← hy]
            refine folRow_lt _ 0 (by decide) fun q hq => ?_
            have := HRow.out.2.1 q (List.mem_of_mem_take hq)
            omega
          have hyo := shl_or y t hyl ht64
          obtain ⟨y', hy'⟩ : ∃ y', y ||| 2 ^ t = y' := ⟨_, rfl⟩
          rw [hy'] at hyo
          have HY := Lib.hid (show folRow (row.take (j + 1)) 0 = y' by
            have hjl : j < row.length := by rw [HRow.out.2.2.1]; exact hjm
            rw [List.take_succ_eq_append_getElem hjl, folRow_snoc, hy, ← hy', ← ht]
            rw [List.getD_eq_getElem?_getD, List.getElem?_eq_getElem hjl]; rfl)
          clear hy hy' ht
          have ca4 : wr.cell? ⟨gf, i, none⟩ = some (vu y) := by
            rw [HK.out.2.2.2.cell, ← HPr.out.2.2.1]
            exact vua_mid _ _ _
          go_upto_region 13 with fail
          refine wp_region_ws (by kernel_rfl) [true, true, true, true, true, true, true, false, false] 7 (fun W => W.cell? ⟨gf, i, none⟩ = some (vu y)) (by decide +kernel) (fun _ _ d _ _ h => by cases d <;> exact h) ca4 ?_
          iterate 7 (refine ws_r ?_ (fun W hS => ?_) ?_; rotate_left; (focus (go_simp; first | done | rfl | rw [if_pos (by omega)])); simp only [Act.put, List.setIfInBounds_toArray, List.set_cons_zero, List.set_cons_succ])
          refine ws_c ?_
          go_wp2_with fail
          dsimp only [segQ]
          refine ⟨fun h => absurd h (by decide), ws_c ?_⟩
          go_wp2_with (first
            | (with_reducible refine at_oper (.store 54 (.tmp 56) (.tmp 55)) rfl ?_
               refine wpList_store_at rfl 54 (.tmp 56) (.tmp 55) rfl rfl gf i (vu y') _ 54 rfl rfl (blk_drew HK.out.2.2.2) (by rw [vua_size, List.length_append, List.length_cons, HPr.out.2.2.1]; omega) size54 rfl ?_
               intro w9 k9 o9
               rw [show i = pre.length from HPr.out.2.2.1.symm, vua_setmid] at k9
               have H9 := Lib.hid (And.intro k9 (show Only gf wr w9 from ⟨o9.os, o9.tape, o9.output, o9.size, o9.block⟩))
               clear k9 o9))
          first
            | refine ws_e ?_
            | (dsimp only [segQ]
               refine ⟨fun h => absurd h (by decide), ws_e ?_⟩)
          go_wp2_with fail
          go_roundw
          case rel => exact ⟨j + 1, by omega, by go_num, below_only HK.out.1 H9.out.2 (by omega), HK.out.2.1.only H9.out.2 (by omega), HK.out.2.2.1.only H9.out.2 (by omega), by rw [HY.out]; exact H9.out.1⟩
          case measure => simp [intOf]; omega
        · have d2 : decide ((j : Int) < (m : Int)) = false := by simp; omega
          have hjm' : j = m := by omega
          have HZ := Lib.hid (show accMask d.acc (i + 1) = accMask d.acc (i + 1) ∧ Blk wr gf 54 (vua ((folD d).take (i + 1) ++ List.replicate (n - (i + 1)) 0)) from by
            refine ⟨rfl, ?_⟩
            have h := HK.out.2.2.2
            rw [hjm', List.take_of_length_le (by rw [HRow.out.2.2.1]; exact Nat.le_refl _), ← HFi.out, ← HPr.out.1, ← HPr.out.2.1, fol_mid1 HF.out hlt] at h
            exact h)
          clear hjm'
          go_wp2_with fail
          go_roundw
          case rel => exact ⟨i + 1, by omega, by go_num, rfl, HK.out.1, HK.out.2.1, HK.out.2.2.1, HZ.out.2⟩
          case measure => simp [intOf]; omega
    · have d1 : decide ((i : Int) < n) = false := by simp; omega
      have hin : i = n := by omega
      have HG := Lib.hid (show Below w.heap.size w wr ∧ Blk wr w.heap.size 28 D ∧ Blk wr (w.heap.size + 1) 36 #[.slice none 0 0, .slice none 0 0] ∧ Blk wr gf 54 (vua (folD d)) from by
        refine ⟨HK.out.1, HK.out.2.1, HK.out.2.2.1, ?_⟩
        have h := HK.out.2.2.2
        rw [hin, List.take_of_length_le (by rw [HF.out]; exact Nat.le_refl _)] at h
        simpa using h)
      have HM := Lib.hid (show accMask d.acc n = accM d by unfold accM; rw [HD.out.2.2.2.1])
      obtain ⟨M, hM⟩ : ∃ M, accMask d.acc i = M := ⟨_, rfl⟩
      rw [hM] at hml ⊢
      rw [hin] at hM
      have HMM := Lib.hid (HM.out.symm.trans hM)
      clear hin hM HM HK
      have hgc := HG.out.2.2.2.lt
      go_upto_region 18 with (first
        | (with_reducible refine at_oper (.makeMap 65 none) rfl ?_
           refine wpList_makeMapG 54 (fun n : Nat => Value.int .u64 (n : Int)) (wr.heap.size + 1) (World.size_alloc _ _) rfl 65 rfl ?_
           intro w6 k6 b6 s6
           have H6 := Lib.hid (And.intro k6 (And.intro b6 s6))
           clear k6 b6 s6))
      have H0 := Lib.hid (show OS w w6 D gf wr.heap.size (wr.heap.size + 1) (folD d) [] [] none 0 from
        ⟨((HG.out.1.alloc HG.out.1.size _).trans (H6.out.2.1.mono (by have := HG.out.1.size; rw [World.size_alloc]; omega))), (HG.out.2.1.alloc _).old H6.out.2.1, (HG.out.2.2.1.alloc _).old H6.out.2.1, (HG.out.2.2.2.alloc _).old H6.out.2.1, (Blk.new wr 26 _).old H6.out.2.1, H6.out.1, Own.nil_ _ _ _, by have := H6.out.2.2; omega⟩)
      generalize wr.heap.size = gc at *
      clear HG H6
      go_wp2_with fail
      go_step3
      go_wp2_with fail
      go_loopw [12] (fun s12 wx => ∃ (m : Nat) (Al : Option Addr) (cl : Nat), m ≤ 20000000000 ∧ s12 = vu (setAt (folD d) m) ∧ OS w wx D gf gc (gc + 1) (folD d) ((List.range m).map (lenF d)) ((List.range m).map (setAt (folD d))) Al cl ∧ ∀ i j, i < j → j < m → setAt (folD d) i ≠ setAt (folD d) j) (fun _ W => 20000000001 - cellLen W gc)
      case atStart => exact ⟨0, none, 0, Nat.zero_le _, rfl, H0.out, fun i j _ h => by omega⟩
      case round =>
        clear H0
        obtain ⟨m, Al, cl, hm, rfl, hO, hnd⟩ := hrel
        have hll : ((List.range m).map (lenF d)).length = m := by simp
        obtain ⟨l, hl⟩ : ∃ l, (List.range m).map (lenF d) = l := ⟨_, rfl⟩
        obtain ⟨sets, hsets⟩ : ∃ sets, (List.range m).map (setAt (folD d)) = sets := ⟨_, rfl⟩
        obtain ⟨S, hS⟩ : ∃ S, setAt (folD d) m = S := ⟨_, rfl⟩
        have hSl : S < 18446744073709551616 := by rw [← hS]; exact setAt_lt HD.out.2.1 m
        rw [hl] at hll
        have hml2 : l.length ≤ 20000000000 := by omega
        rw [hl, hsets] at hO
        rw [hS]
        have HO := Lib.hid hO
        have HE := Lib.hid (And.intro hl (And.intro hsets (And.intro hS (And.intro hll hnd))))
        have hml' : sets.length = m := by rw [← hsets]; simp
        have HSL := Lib.hid hml'
        clear hO hl hsets hS hnd hll hml'
        obtain ⟨r, hr⟩ : ∃ r, idxK S sets 0 = r := ⟨_, rfl⟩
        have HRr := Lib.hid hr
        clear hr
        cases r with
        | some id =>
          have hid := (idxK_is _ _ HRr.out).2
          have HID := Lib.hid (show setAt (folD d) id = setAt (folD d) m from by
            have h := (idxK_is _ _ HRr.out).1
            rw [← HE.out.2.1] at h
            rw [List.getElem?_map, List.getElem?_range (by have := HSL.out; omega)] at h
            rw [HE.out.2.2.1]
            simpa using h)
          have hidm : id < m := by have := HSL.out; omega
          clear hid
          obtain ⟨p, hp⟩ : ∃ p, m - id = p := ⟨_, rfl⟩
          have hp0 : 0 < p := by omega
          have hmp : m = id + p := by omega
          have hsub : (l.length : Int) - (id : Int) = (p : Int) := by have := HE.out.2.2.2.1; omega
          have hwp : IntKind.i64.wrap (p : Int) = (p : Int) := i64_wrap _ (by omega)
          have HMP := Lib.hid hmp
          clear hp hmp
          go_upto_region 31 with (first
            | (with_reducible refine at_oper (.lookup 65 (.tmp 61) (.tmp 62) true) rfl ?_
               refine wpList_lookup_id rfl (.tmp 61) (.tmp 62) 65 rfl kt_u64 under65 rfl HO.out.mp S hSl rfl ?_
               intro cI hcI
               obtain rfl := hcI id HRr.out
               rw [HRr.out]
               clear hcI))
          have f0 := HO.out.fc.cell 0
          have hCall : ∀ W k, Below wr.heap.size wr W → k < m → Calls Tryz.prog 21 (#[vi k] ++ #[.pointer (some ⟨gc, 0, none⟩)]) W fun e W' => e = .returned (.bool (lenF d k)) ∧ Below W.heap.size W W' := fun W k hW hk => by
            have h := of1_c (fun _ => True) gc Al l.length cl l k W ((HO.out.fc.old hW).cell 0) ((HO.out.lst.rb (fun _ _ => trivial) (by omega)).below hW) (by have := HE.out.2.2.2.1; omega)
            have e : l.getD k false = lenF d k := by rw [← HE.out.1]; simp [hk]
            rw [e] at h
            exact h
          have HCall := Lib.hid hCall
          clear hCall
          go_wp2_with (first
            | (go_at_call 20
               refine (canonl_c id p m HMP.out hp0 (by omega) 21 #[.pointer (some ⟨gc, 0, none⟩)] (lenF d) wr en21 HCall.out).mono ?_
               rintro e w7 ⟨v, hC, hb⟩
               obtain ⟨B1, m1, e1, B2, m2, e2, y, rfl, rfl⟩ := hC.form
               have H7 := Lib.hid (And.intro hC hb)
               clear hC hb)
            | (with_reducible refine at_oper (.store 36 (.tmp 2) (.tmp 101)) rfl ?_
               refine wpList_store_blk rfl 36 (.tmp 2) (.tmp 101) rfl rfl (w.heap.size + 1) #[.slice B1 m1 e1, .slice B2 m2 e2] #[.slice none 0 0, .slice none 0 0] 36 rfl rfl (HO.out.res.old H7.out.2) size36 rfl (by simp [Value.oneCell']) ?_
               intro w15 k15 o15
               have H15 := Lib.hid (And.intro k15 o15)
               clear k15 o15))
          rw [Exit.noGoto_ret]
          refine bodyPost_ret (results_ct rfl _ _ _ rfl (w.heap.size + 1) rfl 36 _ H15.out.1 Tryz.underlying36 rfl size36) rfl ?_
          have hsz := HO.out.below.size
          have hsz2 := HO.out.res.lt
          have hC := H7.out.1.old (w2 := w15) (B' := w.heap.size) hsz fun k hk _ => H15.out.2.block k (by have h : wr.heap.size ≤ k := hk; omega)
          rw [HMP.out] at hC
          refine ⟨id, p, .agg #[.slice B1 m1 e1, .slice B2 m2 e2], hp0, ?_, ?_, hC, below_only (HO.out.below.trans (H7.out.2.mono hsz)) H15.out.2 (by omega)⟩
          · rw [← HMP.out]; exact HID.out.symm
          · rw [← HMP.out]; exact HE.out.2.2.2.2
        | none =>
          have HNK := Lib.hid (show S ∉ sets from (idxK_none _ _ 0).1 HRr.out)
          have HSLL := Lib.hid (show sets.length = l.length by rw [HSL.out, HE.out.2.2.2.1])
          have hMl : M < 18446744073709551616 := hml
          obtain ⟨Z, hZ⟩ : ∃ Z, S &&& M = Z := ⟨_, rfl⟩
          have hand : bits BinOp.and IntKind.u64 (S : Int) (M : Int) = (Z : Int) := by rw [← hZ]; exact bits_and_u64_nat S M hSl hMl
          obtain ⟨x, hx⟩ : ∃ x, lenF d m = x := ⟨_, rfl⟩
          have hzx : ((Z : Int) != 0) = x := by
            rw [nat_bne, ← hx, ← hZ]
            unfold lenF
            rw [HE.out.2.2.1, HMM.out]
          have HX := Lib.hid hx
          clear hZ hx
          have f0 := HO.out.fc.cell 0
          go_upto_region 25 with (first
            | (with_reducible refine at_oper (.lookup 65 (.tmp 61) (.tmp 62) true) rfl ?_
               refine wpList_lookup_id rfl (.tmp 61) (.tmp 62) 65 rfl kt_u64 under65 rfl HO.out.mp S hSl rfl ?_
               intro cI _
               rw [HRr.out])
            | (with_reducible refine at_oper (.mapUpdate 65 (.tmp 68) (.tmp 69) (.tmp 71)) rfl ?_
               refine wpList_mapUpdate_id rfl (.tmp 68) (.tmp 69) (.tmp 71) 65 rfl kt_u64 under65 rfl HO.out.mp S hSl HNK.out rfl (by rw [HSLL.out]; rfl) (by rw [HSLL.out]; omega) ?_
               intro w7 k7 g7
               have H7 := Lib.hid (HO.out.put hg3 hgc (Nat.lt_succ_self _) k7 g7)
               have f7 := H7.out.fc.cell 0
               clear k7 g7)
            | (at_builtin
               refine wpList_push rfl (.tmp 72) (.tmp 77) 26 rfl app26 (gc + 1 + 1) Al l.length cl (l.map Value.bool) rfl (H7.out.lst.alloc _) _ (.bool x) rfl ((Blk.new w7 4 #[.bool x]).cell 0) rfl (by omega) (by omega) (by have := H7.out.bz; rw [World.size_alloc]; omega) ?_
               intro A9 c9 w9 own9 g9 _
               have H9 := Lib.hid (And.intro own9 g9)
               clear own9 g9)
            | (with_reducible refine at_oper (.store 26 (.tmp 10) (.tmp 78)) rfl ?_
               refine wpList_store_at rfl 26 (.tmp 10) (.tmp 78) rfl rfl gc 0 (.slice A9 (l.length + 1) c9) _ 26 rfl rfl ((H7.out.fc.alloc _).grown H9.out.2 (fun e => by have := (H7.out.lst.lt _ e).1; omega)) (by simp) size26 rfl ?_
               intro w10 k10 o10
               have H10 := Lib.hid (H7.out.push hg3 hgc (Nat.lt_succ_self _) H9.out.1 H9.out.2 k10 o10)
               clear k10 o10))
          have HN2 := Lib.hid (show ∀ t, S.testBit t = true → t < n from fun t ht => by
            rw [← HE.out.2.2.1, setAt_bit HD.out.2.1] at ht
            have := walk_lt HD.out.2.1 ht
            rw [HD.out.2.2.2.1] at this
            exact this)
          obtain ⟨S', hS'⟩ : ∃ S', setAt (folD d) (m + 1) = S' := ⟨_, rfl⟩
          have HS' := Lib.hid hS'
          have HS2 := Lib.hid (show stepL (folD d) (memW S) 0 = S' by
            rw [← hS', setAt, stepM, HE.out.2.2.1])
          have HCL := Lib.hid (show cellLen wr gc = m by rw [cellLen_of HO.out.fc, HE.out.2.2.2.1])
          clear hS' f0 f7 H9 HO
          go_wp2_with fail
          go_loopw [16, 17] (fun s16 s17 wx => ∃ o x : Nat, o < 18446744073709551616 ∧ x < 18446744073709551616 ∧ s16 = vu o ∧ s17 = vu x ∧ stepL (folD d) (memW x) o = S' ∧ (∀ t, x.testBit t = true → t < n) ∧ wx = w10) (fun _ s17 _ => (intOf s17).toNat)
          case atStart => exact ⟨0, S, by decide, hSl, rfl, rfl, HS2.out, HN2.out, rfl⟩
          case round =>
            obtain ⟨o, y, ho, hy, rfl, rfl, hst, hyn, rfl⟩ := hrel
            by_cases hy0 : y = 0
            · have d3 : ((y : Int) != 0) = false := by rw [nat_bne]; simpa using hy0
              have HZ := Lib.hid (show o = S' by
                rw [hy0, show memW 0 = [] from by decide, stepL] at hst
                exact hst)
              have HND := Lib.hid (nodup_sets HE.out.2.2.2.2 (by rw [HE.out.2.1, HE.out.2.2.1]; exact HNK.out))
              have HQ := Lib.hid (And.intro (show (List.range (m + 1)).map (lenF d) = l ++ [x] by rw [List.range_succ, List.map_append, HE.out.1, List.map_singleton, HX.out]) (show (List.range (m + 1)).map (setAt (folD d)) = sets ++ [S] by rw [List.range_succ, List.map_append, HE.out.2.1, List.map_singleton, HE.out.2.2.1]))
              clear hy0 hst hyn
              go_wp2_with fail
              go_roundw
              case rel => exact ⟨m + 1, A9, c9, orb_bound HD.out.2.1 HND.out, by rw [HS'.out, HZ.out], by rw [HQ.out.1, HQ.out.2]; exact H10.out, HND.out⟩
              case measure =>
                rw [HCL.out, cellLen_of H10.out.fc, List.length_append, List.length_singleton]
                have := HE.out.2.2.2.1
                omega
            · have d3 : ((y : Int) != 0) = true := by rw [nat_bne]; simpa using hy0
              have hs := memW_step y hy0 hy
              obtain ⟨_, hkb, _, hkc⟩ := ctz_bits y hy0 hy
              have hcall := tz_c y hy hy0 wr (HD.out.2.2.1.mono hh H10.out.below)
              obtain ⟨k, hkk⟩ : ∃ k, Lib.ctz 64 y = k := ⟨_, rfl⟩
              rw [hkk] at hs hkb hcall hkc
              have hkn : k < n := hyn k hkb
              have hlt := and_pred_lt y hy0
              have hband := bits_and_u64_nat y (y - 1) hy (by omega)
              have hwr : IntKind.u64.wrap ((y : Int) - 1) = ((y - 1 : Nat) : Int) := by rw [IntKind.wrap_u64]; omega
              obtain ⟨y2, hy2⟩ : ∃ y2, y &&& (y - 1) = y2 := ⟨_, rfl⟩
              obtain ⟨z, hz0⟩ : ∃ z, y - 1 = z := ⟨_, rfl⟩
              rw [hy2] at hs hlt hband hkc
              rw [hz0] at hband hwr
              have f1 := (H10.out.fo.cell k).trans (vua_get (by rw [HF.out]; exact hkn))
              obtain ⟨q, hq⟩ : ∃ q, (folD d).getD k 0 = q := ⟨_, rfl⟩
              rw [hq] at f1
              have hql : q < 18446744073709551616 := by rw [← hq]; exact folD_lt HD.out.2.1 k
              have hbor := bits_or_u64_nat o q ho hql
              have hol : o ||| q < 18446744073709551616 := Nat.or_lt_two_pow (n := 64) ho hql
              obtain ⟨o2, ho2⟩ : ∃ o2, o ||| q = o2 := ⟨_, rfl⟩
              rw [ho2] at hbor hol
              have HY := Lib.hid (And.intro (show stepL (folD d) (memW y2) o2 = S' by
                rw [hs, stepL, hq, ho2] at hst
                exact hst) (show ∀ t, y2.testBit t = true → t < n from fun t ht => by
                rw [hkc] at ht
                simp only [Bool.and_eq_true] at ht
                exact hyn t ht.1))
              have HCa := Lib.hid hcall
              clear hst hyn hs hkk hkb hkc hcall hy2 hz0 hq ho2
              go_wp2_with (first
                | (go_at_call 19
                   refine HCa.out.mono ?_
                   rintro e w' ⟨rfl, rfl⟩))
              go_roundw
              case rel => exact ⟨o2, y2, hol, by omega, rfl, rfl, HY.out.1, HY.out.2, trivial⟩
              case measure => simp [intOf]; omega
end Go.Proofs.YtjgkdfghjeodeaaGreatDoor
