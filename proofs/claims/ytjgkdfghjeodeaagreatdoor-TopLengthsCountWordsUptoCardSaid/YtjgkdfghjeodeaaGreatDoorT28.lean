/- automaton.Word, at no byte. -/
import Derived.Test.YtjgkdfghjeodeaaGreatDoorT25
namespace Go.Proofs.YtjgkdfghjeodeaaGreatDoor
open Go.RowKit

/-- what 'Word' holds in memory -/
structure WD_ (w wr : World) (gr gt base : Nat) (cellL : List Nat) (nb : Nat) (ns : List (List Nat)) (acs : List Bool) (us : List Value) (B : Nat) (An : Option Addr) (cn : Nat) (Aa : Option Addr) (ca : Nat) : Prop where
  ord : w.heap.size ≤ gr ∧ gr < gt ∧ gt < base
  below : Below w.heap.size w wr
  res : Blk wr gr 28 nil28
  tab : Blk wr gt 73 (tcells ⟨cellL, nb, ns, acs⟩ An Aa cn ca)
  nx : Own wr base 64 An ns.length cn us
  ac : Own wr base 4 Aa acs.length ca (acs.map Value.bool)
  rows : Rows wr (fun k => KX base none An Aa k ∧ k < B) us ns
  bd : B ≤ wr.heap.size
  bz : base ≤ wr.heap.size
section
variable {w wr w' : World} {gr gt base : Nat} {cellL : List Nat} {nb : Nat} {ns : List (List Nat)} {acs : List Bool} {us : List Value} {B : Nat} {An Aa : Option Addr} {cn ca : Nat}
theorem WD_.bound (h : WD_ w wr gr gt base cellL nb ns acs us B An cn Aa ca) {B' : Nat} (h1 : B ≤ B') (h2 : B' ≤ wr.heap.size) : WD_ w wr gr gt base cellL nb ns acs us B' An cn Aa ca :=
  { h with rows := h.rows.weak fun _k _ hk => ⟨hk.1, Nat.lt_of_lt_of_le hk.2 h1⟩, bd := h2 }
theorem WD_.step (h : WD_ w wr gr gt base cellL nb ns acs us B An cn Aa ca) (hb : Below wr.heap.size wr w') : WD_ w w' gr gt base cellL nb ns acs us B An cn Aa ca :=
  ⟨h.ord, h.below.trans (hb.mono h.below.size), h.res.old hb, h.tab.old hb, h.nx.below hb, h.ac.below hb, h.rows.old (Old.of_below hb), Nat.le_trans h.bd hb.size, Nat.le_trans h.bz hb.size⟩
theorem WD_.only (h : WD_ w wr gr gt base cellL nb ns acs us B An cn Aa ca) {g : Nat} (ho : Only g wr w') (h1 : KX base none An Aa g) (h2 : B ≤ g) : WD_ w w' gr gt base cellL nb ns acs us B An cn Aa ca := by
  have h3 := h.ord
  have h4 := h1.1
  exact ⟨h.ord, below_only h.below ho (by omega), h.res.only ho (by omega), h.tab.only ho (by omega), h.nx.only ho h1.2.2.1, h.ac.only ho h1.2.2.2, h.rows.old fun k hk _ => ho.block k (by omega), by rw [ho.size]; exact h.bd, by rw [ho.size]; exact h.bz⟩
theorem WD_.pushn (h : WD_ w wr gr gt base cellL nb ns acs us B An cn Aa ca) (hc : cellL.length = 256) {t : TypeId} {Ar A' : Option Addr} {n cr c' : Nat} {row : List Nat} {w9 : World} (hrow : RN wr (fun k => KX base none An Aa k) Ar n cr row)
    (hown : Own w' base 64 A' (ns.length + 1) c' (us ++ [.slice Ar n cr])) (hgr : (wr.alloc (.cells #[.slice Ar n cr] t)).grownBy w' (obl An)) (hA : obl A' = obl An ∨ obl A' = some (wr.alloc (.cells #[.slice Ar n cr] t)).heap.size)
    (k9 : Blk w9 gt 73 ((tcells ⟨cellL, nb, ns, acs⟩ An Aa cn ca).setIfInBounds 257 (.slice A' (ns.length + 1) c'))) (o9 : Only gt w' w9) : WD_ w w9 gr gt base cellL nb (ns ++ [row]) acs (us ++ [.slice Ar n cr]) wr.heap.size A' c' Aa ca := by
  have h0 := h.bound h.bd (Nat.le_refl _)
  have hr0 := h0.rows.snoc (hrow.weak fun k hk hK => ⟨hK, hk⟩)
  have hb0 : Below wr.heap.size wr (wr.alloc (.cells #[.slice Ar n cr] t)) := (Below.refl _ _).alloc (Nat.le_refl _) _
  have h2 := h0.step hb0
  have hr2 := hr0.old (Old.of_below hb0)
  have hb : ∀ k, obl An = some k → base ≤ k := fun k e => (h.nx.lt _ e).1
  have hd := h2.tab.lt
  have h3 := h.ord
  have q2 := h2.ac.keepg hgr fun g e => h2.ac.ne_type h2.nx (by decide) e
  have hne : ∀ {A : Option Addr} {n c : Nat} {e : TypeId} {xs : List Value}, Own w' base e A n c xs → obl A ≠ some gt := fun h e => by have := (h.lt _ e).1; omega
  refine ⟨h.ord, below_only (below_grown h2.below hgr (by omega) (fun k e => by have := hb k e; omega)) o9 (by omega), (h2.res.grown hgr (fun e => by have := hb _ e; omega)).only o9 (by omega), ?_,
    by rw [List.length_append]; exact hown.only o9 (hne hown), q2.only o9 (hne q2), ?_, ?_, by rw [o9.size]; have := hgr.size; rw [World.size_alloc] at this; have := h.bz; omega⟩
  · have := k9
    rw [show ns.length + 1 = (ns ++ [row]).length by simp, tcells_nx ⟨cellL, nb, ns, acs⟩ An Aa cn ca hc (ns ++ [row]) A' c'] at this
    exact this
  · refine ((hr2.old fun k hk hlt => hgr.block k hlt fun e => hk.1.2.2.1 e.symm).old fun k hk _ => o9.block k (by have := hk.1.1; omega)).weak fun k _ hk => ⟨⟨hk.1.1, hk.1.2.1, ?_, hk.1.2.2.2⟩, hk.2⟩
    exact obl_moved hA hk.1.2.2.1 (by have := h2.bd; have := hk.2; omega)
  · rw [o9.size]
    have := hgr.size
    simp at this
    omega
theorem WD_.pusha (h : WD_ w wr gr gt base cellL nb ns acs us B An cn Aa ca) (hc : cellL.length = 256) {t : TypeId} {A' : Option Addr} {c' : Nat} {x : Bool} {w9 : World}
    (hown : Own w' base 4 A' (acs.length + 1) c' (acs.map Value.bool ++ [.bool x])) (hgr : (wr.alloc (.cells #[.bool x] t)).grownBy w' (obl Aa)) (hA : obl A' = obl Aa ∨ obl A' = some (wr.alloc (.cells #[.bool x] t)).heap.size)
    (k9 : Blk w9 gt 73 ((tcells ⟨cellL, nb, ns, acs⟩ An Aa cn ca).setIfInBounds 258 (.slice A' (acs.length + 1) c'))) (o9 : Only gt w' w9) : WD_ w w9 gr gt base cellL nb ns (acs ++ [x]) us B An cn A' c' := by
  have hb0 : Below wr.heap.size wr (wr.alloc (.cells #[.bool x] t)) := (Below.refl _ _).alloc (Nat.le_refl _) _
  have h2 := h.step hb0
  have hb : ∀ k, obl Aa = some k → base ≤ k := fun k e => (h.ac.lt _ e).1
  have hd := h2.tab.lt
  have h3 := h.ord
  have hne : ∀ {A : Option Addr} {n c : Nat} {e : TypeId} {xs : List Value}, Own w' base e A n c xs → obl A ≠ some gt := fun h e => by have := (h.lt _ e).1; omega
  have q2 := h2.nx.keepg hgr fun g e => h2.nx.ne_type h2.ac (by decide) e
  refine ⟨h.ord, below_only (below_grown h2.below hgr (by omega) (fun k e => by have := hb k e; omega)) o9 (by omega), (h2.res.grown hgr (fun e => by have := hb _ e; omega)).only o9 (by omega), ?_,
    q2.only o9 (hne q2), by rw [List.length_append, List.map_append]; exact hown.only o9 (hne hown), ?_, ?_, by rw [o9.size]; have := hgr.size; rw [World.size_alloc] at this; have := h.bz; omega⟩
  · have := k9
    rw [show acs.length + 1 = (acs ++ [x]).length by simp, tcells_ac ⟨cellL, nb, ns, acs⟩ An Aa cn ca hc (acs ++ [x]) A' c'] at this
    exact this
  · refine ((h2.rows.old fun k hk hlt => hgr.block k hlt fun e => hk.1.2.2.2 e.symm).old fun k hk _ => o9.block k (by have := hk.1.1; omega)).weak fun k _ hk => ⟨⟨hk.1.1, hk.1.2.1, hk.1.2.2.1, ?_⟩, hk.2⟩
    exact obl_moved hA hk.1.2.2.2 (by have := h2.bd; have := hk.2; omega)
  · rw [o9.size]
    have := hgr.size
    have := h2.bd
    simp at *
    omega
end

theorem built73w : Tryz.prog.built 73 [(1, vi 256)] = some (tcells ⟨List.replicate 256 0, 256, [], []⟩ none none 0 0) := by kernel_rfl
theorem wordT_eq : wordT [] = ⟨List.range 256, 256, List.replicate 2 (List.replicate 256 1), [true, false]⟩ := by decide +kernel
set_option maxRecDepth 100000 in
theorem wordT_wt : WT (wordT []) := by
  rw [wordT_eq]
  refine ⟨List.length_range, fun x hx => List.mem_range.1 hx, by decide, by decide, rfl, fun r hr => ?_⟩
  have e : r = List.replicate 256 1 := by
    dsimp only at hr
    exact List.eq_of_mem_replicate hr
  subst e
  exact ⟨List.length_replicate, fun x hx => by rw [List.eq_of_mem_replicate hx]; decide⟩
theorem ranged_set (i : Nat) (h : i < 256) : (List.range i ++ List.replicate (256 - i) 0).set i i = List.range (i + 1) ++ List.replicate (256 - (i + 1)) 0 := by
  rw [List.set_append_right _ _ (by simp), List.length_range, Nat.sub_self, show 256 - i = (256 - (i + 1)) + 1 by omega, List.replicate_succ, List.set_cons_zero, List.range_succ, List.append_assoc]
  rfl
theorem ones_set (i : Nat) (h : i < 256) : (List.replicate i 1 ++ List.replicate (256 - i) 0).set i 1 = List.replicate (i + 1) 1 ++ List.replicate (256 - (i + 1)) 0 := by
  rw [List.set_append_right _ _ (by simp), List.length_replicate, Nat.sub_self, show 256 - i = (256 - (i + 1)) + 1 by omega, List.replicate_succ, List.set_cons_zero, List.replicate_succ', List.append_assoc]
  rfl
set_option maxRecDepth 100000 in
set_option maxHeartbeats 4000000 in
theorem word_c (A : Option Addr) (cA : Nat) (w : World) :
    Calls Tryz.prog 35 #[.slice A 0 cA] w fun e w' => ∃ v, e = .returned (.tuple #[v, vi 0]) ∧ RD w' (fun k => w.heap.size ≤ k) v (wordD []).1 ∧ Below w.heap.size w w' := by
  go_enter Tryz.func35, Tryz.ntmps35
  go_upto_region 5 with (first
    | (with_reducible refine at_oper (.alloc 28) rfl ?_
       refine wpList_alloc_rowG w.heap.size rfl rfl 28 rfl _ zero28 ?_
       intro w1 k1 b1 s1)
    | (with_reducible refine at_oper (.build 73 #[(1, .const (.int .i64 256))]) rfl ?_
       refine wpList_build_row rfl 73 #[(1, .const (.int .i64 256))] rfl _ [(1, vi 256)] (by simp only [List.map_toArray, List.map_cons, List.map_nil]; rfl) built73w ?_)
    | (with_reducible refine at_oper (.alloc 73) rfl ?_
       refine wpList_alloc_rowG (w.heap.size + 1) s1 rfl 73 rfl _ Tryz.zeroValue73 ?_
       intro w2 k2 b2 s2)
    | (with_reducible refine at_oper (.store 73 (.tmp 5) (.tmp 15)) rfl ?_
       refine wpList_store_blk rfl 73 (.tmp 5) (.tmp 15) rfl rfl (w.heap.size + 1) (tcells ⟨List.replicate 256 0, 256, [], []⟩ none none 0 0) _ 73 rfl rfl k2 (by simp only [tcells, List.size_toArray, List.length_append, vis_len, List.length_replicate]; exact size73) (by simp only [tcells, List.size_toArray, List.length_append, vis_len, List.length_replicate]; exact Tryz.zeroCells73_size) (tcells_one ..) ?_
       intro w3 k3 o3
       have H3 := Lib.hid (show Below w.heap.size w w3 ∧ Blk w3 w.heap.size 28 nil28 ∧ Blk w3 (w.heap.size + 1) 73 (tcells ⟨List.replicate 256 0, 256, [], []⟩ none none 0 0) ∧ w3.heap.size = w.heap.size + 1 + 1 from
         ⟨below_only (b1.trans (b2.mono b1.size)) o3 (by omega), (k1.old b2).only o3 (by omega), k3, by rw [o3.size, s2]⟩)
       clear k1 b1 s1 k2 b2 s2 k3 o3))
  go_wp2_with fail
  go_loopw [16] (fun s16 wr => ∃ i : Nat, i ≤ 256 ∧ s16 = vi i ∧ Below w.heap.size w wr ∧ Blk wr w.heap.size 28 nil28 ∧ Blk wr (w.heap.size + 1) 73 (tcells ⟨List.range i ++ List.replicate (256 - i) 0, 256, [], []⟩ none none 0 0) ∧ wr.heap.size = w.heap.size + 1 + 1) (fun s16 _ => 256 - (intOf s16).toNat)
  case atStart => exact ⟨0, Nat.zero_le _, rfl, H3.out⟩
  case round =>
    clear H3
    obtain ⟨i, hi, rfl, hB, k1, k2, hz⟩ := hrel
    have HK := Lib.hid (And.intro hB (And.intro k1 (And.intro k2 hz)))
    clear hB k1 k2 hz
    have hlen : (List.range i ++ List.replicate (256 - i) 0).length = 256 := by rw [List.length_append, List.length_range, List.length_replicate]; omega
    by_cases hin : i < 256
    · have d1 : decide ((i : Int) < 256) = true := by simp; omega
      go_wp2_with (first
        | (with_reducible refine at_oper (.store 3 (.tmp 22) (.tmp 20)) rfl ?_
           refine wpList_store_at rfl 3 (.tmp 22) (.tmp 20) rfl rfl (w.heap.size + 1) i (vi i) _ 73 rfl rfl HK.out.2.2.1 (by simp only [tcells, List.size_toArray, List.length_append, vis_len, hlen]; simp; omega) size3 rfl ?_
           intro w4 k4 o4
           have H4 := Lib.hid (And.intro k4 o4)
           clear k4 o4))
      go_roundw
      case rel =>
        have k4 := H4.out.1
        rw [tcells_set ⟨List.range i ++ List.replicate (256 - i) 0, 256, [], []⟩ none none 0 0 hlen hin i] at k4
        simp only [ranged_set i hin] at k4
        exact ⟨i + 1, by omega, by go_num, below_only HK.out.1 H4.out.2 (by omega), HK.out.2.1.only H4.out.2 (by omega), k4, by rw [H4.out.2.size]; exact HK.out.2.2.2⟩
      case measure => simp [intOf]; omega
    · have d1 : decide ((i : Int) < 256) = false := by simp; omega
      have k2 := HK.out.2.2.1
      rw [show i = 256 by omega, Nat.sub_self, List.replicate_zero, List.append_nil] at k2
      have hcl : (List.range 256).length = 256 := List.length_range
      obtain ⟨cellL, hcL⟩ : ∃ c, List.range 256 = c := ⟨_, rfl⟩
      rw [hcL] at k2 hcl
      have HcL := Lib.hid hcL
      have HCl := Lib.hid hcl
      have H5 := Lib.hid (show WD_ w wr w.heap.size (w.heap.size + 1) (w.heap.size + 1 + 1) cellL 256 (List.replicate 0 (List.replicate 256 1)) ((List.range 0).map fun s => decide (s = 0)) [] wr.heap.size none 0 none 0 from
        ⟨⟨Nat.le_refl _, by omega, by omega⟩, HK.out.1, HK.out.2.1, k2, Own.nil_ _ _ _, Own.nil_ _ _ _, Rows.nil_ _ _, Nat.le_refl _, by rw [HK.out.2.2.2]; exact Nat.le_refl _⟩)
      clear k2 HK hcL hcl d1 hlen
      go_wp2_with fail
      go_loopw [26] (fun s26 wx => ∃ (i : Nat) (us : List Value) (B : Nat) (An : Option Addr) (cn : Nat) (Aa : Option Addr) (ca : Nat), i ≤ 2 ∧ s26 = vi i ∧ WD_ w wx w.heap.size (w.heap.size + 1) (w.heap.size + 1 + 1) cellL 256 (List.replicate i (List.replicate 256 1)) ((List.range i).map fun s => decide (s = 0)) us B An cn Aa ca) (fun s26 _ => 2 - (intOf s26).toNat)
      case atStart => exact ⟨0, [], _, none, 0, none, 0, Nat.zero_le _, rfl, H5.out⟩
      case round =>
        clear H5
        obtain ⟨j, us, B, An, cn, Aa, ca, hj, rfl, hW⟩ := hrel
        obtain ⟨ns, hns⟩ : ∃ ns, List.replicate j (List.replicate 256 1) = ns := ⟨_, rfl⟩
        obtain ⟨acs, hacs⟩ : ∃ acs, (List.range j).map (fun s => decide (s = 0)) = acs := ⟨_, rfl⟩
        rw [hns, hacs] at hW
        have hl1 : ns.length ≤ 2 := by rw [← hns]; simpa using hj
        have hl2 : acs.length ≤ 2 := by rw [← hacs]; simpa using hj
        have HNs := Lib.hid (And.intro hns hacs)
        have HW := Lib.hid hW
        clear hW hns hacs
        by_cases hjn : j < 2
        · have d2 : decide ((j : Int) < 2) = true := by simp; omega
          have d3 : decide ((j : Int) < 0) = false := by simp
          go_upto_region 14 with (first
            | (with_reducible refine at_oper (.makeSlice 64 _ _) rfl ?_
               refine wpList_makeFullG wr.heap.size rfl rfl (.const (.int .i64 256)) (.const (.int .i64 256)) 64 rfl (.int .i64 0) Tryz.underlying64 info3 rfl 256 rfl rfl (by decide) (by decide) ?_
               intro w6 k6 b6 s6
               rw [via_rep] at k6
               have H6 := Lib.hid (And.intro (HW.out.step b6) (And.intro k6 (And.intro HW.out.bd (show KX (w.heap.size + 1 + 1) none An Aa wr.heap.size from
                 ⟨HW.out.bz, by simp [obl], fun e => by have := (HW.out.nx.lt _ e).2; omega, fun e => by have := (HW.out.ac.lt _ e).2; omega⟩))))
               clear k6 b6 s6))
          have HKX := Lib.hid H6.out.2.2
          generalize wr.heap.size = gw at *
          go_wp2_with fail
          go_loopw [32] (fun s32 wy => ∃ k : Nat, k ≤ 256 ∧ s32 = vi k ∧ WD_ w wy w.heap.size (w.heap.size + 1) (w.heap.size + 1 + 1) cellL 256 ns acs us B An cn Aa ca ∧ Blk wy gw 3 (via (List.replicate k 1 ++ List.replicate (256 - k) 0))) (fun s32 _ => 256 - (intOf s32).toNat)
          case atStart => exact ⟨0, Nat.zero_le _, rfl, H6.out.1, H6.out.2.1⟩
          case round =>
            clear H6 HW
            obtain ⟨k, hk, rfl, hW, hG⟩ := hrel
            have HW := Lib.hid hW
            have HG := Lib.hid hG
            clear hW hG
            by_cases hkn : k < 256
            · have d4 : decide ((k : Int) < 256) = true := by simp; omega
              go_wp2_with (first
                | (with_reducible refine at_oper (.store 3 (.tmp 39) (.tmp 38)) rfl ?_
                   refine wpList_store_at rfl 3 (.tmp 39) (.tmp 38) rfl rfl gw k (vi 1) _ 3 rfl rfl HG.out (by rw [via_size, List.length_append, List.length_replicate, List.length_replicate]; omega) size3 rfl ?_
                   intro w7 k7 o7
                   have H7 := Lib.hid (And.intro k7 o7)
                   clear k7 o7))
              go_roundw
              case rel =>
                have k7 := H7.out.1
                rw [via_set, ones_set k hkn] at k7
                exact ⟨k + 1, by omega, by go_num, HW.out.only H7.out.2 HKX.out.2 HKX.out.1, k7⟩
              case measure => simp [intOf]; omega
            · have d4 : decide ((k : Int) < 256) = false := by simp; omega
              have hg2 := HG.out
              rw [show k = 256 by omega, Nat.sub_self, List.replicate_zero, List.append_nil] at hg2
              have HRN := Lib.hid (show RN wr (fun k => KX (w.heap.size + 1 + 1) none An Aa k) (some ⟨gw, 0, none⟩) 256 256 (List.replicate 256 1) from
                (hg2.rn (by simp) (by omega) (fun x hx => by rw [List.eq_of_mem_replicate hx]; decide)).weak fun k _ hk => by rw [hk]; exact HKX.out.2)
              have cd1 : wr.cell? ⟨w.heap.size + 1, 257, none⟩ = some (.slice An ns.length cn) := (HW.out.tab.cell 257).trans (tcells_257 (t := ⟨cellL, 256, ns, acs⟩) HCl.out)
              have hnc := HW.out.nx.cap.1
              clear hg2
              go_upto_region 22 with (first
                | (at_builtin
                   refine wpList_push rfl (.tmp 53) (.tmp 55) 25 rfl app25 (w.heap.size + 1 + 1) An ns.length cn us rfl (HW.out.nx.alloc _) _ (.slice (some ⟨gw, 0, none⟩) 256 256) rfl ((Blk.new _ 64 _).cell 0) rfl (by omega) (by omega) (by have := HW.out.bz; rw [World.size_alloc]; omega) ?_
                   intro A9 c9 w9 hown hgr hA
                   have HP := Lib.hid (And.intro hown (And.intro hgr hA))
                   have HD9 := Lib.hid ((HW.out.tab.alloc _).grown hgr fun e => by have := (HW.out.nx.lt _ e).1; omega)
                   clear hown hgr hA)
                | (with_reducible refine at_oper (.store 25 (.tmp 57) (.tmp 56)) rfl ?_
                   refine wpList_store_at rfl 25 (.tmp 57) (.tmp 56) rfl rfl (w.heap.size + 1) 257 (.slice A9 (ns.length + 1) c9) _ 73 rfl rfl HD9.out (by simp [tcells, vis_len, HCl.out]) size25 rfl ?_
                   intro w10 k10 o10
                   have HC10 := Lib.hid (HW.out.pushn HCl.out HRN.out HP.out.1 HP.out.2.1 HP.out.2.2 k10 o10)
                   clear k10 o10))
              clear cd1
              have cd2 : w10.cell? ⟨w.heap.size + 1, 258, none⟩ = some (.slice Aa acs.length ca) := (HC10.out.tab.cell 258).trans (tcells_258 (t := ⟨cellL, 256, ns ++ [List.replicate 256 1], acs⟩) HCl.out)
              have hac := HC10.out.ac.cap.1
              obtain ⟨y, hy⟩ : ∃ y, ((j : Int) == 0) = y := ⟨_, rfl⟩
              go_upto_region 23 with (first
                | (at_builtin
                   refine wpList_push rfl (.tmp 59) (.tmp 63) 26 rfl app26 (w.heap.size + 1 + 1) Aa acs.length ca (acs.map Value.bool) rfl (HC10.out.ac.alloc _) _ (.bool y) rfl ((Blk.new w10 4 #[.bool y]).cell 0) rfl (by omega) (by omega) (by have := HC10.out.bz; rw [World.size_alloc]; omega) ?_
                   intro A12 c12 w12 hown hgr hA
                   have HP := Lib.hid (And.intro hown (And.intro hgr hA))
                   have HD12 := Lib.hid ((Blk.alloc HC10.out.tab _).grown hgr fun e => by have := (HC10.out.ac.lt _ e).1; omega)
                   clear hown hgr hA)
                | (with_reducible refine at_oper (.store 26 (.tmp 65) (.tmp 64)) rfl ?_
                   refine wpList_store_at rfl 26 (.tmp 65) (.tmp 64) rfl rfl (w.heap.size + 1) 258 (.slice A12 (acs.length + 1) c12) _ 73 rfl rfl HD12.out (by simp [tcells, vis_len, HCl.out]) size26 rfl ?_
                   intro w13 k13 o13
                   have HC13 := Lib.hid (HC10.out.pusha HCl.out HP.out.1 HP.out.2.1 HP.out.2.2 k13 o13)
                   clear k13 o13))
              have HY := Lib.hid hy
              clear hy cd2
              go_wp2_with fail
              go_roundw
              case rel =>
                have h := HC13.out
                have e1 : ns ++ [List.replicate 256 1] = List.replicate (j + 1) (List.replicate 256 1) := by rw [← HNs.out.1]; exact List.replicate_succ'.symm
                have e2 : acs ++ [y] = (List.range (j + 1)).map fun s => decide (s = 0) := by
                  have hy : y = decide (j = 0) := by rw [← HY.out, Bool.eq_iff_iff]; simp
                  rw [← HNs.out.2, List.range_succ, List.map_append, hy]
                  rfl
                rw [e1, e2] at h
                exact ⟨j + 1, _, _, _, _, _, _, by omega, by go_num, h⟩
              case measure => simp [intOf]; omega
        · have d2 : decide ((j : Int) < 2) = false := by simp; omega
          have hj2 : j = 2 := by omega
          have hT := HW.out.tab
          have ht : (⟨cellL, 256, ns, acs⟩ : Tbl) = wordT [] := by
            rw [wordT_eq, ← HcL.out, ← HNs.out.1, ← HNs.out.2, hj2]
            rfl
          have hR : RT wr TT (tcells ⟨cellL, 256, ns, acs⟩ An Aa cn ca) ⟨cellL, 256, ns, acs⟩ :=
            ⟨An, Aa, cn, ca, rfl, HCl.out, Nat.le_of_lt (show 256 < 1048576 by decide), by rw [← HcL.out]; exact fun x hx => by have := List.mem_range.1 hx; omega, (HW.out.nx.rr ((HW.out.rows.weak (K' := fun k => w.heap.size + 1 + 1 ≤ k) fun k _ hk => hk.1.1)) (by omega)).weak fun _ _ _ => trivial, (HW.out.ac.rl (by omega)).weak fun _ _ _ => trivial⟩
          have hTs : (tcells ⟨cellL, 256, ns, acs⟩ An Aa cn ca).size = 259 := hR.size
          obtain ⟨T, hTT⟩ : ∃ T, tcells ⟨cellL, 256, ns, acs⟩ An Aa cn ca = T := ⟨_, rfl⟩
          rw [hTT] at hR hT hTs
          rw [ht] at hR
          have HR := Lib.hid (And.intro hR (And.intro hT (And.intro HW.out.below HW.out.res)))
          clear hR hT ht hTT hj2 HW HNs
          go_wp2_with (first
            | (with_reducible refine at_oper (.load 73 (.tmp 5)) rfl ?_
               refine wpList_load_blk rfl 73 (.tmp 5) rfl (w.heap.size + 1) rfl 73 T _ HR.out.2.1 Tryz.underlying73 rfl (by rw [hTs]; exact size73) ?_)
            | (go_at_call 75
               refine (canonical_c TT T _ wr HR.out.1 wordT_wt).mono ?_
               rintro e w14 ⟨v14, rfl, hd14, hb⟩
               obtain ⟨c14, rfl, z14, o14⟩ := hd14.cells
               have H14 := Lib.hid (And.intro hd14 (And.intro (HR.out.2.2.1.trans (hb.mono HR.out.2.2.1.size)) (HR.out.2.2.2.old hb)))
               clear hd14 hb)
            | (with_reducible refine at_oper (.store 28 (.tmp 2) (.tmp 68)) rfl ?_
               refine wpList_store_blk rfl 28 (.tmp 2) (.tmp 68) rfl rfl w.heap.size c14 nil28 28 rfl rfl H14.out.2.2 (by rw [z14]; exact size28) (by rw [z14]; rfl) o14 ?_
               intro w15 k15 o15
               have K15 := Lib.hid k15
               have O15 := Lib.hid o15
               clear k15 o15))
          refine bodyPost_ret (results_ct rfl _ _ _ rfl w.heap.size rfl 28 _ K15.out Tryz.underlying28 rfl (by rw [z14]; exact size28)) rfl ?_
          have h2 := HR.out.2.2.2.lt
          have h3 := HR.out.2.2.1.size
          exact ⟨_, rfl, (H14.out.1.old fun k hk _ => O15.out.block k (by omega)).weak fun k _ hk => by omega, below_only H14.out.2.1 O15.out (by omega)⟩
end Go.Proofs.YtjgkdfghjeodeaaGreatDoor
