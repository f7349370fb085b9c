/- Concat and Star give valid tables. -/
import Derived.Test.YtjgkdfghjeodeaaGreatDoorT26
import Derived.Test.YtjgkdfghjeodeaaGreatDoorT27
namespace Go.Proofs.YtjgkdfghjeodeaaGreatDoor

theorem canonical_vd {a : Dfa} (h : VD a) : VD (canonical (tableOf a)) := by
  have h1 := canonB_spec (canonical_cb (tableOf_wt h))
  exact h1.1.vd (Nat.le_trans h1.2 h.top)
/-- a concatenation's states -/
def JC (x : Tbl) (s : St) : Prop := s.p < x.nxt.length ∧ s.q = 0 ∧ s.s < 18446744073709551616
theorem targets_lt {t : Tbl} (hw : WT t) (hn : t.nxt.length ≤ 64) (s b : Nat) (hb : b < 256) : targets t s b < 18446744073709551616 := tg_lt t hw hn s b hb _ (Nat.le_refl _)
theorem jc_enter {x : Tbl} {s : St} (h : JC x s) : JC x (ccEnter x s) := by
  unfold ccEnter
  split
  · exact ⟨h.1, h.2.1, Nat.or_lt_two_pow (n := 64) h.2.2 (by decide)⟩
  · exact h
theorem jc_next {x y : Tbl} (hx : WT x) (hy : WT y) (hn : y.nxt.length ≤ 64) {s : St} {b : Nat} (h : JC x s) (hb : b < 256) : JC x (ccNext x y s b) :=
  jc_enter ⟨step_lt hx h.1 hb, rfl, targets_lt hy hn _ _ hb⟩
/-- a star's states -/
def JS_ (s : St) : Prop := s.p < 2 ∧ s.q = 0 ∧ s.s < 18446744073709551616
theorem js_next {x : Tbl} (hx : WT x) (hn : x.nxt.length ≤ 64) {s : St} {b : Nat} (hb : b < 256) : JS_ (stNext x s b) := by
  unfold stNext
  split
  · exact ⟨Nat.zero_lt_succ _, rfl, Nat.or_lt_two_pow (n := 64) (targets_lt hx hn _ _ hb) (by decide)⟩
  · exact ⟨Nat.zero_lt_succ _, rfl, targets_lt hx hn _ _ hb⟩
end Go.Proofs.YtjgkdfghjeodeaaGreatDoor
namespace Go.Proofs.YtjgkdfghjeodeaaGreatDoor
open Go.RowKit

set_option maxRecDepth 100000 in
set_option maxHeartbeats 2000000 in
theorem count_c (K : Nat → Prop) (v : Value) (d : Dfa) (N : Nat) (w : World) (hd : RD w K v d) (hv : VD d) (hN : N ≤ 4) : Calls Tryz.prog 8 #[v, vi N] w
    fun e w' => e = .returned (.tuple #[vi (countD d N), vi 0]) ∧ Below w.heap.size w w' := by
  obtain ⟨cs1, rfl, z1, o1⟩ := hd.cells
  have HD := Lib.hid (And.intro hd hv)
  have hcl := count_le hv hN
  obtain ⟨k, hk⟩ : ∃ k, countD d N = k := ⟨_, rfl⟩
  rw [hk] at hcl ⊢
  have HK := Lib.hid hk
  clear hd hv hk
  have d1 : decide ((N : Int) < 0) = false := by simp
  have d2 : decide ((N : Int) > 64) = false := by simp; omega
  have d3 : decide ((k : Int) > 1099511627776) = false := by simp; omega
  go_enter Tryz.func8, Tryz.ntmps8
  go_upto_region 3 with (first
    | (with_reducible refine wpList_unguard ?_ ?_ ?_
       rfl
       rfl)
    | (with_reducible refine at_oper (.box 28 (.tmp 0)) rfl ?_
       refine wpList_box_rowG w.heap.size rfl rfl 28 (.tmp 0) rfl cs1 rfl ?_
       intro w1 k1 b1 s1
       have H1 := Lib.hid (And.intro b1 k1)
       clear b1 k1 s1)
    | (with_reducible refine at_oper (.load 28 (.tmp 2)) rfl ?_
       refine wpList_load_blk rfl 28 (.tmp 2) rfl w.heap.size rfl 28 cs1 _ H1.out.2 Tryz.underlying28 rfl (by rw [z1]; exact size28) ?_)
    | (go_at_call 18
       refine (valid_c K _ d w1 (HD.out.1.below H1.out.1) HD.out.2).mono ?_
       rintro e w2 ⟨rfl, hb⟩
       have H2 := Lib.hid (And.intro (H1.out.1.trans (hb.mono H1.out.1.size)) (H1.out.2.old hb))
       clear hb))
  go_upto_region 4 with (first
    | (with_reducible refine at_oper (.load 28 (.tmp 2)) rfl ?_
       refine wpList_load_blk rfl 28 (.tmp 2) rfl w.heap.size rfl 28 cs1 _ H2.out.2 Tryz.underlying28 rfl (by rw [z1]; exact size28) ?_)
    | (go_at_call 22
       refine (counts_c K _ d N w2 (HD.out.1.below H2.out.1) HD.out.2 hN).mono ?_
       rintro e w3 ⟨A, c, rfl, hr, hb⟩
       obtain ⟨ad, A', c', rfl, _, hc1, hrn⟩ := hr.at_ (k := N) (by omega)
       have hrw : ((List.range (N + 1)).map (cntAt d)).getD N [] = cntAt d N := by
         rw [List.getD_eq_getElem?_getD, List.getElem?_map, List.getElem?_range (by omega)]; rfl
       have hcap := hr.cap
       have hp := HD.out.2.pos
       have ht := HD.out.2.top
       rw [hrw, cntAt_len] at hc1 hrn
       obtain ⟨a0, rfl, _, hc2⟩ := hrn.at_ (k := 0) (by omega)
       rw [show (cntAt d N).getD 0 0 = k from HK.out] at hc2
       obtain ⟨n, hn⟩ : ∃ n, d.nxt.length = n := ⟨_, rfl⟩
       rw [hn] at hc1 hp ht
       have e0 : a0.add 0 = a0 := by simp [Addr.add]
       rw [e0] at hc2
       have H3 := Lib.hid (H2.out.1.trans (hb.mono H2.out.1.size))
       clear hr hrn hrw hb hn e0))
  clear hc1 hc2
  go_wp2_with fail
  refine bodyPost_ret (results_tmp2 rfl _ _ _) rfl ?_
  exact ⟨rfl, H3.out⟩
end Go.Proofs.YtjgkdfghjeodeaaGreatDoor
namespace Go.Proofs.YtjgkdfghjeodeaaGreatDoor
open Go.RowKit

theorem take_eq_of {l1 l2 : List Bool} {n : Nat} (h1 : l1.length = n) (h2 : l2.length = n) (h : ∀ i, i < n → l1.getD i false = l2.getD i false) : l1 = l2 := by
  refine List.ext_getElem (h1.trans h2.symm) fun i hi hi2 => ?_
  have := h i (by omega)
  rw [List.getD_eq_getElem?_getD, List.getElem?_eq_getElem hi, List.getD_eq_getElem?_getD, List.getElem?_eq_getElem hi2] at this
  exact this
theorem RB.get {w : World} {K : Nat → Prop} {A : Option Addr} {n c : Nat} {l : List Bool} (h : RB w K A n c l) {i : Nat} (hi : i < n) : ∃ ad, A = some ad ∧ w.cell? (ad.add i) = some (.bool (l.getD i false)) := by
  obtain ⟨ad, x, e, _, hx, hc⟩ := h.at_ hi
  exact ⟨ad, e, by rw [List.getD_eq_getElem?_getD, hx]; exact hc⟩
set_option maxRecDepth 100000 in
set_option maxHeartbeats 1000000 in
theorem equal_c (K1 K2 : Nat → Prop) (A B : Option Addr) (n c m c2 : Nat) (l1 l2 : List Bool) (w : World) (h1 : RB w K1 A n c l1) (h2 : RB w K2 B m c2 l2) : Calls Tryz.prog 49 #[.slice A n c, .slice B m c2] w
    fun e w' => e = .returned (.bool (decide (l1 = l2))) ∧ Below w.heap.size w w' := by
  have b1 := h1.big
  have b2 := h2.big
  have e1 := h1.cap
  have e2 := h2.cap
  have H1 := Lib.hid h1
  have H2 := Lib.hid h2
  obtain ⟨y, hy⟩ : ∃ y, decide (l1 = l2) = y := ⟨_, rfl⟩
  rw [hy]
  have HY := Lib.hid hy
  clear h1 h2 hy
  go_enter Tryz.func49, Tryz.ntmps49
  by_cases hnm : n = m
  · subst hnm
    go_upto_region 4 with fail
    go_loopw [13] (fun s13 wr => ∃ i : Nat, i ≤ n ∧ s13 = vi i ∧ Below w.heap.size w wr ∧ ∀ j, j < i → l1.getD j false = l2.getD j false) (fun s13 _ => n - (intOf s13).toNat)
    case atStart => exact ⟨0, Nat.zero_le _, rfl, Below.refl _ _, fun j hj => by omega⟩
    case round =>
      obtain ⟨i, hi, rfl, hb, hj⟩ := hrel
      have HB := Lib.hid (And.intro hb hj)
      clear hb hj
      by_cases hlt : i < n
      · have d1 : decide ((i : Int) < n) = true := by simp; omega
        obtain ⟨ad, rfl, q1⟩ := (H1.out.below HB.out.1).get hlt
        obtain ⟨bd, rfl, q2⟩ := (H2.out.below HB.out.1).get hlt
        obtain ⟨x1, hx1⟩ : ∃ x, l1.getD i false = x := ⟨_, rfl⟩
        obtain ⟨x2, hx2⟩ : ∃ x, l2.getD i false = x := ⟨_, rfl⟩
        rw [hx1] at q1
        rw [hx2] at q2
        have HX := Lib.hid (And.intro hx1 hx2)
        clear hx1 hx2
        go_upto_region 6 with fail
        refine wp_region_ws (by kernel_rfl) [true, true, true, true, true, true, true, true, true] 9 (fun W => W.cell? (ad.add i) = some (.bool x1) ∧ W.cell? (bd.add i) = some (.bool x2)) (by decide +kernel) (fun _ _ d _ _ h => by cases d <;> exact h) ⟨q1, q2⟩ ?_
        clear q1 q2
        iterate 8 (refine ws_r ?_ (fun W hS => ?_) ?_; rotate_left; (focus (obtain ⟨q1, q2⟩ := hS; go_simp; first | done | rfl)); simp only [Act.put, List.setIfInBounds_toArray, List.set_cons_zero, List.set_cons_succ])
        refine ws_r (.bool (x1 != x2)) (fun W hS => ?_) ?_
        · clear hS
          cases x1 <;> cases x2 <;> (go_simp)
        simp only [Act.put, List.setIfInBounds_toArray, List.set_cons_zero, List.set_cons_succ]
        refine ws_e ?_
        obtain ⟨z, hz⟩ : ∃ z, (x1 != x2) = z := ⟨_, rfl⟩
        rw [hz]
        have HZ := Lib.hid hz
        clear hz
        cases z with
        | false =>
          have hx : x1 = x2 := by have := HZ.out; simpa using this
          have HXX := Lib.hid hx
          clear hx
          go_wp2_with fail
          go_roundw
          case rel => exact ⟨i + 1, by omega, by go_num, HB.out.1.drew, fun j hj => by
            rcases Nat.lt_or_ge j i with h | h
            · exact HB.out.2 j h
            · rw [show j = i by omega, HX.out.1, HX.out.2]; exact HXX.out⟩
          case measure => simp [intOf]; omega
        | true =>
          have hx : x1 ≠ x2 := by have := HZ.out; simpa using this
          have HE := Lib.hid (show y = false by
            rw [← HY.out, decide_eq_false_iff_not]
            intro e
            have := HX.out.1
            rw [e, HX.out.2] at this
            exact hx this.symm)
          clear hx
          go_wp2_with fail
          go_ret
          exact ⟨(show Ending.returned (.bool false) = Ending.returned (.bool y) by rw [HE.out]), HB.out.1.drew⟩
      · have d1 : decide ((i : Int) < n) = false := by simp; omega
        have HE := Lib.hid (show y = true by
          rw [← HY.out, decide_eq_true_eq]
          exact take_eq_of H1.out.len H2.out.len fun j hj => HB.out.2 j (by omega))
        go_wp2_with fail
        go_ret
        exact ⟨(show Ending.returned (.bool true) = Ending.returned (.bool y) by rw [HE.out]), HB.out.1⟩
  · have d1 : ((n : Int) == (m : Int)) = false := by simp; omega
    have d2 : ((n : Int) != (m : Int)) = true := by simp; omega
    have HE := Lib.hid (show y = false by
      rw [← HY.out, decide_eq_false_iff_not]
      intro e
      have h1 := H1.out.len
      rw [e, H2.out.len] at h1
      exact hnm h1.symm)
    go_wp2_with fail
    go_ret
    exact ⟨(show Ending.returned (.bool false) = Ending.returned (.bool y) by rw [HE.out]), Below.refl _ _⟩

set_option maxRecDepth 100000 in
theorem clone_c (K : Nat → Prop) (ad : Addr) (n c : Nat) (l : List Bool) (w : World) (h : RB w K (some ad) n c l) (hn : n ≤ 1048576) : Calls Tryz.prog 50 #[.slice (some ad) n c] w
    fun e w' => ∃ A' c', e = .returned (.slice A' n c') ∧ RL_ w' (fun k => w.heap.size ≤ k) A' n c' l ∧ Below w.heap.size w w' := by
  have e1 := h.cap
  have H := Lib.hid h
  clear h
  have hcl := fun (W : World) (hb : Below w.heap.size w W) => (H.out.below hb).sl
  have hq : ∀ (W : World) (a : Addr), (binOp .eql 26 (.slice (some a) n c) (.slice none 0 0)).run Tryz.prog W = .ok (.bool false) W := fun W a => Lib.run_eql_slice_nil W 26 _ (some a) n c 0 0 Tryz.underlying26
  go_enter Tryz.func50, Tryz.ntmps50
  go_wp2_with (first
    | (at_builtin
       refine wpList_appendSS rfl (.tmp 5) (.tmp 6) 26 rfl (AppS.of (.bool false) (by decide) Tryz.underlying26 info4 rfl) w.heap.size (some ⟨w.heap.size, 0, none⟩) 0 0 [] rfl (Own.lit 4 #[] 0 (Nat.le_refl _) (by decide) rfl) (some ad) n c (l.map Value.bool) rfl (by rw [List.length_map, H.out.len, Nat.mul_one]) (hcl _ ((Below.refl _ _).alloc (Nat.le_refl _) _)) (fun u hu => by obtain ⟨x, _, rfl⟩ := List.mem_map.1 hu; rfl) (by omega) (by omega) (by rw [World.size_alloc]; omega) ?_
       intro A9 c9 w9 hown hgr hA
       have hb9 : Below w.heap.size w w9 := below_grown ((Below.refl _ _).alloc (Nat.le_refl _) _) hgr (by rw [World.size_alloc]; omega) (fun k e => by cases e; exact Nat.le_refl _)
       have H9 := Lib.hid (show Own w9 w.heap.size 4 A9 (0 + n) c9 (l.map Value.bool) ∧ Below w.heap.size w w9 from ⟨hown, hb9⟩)
       clear hown hgr hA hb9))
  go_ret
  have ho := H9.out.1
  rw [Nat.zero_add] at ho
  refine ⟨A9, c9, rfl, ?_, H9.out.2⟩
  exact ⟨H.out.len, ho.cap.1, hn, ho.cap.2, ho.sl fun g hg => (ho.lt g hg).1⟩
end Go.Proofs.YtjgkdfghjeodeaaGreatDoor
