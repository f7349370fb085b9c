/- language.node. -/
import Derived.Test.YtjgkdfghjeodeaaGreatDoorT38
import Derived.Test.YtjgkdfghjeodeaaGreatDoorT39
import Derived.Test.YtjgkdfghjeodeaaGreatDoorT40
namespace Go.Proofs.YtjgkdfghjeodeaaGreatDoor
open Go.RowKit

theorem nodeD_1 (cc l r mn : Nat) (mx : Option Nat) (ds : List Dfa) : nodeD ⟨1, cc, l, r, mn, mx⟩ ds = noneD := if_pos rfl
theorem nodeD_2 (cc l r mn : Nat) (mx : Option Nat) (ds : List Dfa) : nodeD ⟨2, cc, l, r, mn, mx⟩ ds = wordD [] := by
  unfold nodeD
  rw [if_neg (by simp), if_pos rfl]
theorem nodeD_3 (cc l r mn : Nat) (mx : Option Nat) (ds : List Dfa) : nodeD ⟨3, cc, l, r, mn, mx⟩ ds = lettersD cc := by
  unfold nodeD
  rw [if_neg (by simp), if_neg (by simp), if_pos rfl]
theorem nodeD_4 (cc l r mn : Nat) (mx : Option Nat) (ds : List Dfa) : nodeD ⟨4, cc, l, r, mn, mx⟩ ds = concatD (ds.getD l nil3) (ds.getD r nil3) := by
  unfold nodeD
  rw [if_neg (by simp), if_neg (by simp), if_neg (by simp), if_pos rfl]
theorem nodeD_5 (cc l r mn : Nat) (mx : Option Nat) (ds : List Dfa) : nodeD ⟨5, cc, l, r, mn, mx⟩ ds = combineD (ds.getD l nil3) (ds.getD r nil3) (· || ·) := by
  unfold nodeD
  rw [if_neg (by simp), if_neg (by simp), if_neg (by simp), if_neg (by simp), if_pos rfl]
theorem nodeD_6 (cc l r mn : Nat) (mx : Option Nat) (ds : List Dfa) : nodeD ⟨6, cc, l, r, mn, mx⟩ ds = combineD (ds.getD l nil3) (ds.getD r nil3) (· && ·) := by
  unfold nodeD
  rw [if_neg (by simp), if_neg (by simp), if_neg (by simp), if_neg (by simp), if_neg (by simp), if_pos rfl]
theorem nodeD_7 (cc l r mn : Nat) (mx : Option Nat) (ds : List Dfa) : nodeD ⟨7, cc, l, r, mn, mx⟩ ds = notD (ds.getD l nil3) := by
  unfold nodeD
  rw [if_neg (by simp), if_neg (by simp), if_neg (by simp), if_neg (by simp), if_neg (by simp), if_neg (by simp), if_pos rfl]
theorem nodeD_8 (cc l r mn : Nat) (mx : Option Nat) (ds : List Dfa) : nodeD ⟨8, cc, l, r, mn, mx⟩ ds = repeatD (ds.getD l nil3) mn mx := by
  unfold nodeD
  rw [if_neg (by simp), if_neg (by simp), if_neg (by simp), if_neg (by simp), if_neg (by simp), if_neg (by simp), if_neg (by simp)]
theorem wordD_2 : (wordD []).2 = 0 := rfl
set_option maxRecDepth 100000 in
set_option maxHeartbeats 2000000 in
theorem node_c (Kl : Nat → Prop) (n : Nd) (ds : List Dfa) (ad : Addr) (N c : Nat) (w : World) (hn : NodeOk ds.length n) (hl : DL w Kl ad ds) (hv : ∀ d ∈ ds, VD d) (hN : ds.length ≤ N) (_hN2 : N ≤ 1000) (_hc : N ≤ c) (hT : Tab w) (hh : 0 < w.heap.size) :
    Calls Tryz.prog 16 #[ndV n, .slice (some ad) N c] w (GD (nodeD n ds) w) := by
  obtain ⟨k, cc, l, r, mn, mx⟩ := n
  obtain ⟨R, hR⟩ : ∃ R, nodeD ⟨k, cc, l, r, mn, mx⟩ ds = R := ⟨_, rfl⟩
  rw [hR]
  have HR := Lib.hid hR
  have HN := Lib.hid (And.intro hn (And.intro hl hv))
  have HT := Lib.hid (And.intro hT hh)
  have hk1 := hn.k1
  have hk8 := hn.k8
  dsimp only at hk1 hk8
  clear hR hn hl hv hT hh
  obtain ⟨X, hX⟩ : ∃ X, ndc ⟨k, cc, l, r, mn, mx⟩ = X := ⟨_, rfl⟩
  have hE : ndV ⟨k, cc, l, r, mn, mx⟩ = .agg X := by rw [← hX]; rfl
  have zX : X.size = 9 := by rw [← hX]; rfl
  rw [hE]
  have HX := Lib.hid hX
  clear hX hE
  go_enter Tryz.func16, Tryz.ntmps16
  go_upto_region 1 with (first
    | (with_reducible refine at_oper (.box 58 (.tmp 0)) rfl ?_
       refine wpList_box_rowG w.heap.size rfl rfl 58 (.tmp 0) rfl X rfl ?_
       intro w1 k1 b1 s1)
    | (with_reducible refine at_oper (.alloc 28) rfl ?_
       refine wpList_alloc_rowG (w.heap.size + 1) s1 rfl 28 rfl _ zero28 ?_
       intro w2 k2 b2 s2
       have H2 := Lib.hid (show Below w.heap.size w w2 ∧ Blk w2 w.heap.size 58 (ndc ⟨k, cc, l, r, mn, mx⟩) ∧ Blk w2 (w.heap.size + 1) 28 nil28 from ⟨b1.trans (b2.mono (by omega)), by rw [HX.out]; exact k1.old (s1 ▸ b2), k2⟩)
       clear k1 b1 k2 b2 s2))
  clear s1
  have f0 : w2.cell? ⟨w.heap.size, 0, none⟩ = some (vi k) := H2.out.2.1.cell 0
  have HS := Lib.hid (show w2.cell? ⟨w.heap.size, 5, none⟩ = some (vi l) ∧ w2.cell? ⟨w.heap.size, 6, none⟩ = some (vi r) ∧ w2.cell? ⟨w.heap.size, 7, none⟩ = some (vi mn) ∧ w2.cell? ⟨w.heap.size, 8, none⟩ = some (.int .i64 (mxI mx)) from ⟨H2.out.2.1.cell 5, H2.out.2.1.cell 6, H2.out.2.1.cell 7, H2.out.2.1.cell 8⟩)
  have HW := Lib.hid (show DL w2 Kl ad ds ∧ Tab w2 ∧ 0 < w2.heap.size from ⟨HN.out.2.1.below H2.out.1, HT.out.1.mono HT.out.2 H2.out.1, by have := H2.out.2.1.lt; omega⟩)
  have hk : k = 1 ∨ k = 2 ∨ k = 3 ∨ k = 4 ∨ k = 5 ∨ k = 6 ∨ k = 7 ∨ k = 8 := by omega
  rcases hk with rfl | rfl | rfl | rfl | rfl | rfl | rfl | rfl
  · have HC := Lib.hid (show Calls Tryz.prog 34 #[] w2 (GD R w2) from by
      have h := HR.out
      rw [nodeD_1] at h
      rw [← h]
      exact none_c w2 HW.out.2.1 HW.out.2.2)
    go_wp2_with (first
      | (go_at_call 34
         refine HC.out.mono ?_
         rintro e w4 ⟨v4, rfl, hd4, hb4⟩
         obtain ⟨c4, rfl, z4, o4⟩ := hd4.cells
         have H4 := Lib.hid (And.intro hd4 (And.intro (H2.out.1.trans (hb4.mono H2.out.1.size)) (H2.out.2.2.old hb4)))
         clear hd4 hb4)
      | (with_reducible refine at_oper (.store 28 (.tmp 4) (.tmp 11)) rfl ?_
         refine wpList_store_blk rfl 28 (.tmp 4) (.tmp 11) rfl rfl (w.heap.size + 1) c4 nil28 28 rfl rfl H4.out.2.2 (by rw [z4]; exact size28) (by rw [z4]; rfl) o4 ?_
         intro w8 k8 o8
         have H8 := Lib.hid (And.intro k8 o8)
         clear k8 o8))
    refine bodyPost_ret (results_ct rfl _ _ _ rfl (w.heap.size + 1) rfl 28 _ H8.out.1 Tryz.underlying28 rfl (by rw [z4]; exact size28)) rfl ?_
    have hz := H2.out.2.2.lt
    exact ⟨_, rfl, (H4.out.1.old fun k hk _ => H8.out.2.block k (by have h : w2.heap.size ≤ k := hk; omega)).weak (fun k _ hk => by have h : w2.heap.size ≤ k := hk; show w.heap.size ≤ k; omega), below_only H4.out.2.1 H8.out.2 (by omega)⟩
  · have HC := Lib.hid (show Calls Tryz.prog 35 #[.slice none 0 0] w2 (GD R w2) from by
      have h := HR.out
      rw [nodeD_2] at h
      rw [← h]
      unfold GD
      rw [wordD_2]
      exact word_c none 0 w2)
    go_wp2_with (first
      | (go_at_call 35
         refine HC.out.mono ?_
         rintro e w4 ⟨v4, rfl, hd4, hb4⟩
         obtain ⟨c4, rfl, z4, o4⟩ := hd4.cells
         have H4 := Lib.hid (And.intro hd4 (And.intro (H2.out.1.trans (hb4.mono H2.out.1.size)) (H2.out.2.2.old hb4)))
         clear hd4 hb4)
      | (with_reducible refine at_oper (.store 28 (.tmp 4) (.tmp 16)) rfl ?_
         refine wpList_store_blk rfl 28 (.tmp 4) (.tmp 16) rfl rfl (w.heap.size + 1) c4 nil28 28 rfl rfl H4.out.2.2 (by rw [z4]; exact size28) (by rw [z4]; rfl) o4 ?_
         intro w8 k8 o8
         have H8 := Lib.hid (And.intro k8 o8)
         clear k8 o8))
    refine bodyPost_ret (results_ct rfl _ _ _ rfl (w.heap.size + 1) rfl 28 _ H8.out.1 Tryz.underlying28 rfl (by rw [z4]; exact size28)) rfl ?_
    have hz := H2.out.2.2.lt
    exact ⟨_, rfl, (H4.out.1.old fun k hk _ => H8.out.2.block k (by have h : w2.heap.size ≤ k := hk; omega)).weak (fun k _ hk => by have h : w2.heap.size ≤ k := hk; show w.heap.size ≤ k; omega), below_only H4.out.2.1 H8.out.2 (by omega)⟩
  · have HC := Lib.hid (show Calls Tryz.prog 36 #[.agg (ccells cc)] w2 (GD R w2) from by
      have h := HR.out
      rw [nodeD_3] at h
      rw [← h]
      exact letters_c cc w2 HN.out.1.c256 HW.out.2.1 HW.out.2.2)
    have HL3 := Lib.hid (show ∀ j v, (ccells cc).toList[j]? = some v → w2.cell? ((⟨w.heap.size, 1, none⟩ : Addr).add j) = some v from fun j v hv => by
      have hj : j < 4 := by have := (List.getElem?_eq_some_iff.1 hv).1; simpa [ccells] using this
      have h4 := H2.out.2.1.cell (1 + j)
      have e : (⟨w.heap.size, 1, none⟩ : Addr).add j = ⟨w.heap.size, 1 + j, none⟩ := by
        unfold Addr.add
        split <;> simp_all
      rw [e, h4, ← hv]
      have : j = 0 ∨ j = 1 ∨ j = 2 ∨ j = 3 := by omega
      rcases this with rfl | rfl | rfl | rfl <;> rfl)
    go_wp2_with (first
      | (with_reducible refine at_oper (.load 56 (.tmp 20)) rfl ?_
         refine wpList_load_class rfl (.tmp 20) rfl ⟨w.heap.size, 1, none⟩ rfl cc HL3.out ?_)
      | (go_at_call 36
         refine HC.out.mono ?_
         rintro e w4 ⟨v4, rfl, hd4, hb4⟩
         obtain ⟨c4, rfl, z4, o4⟩ := hd4.cells
         have H4 := Lib.hid (And.intro hd4 (And.intro (H2.out.1.trans (hb4.mono H2.out.1.size)) (H2.out.2.2.old hb4)))
         clear hd4 hb4)
      | (with_reducible refine at_oper (.store 28 (.tmp 4) (.tmp 23)) rfl ?_
         refine wpList_store_blk rfl 28 (.tmp 4) (.tmp 23) rfl rfl (w.heap.size + 1) c4 nil28 28 rfl rfl H4.out.2.2 (by rw [z4]; exact size28) (by rw [z4]; rfl) o4 ?_
         intro w8 k8 o8
         have H8 := Lib.hid (And.intro k8 o8)
         clear k8 o8))
    refine bodyPost_ret (results_ct rfl _ _ _ rfl (w.heap.size + 1) rfl 28 _ H8.out.1 Tryz.underlying28 rfl (by rw [z4]; exact size28)) rfl ?_
    have hz := H2.out.2.2.lt
    exact ⟨_, rfl, (H4.out.1.old fun k hk _ => H8.out.2.block k (by have h : w2.heap.size ≤ k := hk; omega)).weak (fun k _ hk => by have h : w2.heap.size ≤ k := hk; show w.heap.size ≤ k; omega), below_only H4.out.2.1 H8.out.2 (by omega)⟩
  · have hll := HN.out.1.hl.1 (show 1 ≤ arN 4 by decide)
    have hrl := HN.out.1.hr.1 (show arN 4 = 2 by decide)
    dsimp only at hll hrl
    have hlN : l < N := by omega
    have hrN : r < N := by omega
    obtain ⟨c1, z1, q1, _, d1⟩ := HW.out.1 l hll
    obtain ⟨c2, z2, q2, _, d2⟩ := HW.out.1 r hrl
    have v1 : VD (ds.getD l nil3) := HN.out.2.2 _ (getD_mem' hll)
    have v2 : VD (ds.getD r nil3) := HN.out.2.2 _ (getD_mem' hrl)
    have hb2 : Below w2.heap.size w2 w2.drew := (Below.refl _ _).drew
    have HC := Lib.hid (show Calls Tryz.prog 37 #[.agg c1, .agg c2] w2.drew (GD R w2.drew) from by
      have h := HR.out
      rw [nodeD_4] at h
      rw [← h]
      exact concat_c Kl Kl (.agg c1) (.agg c2) (ds.getD l nil3) (ds.getD r nil3) w2.drew (d1.below hb2) v1 (d2.below hb2) v2 (HW.out.2.1.mono HW.out.2.2 hb2) HW.out.2.2)
    have HQ := Lib.hid (And.intro q1 q2)
    clear d1 d2 v1 v2 hb2 q1 q2 hll hrl
    go_upto_region 9 with fail
    refine wp_region_wz (by kernel_rfl) [(0, .r), (1, .r), (2, .r), (3, .r), (4, .r), (5, .r), (6, .r), (7, .r), (8, .r), (9, .r), (10, .c), (11, .p), (12, .p), (13, .c), (14, .c)] 10 (fun W => W.cell? ⟨w.heap.size, 5, none⟩ = some (vi l) ∧ W.cell? ⟨w.heap.size, 6, none⟩ = some (vi r) ∧ (∀ t v, c1.toList[t]? = some v → W.cell? ((ad.add (l * 3)).add t) = some v) ∧ ∀ t v, c2.toList[t]? = some v → W.cell? ((ad.add (r * 3)).add t) = some v) (by decide +kernel) (fun _ _ d _ _ h => by cases d <;> exact h) ⟨HS.out.1, HS.out.2.1, HQ.out.1, HQ.out.2⟩ ?_
    replace H2 := Lib.hid (show Below w.heap.size w w2.drew ∧ Blk w2.drew w.heap.size 58 (ndc ⟨4, cc, l, r, mn, mx⟩) ∧ Blk w2.drew (w.heap.size + 1) 28 nil28 from ⟨H2.out.1.drew, H2.out.2.1, H2.out.2.2⟩)
    clear f0 HS HW HQ
    generalize w2.drew = w2 at *
    refine wz_r (by simp only [List.getElem?_toArray, List.getElem?_cons_zero]; rfl) ?_ (fun W hS => ?_) ?_; rotate_left; (focus (obtain ⟨q5, q6, q1, q2⟩ := hS; clear q1 q2; go_simp; first | done | rfl)); simp only [Act.put, List.setIfInBounds_toArray, List.set_cons_zero, List.set_cons_succ]
    refine wz_r (by simp only [List.getElem?_toArray, List.getElem?_cons_succ, List.getElem?_cons_zero]; rfl) ?_ (fun W hS => ?_) ?_; rotate_left; (focus (obtain ⟨q5, q6, q1, q2⟩ := hS; clear q1 q2; go_simp; first | done | rfl)); simp only [Act.put, List.setIfInBounds_toArray, List.set_cons_zero, List.set_cons_succ]
    refine wz_r (by simp only [List.getElem?_toArray, List.getElem?_cons_succ, List.getElem?_cons_zero]; rfl) ?_ (fun W hS => ?_) ?_; rotate_left; (focus (obtain ⟨q5, q6, q1, q2⟩ := hS; clear q1 q2; go_simp; first | done | rfl)); simp only [Act.put, List.setIfInBounds_toArray, List.set_cons_zero, List.set_cons_succ]
    refine wz_r (by simp only [List.getElem?_toArray, List.getElem?_cons_succ, List.getElem?_cons_zero]; rfl) ?_ (fun W hS => ?_) ?_; rotate_left; (focus (obtain ⟨q5, q6, q1, q2⟩ := hS; clear q1 q2; go_simp; first | done | rfl)); simp only [Act.put, List.setIfInBounds_toArray, List.set_cons_zero, List.set_cons_succ]
    refine wz_r (by simp only [List.getElem?_toArray, List.getElem?_cons_succ, List.getElem?_cons_zero]; rfl) (.agg c1) (fun W hS => run_load_dfa (.tmp 30) rfl (ad.add (l * 3)) rfl c1 z1 hS.2.2.1) ?_
    simp only [Act.put, List.setIfInBounds_toArray, List.set_cons_zero, List.set_cons_succ]
    refine wz_r (by simp only [List.getElem?_toArray, List.getElem?_cons_succ, List.getElem?_cons_zero]; rfl) ?_ (fun W hS => ?_) ?_; rotate_left; (focus (obtain ⟨q5, q6, q1, q2⟩ := hS; clear q1 q2; go_simp; first | done | rfl)); simp only [Act.put, List.setIfInBounds_toArray, List.set_cons_zero, List.set_cons_succ]
    refine wz_r (by simp only [List.getElem?_toArray, List.getElem?_cons_succ, List.getElem?_cons_zero]; rfl) ?_ (fun W hS => ?_) ?_; rotate_left; (focus (obtain ⟨q5, q6, q1, q2⟩ := hS; clear q1 q2; go_simp; first | done | rfl)); simp only [Act.put, List.setIfInBounds_toArray, List.set_cons_zero, List.set_cons_succ]
    refine wz_r (by simp only [List.getElem?_toArray, List.getElem?_cons_succ, List.getElem?_cons_zero]; rfl) ?_ (fun W hS => ?_) ?_; rotate_left; (focus (obtain ⟨q5, q6, q1, q2⟩ := hS; clear q1 q2; go_simp; first | done | rfl)); simp only [Act.put, List.setIfInBounds_toArray, List.set_cons_zero, List.set_cons_succ]
    refine wz_r (by simp only [List.getElem?_toArray, List.getElem?_cons_succ, List.getElem?_cons_zero]; rfl) ?_ (fun W hS => ?_) ?_; rotate_left; (focus (obtain ⟨q5, q6, q1, q2⟩ := hS; clear q1 q2; go_simp; first | done | rfl)); simp only [Act.put, List.setIfInBounds_toArray, List.set_cons_zero, List.set_cons_succ]
    refine wz_r (by simp only [List.getElem?_toArray, List.getElem?_cons_succ, List.getElem?_cons_zero]; rfl) (.agg c2) (fun W hS => run_load_dfa (.tmp 35) rfl (ad.add (r * 3)) rfl c2 z2 hS.2.2.2) ?_
    simp only [Act.put, List.setIfInBounds_toArray, List.set_cons_zero, List.set_cons_succ]
    refine wz_c (by simp only [List.getElem?_toArray, List.getElem?_cons_succ, List.getElem?_cons_zero]; rfl) ?_
    go_wp2_with (first
      | (go_at_call 37
         refine HC.out.mono ?_
         rintro e w4 ⟨v4, rfl, hd4, hb4⟩
         obtain ⟨c4, rfl, z4, o4⟩ := hd4.cells
         have H4 := Lib.hid (And.intro hd4 (And.intro (H2.out.1.trans (hb4.mono H2.out.1.size)) (H2.out.2.2.old hb4)))
         clear hd4 hb4))
    dsimp only [segQ]
    first | refine ⟨fun h => absurd h (by decide), ?_⟩ | skip
    refine wz_p (by simp only [List.getElem?_toArray, List.getElem?_cons_succ, List.getElem?_cons_zero]; rfl) ?_ (fun W => ?_) ?_; rotate_left; (focus (go_simp; first | done | rfl)); simp only [Act.put, List.setIfInBounds_toArray, List.set_cons_zero, List.set_cons_succ]
    refine wz_p (by simp only [List.getElem?_toArray, List.getElem?_cons_succ, List.getElem?_cons_zero]; rfl) ?_ (fun W => ?_) ?_; rotate_left; (focus (go_simp; first | done | rfl)); simp only [Act.put, List.setIfInBounds_toArray, List.set_cons_zero, List.set_cons_succ]
    refine wz_c (by simp only [List.getElem?_toArray, List.getElem?_cons_succ, List.getElem?_cons_zero]; rfl) ?_
    go_wp2_with (first
      | (with_reducible refine at_oper (.store 28 (.tmp 4) (.tmp 38)) rfl ?_
         refine wpList_store_blk rfl 28 (.tmp 4) (.tmp 38) rfl rfl (w.heap.size + 1) c4 nil28 28 rfl rfl H4.out.2.2 (by rw [z4]; exact size28) (by rw [z4]; rfl) o4 ?_
         intro w8 k8 o8
         have H8 := Lib.hid (And.intro k8 o8)
         clear k8 o8))
    dsimp only [segQ]
    first | refine ⟨fun h => absurd h (by decide), ?_⟩ | skip
    refine wz_c (by simp only [List.getElem?_toArray, List.getElem?_cons_succ, List.getElem?_cons_zero]; rfl) ?_
    go_wp2_with fail
    dsimp only [segQ]
    first | refine ⟨fun h => absurd h (by decide), ?_⟩ | skip
    refine wz_e ?_
    go_wp2_with fail
    refine bodyPost_ret (results_ct rfl _ _ _ rfl (w.heap.size + 1) rfl 28 _ H8.out.1 Tryz.underlying28 rfl (by rw [z4]; exact size28)) rfl ?_
    have hz := H2.out.2.2.lt
    exact ⟨_, rfl, (H4.out.1.old fun k hk _ => H8.out.2.block k (by have h : w2.heap.size ≤ k := hk; omega)).weak (fun k _ hk => by have h : w2.heap.size ≤ k := hk; show w.heap.size ≤ k; omega), below_only H4.out.2.1 H8.out.2 (by omega)⟩
  · have hll := HN.out.1.hl.1 (show 1 ≤ arN 5 by decide)
    have hrl := HN.out.1.hr.1 (show arN 5 = 2 by decide)
    dsimp only at hll hrl
    have hlN : l < N := by omega
    have hrN : r < N := by omega
    obtain ⟨c1, z1, q1, _, d1⟩ := HW.out.1 l hll
    obtain ⟨c2, z2, q2, _, d2⟩ := HW.out.1 r hrl
    have v1 : VD (ds.getD l nil3) := HN.out.2.2 _ (getD_mem' hll)
    have v2 : VD (ds.getD r nil3) := HN.out.2.2 _ (getD_mem' hrl)
    have hb2 : Below w2.heap.size w2 w2.drew := (Below.refl _ _).drew
    have HC := Lib.hid (show Calls Tryz.prog 38 #[.agg c1, .agg c2] w2.drew (GD R w2.drew) from by
      have h := HR.out
      rw [nodeD_5] at h
      rw [← h]
      exact or_c Kl Kl (.agg c1) (.agg c2) (ds.getD l nil3) (ds.getD r nil3) w2.drew (d1.below hb2) v1 (d2.below hb2) v2 (HW.out.2.1.mono HW.out.2.2 hb2) HW.out.2.2)
    have HQ := Lib.hid (And.intro q1 q2)
    clear d1 d2 v1 v2 hb2 q1 q2 hll hrl
    go_upto_region 11 with fail
    refine wp_region_wz (by kernel_rfl) [(0, .r), (1, .r), (2, .r), (3, .r), (4, .r), (5, .r), (6, .r), (7, .r), (8, .r), (9, .r), (10, .c), (11, .p), (12, .p), (13, .c), (14, .c)] 10 (fun W => W.cell? ⟨w.heap.size, 5, none⟩ = some (vi l) ∧ W.cell? ⟨w.heap.size, 6, none⟩ = some (vi r) ∧ (∀ t v, c1.toList[t]? = some v → W.cell? ((ad.add (l * 3)).add t) = some v) ∧ ∀ t v, c2.toList[t]? = some v → W.cell? ((ad.add (r * 3)).add t) = some v) (by decide +kernel) (fun _ _ d _ _ h => by cases d <;> exact h) ⟨HS.out.1, HS.out.2.1, HQ.out.1, HQ.out.2⟩ ?_
    replace H2 := Lib.hid (show Below w.heap.size w w2.drew ∧ Blk w2.drew w.heap.size 58 (ndc ⟨5, cc, l, r, mn, mx⟩) ∧ Blk w2.drew (w.heap.size + 1) 28 nil28 from ⟨H2.out.1.drew, H2.out.2.1, H2.out.2.2⟩)
    clear f0 HS HW HQ
    generalize w2.drew = w2 at *
    refine wz_r (by simp only [List.getElem?_toArray, List.getElem?_cons_zero]; rfl) ?_ (fun W hS => ?_) ?_; rotate_left; (focus (obtain ⟨q5, q6, q1, q2⟩ := hS; clear q1 q2; go_simp; first | done | rfl)); simp only [Act.put, List.setIfInBounds_toArray, List.set_cons_zero, List.set_cons_succ]
    refine wz_r (by simp only [List.getElem?_toArray, List.getElem?_cons_succ, List.getElem?_cons_zero]; rfl) ?_ (fun W hS => ?_) ?_; rotate_left; (focus (obtain ⟨q5, q6, q1, q2⟩ := hS; clear q1 q2; go_simp; first | done | rfl)); simp only [Act.put, List.setIfInBounds_toArray, List.set_cons_zero, List.set_cons_succ]
    refine wz_r (by simp only [List.getElem?_toArray, List.getElem?_cons_succ, List.getElem?_cons_zero]; rfl) ?_ (fun W hS => ?_) ?_; rotate_left; (focus (obtain ⟨q5, q6, q1, q2⟩ := hS; clear q1 q2; go_simp; first | done | rfl)); simp only [Act.put, List.setIfInBounds_toArray, List.set_cons_zero, List.set_cons_succ]
    refine wz_r (by simp only [List.getElem?_toArray, List.getElem?_cons_succ, List.getElem?_cons_zero]; rfl) ?_ (fun W hS => ?_) ?_; rotate_left; (focus (obtain ⟨q5, q6, q1, q2⟩ := hS; clear q1 q2; go_simp; first | done | rfl)); simp only [Act.put, List.setIfInBounds_toArray, List.set_cons_zero, List.set_cons_succ]
    refine wz_r (by simp only [List.getElem?_toArray, List.getElem?_cons_succ, List.getElem?_cons_zero]; rfl) (.agg c1) (fun W hS => run_load_dfa (.tmp 45) rfl (ad.add (l * 3)) rfl c1 z1 hS.2.2.1) ?_
    simp only [Act.put, List.setIfInBounds_toArray, List.set_cons_zero, List.set_cons_succ]
    refine wz_r (by simp only [List.getElem?_toArray, List.getElem?_cons_succ, List.getElem?_cons_zero]; rfl) ?_ (fun W hS => ?_) ?_; rotate_left; (focus (obtain ⟨q5, q6, q1, q2⟩ := hS; clear q1 q2; go_simp; first | done | rfl)); simp only [Act.put, List.setIfInBounds_toArray, List.set_cons_zero, List.set_cons_succ]
    refine wz_r (by simp only [List.getElem?_toArray, List.getElem?_cons_succ, List.getElem?_cons_zero]; rfl) ?_ (fun W hS => ?_) ?_; rotate_left; (focus (obtain ⟨q5, q6, q1, q2⟩ := hS; clear q1 q2; go_simp; first | done | rfl)); simp only [Act.put, List.setIfInBounds_toArray, List.set_cons_zero, List.set_cons_succ]
    refine wz_r (by simp only [List.getElem?_toArray, List.getElem?_cons_succ, List.getElem?_cons_zero]; rfl) ?_ (fun W hS => ?_) ?_; rotate_left; (focus (obtain ⟨q5, q6, q1, q2⟩ := hS; clear q1 q2; go_simp; first | done | rfl)); simp only [Act.put, List.setIfInBounds_toArray, List.set_cons_zero, List.set_cons_succ]
    refine wz_r (by simp only [List.getElem?_toArray, List.getElem?_cons_succ, List.getElem?_cons_zero]; rfl) ?_ (fun W hS => ?_) ?_; rotate_left; (focus (obtain ⟨q5, q6, q1, q2⟩ := hS; clear q1 q2; go_simp; first | done | rfl)); simp only [Act.put, List.setIfInBounds_toArray, List.set_cons_zero, List.set_cons_succ]
    refine wz_r (by simp only [List.getElem?_toArray, List.getElem?_cons_succ, List.getElem?_cons_zero]; rfl) (.agg c2) (fun W hS => run_load_dfa (.tmp 50) rfl (ad.add (r * 3)) rfl c2 z2 hS.2.2.2) ?_
    simp only [Act.put, List.setIfInBounds_toArray, List.set_cons_zero, List.set_cons_succ]
    refine wz_c (by simp only [List.getElem?_toArray, List.getElem?_cons_succ, List.getElem?_cons_zero]; rfl) ?_
    go_wp2_with (first
      | (go_at_call 38
         refine HC.out.mono ?_
         rintro e w4 ⟨v4, rfl, hd4, hb4⟩
         obtain ⟨c4, rfl, z4, o4⟩ := hd4.cells
         have H4 := Lib.hid (And.intro hd4 (And.intro (H2.out.1.trans (hb4.mono H2.out.1.size)) (H2.out.2.2.old hb4)))
         clear hd4 hb4))
    dsimp only [segQ]
    first | refine ⟨fun h => absurd h (by decide), ?_⟩ | skip
    refine wz_p (by simp only [List.getElem?_toArray, List.getElem?_cons_succ, List.getElem?_cons_zero]; rfl) ?_ (fun W => ?_) ?_; rotate_left; (focus (go_simp; first | done | rfl)); simp only [Act.put, List.setIfInBounds_toArray, List.set_cons_zero, List.set_cons_succ]
    refine wz_p (by simp only [List.getElem?_toArray, List.getElem?_cons_succ, List.getElem?_cons_zero]; rfl) ?_ (fun W => ?_) ?_; rotate_left; (focus (go_simp; first | done | rfl)); simp only [Act.put, List.setIfInBounds_toArray, List.set_cons_zero, List.set_cons_succ]
    refine wz_c (by simp only [List.getElem?_toArray, List.getElem?_cons_succ, List.getElem?_cons_zero]; rfl) ?_
    go_wp2_with (first
      | (with_reducible refine at_oper (.store 28 (.tmp 4) (.tmp 53)) rfl ?_
         refine wpList_store_blk rfl 28 (.tmp 4) (.tmp 53) rfl rfl (w.heap.size + 1) c4 nil28 28 rfl rfl H4.out.2.2 (by rw [z4]; exact size28) (by rw [z4]; rfl) o4 ?_
         intro w8 k8 o8
         have H8 := Lib.hid (And.intro k8 o8)
         clear k8 o8))
    dsimp only [segQ]
    first | refine ⟨fun h => absurd h (by decide), ?_⟩ | skip
    refine wz_c (by simp only [List.getElem?_toArray, List.getElem?_cons_succ, List.getElem?_cons_zero]; rfl) ?_
    go_wp2_with fail
    dsimp only [segQ]
    first | refine ⟨fun h => absurd h (by decide), ?_⟩ | skip
    refine wz_e ?_
    go_wp2_with fail
    refine bodyPost_ret (results_ct rfl _ _ _ rfl (w.heap.size + 1) rfl 28 _ H8.out.1 Tryz.underlying28 rfl (by rw [z4]; exact size28)) rfl ?_
    have hz := H2.out.2.2.lt
    exact ⟨_, rfl, (H4.out.1.old fun k hk _ => H8.out.2.block k (by have h : w2.heap.size ≤ k := hk; omega)).weak (fun k _ hk => by have h : w2.heap.size ≤ k := hk; show w.heap.size ≤ k; omega), below_only H4.out.2.1 H8.out.2 (by omega)⟩
  · have hll := HN.out.1.hl.1 (show 1 ≤ arN 6 by decide)
    have hrl := HN.out.1.hr.1 (show arN 6 = 2 by decide)
    dsimp only at hll hrl
    have hlN : l < N := by omega
    have hrN : r < N := by omega
    obtain ⟨c1, z1, q1, _, d1⟩ := HW.out.1 l hll
    obtain ⟨c2, z2, q2, _, d2⟩ := HW.out.1 r hrl
    have v1 : VD (ds.getD l nil3) := HN.out.2.2 _ (getD_mem' hll)
    have v2 : VD (ds.getD r nil3) := HN.out.2.2 _ (getD_mem' hrl)
    have hb2 : Below w2.heap.size w2 w2.drew := (Below.refl _ _).drew
    have HC := Lib.hid (show Calls Tryz.prog 39 #[.agg c1, .agg c2] w2.drew (GD R w2.drew) from by
      have h := HR.out
      rw [nodeD_6] at h
      rw [← h]
      exact and_c Kl Kl (.agg c1) (.agg c2) (ds.getD l nil3) (ds.getD r nil3) w2.drew (d1.below hb2) v1 (d2.below hb2) v2 (HW.out.2.1.mono HW.out.2.2 hb2) HW.out.2.2)
    have HQ := Lib.hid (And.intro q1 q2)
    clear d1 d2 v1 v2 hb2 q1 q2 hll hrl
    go_upto_region 13 with fail
    refine wp_region_wz (by kernel_rfl) [(0, .r), (1, .r), (2, .r), (3, .r), (4, .r), (5, .r), (6, .r), (7, .r), (8, .r), (9, .r), (10, .c), (11, .p), (12, .p), (13, .c), (14, .c)] 10 (fun W => W.cell? ⟨w.heap.size, 5, none⟩ = some (vi l) ∧ W.cell? ⟨w.heap.size, 6, none⟩ = some (vi r) ∧ (∀ t v, c1.toList[t]? = some v → W.cell? ((ad.add (l * 3)).add t) = some v) ∧ ∀ t v, c2.toList[t]? = some v → W.cell? ((ad.add (r * 3)).add t) = some v) (by decide +kernel) (fun _ _ d _ _ h => by cases d <;> exact h) ⟨HS.out.1, HS.out.2.1, HQ.out.1, HQ.out.2⟩ ?_
    replace H2 := Lib.hid (show Below w.heap.size w w2.drew ∧ Blk w2.drew w.heap.size 58 (ndc ⟨6, cc, l, r, mn, mx⟩) ∧ Blk w2.drew (w.heap.size + 1) 28 nil28 from ⟨H2.out.1.drew, H2.out.2.1, H2.out.2.2⟩)
    clear f0 HS HW HQ
    generalize w2.drew = w2 at *
    refine wz_r (by simp only [List.getElem?_toArray, List.getElem?_cons_zero]; rfl) ?_ (fun W hS => ?_) ?_; rotate_left; (focus (obtain ⟨q5, q6, q1, q2⟩ := hS; clear q1 q2; go_simp; first | done | rfl)); simp only [Act.put, List.setIfInBounds_toArray, List.set_cons_zero, List.set_cons_succ]
    refine wz_r (by simp only [List.getElem?_toArray, List.getElem?_cons_succ, List.getElem?_cons_zero]; rfl) ?_ (fun W hS => ?_) ?_; rotate_left; (focus (obtain ⟨q5, q6, q1, q2⟩ := hS; clear q1 q2; go_simp; first | done | rfl)); simp only [Act.put, List.setIfInBounds_toArray, List.set_cons_zero, List.set_cons_succ]
    refine wz_r (by simp only [List.getElem?_toArray, List.getElem?_cons_succ, List.getElem?_cons_zero]; rfl) ?_ (fun W hS => ?_) ?_; rotate_left; (focus (obtain ⟨q5, q6, q1, q2⟩ := hS; clear q1 q2; go_simp; first | done | rfl)); simp only [Act.put, List.setIfInBounds_toArray, List.set_cons_zero, List.set_cons_succ]
    refine wz_r (by simp only [List.getElem?_toArray, List.getElem?_cons_succ, List.getElem?_cons_zero]; rfl) ?_ (fun W hS => ?_) ?_; rotate_left; (focus (obtain ⟨q5, q6, q1, q2⟩ := hS; clear q1 q2; go_simp; first | done | rfl)); simp only [Act.put, List.setIfInBounds_toArray, List.set_cons_zero, List.set_cons_succ]
    refine wz_r (by simp only [List.getElem?_toArray, List.getElem?_cons_succ, List.getElem?_cons_zero]; rfl) (.agg c1) (fun W hS => run_load_dfa (.tmp 60) rfl (ad.add (l * 3)) rfl c1 z1 hS.2.2.1) ?_
    simp only [Act.put, List.setIfInBounds_toArray, List.set_cons_zero, List.set_cons_succ]
    refine wz_r (by simp only [List.getElem?_toArray, List.getElem?_cons_succ, List.getElem?_cons_zero]; rfl) ?_ (fun W hS => ?_) ?_; rotate_left; (focus (obtain ⟨q5, q6, q1, q2⟩ := hS; clear q1 q2; go_simp; first | done | rfl)); simp only [Act.put, List.setIfInBounds_toArray, List.set_cons_zero, List.set_cons_succ]
    refine wz_r (by simp only [List.getElem?_toArray, List.getElem?_cons_succ, List.getElem?_cons_zero]; rfl) ?_ (fun W hS => ?_) ?_; rotate_left; (focus (obtain ⟨q5, q6, q1, q2⟩ := hS; clear q1 q2; go_simp; first | done | rfl)); simp only [Act.put, List.setIfInBounds_toArray, List.set_cons_zero, List.set_cons_succ]
    refine wz_r (by simp only [List.getElem?_toArray, List.getElem?_cons_succ, List.getElem?_cons_zero]; rfl) ?_ (fun W hS => ?_) ?_; rotate_left; (focus (obtain ⟨q5, q6, q1, q2⟩ := hS; clear q1 q2; go_simp; first | done | rfl)); simp only [Act.put, List.setIfInBounds_toArray, List.set_cons_zero, List.set_cons_succ]
    refine wz_r (by simp only [List.getElem?_toArray, List.getElem?_cons_succ, List.getElem?_cons_zero]; rfl) ?_ (fun W hS => ?_) ?_; rotate_left; (focus (obtain ⟨q5, q6, q1, q2⟩ := hS; clear q1 q2; go_simp; first | done | rfl)); simp only [Act.put, List.setIfInBounds_toArray, List.set_cons_zero, List.set_cons_succ]
    refine wz_r (by simp only [List.getElem?_toArray, List.getElem?_cons_succ, List.getElem?_cons_zero]; rfl) (.agg c2) (fun W hS => run_load_dfa (.tmp 65) rfl (ad.add (r * 3)) rfl c2 z2 hS.2.2.2) ?_
    simp only [Act.put, List.setIfInBounds_toArray, List.set_cons_zero, List.set_cons_succ]
    refine wz_c (by simp only [List.getElem?_toArray, List.getElem?_cons_succ, List.getElem?_cons_zero]; rfl) ?_
    go_wp2_with (first
      | (go_at_call 39
         refine HC.out.mono ?_
         rintro e w4 ⟨v4, rfl, hd4, hb4⟩
         obtain ⟨c4, rfl, z4, o4⟩ := hd4.cells
         have H4 := Lib.hid (And.intro hd4 (And.intro (H2.out.1.trans (hb4.mono H2.out.1.size)) (H2.out.2.2.old hb4)))
         clear hd4 hb4))
    dsimp only [segQ]
    first | refine ⟨fun h => absurd h (by decide), ?_⟩ | skip
    refine wz_p (by simp only [List.getElem?_toArray, List.getElem?_cons_succ, List.getElem?_cons_zero]; rfl) ?_ (fun W => ?_) ?_; rotate_left; (focus (go_simp; first | done | rfl)); simp only [Act.put, List.setIfInBounds_toArray, List.set_cons_zero, List.set_cons_succ]
    refine wz_p (by simp only [List.getElem?_toArray, List.getElem?_cons_succ, List.getElem?_cons_zero]; rfl) ?_ (fun W => ?_) ?_; rotate_left; (focus (go_simp; first | done | rfl)); simp only [Act.put, List.setIfInBounds_toArray, List.set_cons_zero, List.set_cons_succ]
    refine wz_c (by simp only [List.getElem?_toArray, List.getElem?_cons_succ, List.getElem?_cons_zero]; rfl) ?_
    go_wp2_with (first
      | (with_reducible refine at_oper (.store 28 (.tmp 4) (.tmp 68)) rfl ?_
         refine wpList_store_blk rfl 28 (.tmp 4) (.tmp 68) rfl rfl (w.heap.size + 1) c4 nil28 28 rfl rfl H4.out.2.2 (by rw [z4]; exact size28) (by rw [z4]; rfl) o4 ?_
         intro w8 k8 o8
         have H8 := Lib.hid (And.intro k8 o8)
         clear k8 o8))
    dsimp only [segQ]
    first | refine ⟨fun h => absurd h (by decide), ?_⟩ | skip
    refine wz_c (by simp only [List.getElem?_toArray, List.getElem?_cons_succ, List.getElem?_cons_zero]; rfl) ?_
    go_wp2_with fail
    dsimp only [segQ]
    first | refine ⟨fun h => absurd h (by decide), ?_⟩ | skip
    refine wz_e ?_
    go_wp2_with fail
    refine bodyPost_ret (results_ct rfl _ _ _ rfl (w.heap.size + 1) rfl 28 _ H8.out.1 Tryz.underlying28 rfl (by rw [z4]; exact size28)) rfl ?_
    have hz := H2.out.2.2.lt
    exact ⟨_, rfl, (H4.out.1.old fun k hk _ => H8.out.2.block k (by have h : w2.heap.size ≤ k := hk; omega)).weak (fun k _ hk => by have h : w2.heap.size ≤ k := hk; show w.heap.size ≤ k; omega), below_only H4.out.2.1 H8.out.2 (by omega)⟩
  · have hll := HN.out.1.hl.1 (show 1 ≤ arN 7 by decide)
    dsimp only at hll
    have hlN : l < N := by omega
    obtain ⟨c1, z1, q1, _, d1⟩ := HW.out.1 l hll
    have v1 : VD (ds.getD l nil3) := HN.out.2.2 _ (getD_mem' hll)
    have HC := Lib.hid (show Calls Tryz.prog 40 #[.agg c1] w2 (GD R w2) from by
      have h := HR.out
      rw [nodeD_7] at h
      rw [← h]
      exact not_D_c Kl (.agg c1) (ds.getD l nil3) w2 d1 v1 HW.out.2.1 HW.out.2.2)
    have HQ := Lib.hid q1
    have f5 := HS.out.1
    clear d1 v1 q1 hll
    go_wp2_with (first
      | (with_reducible refine at_oper (.load 28 (.tmp 75)) rfl ?_
         refine wpList_load_dfa rfl (.tmp 75) rfl (ad.add (l * 3)) rfl c1 z1 HQ.out ?_)
      | (go_at_call 40
         refine HC.out.mono ?_
         rintro e w4 ⟨v4, rfl, hd4, hb4⟩
         obtain ⟨c4, rfl, z4, o4⟩ := hd4.cells
         have H4 := Lib.hid (And.intro hd4 (And.intro (H2.out.1.trans (hb4.mono H2.out.1.size)) (H2.out.2.2.old hb4)))
         clear hd4 hb4)
      | (with_reducible refine at_oper (.store 28 (.tmp 4) (.tmp 78)) rfl ?_
         refine wpList_store_blk rfl 28 (.tmp 4) (.tmp 78) rfl rfl (w.heap.size + 1) c4 nil28 28 rfl rfl H4.out.2.2 (by rw [z4]; exact size28) (by rw [z4]; rfl) o4 ?_
         intro w8 k8 o8
         have H8 := Lib.hid (And.intro k8 o8)
         clear k8 o8))
    refine bodyPost_ret (results_ct rfl _ _ _ rfl (w.heap.size + 1) rfl 28 _ H8.out.1 Tryz.underlying28 rfl (by rw [z4]; exact size28)) rfl ?_
    have hz := H2.out.2.2.lt
    exact ⟨_, rfl, (H4.out.1.old fun k hk _ => H8.out.2.block k (by have h : w2.heap.size ≤ k := hk; omega)).weak (fun k _ hk => by have h : w2.heap.size ≤ k := hk; show w.heap.size ≤ k; omega), below_only H4.out.2.1 H8.out.2 (by omega)⟩
  · have hll := HN.out.1.hl.1 (show 1 ≤ arN 8 by decide)
    have h8 := HN.out.1.h8 rfl
    dsimp only at hll h8
    have hlN : l < N := by omega
    obtain ⟨c1, z1, q1, _, d1⟩ := HW.out.1 l hll
    have v1 : VD (ds.getD l nil3) := HN.out.2.2 _ (getD_mem' hll)
    have hb2 : Below w2.heap.size w2 w2.drew := (Below.refl _ _).drew
    have HC := Lib.hid (show Calls Tryz.prog 41 #[.agg c1, vi mn, .int .i64 (mxI mx)] w2.drew (GD R w2.drew) from by
      have h := HR.out
      rw [nodeD_8] at h
      rw [← h]
      exact repeat_c Kl (.agg c1) (ds.getD l nil3) mn mx h8.1 h8.2 w2.drew (d1.below hb2) v1 (HW.out.2.1.mono HW.out.2.2 hb2) HW.out.2.2)
    have HQ := Lib.hid q1
    clear d1 v1 hb2 q1 hll h8
    go_upto_region 16 with fail
    refine wp_region_wz (by kernel_rfl) [(0, .r), (1, .r), (2, .r), (3, .r), (4, .r), (5, .r), (6, .r), (7, .r), (8, .r), (9, .c), (10, .p), (11, .p), (12, .c), (13, .c)] 9 (fun W => W.cell? ⟨w.heap.size, 5, none⟩ = some (vi l) ∧ W.cell? ⟨w.heap.size, 7, none⟩ = some (vi mn) ∧ W.cell? ⟨w.heap.size, 8, none⟩ = some (.int .i64 (mxI mx)) ∧ (∀ t v, c1.toList[t]? = some v → W.cell? ((ad.add (l * 3)).add t) = some v)) (by decide +kernel) (fun _ _ d _ _ h => by cases d <;> exact h) ⟨HS.out.1, HS.out.2.2.1, HS.out.2.2.2, HQ.out⟩ ?_
    replace H2 := Lib.hid (show Below w.heap.size w w2.drew ∧ Blk w2.drew w.heap.size 58 (ndc ⟨8, cc, l, r, mn, mx⟩) ∧ Blk w2.drew (w.heap.size + 1) 28 nil28 from ⟨H2.out.1.drew, H2.out.2.1, H2.out.2.2⟩)
    clear f0 HS HW HQ
    generalize w2.drew = w2 at *
    refine wz_r (by simp only [List.getElem?_toArray, List.getElem?_cons_zero]; rfl) ?_ (fun W hS => ?_) ?_; rotate_left; (focus (obtain ⟨q5, q7, q8, q1⟩ := hS; clear q1; go_simp; first | done | rfl)); simp only [Act.put, List.setIfInBounds_toArray, List.set_cons_zero, List.set_cons_succ]
    refine wz_r (by simp only [List.getElem?_toArray, List.getElem?_cons_succ, List.getElem?_cons_zero]; rfl) ?_ (fun W hS => ?_) ?_; rotate_left; (focus (obtain ⟨q5, q7, q8, q1⟩ := hS; clear q1; go_simp; first | done | rfl)); simp only [Act.put, List.setIfInBounds_toArray, List.set_cons_zero, List.set_cons_succ]
    refine wz_r (by simp only [List.getElem?_toArray, List.getElem?_cons_succ, List.getElem?_cons_zero]; rfl) ?_ (fun W hS => ?_) ?_; rotate_left; (focus (obtain ⟨q5, q7, q8, q1⟩ := hS; clear q1; go_simp; first | done | rfl)); simp only [Act.put, List.setIfInBounds_toArray, List.set_cons_zero, List.set_cons_succ]
    refine wz_r (by simp only [List.getElem?_toArray, List.getElem?_cons_succ, List.getElem?_cons_zero]; rfl) ?_ (fun W hS => ?_) ?_; rotate_left; (focus (obtain ⟨q5, q7, q8, q1⟩ := hS; clear q1; go_simp; first | done | rfl)); simp only [Act.put, List.setIfInBounds_toArray, List.set_cons_zero, List.set_cons_succ]
    refine wz_r (by simp only [List.getElem?_toArray, List.getElem?_cons_succ, List.getElem?_cons_zero]; rfl) (.agg c1) (fun W hS => run_load_dfa (.tmp 83) rfl (ad.add (l * 3)) rfl c1 z1 hS.2.2.2) ?_
    simp only [Act.put, List.setIfInBounds_toArray, List.set_cons_zero, List.set_cons_succ]
    refine wz_r (by simp only [List.getElem?_toArray, List.getElem?_cons_succ, List.getElem?_cons_zero]; rfl) ?_ (fun W hS => ?_) ?_; rotate_left; (focus (obtain ⟨q5, q7, q8, q1⟩ := hS; clear q1; go_simp; first | done | rfl)); simp only [Act.put, List.setIfInBounds_toArray, List.set_cons_zero, List.set_cons_succ]
    refine wz_r (by simp only [List.getElem?_toArray, List.getElem?_cons_succ, List.getElem?_cons_zero]; rfl) ?_ (fun W hS => ?_) ?_; rotate_left; (focus (obtain ⟨q5, q7, q8, q1⟩ := hS; clear q1; go_simp; first | done | rfl)); simp only [Act.put, List.setIfInBounds_toArray, List.set_cons_zero, List.set_cons_succ]
    refine wz_r (by simp only [List.getElem?_toArray, List.getElem?_cons_succ, List.getElem?_cons_zero]; rfl) ?_ (fun W hS => ?_) ?_; rotate_left; (focus (obtain ⟨q5, q7, q8, q1⟩ := hS; clear q1; go_simp; first | done | rfl)); simp only [Act.put, List.setIfInBounds_toArray, List.set_cons_zero, List.set_cons_succ]
    refine wz_r (by simp only [List.getElem?_toArray, List.getElem?_cons_succ, List.getElem?_cons_zero]; rfl) ?_ (fun W hS => ?_) ?_; rotate_left; (focus (obtain ⟨q5, q7, q8, q1⟩ := hS; clear q1; go_simp; first | done | rfl)); simp only [Act.put, List.setIfInBounds_toArray, List.set_cons_zero, List.set_cons_succ]
    refine wz_c (by simp only [List.getElem?_toArray, List.getElem?_cons_succ, List.getElem?_cons_zero]; rfl) ?_
    go_wp2_with (first
      | (go_at_call 41
         refine HC.out.mono ?_
         rintro e w4 ⟨v4, rfl, hd4, hb4⟩
         obtain ⟨c4, rfl, z4, o4⟩ := hd4.cells
         have H4 := Lib.hid (And.intro hd4 (And.intro (H2.out.1.trans (hb4.mono H2.out.1.size)) (H2.out.2.2.old hb4)))
         clear hd4 hb4))
    dsimp only [segQ]
    first | refine ⟨fun h => absurd h (by decide), ?_⟩ | skip
    refine wz_p (by simp only [List.getElem?_toArray, List.getElem?_cons_succ, List.getElem?_cons_zero]; rfl) ?_ (fun W => ?_) ?_; rotate_left; (focus (go_simp; first | done | rfl)); simp only [Act.put, List.setIfInBounds_toArray, List.set_cons_zero, List.set_cons_succ]
    refine wz_p (by simp only [List.getElem?_toArray, List.getElem?_cons_succ, List.getElem?_cons_zero]; rfl) ?_ (fun W => ?_) ?_; rotate_left; (focus (go_simp; first | done | rfl)); simp only [Act.put, List.setIfInBounds_toArray, List.set_cons_zero, List.set_cons_succ]
    refine wz_c (by simp only [List.getElem?_toArray, List.getElem?_cons_succ, List.getElem?_cons_zero]; rfl) ?_
    go_wp2_with (first
      | (with_reducible refine at_oper (.store 28 (.tmp 4) (.tmp 90)) rfl ?_
         refine wpList_store_blk rfl 28 (.tmp 4) (.tmp 90) rfl rfl (w.heap.size + 1) c4 nil28 28 rfl rfl H4.out.2.2 (by rw [z4]; exact size28) (by rw [z4]; rfl) o4 ?_
         intro w8 k8 o8
         have H8 := Lib.hid (And.intro k8 o8)
         clear k8 o8))
    dsimp only [segQ]
    first | refine ⟨fun h => absurd h (by decide), ?_⟩ | skip
    refine wz_c (by simp only [List.getElem?_toArray, List.getElem?_cons_succ, List.getElem?_cons_zero]; rfl) ?_
    go_wp2_with fail
    dsimp only [segQ]
    first | refine ⟨fun h => absurd h (by decide), ?_⟩ | skip
    refine wz_e ?_
    go_wp2_with fail
    refine bodyPost_ret (results_ct rfl _ _ _ rfl (w.heap.size + 1) rfl 28 _ H8.out.1 Tryz.underlying28 rfl (by rw [z4]; exact size28)) rfl ?_
    have hz := H2.out.2.2.lt
    exact ⟨_, rfl, (H4.out.1.old fun k hk _ => H8.out.2.block k (by have h : w2.heap.size ≤ k := hk; omega)).weak (fun k _ hk => by have h : w2.heap.size ≤ k := hk; show w.heap.size ≤ k; omega), below_only H4.out.2.1 H8.out.2 (by omega)⟩
end Go.Proofs.YtjgkdfghjeodeaaGreatDoor
