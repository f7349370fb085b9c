/- lengths.canonical. -/
import Derived.Test.YtjgkdfghjeodeaaGreatDoorT29
namespace Go.Proofs.YtjgkdfghjeodeaaGreatDoor
open Go.RowKit

theorem size4 : (Tryz.prog.info? 4).map (·.size) = some 1 := by kernel_rfl
theorem zero36 (w : World) : (zeroValue 36).run Tryz.prog w = .ok (.agg #[.slice none 0 0, .slice none 0 0]) w := by kernel_rfl
/-- a part of a row of bools -/
theorem rb_sub {w : World} {g : Nat} {L : List Bool} (h : Blk w g 4 (vbs L)) (o n c : Nat) (hn : o + n ≤ L.length) (hc : n ≤ c) (hb : n ≤ 140737488355328) (ht : c ≤ 9223372036854775807) : RB w TT (some ⟨g, o, none⟩) n c ((L.drop o).take n) := by
  have hl : ((L.drop o).take n).length = n := by rw [List.length_take, List.length_drop]; omega
  refine ⟨hl, hc, hb, ht, fun j u hu => ⟨_, rfl, trivial, ?_⟩⟩
  have hj : j < n := by have := (List.getElem?_eq_some_iff.1 hu).1; rw [List.length_map, hl] at this; exact this
  have e : (⟨g, o, none⟩ : Addr).add j = ⟨g, o + j, none⟩ := by unfold Addr.add; split <;> simp_all
  rw [e, h.cell, vbs, List.getElem?_toArray]
  rw [List.getElem?_map, List.getElem?_take_of_lt hj, List.getElem?_drop] at hu
  rw [List.getElem?_map]
  exact hu
theorem f_set (f : Nat → Bool) (M i : Nat) (h : i < M) : ((List.range i).map f ++ List.replicate (M - i) false).set i (f i) = (List.range (i + 1)).map f ++ List.replicate (M - (i + 1)) false := by
  rw [List.set_append_right _ _ (by simp), List.length_map, List.length_range, Nat.sub_self, show M - i = (M - (i + 1)) + 1 by omega, List.replicate_succ, List.set_cons_zero, List.range_succ, List.map_append, List.append_assoc]
  rfl
theorem built36 (A1 A2 : Option Addr) (n1 c1 n2 c2 : Nat) : Tryz.prog.built 36 [(0, .slice A1 n1 c1), (1, .slice A2 n2 c2)] = some #[.slice A1 n1 c1, .slice A2 n2 c2] := by kernel_rfl
/-- what 'canonical' hands back -/
def CanR (R : Option (List Bool × List Bool)) (v : Value) (e : Ending) (w' : World) (B : Nat) : Prop := match R with
  | some l => e = .returned (.tuple #[v, vi 0]) ∧ RG w' (fun k => B ≤ k) v l
  | none => e = .returned (.tuple #[v, vi 2]) ∧ v = .agg #[.slice none 0 0, .slice none 0 0]
theorem CanR.form {R : Option (List Bool × List Bool)} {v : Value} {e : Ending} {w' : World} {B : Nat} (h : CanR R v e w' B) : ∃ A1 n1 c1 A2 n2 c2 x, v = .agg #[.slice A1 n1 c1, .slice A2 n2 c2] ∧ e = .returned (.tuple #[v, vi x]) := by
  unfold CanR at h
  split at h
  · obtain ⟨A1, c1, A2, c2, e1, h1, h2⟩ := h.2.ex
    exact ⟨A1, _, c1, A2, _, c2, 0, e1, h.1⟩
  · exact ⟨none, 0, 0, none, 0, 0, 2, h.2, h.1⟩
theorem CanR.old {R : Option (List Bool × List Bool)} {v : Value} {e : Ending} {w' w2 : World} {B B' : Nat} (h : CanR R v e w' B) (hB : B' ≤ B) (ho : Old (fun k => B ≤ k) w' w2) : CanR R v e w2 B' := by
  unfold CanR at h ⊢
  split at h
  · exact ⟨h.1, (h.2.old ho).weak fun k _ hk => by omega⟩
  · exact h
set_option maxRecDepth 100000 in
set_option maxHeartbeats 4000000 in
theorem canonl_c (h p M : Nat) (hM : M = h + p) (hp : 0 < p) (hb : M ≤ 30000000000) (g : FuncId) (caps : Array Value) (f : Nat → Bool) (w : World) (en : ∀ args w, (callFunc g args).run Tryz.prog w = .ok (.enter g args) w)
    (ca : ∀ W n, Below w.heap.size w W → n < M → Calls Tryz.prog g (#[vi n] ++ caps) W fun e W' => e = .returned (.bool (f n)) ∧ Below W.heap.size W W') :
    Calls Tryz.prog 20 #[vi h, vi p, .func (.func g) #[] caps] w fun e w' => ∃ v, CanR (canonL ((List.range M).map f) h p) v e w' w.heap.size ∧ Below w.heap.size w w' := by
  obtain ⟨R, hR⟩ : ∃ R, canonL ((List.range M).map f) h p = R := ⟨_, rfl⟩
  rw [hR]
  have HR := Lib.hid hR
  have HCa := Lib.hid ca
  have HM := Lib.hid hM
  have hsum : (h : Int) + (p : Int) = (M : Int) := by omega
  have hhM : h ≤ M := by omega
  have hpM : p ≤ M := by omega
  clear hR ca hM
  go_enter Tryz.func20, Tryz.ntmps20
  go_upto_region 2 with (first
    | (with_reducible refine at_oper (.alloc 36) rfl ?_
       refine wpList_alloc_rowG w.heap.size rfl rfl 36 rfl _ zero36 ?_
       intro w1 k1 b1 s1)
    | (with_reducible refine at_oper (.makeSlice 26 (.tmp 14) (.tmp 14)) rfl ?_
       refine wpList_makeFullG (w.heap.size + 1) s1 rfl (.tmp 14) (.tmp 14) 26 rfl (.bool false) Tryz.underlying26 info4 rfl M rfl rfl (by omega) (by omega) ?_
       intro w2 k2 b2 s2
       rw [vbs_rep] at k2
       have H2 := Lib.hid (show Below w.heap.size w w2 ∧ Blk w2 w.heap.size 36 #[.slice none 0 0, .slice none 0 0] ∧ Blk w2 (w.heap.size + 1) 4 (vbs (List.replicate M false)) from ⟨b1.trans (b2.mono (by omega)), k1.old (s1 ▸ b2), k2⟩)
       clear k1 b1 s1 k2 b2 s2))
  clear hsum
  go_wp2_with fail
  go_loopw [18] (fun s18 wr => ∃ i : Nat, i ≤ M ∧ s18 = vi i ∧ Below w.heap.size w wr ∧ Blk wr w.heap.size 36 #[.slice none 0 0, .slice none 0 0] ∧ Blk wr (w.heap.size + 1) 4 (vbs ((List.range i).map f ++ List.replicate (M - i) false))) (fun s18 _ => M - (intOf s18).toNat)
  case atStart => exact ⟨0, Nat.zero_le _, rfl, H2.out.1, H2.out.2.1, by simpa using H2.out.2.2⟩
  case round =>
    clear H2
    obtain ⟨i, hi, rfl, hB, k1, k2⟩ := hrel
    have HK := Lib.hid (And.intro hB (And.intro k1 k2))
    clear hB k1 k2
    by_cases hlt : i < M
    · have d1 : decide ((i : Int) < M) = true := by simp; omega
      go_wp2_with (first
        | (with_reducible refine at_calls ?_
           refine (HCa.out wr i HK.out.1 hlt).mono ?_
           rintro e w3 ⟨rfl, hb3⟩
           have H3 := Lib.hid (And.intro (HK.out.1.trans (hb3.mono HK.out.1.size)) (And.intro (HK.out.2.1.old hb3) (HK.out.2.2.old hb3)))
           clear hb3)
        | (with_reducible refine at_oper (.store 4 (.tmp 26) (.tmp 25)) rfl ?_
           refine wpList_store_at rfl 4 (.tmp 26) (.tmp 25) rfl rfl (w.heap.size + 1) i (.bool (f i)) _ 4 rfl rfl H3.out.2.2 (by rw [vbs_size, List.length_append, List.length_map, List.length_range, List.length_replicate]; omega) size4 rfl ?_
           intro w4 k4 o4
           have H4 := Lib.hid (And.intro k4 o4)
           clear k4 o4))
      go_roundw
      case rel =>
        have k4 := H4.out.1
        rw [vbs_set, f_set f M i hlt] at k4
        exact ⟨i + 1, by omega, by go_num, below_only H3.out.1 H4.out.2 (by omega), H3.out.2.1.only H4.out.2 (by omega), k4⟩
      case measure => simp [intOf]; omega
    · have d1 : decide ((i : Int) < M) = false := by simp; omega
      have HK2 := Lib.hid (show Below w.heap.size w wr ∧ Blk wr w.heap.size 36 #[.slice none 0 0, .slice none 0 0] ∧ Blk wr (w.heap.size + 1) 4 (vbs ((List.range M).map f)) from ⟨HK.out.1, HK.out.2.1, by
        have := HK.out.2.2
        rw [show i = M by omega, Nat.sub_self, List.replicate_zero, List.append_nil] at this
        exact this⟩)
      obtain ⟨L, hL⟩ : ∃ L, (List.range M).map f = L := ⟨_, rfl⟩
      have hLl : L.length = M := by rw [← hL]; simp
      rw [hL] at HK2 HR
      have HL := Lib.hid (And.intro hL hLl)
      clear HK hL hLl en
      have hne : ¬ M = h := by have := HM.out; omega
      have hMh : M - h = p := by have := HM.out; omega
      go_upto_region 8 with fail
      clear hne hMh
      have hcy := HL.out.2
      obtain ⟨P0, hP0⟩ : ∃ P0, perL (L.drop h) p p 1 = P0 := ⟨_, rfl⟩
      have hPs : 1 ≤ P0 ∧ P0 ≤ p := by
        rw [← hP0]
        rcases perL_spec (L.drop h) p hp p 1 (Nat.le_refl _) with ⟨q1, q2, _⟩ | q1
        · exact ⟨q1, q2⟩
        · rw [q1]; omega
      have HP := Lib.hid hP0
      clear hP0
      go_cut [1, 11] from 31 (fun s1 s11 wz => s1 = vi p ∧ s11 = vi 1 ∧ wz = wr)
      case first =>
        go_wp2_with fail
        go_meet
        case rel => exact ⟨rfl, rfl, rfl⟩
      obtain ⟨rfl, rfl, rfl⟩ := hcut
      apply_assumption
      go_cut [1, 11] from 31 (fun s1 s11 wz => s1 = vi P0 ∧ Below w.heap.size w wz ∧ Blk wz w.heap.size 36 #[.slice none 0 0, .slice none 0 0] ∧ Blk wz (w.heap.size + 1) 4 (vbs L))
      case first =>
        go_wp2_with fail
        go_loopw [1, 11] (fun s1 s11 wx => ∃ q : Nat, 1 ≤ q ∧ q ≤ p ∧ s1 = vi p ∧ s11 = vi q ∧ perL (L.drop h) p (p + 1 - q) q = P0 ∧ Below w.heap.size w wx ∧ Blk wx w.heap.size 36 #[.slice none 0 0, .slice none 0 0] ∧ Blk wx (w.heap.size + 1) 4 (vbs L)) (fun _ s11 _ => p + 1 - (intOf s11).toNat)
        case atStart => exact ⟨1, Nat.le_refl _, hp, rfl, rfl, HP.out, HK2.out⟩
        case round =>
          clear HK2
          obtain ⟨q, hq1, hq2, rfl, rfl, hper, hB, k1, k2⟩ := hrel
          have HK := Lib.hid (And.intro hB (And.intro k1 (And.intro k2 hper)))
          clear hB k1 k2 hper
          by_cases hlt : q < p
          · have d1 : decide ((q : Int) < p) = true := by simp; omega
            obtain ⟨r, hr⟩ : ∃ r, p % q = r := ⟨_, rfl⟩
            have hrem : Int.tmod (p : Int) (q : Int) = (r : Int) := by
              rw [Int.tmod_eq_emod_of_nonneg (by omega), ← Int.natCast_emod, hr]
            have hq0 : ¬ q = 0 := by omega
            have HRr := Lib.hid hr
            clear hr
            by_cases hr0 : r = 0
            · have d2 : ((r : Int) == 0) = true := by simp [hr0]
              obtain ⟨e, he⟩ : ∃ e, p - q = e := ⟨_, rfl⟩
              have hei : (p : Int) - (q : Int) = (e : Int) := by omega
              have hwe : IntKind.i64.wrap (e : Int) = (e : Int) := i64_wrap _ (by omega)
              have hep : e ≤ p := by omega
              have hne : ¬ p = q := by omega
              have HE := Lib.hid (show h + q + e = M from by have := HM.out; omega)
              go_upto_region 11 with fail
              refine wp_region_wq (by kernel_rfl) [(0, true), (1, true), (2, true), (3, true), (4, true), (5, true), (6, true), (7, true), (8, true), (9, true), (10, true), (11, true), (12, true), (13, false), (14, true)] 15 (fun _ => True) (by decide +kernel) (fun _ _ d _ _ h => by cases d <;> exact h) trivial ?_
              iterate 5 (refine wq_r (by simp only [List.getElem?_toArray, List.getElem?_cons_succ, List.getElem?_cons_zero]; rfl) ?_ (fun W hS => ?_) ?_; rotate_left; (focus (clear hS; go_simp; first | done | rfl)); simp only [Act.put, List.setIfInBounds_toArray, List.set_cons_zero, List.set_cons_succ])
              iterate 8 (refine wq_g (by simp only [List.getElem?_toArray, List.getElem?_cons_succ, List.getElem?_cons_zero]; rfl) (by rfl) ?_ (fun W hS => ?_) ?_; rotate_left; (focus (clear hS; go_simp; first | done | rfl)); simp only [Act.put, List.setIfInBounds_toArray, List.set_cons_zero, List.set_cons_succ])
              refine wq_c (by simp only [List.getElem?_toArray, List.getElem?_cons_succ, List.getElem?_cons_zero]; rfl) ?_
              have hkd : Blk wr.drew (w.heap.size + 1) 4 (vbs L) := blk_drew HK.out.2.2.1
              have hb1 := rb_sub hkd (h + q) e e (by rw [HL.out.2, HE.out]; exact Nat.le_refl _) (Nat.le_refl _) (by omega) (by omega)
              have hb2 := rb_sub hkd h e p (by rw [HL.out.2]; have := HE.out; omega) hep (by omega) (by omega)
              obtain ⟨y, hy⟩ : ∃ y, decide ((L.drop (h + q)).take e = (L.drop h).take e) = y := ⟨_, rfl⟩
              have heq := equal_c TT TT _ _ e e e p _ _ wr.drew hb1 hb2
              rw [hy] at heq
              have HEq := Lib.hid heq
              have e1 : (L.drop (h + q)).take e = (L.drop h).drop q := by
                rw [List.drop_drop]
                exact List.take_of_length_le (by rw [List.length_drop, HL.out.2]; have := HE.out; omega)
              have HY := Lib.hid (show ((L.drop h).drop q = (L.drop h).take (p - q)) ↔ y = true by
                rw [← hy, decide_eq_true_eq, he, e1])
              clear e1
              clear hkd hb1 hb2 hy heq
              go_wp2_with (first
                | (with_reducible refine wpList_unguard ?_ ?_ ?_
                   rfl
                   rfl)
                | (go_at_call 49
                   refine HEq.out.mono ?_
                   rintro e7 w7 ⟨rfl, hb⟩
                   have H7 := Lib.hid (show Below wr.heap.size wr w7 from (Below.refl _ _).drew.trans hb)
                   clear hb))
              dsimp only [segQ]
              refine ⟨fun _ => trivial, ?_⟩
              refine wq_r (by simp only [List.getElem?_toArray, List.getElem?_cons_succ, List.getElem?_cons_zero]; rfl) (.bool y) (fun W hS => ?_) ?_
              · clear hS
                go_simp
              simp only [Act.put, List.setIfInBounds_toArray, List.set_cons_zero, List.set_cons_succ]
              refine wq_e ?_
              have HK7 := Lib.hid (And.intro (HK.out.1.trans (H7.out.mono HK.out.1.size)) (And.intro (HK.out.2.1.old H7.out) (HK.out.2.2.1.old H7.out)))
              have hst : perL (L.drop h) p (p + 1 - q) q = if y = true then q else perL (L.drop h) p (p + 1 - (q + 1)) (q + 1) := by
                rw [show p + 1 - q = (p + 1 - (q + 1)) + 1 by omega, perL, if_pos hlt]
                have hr1 : p % q = 0 := by rw [HRr.out]; exact hr0
                by_cases hyt : y = true
                · rw [if_pos hyt, if_pos ⟨hr1, HY.out.2 hyt⟩]
                · rw [if_neg hyt, if_neg (fun h => hyt (HY.out.1 h.2))]
              rw [HK.out.2.2.2] at hst
              have HSt := Lib.hid hst
              clear hst
              cases y with
              | true =>
                go_wp2_with fail
                go_meet
                case rel => exact ⟨by rw [show P0 = q from HSt.out], HK7.out⟩
              | false =>
                go_wp2_with fail
                go_roundw
                case rel => exact ⟨q + 1, by omega, by omega, rfl, by go_num, HSt.out.symm, HK7.out⟩
                case measure => simp [intOf]; omega
            · have d2 : ((r : Int) == 0) = false := by simp [hr0]
              go_upto_region 11 with fail
              refine wp_region_wq (by kernel_rfl) [(0, true), (1, true), (2, true), (3, true), (4, true), (5, true), (6, true), (7, true), (8, true), (9, true), (10, true), (11, true), (12, true), (13, true), (14, true)] 15 (fun _ => True) (by decide +kernel) (fun _ _ d _ _ h => by cases d <;> exact h) trivial ?_
              iterate 5 (refine wq_r (by simp only [List.getElem?_toArray, List.getElem?_cons_succ, List.getElem?_cons_zero]; rfl) ?_ (fun W hS => ?_) ?_; rotate_left; (focus (clear hS; go_simp; first | done | rfl)); simp only [Act.put, List.setIfInBounds_toArray, List.set_cons_zero, List.set_cons_succ])
              iterate 9 (refine wq_s (by simp only [List.getElem?_toArray, List.getElem?_cons_succ, List.getElem?_cons_zero]; rfl) (by rfl) ?_; simp only [Act.put, List.setIfInBounds_toArray, List.set_cons_zero, List.set_cons_succ])
              iterate 1 (refine wq_r (by simp only [List.getElem?_toArray, List.getElem?_cons_succ, List.getElem?_cons_zero]; rfl) ?_ (fun W hS => ?_) ?_; rotate_left; (focus (clear hS; go_simp; first | done | rfl)); simp only [Act.put, List.setIfInBounds_toArray, List.set_cons_zero, List.set_cons_succ])
              refine wq_e ?_
              go_wp2_with fail
              go_roundw
              case rel =>
                have h := HK.out.2.2.2
                rw [show p + 1 - q = (p + 1 - (q + 1)) + 1 by omega, perL, if_pos hlt, if_neg (by rw [HRr.out]; exact fun h => hr0 h.1)] at h
                exact ⟨q + 1, by omega, by omega, rfl, by go_num, h, HK.out.1.drew, HK.out.2.1, HK.out.2.2.1⟩
              case measure => simp [intOf]; omega
          · have d1 : decide ((q : Int) < p) = false := by simp; omega
            have HE := Lib.hid (show P0 = p by
              have h := HK.out.2.2.2
              rw [show q = p by omega, show p + 1 - p = 0 + 1 by omega, perL, if_neg (by omega)] at h
              exact h.symm)
            go_wp2_with fail
            go_meet
            case rel => exact ⟨by rw [HE.out], HK.out.1, HK.out.2.1, HK.out.2.2.1⟩
      case rest =>
        obtain ⟨rfl, hB, k1, k2⟩ := hcut
        have HK := Lib.hid (And.intro hB (And.intro k1 k2))
        clear hB k1 k2 HK2
        apply_assumption
        apply wp_seq_k
        intro _ _
        obtain ⟨k0, hk0⟩ : ∃ k0, shrinkL L P0 h = k0 := ⟨_, rfl⟩
        have hk0h : k0 ≤ h := by
          rw [← hk0]
          have key : ∀ m, shrinkL L P0 m ≤ m := fun m => by
            induction m with
            | zero => exact Nat.le_refl _
            | succ m ih => rw [shrinkL]; split <;> omega
          exact key h
        have HK0 := Lib.hid hk0
        clear hk0
        go_cut [0] from 52 (fun s0 wz => s0 = vi k0 ∧ Below w.heap.size w wz ∧ Blk wz w.heap.size 36 #[.slice none 0 0, .slice none 0 0] ∧ Blk wz (w.heap.size + 1) 4 (vbs L))
        case first =>
          go_wp2_with fail
          go_loopw [0] (fun s0 wx => ∃ k : Nat, k ≤ h ∧ s0 = vi k ∧ shrinkL L P0 k = k0 ∧ Below w.heap.size w wx ∧ Blk wx w.heap.size 36 #[.slice none 0 0, .slice none 0 0] ∧ Blk wx (w.heap.size + 1) 4 (vbs L)) (fun s0 _ => (intOf s0).toNat)
          case atStart => exact ⟨h, Nat.le_refl _, rfl, HK0.out, HK.out⟩
          case round =>
            clear HK
            obtain ⟨k, hkh, rfl, hsh, hB, k1, k2⟩ := hrel
            have HK := Lib.hid (And.intro hB (And.intro k1 (And.intro k2 hsh)))
            clear hB k1 k2 hsh
            by_cases hk : k = 0
            · have d1 : decide ((k : Int) > 0) = false := by simp; omega
              have HZ := Lib.hid (show k = k0 by
                have h := HK.out.2.2.2
                rw [hk, shrinkL] at h
                rw [hk]; exact h)
              go_upto_region 13 with fail
              refine wp_region_wq (by kernel_rfl) [(0, true), (1, true), (2, true), (3, true), (4, true), (5, true), (6, true), (7, true), (8, true), (9, true), (10, true), (11, true), (12, true), (13, true), (14, true), (15, true), (16, true)] 17 (fun _ => True) (by decide +kernel) (fun _ _ d _ _ h => by cases d <;> exact h) trivial ?_
              iterate 3 (refine wq_r (by simp only [List.getElem?_toArray, List.getElem?_cons_succ, List.getElem?_cons_zero]; rfl) ?_ (fun W hS => ?_) ?_; rotate_left; (focus (clear hS; go_simp; first | done | rfl)); simp only [Act.put, List.setIfInBounds_toArray, List.set_cons_zero, List.set_cons_succ])
              iterate 13 (refine wq_s (by simp only [List.getElem?_toArray, List.getElem?_cons_succ, List.getElem?_cons_zero]; rfl) (by rfl) ?_; simp only [Act.put, List.setIfInBounds_toArray, List.set_cons_zero, List.set_cons_succ])
              iterate 1 (refine wq_r (by simp only [List.getElem?_toArray, List.getElem?_cons_succ, List.getElem?_cons_zero]; rfl) ?_ (fun W hS => ?_) ?_; rotate_left; (focus (clear hS; go_simp; first | done | rfl)); simp only [Act.put, List.setIfInBounds_toArray, List.set_cons_zero, List.set_cons_succ])
              refine wq_e ?_
              go_wp2_with fail
              go_meet
              case rel => exact ⟨by rw [HZ.out], HK.out.1.drew, HK.out.2.1, HK.out.2.2.1⟩
            · have d1 : decide ((k : Int) > 0) = true := by simp; omega
              have d1c : decide (0 < k) = true := by simp; omega
              have d1b : 0 < k := by omega
              obtain ⟨j, hj⟩ : ∃ j, k = j + 1 := ⟨k - 1, by omega⟩
              have hkj : (k : Int) - 1 = (j : Int) := by omega
              have hwj : IntKind.i64.wrap (j : Int) = (j : Int) := i64_wrap _ (by omega)
              have hjM : j + P0 < M := by have := HM.out; omega
              have hjM2 : j < M := by omega
              have hc1 : wr.drew.cell? ⟨w.heap.size + 1, j, none⟩ = some (.bool (L.getD j false)) := (HK.out.2.2.1.cell j).trans (vbs_get (by rw [HL.out.2]; exact hjM2))
              obtain ⟨m2, hm2⟩ : ∃ m2, j + P0 = m2 := ⟨_, rfl⟩
              have hwm : IntKind.i64.wrap ((j : Int) + (P0 : Int)) = (m2 : Int) := by rw [i64_wrap _ (by omega)]; omega
              have hm3 : m2 < M := by omega
              have hc2 : wr.drew.cell? ⟨w.heap.size + 1, m2, none⟩ = some (.bool (L.getD m2 false)) := (HK.out.2.2.1.cell m2).trans (vbs_get (by rw [HL.out.2]; exact hm3))
              obtain ⟨x1, hx1⟩ : ∃ x, L.getD j false = x := ⟨_, rfl⟩
              obtain ⟨x2, hx2⟩ : ∃ x, L.getD m2 false = x := ⟨_, rfl⟩
              rw [hx1] at hc1
              rw [hx2] at hc2
              rw [← hm2] at hx2
              clear hm2
              have HX := Lib.hid (And.intro hx1 hx2)
              have HJ := Lib.hid hj
              clear hx1 hx2 hj
              go_upto_region 13 with fail
              refine wp_region_wq (by kernel_rfl) [(0, true), (1, true), (2, true), (3, true), (4, true), (5, true), (6, true), (7, true), (8, true), (9, true), (10, true), (11, true), (12, true), (13, true), (14, true), (15, true), (16, true)] 17 (fun W => W.cell? ⟨w.heap.size + 1, j, none⟩ = some (.bool x1) ∧ W.cell? ⟨w.heap.size + 1, m2, none⟩ = some (.bool x2)) (by decide +kernel) (fun _ _ d _ _ h => by cases d <;> exact h) ⟨hc1, hc2⟩ ?_
              clear hc1 hc2
              iterate 3 (refine wq_r (by simp only [List.getElem?_toArray, List.getElem?_cons_succ, List.getElem?_cons_zero]; rfl) ?_ (fun W hS => ?_) ?_; rotate_left; (focus (clear hS; go_simp; first | done | rfl)); simp only [Act.put, List.setIfInBounds_toArray, List.set_cons_zero, List.set_cons_succ])
              iterate 12 (refine wq_g (by simp only [List.getElem?_toArray, List.getElem?_cons_succ, List.getElem?_cons_zero]; rfl) (by rfl) ?_ (fun W hS => ?_) ?_; rotate_left; (focus (obtain ⟨q1, q2⟩ := hS; go_simp; first | done | rfl)); simp only [Act.put, List.setIfInBounds_toArray, List.set_cons_zero, List.set_cons_succ])
              obtain ⟨z, hz⟩ : ∃ z, (x1 == x2) = z := ⟨_, rfl⟩
              refine wq_g (by simp only [List.getElem?_toArray, List.getElem?_cons_succ, List.getElem?_cons_zero]; rfl) (by rfl) (.bool (x1 == x2)) (fun W hS => ?_) ?_
              · clear hS
                cases x1 <;> cases x2 <;> go_simp
              simp only [Act.put, List.setIfInBounds_toArray, List.set_cons_zero, List.set_cons_succ]
              rw [hz]
              refine wq_r (by simp only [List.getElem?_toArray, List.getElem?_cons_succ, List.getElem?_cons_zero]; rfl) (.bool z) (fun W hS => ?_) ?_
              · clear hS
                go_simp
              simp only [Act.put, List.setIfInBounds_toArray, List.set_cons_zero, List.set_cons_succ]
              refine wq_e ?_
              have HZ := Lib.hid hz
              clear hz
              cases z with
              | true =>
                have HE := Lib.hid (show shrinkL L P0 j = k0 by
                  have h := HK.out.2.2.2
                  rw [HJ.out, shrinkL, HX.out.1, HX.out.2, if_pos (by have := HZ.out; simpa using this)] at h
                  exact h)
                go_wp2_with fail
                go_roundw
                case rel => exact ⟨j, by omega, rfl, HE.out, HK.out.1.drew, HK.out.2.1, HK.out.2.2.1⟩
                case measure => have := HJ.out; simp [intOf]; omega
              | false =>
                have HE := Lib.hid (show k = k0 by
                  have h := HK.out.2.2.2
                  have hk' := HJ.out
                  rw [hk', shrinkL, HX.out.1, HX.out.2, if_neg (by have := HZ.out; simpa using this)] at h
                  omega)
                go_wp2_with fail
                go_meet
                case rel => exact ⟨by rw [HE.out], HK.out.1.drew, HK.out.2.1, HK.out.2.2.1⟩
        case rest =>
          obtain ⟨rfl, hB, k1, k2⟩ := hcut
          have HK3 := Lib.hid (And.intro hB (And.intro k1 k2))
          clear hB k1 k2 HK
          have HRR := Lib.hid (show R = if 512 < k0 + P0 then none else some (L.take k0, (L.drop k0).take P0) by
            have h := HR.out
            unfold canonL at h
            rw [HP.out, HK0.out] at h
            exact h.symm)
          obtain ⟨n2, hn2⟩ : ∃ n2, k0 + P0 = n2 := ⟨_, rfl⟩
          have hsum : (k0 : Int) + (P0 : Int) = (n2 : Int) := by omega
          have hn2M : n2 ≤ M := by have := HM.out; omega
          have hkn : k0 ≤ n2 := by omega
          have hwn : IntKind.i64.wrap (n2 : Int) = (n2 : Int) := i64_wrap _ (by omega)
          have HN2 := Lib.hid hn2
          clear hn2
          apply_assumption
          by_cases hbig : 512 < n2
          · have d1 : decide ((n2 : Int) > 512) = true := by simp; omega
            have d1c : decide (512 < n2) = true := by simp; omega
            go_wp2_with (first
              | (with_reducible refine at_oper (.store 36 (.tmp 6) (.tmp 75)) rfl ?_
                 refine wpList_store_blk rfl 36 (.tmp 6) (.tmp 75) rfl rfl w.heap.size #[.slice none 0 0, .slice none 0 0] _ 36 rfl rfl HK3.out.2.1 size36 rfl (by simp [Value.oneCell']) ?_
                 intro w15 k15 o15
                 have K15 := Lib.hid k15
                 have O15 := Lib.hid o15
                 clear k15 o15))
            refine bodyPost_ret (results_ct rfl _ _ _ rfl w.heap.size rfl 36 _ K15.out Tryz.underlying36 rfl size36) rfl ?_
            refine ⟨.agg #[.slice none 0 0, .slice none 0 0], ?_, below_only HK3.out.1 O15.out (Nat.le_refl _)⟩
            rw [HRR.out, HN2.out, if_pos hbig]
            exact ⟨rfl, rfl⟩
          · have d1 : decide ((n2 : Int) > 512) = false := by simp; omega
            have d1c : decide (512 < n2) = false := by simp; omega
            have hnek : ¬ M = k0 := by have := HM.out; omega
            have hkM : k0 ≤ M := by omega
            have hnk : n2 - k0 = P0 := by have := HN2.out; omega
            obtain ⟨mk, hmk⟩ : ∃ mk, M - k0 = mk := ⟨_, rfl⟩
            have hpm : P0 ≤ mk := by omega
            have HS := Lib.hid (show k0 + P0 ≤ M from by have := HN2.out; omega)
            have hmM : mk ≤ M := by omega
            go_upto_region 17 with fail
            refine wp_region_wq (by kernel_rfl) [(0, true), (1, true), (2, true), (4, true), (5, true), (6, true), (7, true), (8, true), (9, true), (3, false), (10, false), (11, true), (12, false), (13, false)] 12 (fun _ => True) (by decide +kernel) (fun _ _ d _ _ h => by cases d <;> exact h) trivial ?_
            iterate 9 (refine wq_r (by simp only [List.getElem?_toArray, List.getElem?_cons_succ, List.getElem?_cons_zero]; rfl) ?_ (fun W hS => ?_) ?_; rotate_left; (focus (clear hS; go_simp; first | done | rfl)); simp only [Act.put, List.setIfInBounds_toArray, List.set_cons_zero, List.set_cons_succ])
            clear hnk hmk
            refine wq_c (by simp only [List.getElem?_toArray, List.getElem?_cons_succ, List.getElem?_cons_zero]; rfl) ?_
            have hkd : Blk wc.drew (w.heap.size + 1) 4 (vbs L) := blk_drew HK3.out.2.2
            have hcl1 := clone_c TT ⟨w.heap.size + 1, 0, none⟩ k0 M _ wc.drew (rb_sub hkd 0 k0 M (by rw [HL.out.2]; omega) hkM (by omega) (by omega)) (by omega)
            have HCl1 := Lib.hid hcl1
            clear hcl1 hkd
            go_wp2_with (first
              | (go_at_call 50
                 refine HCl1.out.mono ?_
                 rintro e w7 ⟨B1, c7, rfl, hr, hb⟩
                 have H7 := Lib.hid (And.intro hr (show Below wc.heap.size wc w7 from (Below.refl _ _).drew.trans hb))
                 clear hr hb))
            dsimp only [segQ]
            refine ⟨fun _ => trivial, ?_⟩
            refine wq_c (by simp only [List.getElem?_toArray, List.getElem?_cons_succ, List.getElem?_cons_zero]; rfl) ?_
            have hcl2 := clone_c TT ⟨w.heap.size + 1, k0, none⟩ P0 mk _ w7 (rb_sub (HK3.out.2.2.old H7.out.2) k0 P0 mk (by rw [HL.out.2]; exact HS.out) hpm (by omega) (by omega)) (by omega)
            have HCl2 := Lib.hid hcl2
            clear hcl2
            go_wp2_with (first
              | (go_at_call 50
                 refine HCl2.out.mono ?_
                 rintro e w8 ⟨B2, c8, rfl, hr, hb⟩
                 have H8 := Lib.hid (And.intro hr hb)
                 clear hr hb))
            dsimp only [segQ]
            refine ⟨fun _ => trivial, ?_⟩
            refine wq_r (by simp only [List.getElem?_toArray, List.getElem?_cons_succ, List.getElem?_cons_zero]; rfl) (.agg #[.slice B1 k0 c7, .slice B2 P0 c8]) (fun W hS => ?_) ?_
            · refine run_built2 36 0 1 (.tmp 79) (.tmp 86) ?_ (.slice B1 k0 c7) (.slice B2 P0 c8) ?_ ?_ _ (built36 ..) <;> rfl
            simp only [Act.put, List.setIfInBounds_toArray, List.set_cons_zero, List.set_cons_succ]
            refine wq_c (by simp only [List.getElem?_toArray, List.getElem?_cons_succ, List.getElem?_cons_zero]; rfl) ?_
            have HB8 := Lib.hid (HK3.out.1.trans ((H7.out.2.trans (H8.out.2.mono H7.out.2.size)).mono HK3.out.1.size))
            go_wp2_with (first
              | (with_reducible refine at_oper (.store 36 (.tmp 6) (.tmp 87)) rfl ?_
                 refine wpList_store_blk rfl 36 (.tmp 6) (.tmp 87) rfl rfl w.heap.size #[.slice B1 k0 c7, .slice B2 P0 c8] _ 36 rfl rfl ((HK3.out.2.1.old H7.out.2).old H8.out.2) size36 rfl (by simp [Value.oneCell']) ?_
                 intro w15 k15 o15
                 have K15 := Lib.hid k15
                 have O15 := Lib.hid o15
                 clear k15 o15))
            dsimp only [segQ]
            refine ⟨fun h => absurd h (by decide), ?_⟩
            refine wq_c (by simp only [List.getElem?_toArray, List.getElem?_cons_succ, List.getElem?_cons_zero]; rfl) ?_
            go_wp2_with fail
            dsimp only [segQ]
            refine ⟨fun h => absurd h (by decide), ?_⟩
            refine wq_e ?_
            go_wp2_with fail
            refine bodyPost_ret (results_ct rfl _ _ _ rfl w.heap.size rfl 36 _ K15.out Tryz.underlying36 rfl size36) rfl ?_
            have hl1 : (L.take k0).length = k0 := by rw [List.length_take, HL.out.2]; omega
            have hl2 : ((L.drop k0).take P0).length = P0 := by rw [List.length_take, List.length_drop, HL.out.2]; have := HS.out; omega
            have hn5 : k0 + P0 ≤ 512 := by have := HN2.out; omega
            refine ⟨.agg #[.slice B1 k0 c7, .slice B2 P0 c8], ?_, below_only HB8.out O15.out (Nat.le_refl _)⟩
            rw [HRR.out, if_neg (by omega)]
            have hsz := HK3.out.2.1.lt
            have hsz2 : wc.heap.size ≤ w7.heap.size := H7.out.2.size
            refine ⟨rfl, ⟨by dsimp only; rw [hl2]; exact hPs.1, by dsimp only; omega, B1, c7, B2, c8, by dsimp only; rw [hl1, hl2], ?_, ?_⟩⟩
            · dsimp only
              rw [hl1]
              have hr := (H7.out.1.below H8.out.2).old (w' := w15) fun k hk _ => O15.out.block k (by have h : wc.heap.size ≤ k := hk; omega)
              rw [List.drop_zero] at hr
              exact hr.weak fun k _ hk => by have h : wc.heap.size ≤ k := hk; omega
            · dsimp only
              rw [hl2]
              exact (H8.out.1.old (w' := w15) fun k hk _ => O15.out.block k (by omega)).weak fun k _ hk => by omega
end Go.Proofs.YtjgkdfghjeodeaaGreatDoor
