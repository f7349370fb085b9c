/- univocalref02: Unary, Binary. -/
import Derived.Test.YtjgkdfghjeodeaaGreatDoorT41
namespace Go.Proofs.YtjgkdfghjeodeaaGreatDoor
open Go.RowKit

/-- a tree of m nodes is handed back -/
def RxG (m : Nat) (w : World) (e : Ending) (w' : World) : Prop := ∃ A' c' x', e = .returned (.slice A' m c') ∧ GoodX x' ∧ RX w' (fun k => w.heap.size ≤ k) A' m c' x' ∧ Below w.heap.size w w'
theorem ndc_setl (k c l r mn : Nat) (mx : Option Nat) (v : Nat) : (ndc ⟨k, c, l, r, mn, mx⟩).setIfInBounds 5 (vi v) = ndc ⟨k, c, v, r, mn, mx⟩ := by simp [ndc]
theorem ndc_setr (k c l r mn : Nat) (mx : Option Nat) (v : Nat) : (ndc ⟨k, c, l, r, mn, mx⟩).setIfInBounds 6 (vi v) = ndc ⟨k, c, l, v, mn, mx⟩ := by simp [ndc]
theorem ndc_setmn (k c l r mn : Nat) (mx : Option Nat) (v : Nat) : (ndc ⟨k, c, l, r, mn, mx⟩).setIfInBounds 7 (vi v) = ndc ⟨k, c, l, r, v, mx⟩ := by simp [ndc]
theorem ndc_setmx (k c l r mn : Nat) (mx : Option Nat) (v : Nat) : (ndc ⟨k, c, l, r, mn, mx⟩).setIfInBounds 8 (vi v) = ndc ⟨k, c, l, r, mn, some v⟩ := by simp [ndc, mxI_some]
set_option maxRecDepth 100000 in
set_option maxHeartbeats 4000000 in
theorem unary_c (K : Nat → Prop) (A : Option Addr) (n c : Nat) (x : List Nd) (k mn : Nat) (mx : Option Nat) (w : World) (hx : RX w K A n c x) (hg : GoodX x) (hk : (k = 7 ∧ mn = 0 ∧ mx = some 0) ∨ (k = 8 ∧ mn ≤ 16 ∧ ∀ m, mx = some m → m ≤ 16 ∧ mn ≤ m)) (hn : n ≤ 3000000) : Calls Tryz.prog 44 #[ndV ⟨k, 0, 0, 0, mn, mx⟩, .slice A n c] w (RxG (n + 1) w) := by
  obtain ⟨X, hX⟩ : ∃ X, ndc ⟨k, 0, 0, 0, mn, mx⟩ = X := ⟨_, rfl⟩
  have zX : X.size = 9 := by rw [← hX]; rfl
  have hE : ndV ⟨k, 0, 0, 0, mn, mx⟩ = .agg X := by rw [← hX]; rfl
  rw [hE]
  have hcap := hx.cap
  have hpos : 0 < n := by rw [← hx.len]; exact hg.pos
  have HX := Lib.hid (And.intro hX (And.intro hx (And.intro hg hk)))
  clear hX hE hx hg hk
  obtain ⟨m, hm⟩ : ∃ m, n = m + 1 := ⟨n - 1, by omega⟩
  have hsub : (n : Int) - 1 = (m : Int) := by omega
  have hwm : IntKind.i64.wrap (m : Int) = (m : Int) := i64_wrap _ (by omega)
  have HM := Lib.hid hm
  clear hm
  obtain ⟨Y, hY⟩ : ∃ Y, ndc ⟨k, 0, m, 0, mn, mx⟩ = Y := ⟨_, rfl⟩
  have zY : Y.size = 9 := by rw [← hY]; rfl
  have HY := Lib.hid hY
  clear hY
  go_enter Tryz.func44, Tryz.ntmps44
  go_wp2_with (first
    | (with_reducible refine at_oper (.box 58 (.tmp 0)) rfl ?_
       refine wpList_box_rowG w.heap.size rfl rfl 58 (.tmp 0) rfl X rfl ?_
       intro w1 k1 b1 s1
       have H1 := Lib.hid (And.intro k1 b1)
       clear k1 b1 s1)
    | (with_reducible refine at_oper (.store 3 (.tmp 8) (.tmp 7)) rfl ?_
       refine wpList_store_at rfl 3 (.tmp 8) (.tmp 7) rfl rfl w.heap.size 5 (vi m) _ 58 rfl rfl H1.out.1 (by rw [zX]; decide) size3 rfl ?_
       intro w2 k2 o2
       rw [← HX.out.1, ndc_setl, HY.out] at k2
       have H2 := Lib.hid (And.intro k2 (below_only H1.out.2 o2 (Nat.le_refl _)))
       clear k2 o2)
    | (with_reducible refine at_oper (.load 58 (.tmp 2)) rfl ?_
       refine wpList_load_blk rfl 58 (.tmp 2) rfl w.heap.size rfl 58 Y _ H2.out.1 Tryz.underlying58 rfl (by rw [zY]; exact size58) ?_)
    | (go_at_call 93
       rw [show Value.agg Y = ndV ⟨k, 0, m, 0, mn, mx⟩ by rw [← HY.out]; rfl]
       refine (with93_c _ A n c x ⟨k, 0, m, 0, mn, mx⟩ w2 (HX.out.2.1.below H2.out.2) hn).mono ?_
       rintro e w3 ⟨A3, c3, rfl, hr3, hb3⟩
       have H3 := Lib.hid (And.intro hr3 (H2.out.2.trans (hb3.mono H2.out.2.size)))
       clear hr3 hb3))
  go_ret
  have hl : x.length - 1 = m := by rw [HX.out.2.1.len, HM.out]; rfl
  refine ⟨A3, c3, _, rfl, GoodX.unary HX.out.2.2.1 k mn mx HX.out.2.2.2, ?_, H3.out.2⟩
  rw [hl]
  exact H3.out.1.weak fun k _ hk => by have hk : w2.heap.size ≤ k := hk; have := H2.out.2.size; show w.heap.size ≤ k; omega
theorem built58b (k l r : Nat) : Tryz.prog.built 58 [(0, vi k), (2, vi l), (3, vi r)] = some (ndc ⟨k, 0, l, r, 0, some 0⟩) := by kernel_rfl
theorem run_built3 {o : Oper} {ρ : Operand → Value} {w : World} (t : TypeId) (i j k : Nat) (x y z : Operand) (ho : o.op = .build t #[(i, x), (j, y), (k, z)]) (u v s : Value) (hx : ρ x = u) (hy : ρ y = v) (hz : ρ z = s) (cs : Array Value) (hb : Tryz.prog.built t [(i, u), (j, v), (k, s)] = some cs) : (execOp ρ o).run Tryz.prog w = .ok (.value (.agg cs)) w :=
  run_built t _ ho _ (by simp only [List.map_toArray, List.map_cons, List.map_nil, hx, hy, hz]) cs hb
set_option maxRecDepth 100000 in
set_option maxHeartbeats 12000000 in
theorem binary_c (K1 K2 : Nat → Prop) (A B : Option Addr) (n c m d : Nat) (x y : List Nd) (k : Nat) (w : World) (hx : RX w K1 A n c x) (hgx : GoodX x) (hy : RX w K2 B m d y) (hgy : GoodX y) (hk : k = 4 ∨ k = 5 ∨ k = 6) (hn : n + m ≤ 3000000) : Calls Tryz.prog 43 #[vi k, .slice A n c, .slice B m d] w (RxG (n + m + 1) w) := by
  have hcx := hx.cap
  have hcy := hy.cap
  have hpx : 0 < n := by rw [← hx.len]; exact hgx.pos
  have hpy : 0 < m := by rw [← hy.len]; exact hgy.pos
  have hk6 : k ≤ 6 := by omega
  have HX := Lib.hid (And.intro hx (And.intro hgx hx.len))
  have HY := Lib.hid (And.intro hy (And.intro hgy hy.len))
  have HK := Lib.hid hk
  clear hx hgx hy hgy hk
  go_enter Tryz.func43, Tryz.ntmps43
  go_upto_region 2 with fail
  have H2 := Lib.hid (show Below w.heap.size w (w.alloc (.cells #[] 58)) ∧ OwnS (w.alloc (.cells #[] 58)) w.heap.size 58 9 (some ⟨w.heap.size, 0, none⟩) 0 0 (ndl (x.take 0)) from
    ⟨(Below.refl _ _).alloc (Nat.le_refl _) _, by have h := OwnS.lit (w := w) (base := w.heap.size) 58 9 0 #[] (Nat.le_refl _) (by decide) rfl; simpa [ndl] using h⟩)
  generalize w.alloc (.cells #[] 58) = w2 at *
  go_wp2_with fail
  go_loopw [7, 8] (fun s7 s8 wr => ∃ (i : Nat) (A' : Option Addr) (c' : Nat), i ≤ n ∧ s8 = vi i ∧ s7 = .slice A' i c' ∧ Below w.heap.size w wr ∧ OwnS wr w.heap.size 58 9 A' i c' (ndl (x.take i))) (fun _ s8 _ => n - (intOf s8).toNat)
  case atStart => exact ⟨0, _, _, Nat.zero_le _, rfl, rfl, H2.out⟩
  case round =>
    clear H2
    obtain ⟨i, A', c', hi, rfl, rfl, hB⟩ := hrel
    have HB := Lib.hid hB
    have hc' := hB.2.cap.1
    clear hB
    by_cases hlt : i < n
    · have d1 : decide ((i : Int) < n) = true := by simp; omega
      obtain ⟨z, hz⟩ : ∃ z, x[i]? = some z := ⟨_, List.getElem?_eq_getElem (by rw [HX.out.2.2]; exact hlt)⟩
      obtain ⟨ad, rfl, _, hq⟩ := (HX.out.1.below HB.out.1).at_ hz
      obtain ⟨Y, hY⟩ : ∃ Y, ndc z = Y := ⟨_, rfl⟩
      have zY : Y.size = 9 := by rw [← hY]; rfl
      have hfy := fold_nd z
      rw [hY] at hfy
      have HZ := Lib.hid (And.intro hY (And.intro hq (And.intro hfy hz)))
      clear hY hq hfy hz
      go_wp2_with (first
        | (with_reducible refine at_oper (.load 58 (.tmp 22)) rfl ?_
           refine wpList_load_nd rfl (.tmp 22) rfl (ad.add (i * 9)) rfl z HZ.out.2.1 ?_
           rw [HZ.out.1])
        | (at_builtin
           rw [HZ.out.2.2.1]
           have hsz := HB.out.1.size
           refine wpList_appendSS rfl (.tmp 19) (.tmp 24) 33 rfl app33 w.heap.size A' i c' (ndl (x.take i)) rfl (HB.out.2.alloc _) _ 1 1 Y.toList rfl (by rw [Array.length_toList, zY]) (K := TT) ((Blk.new wr 58 Y).sl.weak fun _ _ _ => trivial) (by rw [← HZ.out.1]; exact fun u hu => ndl_one [z] u (by simpa [ndl] using hu)) (by omega) (by omega) (by rw [World.size_alloc]; omega) ?_
           intro A4 c4 w4 own4 g4 _
           have H4 := Lib.hid (show Below w.heap.size w w4 ∧ OwnS w4 w.heap.size 58 9 A4 (i + 1) c4 (ndl (x.take (i + 1))) from
             ⟨below_grown (HB.out.1.alloc HB.out.1.size _) g4 (by rw [World.size_alloc]; omega) (fun k e => (HB.out.2.lt _ e).1), by rw [take_snoc_of HZ.out.2.2.2, ndl_snoc, HZ.out.1]; exact own4⟩)
           clear own4 g4 hsz))
      go_roundw
      case rel => exact ⟨i + 1, A4, c4, by omega, by go_num, rfl, H4.out⟩
      case measure => simp [intOf]; omega
    · have d1 : decide ((i : Int) < n) = false := by simp; omega
      obtain rfl : n = i := by omega
      have H5 := Lib.hid (show Below w.heap.size w wr ∧ OwnS wr w.heap.size 58 9 A' (n + 0) c' (ndl (x ++ (y.take 0).map (moveN n))) from
        ⟨HB.out.1, by have h := HB.out.2; rw [List.take_of_length_le (by rw [HX.out.2.2]; exact Nat.le_refl _)] at h; simpa using h⟩)
      clear HB
      go_wp2_with fail
      go_loopw [7, 9] (fun s7 s9 wz => ∃ (j : Nat) (A' : Option Addr) (c' : Nat), j ≤ m ∧ s9 = vi j ∧ s7 = .slice A' (n + j) c' ∧ Below w.heap.size w wz ∧ OwnS wz w.heap.size 58 9 A' (n + j) c' (ndl (x ++ (y.take j).map (moveN n)))) (fun _ s9 _ => m - (intOf s9).toNat)
      case atStart => exact ⟨0, A', c', Nat.zero_le _, rfl, rfl, H5.out⟩
      case round =>
        clear H5
        obtain ⟨j, A', c', hj, rfl, rfl, hB⟩ := hrel
        have HB := Lib.hid hB
        have hc' := hB.2.cap.1
        clear hB
        by_cases hlj : j < m
        · have d2 : decide ((j : Int) < m) = true := by simp; omega
          obtain ⟨z, hz⟩ : ∃ z, y[j]? = some z := ⟨_, List.getElem?_eq_getElem (by rw [HY.out.2.2]; exact hlj)⟩
          have hok := HY.out.2.1.node j z hz
          obtain ⟨ad, rfl, _, hq⟩ := (HY.out.1.below HB.out.1).at_ hz
          have HZ := Lib.hid (And.intro hz (And.intro hok hq))
          clear hz hok hq
          go_upto_region 10 with (first
            | (with_reducible refine at_oper (.load 58 (.tmp 34)) rfl ?_
               refine wpList_load_nd rfl (.tmp 34) rfl (ad.add (j * 9)) rfl z HZ.out.2.2 ?_)
            | (with_reducible refine at_oper (.alloc 58) rfl ?_
               refine wpList_alloc_rowG wr.heap.size rfl rfl 58 rfl _ zero58 ?_
               intro w4 k4 b4 s4
               have H4 := Lib.hid (And.intro k4 b4)
               clear k4 b4 s4)
            | (with_reducible refine at_oper (.store 58 (.tmp 10) (.tmp 35)) rfl ?_
               refine wpList_store_blk rfl 58 (.tmp 10) (.tmp 35) rfl rfl wr.heap.size (ndc z) _ 58 rfl rfl H4.out.1 (by rw [ndc_size]; exact size58) rfl (ndc_one z) ?_
               intro w5 k5 o5
               have hz1 := HB.out.1.size
               have H5 := Lib.hid (show Below w.heap.size w w5 ∧ OwnS w5 w.heap.size 58 9 A' (n + j) c' (ndl (x ++ (y.take j).map (moveN n))) ∧ Blk w5 wr.heap.size 58 (ndc z) from
                 ⟨below_only (HB.out.1.trans (H4.out.2.mono HB.out.1.size)) o5 HB.out.1.size, (HB.out.2.below H4.out.2).only o5 (fun e => by have := (HB.out.2.lt _ e).2; omega), k5⟩)
               have HS := Lib.hid (show (∀ g, obl A' = some g → g < wr.heap.size) ∧ w.heap.size ≤ wr.heap.size from ⟨fun g e => (HB.out.2.lt g e).2, hz1⟩)
               clear k5 o5 hz1))
          clear HB H4
          generalize wr.heap.size = gn at *
          obtain ⟨kd, cc, l, r, mn, mx⟩ := z
          have f0 : w5.cell? ⟨gn, 0, none⟩ = some (vi kd) := H5.out.2.2.cell 0
          have f5 : w5.cell? ⟨gn, 5, none⟩ = some (vi l) := H5.out.2.2.cell 5
          have f6 : w5.cell? ⟨gn, 6, none⟩ = some (vi r) := H5.out.2.2.cell 6
          have hk1 : 1 ≤ kd := HZ.out.2.1.k1
          have hk8 : kd ≤ 8 := HZ.out.2.1.k8
          obtain ⟨ak, hak⟩ : ∃ ak, arN kd = ak := ⟨_, rfl⟩
          have hak3 : ak = 0 ∨ ak = 1 ∨ ak = 2 := by
            rw [← hak]
            unfold arN
            repeat' split
            all_goals omega
          have har := operands_c kd hk1 hk8 w5
          rw [hak] at har
          have HA := Lib.hid (And.intro har hak)
          clear har
          rcases hak3 with rfl | rfl | rfl
          · have HM := Lib.hid (show moveN n ⟨kd, cc, l, r, mn, mx⟩ = (⟨kd, cc, l, r, mn, mx⟩ : Nd) from by
              unfold moveN
              dsimp only
              rw [HA.out.2]
              rfl)
            obtain ⟨Y, hY⟩ : ∃ Y, ndc (⟨kd, cc, l, r, mn, mx⟩ : Nd) = Y := ⟨_, rfl⟩
            have zY : Y.size = 9 := by rw [← hY]; rfl
            have hfy := fold_nd (⟨kd, cc, l, r, mn, mx⟩ : Nd)
            rw [hY] at hfy H5
            have HF := Lib.hid (And.intro hY hfy)
            clear hY hfy
            go_wp2_with (first
              | (go_at_call 92
                 refine HA.out.1.mono ?_
                 rintro e w6 ⟨rfl, hw⟩
                 have hw := hw.symm
                 subst hw)
              | (with_reducible refine at_oper (.load 58 (.tmp 10)) rfl ?_
                 refine wpList_load_blk rfl 58 (.tmp 10) rfl gn rfl 58 Y _ H5.out.2.2 Tryz.underlying58 rfl (by rw [zY]; exact size58) ?_)
              | (at_builtin
                 rw [HF.out.2]
                 have hsz := H5.out.2.2.lt
                 have hsz2 := HS.out.2
                 refine wpList_appendSS rfl (.tmp 55) (.tmp 57) 33 rfl app33 w.heap.size A' (n + j) c' (ndl (x ++ (y.take j).map (moveN n))) rfl (H5.out.2.1.alloc _) _ 1 1 Y.toList rfl (by rw [Array.length_toList, zY]) (K := TT) ((Blk.new w5 58 Y).sl.weak fun _ _ _ => trivial) (by rw [← HF.out.1]; exact fun u hu => ndl_one [(⟨kd, cc, l, r, mn, mx⟩ : Nd)] u (by simpa [ndl] using hu)) (by omega) (by omega) (by rw [World.size_alloc]; omega) ?_
                 intro A8 c8 w8 own8 g8 _
                 have H8 := Lib.hid (show Below w.heap.size w w8 ∧ OwnS w8 w.heap.size 58 9 A8 (n + (j + 1)) c8 (ndl (x ++ (y.take (j + 1)).map (moveN n))) from
                   ⟨below_grown (H5.out.1.alloc H5.out.1.size _) g8 (by rw [World.size_alloc]; omega) (fun k e => (H5.out.2.1.lt _ e).1), by
                     rw [take_snoc_of HZ.out.1, List.map_append, ← List.append_assoc, List.map_singleton, ndl_snoc, HM.out, HF.out.1]
                     exact own8⟩)
                 clear own8 g8 hsz hsz2))
            go_roundw
            case rel => exact ⟨j + 1, A8, c8, by omega, by go_num, by go_num, H8.out⟩
            case measure => simp [intOf]; omega
          · have HM := Lib.hid (show moveN n ⟨kd, cc, l, r, mn, mx⟩ = (⟨kd, cc, l + n, r, mn, mx⟩ : Nd) from by
              unfold moveN
              dsimp only
              rw [HA.out.2]
              rfl)
            have hll : l < j := HZ.out.2.1.hl.1 (by show 1 ≤ arN kd; rw [HA.out.2]; decide)
            have hwl : IntKind.i64.wrap ((l : Int) + (n : Int)) = (l : Int) + (n : Int) := i64_wrap _ (by omega)
            go_upto_region 13 with (first
              | (go_at_call 92
                 refine HA.out.1.mono ?_
                 rintro e w6 ⟨rfl, hw⟩
                 have hw := hw.symm
                 subst hw)
              | (with_reducible refine at_oper (.store 3 (.tmp 46) (.tmp 45)) rfl ?_
                 refine wpList_store_at rfl 3 (.tmp 46) (.tmp 45) rfl rfl gn 5 (.int .i64 ((l : Int) + (n : Int))) _ 58 rfl rfl H5.out.2.2 (by rw [ndc_size]; decide) size3 rfl ?_
                 intro w7 k7 o7
                 rw [show ((l : Int) + (n : Int)) = ((l + n : Nat) : Int) by omega, ndc_setl] at k7
                 have H7 := Lib.hid (show Below w.heap.size w w7 ∧ OwnS w7 w.heap.size 58 9 A' (n + j) c' (ndl (x ++ (y.take j).map (moveN n))) ∧ Blk w7 gn 58 (ndc ⟨kd, cc, l + n, r, mn, mx⟩) from
                   ⟨below_only H5.out.1 o7 HS.out.2, H5.out.2.1.only o7 (fun e => by have := HS.out.1 _ e; omega), k7⟩)
                 clear k7 o7))
            clear f0 f5 f6 H5
            obtain ⟨Y, hY⟩ : ∃ Y, ndc (⟨kd, cc, l + n, r, mn, mx⟩ : Nd) = Y := ⟨_, rfl⟩
            have zY : Y.size = 9 := by rw [← hY]; rfl
            have hfy := fold_nd (⟨kd, cc, l + n, r, mn, mx⟩ : Nd)
            rw [hY] at hfy H7
            have HF := Lib.hid (And.intro hY hfy)
            clear hY hfy
            go_wp2_with (first
              | (with_reducible refine at_oper (.load 58 (.tmp 10)) rfl ?_
                 refine wpList_load_blk rfl 58 (.tmp 10) rfl gn rfl 58 Y _ H7.out.2.2 Tryz.underlying58 rfl (by rw [zY]; exact size58) ?_)
              | (at_builtin
                 rw [HF.out.2]
                 have hsz := H7.out.2.2.lt
                 have hsz2 := HS.out.2
                 refine wpList_appendSS rfl (.tmp 55) (.tmp 57) 33 rfl app33 w.heap.size A' (n + j) c' (ndl (x ++ (y.take j).map (moveN n))) rfl (H7.out.2.1.alloc _) _ 1 1 Y.toList rfl (by rw [Array.length_toList, zY]) (K := TT) ((Blk.new w7 58 Y).sl.weak fun _ _ _ => trivial) (by rw [← HF.out.1]; exact fun u hu => ndl_one [(⟨kd, cc, l + n, r, mn, mx⟩ : Nd)] u (by simpa [ndl] using hu)) (by omega) (by omega) (by rw [World.size_alloc]; omega) ?_
                 intro A8 c8 w8 own8 g8 _
                 have H8 := Lib.hid (show Below w.heap.size w w8 ∧ OwnS w8 w.heap.size 58 9 A8 (n + (j + 1)) c8 (ndl (x ++ (y.take (j + 1)).map (moveN n))) from
                   ⟨below_grown (H7.out.1.alloc H7.out.1.size _) g8 (by rw [World.size_alloc]; omega) (fun k e => (H7.out.2.1.lt _ e).1), by
                     rw [take_snoc_of HZ.out.1, List.map_append, ← List.append_assoc, List.map_singleton, ndl_snoc, HM.out, HF.out.1]
                     exact own8⟩)
                 clear own8 g8 hsz hsz2))
            go_roundw
            case rel => exact ⟨j + 1, A8, c8, by omega, by go_num, by go_num, H8.out⟩
            case measure => simp [intOf]; omega
          · have HM := Lib.hid (show moveN n ⟨kd, cc, l, r, mn, mx⟩ = (⟨kd, cc, l + n, r + n, mn, mx⟩ : Nd) from by
              unfold moveN
              dsimp only
              rw [HA.out.2]
              rfl)
            have hll : l < j := HZ.out.2.1.hl.1 (by show 1 ≤ arN kd; rw [HA.out.2]; decide)
            have hwl : IntKind.i64.wrap ((l : Int) + (n : Int)) = (l : Int) + (n : Int) := i64_wrap _ (by omega)
            go_upto_region 13 with (first
              | (go_at_call 92
                 refine HA.out.1.mono ?_
                 rintro e w6 ⟨rfl, hw⟩
                 have hw := hw.symm
                 subst hw)
              | (with_reducible refine at_oper (.store 3 (.tmp 46) (.tmp 45)) rfl ?_
                 refine wpList_store_at rfl 3 (.tmp 46) (.tmp 45) rfl rfl gn 5 (.int .i64 ((l : Int) + (n : Int))) _ 58 rfl rfl H5.out.2.2 (by rw [ndc_size]; decide) size3 rfl ?_
                 intro w7 k7 o7
                 rw [show ((l : Int) + (n : Int)) = ((l + n : Nat) : Int) by omega, ndc_setl] at k7
                 have H7 := Lib.hid (show Below w.heap.size w w7 ∧ OwnS w7 w.heap.size 58 9 A' (n + j) c' (ndl (x ++ (y.take j).map (moveN n))) ∧ Blk w7 gn 58 (ndc ⟨kd, cc, l + n, r, mn, mx⟩) from
                   ⟨below_only H5.out.1 o7 HS.out.2, H5.out.2.1.only o7 (fun e => by have := HS.out.1 _ e; omega), k7⟩)
                 clear k7 o7))
            clear f0 f5 f6 H5
            have hrl : r < j := HZ.out.2.1.hr.1 (by show arN kd = 2; rw [HA.out.2])
            have hwr : IntKind.i64.wrap ((r : Int) + (n : Int)) = (r : Int) + (n : Int) := i64_wrap _ (by omega)
            have f6 : w7.cell? ⟨gn, 6, none⟩ = some (vi r) := H7.out.2.2.cell 6
            go_upto_region 15 with (first
              | (with_reducible refine at_oper (.store 3 (.tmp 54) (.tmp 53)) rfl ?_
                 refine wpList_store_at rfl 3 (.tmp 54) (.tmp 53) rfl rfl gn 6 (.int .i64 ((r : Int) + (n : Int))) _ 58 rfl rfl H7.out.2.2 (by rw [ndc_size]; decide) size3 rfl ?_
                 intro w9 k9 o9
                 rw [show ((r : Int) + (n : Int)) = ((r + n : Nat) : Int) by omega, ndc_setr] at k9
                 have H9 := Lib.hid (show Below w.heap.size w w9 ∧ OwnS w9 w.heap.size 58 9 A' (n + j) c' (ndl (x ++ (y.take j).map (moveN n))) ∧ Blk w9 gn 58 (ndc ⟨kd, cc, l + n, r + n, mn, mx⟩) from
                   ⟨below_only H7.out.1 o9 HS.out.2, H7.out.2.1.only o9 (fun e => by have := HS.out.1 _ e; omega), k9⟩)
                 clear k9 o9))
            clear f6 H7
            obtain ⟨Y, hY⟩ : ∃ Y, ndc (⟨kd, cc, l + n, r + n, mn, mx⟩ : Nd) = Y := ⟨_, rfl⟩
            have zY : Y.size = 9 := by rw [← hY]; rfl
            have hfy := fold_nd (⟨kd, cc, l + n, r + n, mn, mx⟩ : Nd)
            rw [hY] at hfy H9
            have HF := Lib.hid (And.intro hY hfy)
            clear hY hfy
            go_wp2_with (first
              | (with_reducible refine at_oper (.load 58 (.tmp 10)) rfl ?_
                 refine wpList_load_blk rfl 58 (.tmp 10) rfl gn rfl 58 Y _ H9.out.2.2 Tryz.underlying58 rfl (by rw [zY]; exact size58) ?_)
              | (at_builtin
                 rw [HF.out.2]
                 have hsz := H9.out.2.2.lt
                 have hsz2 := HS.out.2
                 refine wpList_appendSS rfl (.tmp 55) (.tmp 57) 33 rfl app33 w.heap.size A' (n + j) c' (ndl (x ++ (y.take j).map (moveN n))) rfl (H9.out.2.1.alloc _) _ 1 1 Y.toList rfl (by rw [Array.length_toList, zY]) (K := TT) ((Blk.new w9 58 Y).sl.weak fun _ _ _ => trivial) (by rw [← HF.out.1]; exact fun u hu => ndl_one [(⟨kd, cc, l + n, r + n, mn, mx⟩ : Nd)] u (by simpa [ndl] using hu)) (by omega) (by omega) (by rw [World.size_alloc]; omega) ?_
                 intro A8 c8 w8 own8 g8 _
                 have H8 := Lib.hid (show Below w.heap.size w w8 ∧ OwnS w8 w.heap.size 58 9 A8 (n + (j + 1)) c8 (ndl (x ++ (y.take (j + 1)).map (moveN n))) from
                   ⟨below_grown (H9.out.1.alloc H9.out.1.size _) g8 (by rw [World.size_alloc]; omega) (fun k e => (H9.out.2.1.lt _ e).1), by
                     rw [take_snoc_of HZ.out.1, List.map_append, ← List.append_assoc, List.map_singleton, ndl_snoc, HM.out, HF.out.1]
                     exact own8⟩)
                 clear own8 g8 hsz hsz2))
            go_roundw
            case rel => exact ⟨j + 1, A8, c8, by omega, by go_num, by go_num, H8.out⟩
            case measure => simp [intOf]; omega
        · have d2 : decide ((j : Int) < m) = false := by simp; omega
          obtain rfl : m = j := by omega
          obtain ⟨p, hp⟩ : ∃ p, n = p + 1 := ⟨n - 1, by omega⟩
          obtain ⟨q, hq⟩ : ∃ q, n + m = q + 1 := ⟨n + m - 1, by omega⟩
          have hs1 : (n : Int) - 1 = (p : Int) := by omega
          have hw1 : IntKind.i64.wrap (p : Int) = (p : Int) := i64_wrap _ (by omega)
          have hs2 : (n : Int) + (m : Int) - 1 = (q : Int) := by omega
          have hw2 : IntKind.i64.wrap (q : Int) = (q : Int) := i64_wrap _ (by omega)
          have hlx : x.length - 1 = p := by rw [HX.out.2.2, hp]; rfl
          have hly : x.length + y.length - 1 = q := by rw [HX.out.2.2, HY.out.2.2, hq]; rfl
          obtain ⟨Y, hY⟩ : ∃ Y, ndc ⟨k, 0, p, q, 0, some 0⟩ = Y := ⟨_, rfl⟩
          have zY : Y.size = 9 := by rw [← hY]; rfl
          have hfy := fold_nd ⟨k, 0, p, q, 0, some 0⟩
          have hbl := built58b k p q
          rw [hY] at hfy hbl
          have HF := Lib.hid (And.intro hY (And.intro hfy (And.intro hbl (And.intro hlx hly))))
          clear hY hfy hbl hlx hly hp hq
          go_wp2_with (first
            | (with_reducible refine at_oper (.build 58 _) rfl ?_
               refine wpList_val rfl _ (run_built3 58 0 2 3 (.tmp 60) (.tmp 63) (.tmp 66) rfl (vi k) (vi p) (vi q) rfl rfl rfl _ HF.out.2.2.1) ?_)
            | (at_builtin
               rw [HF.out.2.1]
               have hsz := HB.out.1.size
               refine wpList_appendSS rfl (.tmp 59) (.tmp 68) 33 rfl app33 w.heap.size A' (n + m) c' (ndl (x ++ (y.take m).map (moveN n))) rfl (HB.out.2.alloc _) _ 1 1 Y.toList rfl (by rw [Array.length_toList, zY]) (K := TT) ((Blk.new wr 58 Y).sl.weak fun _ _ _ => trivial) (by rw [← HF.out.1]; exact fun u hu => ndl_one [⟨k, 0, p, q, 0, some 0⟩] u (by simpa [ndl] using hu)) (by omega) (by omega) (by rw [World.size_alloc]; omega) ?_
               intro A8 c8 w8 own8 g8 _
               have H8 := Lib.hid (show Below w.heap.size w w8 ∧ OwnS w8 w.heap.size 58 9 A8 (n + m + 1) c8 (ndl (x ++ y.map (moveN n) ++ [⟨k, 0, p, q, 0, some 0⟩])) from
                 ⟨below_grown (HB.out.1.alloc HB.out.1.size _) g8 (by rw [World.size_alloc]; omega) (fun k e => (HB.out.2.lt _ e).1), by
                   rw [List.take_of_length_le (by rw [HY.out.2.2]; exact Nat.le_refl _)] at own8
                   rw [ndl_snoc, HF.out.1]
                   exact own8⟩)
               clear own8 g8 hsz))
          go_ret
          have hgood := GoodX.binary HX.out.2.1 HY.out.2.1 k HK.out
          rw [HF.out.2.2.2.1, HF.out.2.2.2.2, HX.out.2.2] at hgood
          exact ⟨A8, c8, _, rfl, hgood, H8.out.2.rx (by omega), H8.out.1⟩
end Go.Proofs.YtjgkdfghjeodeaaGreatDoor
