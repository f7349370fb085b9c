/- regex's parser at the text ab*: atom, item, sequence, intersections, alternatives. -/
import Derived.Test.YtjgkdfghjeodeaaGreatDoorT45
import Derived.Test.YtjgkdfghjeodeaaGreatDoorT46
namespace Go.Proofs.YtjgkdfghjeodeaaGreatDoor
open Go.RowKit

theorem accept_fi (s : ByteArray) (hs : TXT s) (gp at_ : Nat) (b : Int) (A : Option Addr) (n c : Nat) (xs : List Nd) (w : World) (ha : at_ ≤ 3) (hb : pk3 at_ ≠ b) (hb1 : 0 ≤ b) (hb2 : b < 256) (h : PST s w gp at_ A n c xs) : Calls Tryz.prog 54 #[.pointer (some ⟨gp, 0, none⟩), .int .u8 b] w
    fun e w' => e = .returned (.bool false) ∧ PST s w' gp at_ A n c xs ∧ Below gp w w' := by
  obtain ⟨m, rfl⟩ := Int.eq_ofNat_of_zero_le hb1
  exact accept_f s hs gp at_ m A n c xs w ha hb (by omega) h
theorem built58r (l : Nat) : Tryz.prog.built 58 [(0, .int .i64 8), (2, vi l), (5, .int .i64 (-1))] = some (ndc ⟨8, 0, l, 0, 0, none⟩) := by kernel_rfl
theorem built58q (l r : Nat) : Tryz.prog.built 58 [(0, .int .i64 4), (2, vi l), (3, vi r)] = some (ndc ⟨4, 0, l, r, 0, some 0⟩) := by kernel_rfl
theorem range97 : rangeC 97 1 0 = 2 ^ 97 := by decide +kernel
theorem range98 : rangeC 98 1 0 = 2 ^ 98 := by decide +kernel
theorem PST.var {s : ByteArray} {w w2 w5 : World} {gp at_ : Nat} {A : Option Addr} {n c : Nat} {xs : List Nd} (h : PST s w gp at_ A n c xs) (b : Below w.heap.size w w2) (o : Only w.heap.size w2 w5) : PST s w5 gp at_ A n c xs ∧ Below gp w w5 :=
  ⟨⟨(h.blk.old b).only o (by have := h.gp_lt; omega), (h.own.below b).only o (fun e => by have := (h.own.lt _ e).2; omega)⟩, below_only (b.mono (Nat.le_of_lt h.gp_lt)) o (Nat.le_of_lt h.gp_lt)⟩
abbrev ndCl (b : Nat) : Nd := ⟨3, 2 ^ b, 0, 0, 0, some 0⟩
set_option maxRecDepth 100000 in
set_option maxHeartbeats 4000000 in
theorem atom0_c (s : ByteArray) (hs : TXT s) (gp : Nat) (A : Option Addr) (n c : Nat) (xs : List Nd) (w : World) (hn : n ≤ 1000) (h : PST s w gp 0 A n c xs) : Calls Tryz.prog 129 #[.pointer (some ⟨gp, 0, none⟩)] w
    fun e w' => ∃ A' c', e = .returned (vi n) ∧ PST s w' gp 1 A' (n + 1) c' (xs ++ [ndCl 97]) ∧ Below gp w w' := by
  have HS := Lib.hid (And.intro h (Below.refl gp w))
  have HT := Lib.hid hs
  clear h hs
  obtain ⟨C, hC⟩ : ∃ C, ccells (2 ^ 97) = C := ⟨_, rfl⟩
  have hbl := built58c (2 ^ 97)
  obtain ⟨X, hX⟩ : ∃ X, ndc (ndCl 97) = X := ⟨_, rfl⟩
  rw [hC, show ndc ⟨3, 2 ^ 97, 0, 0, 0, some 0⟩ = X from hX] at hbl
  have HX := Lib.hid (And.intro hbl (And.intro (show ndV (ndCl 97) = .agg X by rw [← hX]; rfl) (show encC (rangeC 97 1 0) = .agg C by rw [range97, ← hC]; rfl)))
  clear hbl hX hC
  go_enter Tryz.func129, Tryz.ntmps129
  go_upto_region 13 with (first
    | (go_at_call 54
       refine (accept_fi s HT.out gp 0 _ _ _ _ _ _ (by decide) (by decide) (by decide) (by decide) HS.out.1).mono ?_
       rintro e w2 ⟨rfl, hp2, hb2⟩
       replace HS := Lib.hid (And.intro hp2 (HS.out.2.trans hb2))
       clear hp2 hb2))
  go_wp2_with (first
    | (go_at_call 149
       refine (char0_c s HT.out gp _ _ _ _ _ HS.out.1).mono ?_
       rintro e w2 ⟨rfl, hp2, hb2⟩
       replace HS := Lib.hid (And.intro hp2 (HS.out.2.trans hb2))
       clear hp2 hb2)
    | (go_at_call 146
       refine (range_c 97 97 (by decide) (by decide) _).mono ?_
       rintro e w2 ⟨rfl, hb2⟩
       rw [show 97 + 1 - 97 = 1 from rfl, HX.out.2.2]
       replace HS := Lib.hid (And.intro (HS.out.1.below hb2) (HS.out.2.trans (hb2.mono (Nat.le_of_lt HS.out.1.gp_lt))))
       clear hb2)
    | (with_reducible refine at_oper (.build 58 _) rfl ?_
       refine wpList_val rfl _ (run_built2 58 0 1 _ (.tmp 44) rfl (.int .i64 3) (.agg C) rfl rfl _ HX.out.1) ?_)
    | (go_at_call 55
       rw [← HX.out.2.1]
       refine (emit_c s gp 1 _ _ _ _ (ndCl 97) _ hn HS.out.1).mono ?_
       rintro e w2 ⟨A2, c2, rfl, hp2, hb2⟩
       replace HS := Lib.hid (And.intro hp2 (HS.out.2.trans hb2))
       clear hp2 hb2))
  go_ret
  exact ⟨A2, c2, rfl, HS.out⟩
set_option maxRecDepth 100000 in
set_option maxHeartbeats 4000000 in
theorem atom1_c (s : ByteArray) (hs : TXT s) (gp : Nat) (A : Option Addr) (n c : Nat) (xs : List Nd) (w : World) (hn : n ≤ 1000) (h : PST s w gp 1 A n c xs) : Calls Tryz.prog 129 #[.pointer (some ⟨gp, 0, none⟩)] w
    fun e w' => ∃ A' c', e = .returned (vi n) ∧ PST s w' gp 2 A' (n + 1) c' (xs ++ [ndCl 98]) ∧ Below gp w w' := by
  have HS := Lib.hid (And.intro h (Below.refl gp w))
  have HT := Lib.hid hs
  clear h hs
  obtain ⟨C, hC⟩ : ∃ C, ccells (2 ^ 98) = C := ⟨_, rfl⟩
  have hbl := built58c (2 ^ 98)
  obtain ⟨X, hX⟩ : ∃ X, ndc (ndCl 98) = X := ⟨_, rfl⟩
  rw [hC, show ndc ⟨3, 2 ^ 98, 0, 0, 0, some 0⟩ = X from hX] at hbl
  have HX := Lib.hid (And.intro hbl (And.intro (show ndV (ndCl 98) = .agg X by rw [← hX]; rfl) (show encC (rangeC 98 1 0) = .agg C by rw [range98, ← hC]; rfl)))
  clear hbl hX hC
  go_enter Tryz.func129, Tryz.ntmps129
  go_upto_region 13 with (first
    | (go_at_call 54
       refine (accept_fi s HT.out gp 1 _ _ _ _ _ _ (by decide) (by decide) (by decide) (by decide) HS.out.1).mono ?_
       rintro e w2 ⟨rfl, hp2, hb2⟩
       replace HS := Lib.hid (And.intro hp2 (HS.out.2.trans hb2))
       clear hp2 hb2))
  go_wp2_with (first
    | (go_at_call 149
       refine (char1_c s HT.out gp _ _ _ _ _ HS.out.1).mono ?_
       rintro e w2 ⟨rfl, hp2, hb2⟩
       replace HS := Lib.hid (And.intro hp2 (HS.out.2.trans hb2))
       clear hp2 hb2)
    | (go_at_call 146
       refine (range_c 98 98 (by decide) (by decide) _).mono ?_
       rintro e w2 ⟨rfl, hb2⟩
       rw [show 98 + 1 - 98 = 1 from rfl, HX.out.2.2]
       replace HS := Lib.hid (And.intro (HS.out.1.below hb2) (HS.out.2.trans (hb2.mono (Nat.le_of_lt HS.out.1.gp_lt))))
       clear hb2)
    | (with_reducible refine at_oper (.build 58 _) rfl ?_
       refine wpList_val rfl _ (run_built2 58 0 1 _ (.tmp 44) rfl (.int .i64 3) (.agg C) rfl rfl _ HX.out.1) ?_)
    | (go_at_call 55
       rw [← HX.out.2.1]
       refine (emit_c s gp 2 _ _ _ _ (ndCl 98) _ hn HS.out.1).mono ?_
       rintro e w2 ⟨A2, c2, rfl, hp2, hb2⟩
       replace HS := Lib.hid (And.intro hp2 (HS.out.2.trans hb2))
       clear hp2 hb2))
  go_ret
  exact ⟨A2, c2, rfl, HS.out⟩
set_option maxRecDepth 100000 in
set_option maxHeartbeats 8000000 in
theorem item0_c (s : ByteArray) (hs : TXT s) (gp : Nat) (A : Option Addr) (n c : Nat) (xs : List Nd) (w : World) (hn : n ≤ 1000) (h : PST s w gp 0 A n c xs) : Calls Tryz.prog 120 #[.pointer (some ⟨gp, 0, none⟩)] w
    fun e w' => ∃ A' c', e = .returned (vi n) ∧ PST s w' gp 1 A' (n + 1) c' (xs ++ [ndCl 97]) ∧ Below gp w w' := by
  have HS := Lib.hid (And.intro h (Below.refl gp w))
  have HT := Lib.hid hs
  clear h hs
  obtain ⟨X, hX⟩ : ∃ X, ndc ⟨8, 0, n, 0, 0, none⟩ = X := ⟨_, rfl⟩
  have zX : X.size = 9 := by rw [← hX]; rfl
  have oX : X.all (·.oneCell') = true := by rw [← hX]; exact ndc_one _
  have hbl := built58r n
  rw [hX] at hbl
  have HX := Lib.hid (And.intro hbl hX)
  clear hX hbl
  go_enter Tryz.func120, Tryz.ntmps120
  go_upto_region 3 with (first
    | (go_at_call 54
       refine (accept_fi s HT.out gp 0 _ _ _ _ _ _ (by decide) (by decide) (by decide) (by decide) HS.out.1).mono ?_
       rintro e w2 ⟨rfl, hp2, hb2⟩
       replace HS := Lib.hid (And.intro hp2 (HS.out.2.trans hb2))
       clear hp2 hb2))
  go_wp2_with (first
    | (go_at_call 129
       refine (atom0_c s HT.out gp _ _ _ _ _ hn HS.out.1).mono ?_
       rintro e w2 ⟨A2, c2, rfl, hp2, hb2⟩
       replace HS := Lib.hid (And.intro hp2 (HS.out.2.trans hb2))
       clear hp2 hb2))
  refine wp_loop_rounds 1 ?_
  rw [rounds_succ]
  go_upto_region 6 with (first
    | (with_reducible refine at_oper (.build 58 _) rfl ?_
       refine wpList_val rfl _ (run_built3 58 0 2 5 _ (.tmp 14) _ rfl (.int .i64 8) (vi n) (.int .i64 (-1)) rfl rfl rfl _ HX.out.1) ?_)
    | (with_reducible refine at_oper (.alloc 58) rfl ?_
       refine wpList_alloc_rowG _ rfl rfl 58 rfl _ zero58 ?_
       intro w2 k2 b2 s2
       have HO := Lib.hid (And.intro HS b2)
       have HK := Lib.hid k2
       clear k2 b2 s2)
    | (with_reducible refine at_oper (.store 58 (.tmp 4) (.tmp 15)) rfl ?_
       refine wpList_store_blk rfl 58 (.tmp 4) (.tmp 15) rfl rfl _ X _ 58 rfl rfl HK.out (by rw [zX]; exact size58) (by rw [zX]; rfl) oX ?_
       intro w5 k5 o5
       replace HS := Lib.hid (show PST s w5 gp 1 A2 (n + 1) c2 (xs ++ [ndCl 97]) ∧ Below gp w w5 from ⟨(HO.out.1.out.1.var HO.out.2 o5).1, HO.out.1.out.2.trans (HO.out.1.out.1.var HO.out.2 o5).2⟩)
       clear HO HK k5 o5))
  go_wp2_with (first
    | (go_at_call 54
       refine (accept_fi s HT.out gp 1 _ _ _ _ _ _ (by decide) (by decide) (by decide) (by decide) HS.out.1).mono ?_
       rintro e w2 ⟨rfl, hp2, hb2⟩
       replace HS := Lib.hid (And.intro hp2 (HS.out.2.trans hb2))
       clear hp2 hb2))
  go_ret
  exact ⟨A2, c2, rfl, HS.out⟩
set_option maxRecDepth 100000 in
set_option maxHeartbeats 16000000 in
theorem item1_c (s : ByteArray) (hs : TXT s) (gp : Nat) (A : Option Addr) (n c : Nat) (xs : List Nd) (w : World) (hn : n ≤ 900) (h : PST s w gp 1 A n c xs) : Calls Tryz.prog 120 #[.pointer (some ⟨gp, 0, none⟩)] w
    fun e w' => ∃ A' c', e = .returned (vi (n + 1)) ∧ PST s w' gp 3 A' (n + 1 + 1) c' (xs ++ [ndCl 98] ++ [⟨8, 0, n, 0, 0, none⟩]) ∧ Below gp w w' := by
  have HS := Lib.hid (And.intro h (Below.refl gp w))
  have HT := Lib.hid hs
  clear h hs
  obtain ⟨X, hX⟩ : ∃ X, ndc ⟨8, 0, n, 0, 0, none⟩ = X := ⟨_, rfl⟩
  have zX : X.size = 9 := by rw [← hX]; rfl
  have oX : X.all (·.oneCell') = true := by rw [← hX]; exact ndc_one _
  have hbl := built58r n
  rw [hX] at hbl
  have HX := Lib.hid (And.intro hbl (show ndV ⟨8, 0, n, 0, 0, none⟩ = .agg X by rw [← hX]; rfl))
  clear hX hbl
  obtain ⟨Y, hY⟩ : ∃ Y, ndc ⟨8, 0, n + 1, 0, 0, none⟩ = Y := ⟨_, rfl⟩
  have zY : Y.size = 9 := by rw [← hY]; rfl
  have oY : Y.all (·.oneCell') = true := by rw [← hY]; exact ndc_one _
  have hbl := built58r (n + 1)
  rw [hY] at hbl
  have HY := Lib.hid hbl
  clear hY hbl
  go_enter Tryz.func120, Tryz.ntmps120
  go_upto_region 3 with (first
    | (go_at_call 54
       refine (accept_fi s HT.out gp 1 _ _ _ _ _ _ (by decide) (by decide) (by decide) (by decide) HS.out.1).mono ?_
       rintro e w2 ⟨rfl, hp2, hb2⟩
       replace HS := Lib.hid (And.intro hp2 (HS.out.2.trans hb2))
       clear hp2 hb2))
  go_wp2_with (first
    | (go_at_call 129
       refine (atom1_c s HT.out gp _ _ _ _ _ (by omega) HS.out.1).mono ?_
       rintro e w2 ⟨A2, c2, rfl, hp2, hb2⟩
       replace HS := Lib.hid (And.intro hp2 (HS.out.2.trans hb2))
       clear hp2 hb2))
  refine wp_loop_rounds 2 ?_
  rw [rounds_succ]
  go_upto_region 6 with (first
    | (with_reducible refine at_oper (.build 58 _) rfl ?_
       refine wpList_val rfl _ (run_built3 58 0 2 5 _ (.tmp 14) _ rfl (.int .i64 8) (vi n) (.int .i64 (-1)) rfl rfl rfl _ HX.out.1) ?_)
    | (with_reducible refine at_oper (.alloc 58) rfl ?_
       refine wpList_alloc_rowG _ rfl rfl 58 rfl _ zero58 ?_
       intro w2 k2 b2 s2
       have HO := Lib.hid (And.intro HS b2)
       have HK := Lib.hid k2
       clear k2 b2 s2)
    | (with_reducible refine at_oper (.store 58 (.tmp 4) (.tmp 15)) rfl ?_
       refine wpList_store_blk rfl 58 (.tmp 4) (.tmp 15) rfl rfl _ X _ 58 rfl rfl HK.out (by rw [zX]; exact size58) (by rw [zX]; rfl) oX ?_
       intro w5 k5 o5
       replace HS := Lib.hid (show PST s w5 gp 2 A2 (n + 1) c2 (xs ++ [ndCl 98]) ∧ Below gp w w5 from ⟨(HO.out.1.out.1.var HO.out.2 o5).1, HO.out.1.out.2.trans (HO.out.1.out.1.var HO.out.2 o5).2⟩)
       have HK5 := Lib.hid (And.intro k5 (Nat.ne_of_gt HO.out.1.out.1.gp_lt))
       clear HO HK k5 o5))
  go_wp2_with (first
    | (go_at_call 54
       refine (accept_t s HT.out gp 2 42 _ _ _ _ _ (by decide) (by decide) (by decide) HS.out.1).mono ?_
       rintro e w6 ⟨rfl, hp6, hb6, hk6⟩
       replace HK5 := Lib.hid (hk6 _ _ _ HK5.out.2 HK5.out.1)
       replace HS := Lib.hid (And.intro hp6 (HS.out.2.trans hb6))
       clear hp6 hb6 hk6)
    | (with_reducible refine at_oper (.load 58 (.tmp 4)) rfl ?_
       refine wpList_load_blk rfl 58 (.tmp 4) rfl _ rfl 58 X _ HK5.out Tryz.underlying58 rfl (by rw [zX]; exact size58) ?_)
    | (go_at_call 55
       rw [← HX.out.2]
       refine (emit_c s gp 3 _ _ _ _ ⟨8, 0, n, 0, 0, none⟩ _ (by omega) HS.out.1).mono ?_
       rintro e w2 ⟨A3, c3, rfl, hp2, hb2⟩
       replace HS := Lib.hid (And.intro hp2 (HS.out.2.trans hb2))
       clear hp2 hb2))
  rw [rounds_succ]
  go_upto_region 6 with (first
    | (with_reducible refine at_oper (.build 58 _) rfl ?_
       refine wpList_val rfl _ (run_built3 58 0 2 5 _ (.tmp 14) _ rfl (.int .i64 8) (vi (n + 1)) (.int .i64 (-1)) rfl rfl rfl _ HY.out) ?_)
    | (with_reducible refine at_oper (.alloc 58) rfl ?_
       refine wpList_alloc_rowG _ rfl rfl 58 rfl _ zero58 ?_
       intro w2 k2 b2 s2
       have HO := Lib.hid (And.intro HS b2)
       have HK := Lib.hid k2
       clear k2 b2 s2)
    | (with_reducible refine at_oper (.store 58 (.tmp 4) (.tmp 15)) rfl ?_
       refine wpList_store_blk rfl 58 (.tmp 4) (.tmp 15) rfl rfl _ Y _ 58 rfl rfl HK.out (by rw [zY]; exact size58) (by rw [zY]; rfl) oY ?_
       intro w5 k5 o5
       replace HS := Lib.hid (show PST s w5 gp 3 A3 (n + 1 + 1) c3 (xs ++ [ndCl 98] ++ [⟨8, 0, n, 0, 0, none⟩]) ∧ Below gp w w5 from ⟨(HO.out.1.out.1.var HO.out.2 o5).1, HO.out.1.out.2.trans (HO.out.1.out.1.var HO.out.2 o5).2⟩)
       clear HO HK k5 o5))
  go_wp2_with (first
    | (go_at_call 54
       refine (accept_fi s HT.out gp 3 _ _ _ _ _ _ (by decide) (by decide) (by decide) (by decide) HS.out.1).mono ?_
       rintro e w2 ⟨rfl, hp2, hb2⟩
       replace HS := Lib.hid (And.intro hp2 (HS.out.2.trans hb2))
       clear hp2 hb2))
  go_ret
  exact ⟨A3, c3, rfl, HS.out⟩
set_option maxRecDepth 100000 in
set_option maxHeartbeats 16000000 in
theorem sequence_c (s : ByteArray) (hs : TXT s) (gp : Nat) (A : Option Addr) (c : Nat) (w : World) (h : PST s w gp 0 A 0 c []) : Calls Tryz.prog 104 #[.pointer (some ⟨gp, 0, none⟩)] w
    fun e w' => ∃ A' c', e = .returned (vi 3) ∧ PST s w' gp 3 A' 4 c' nodesAB ∧ Below gp w w' := by
  have HS := Lib.hid (And.intro h (Below.refl gp w))
  have HT := Lib.hid hs
  clear h hs
  obtain ⟨X, hX⟩ : ∃ X, ndc ⟨4, 0, 0, 2, 0, some 0⟩ = X := ⟨_, rfl⟩
  have hbl := built58q 0 2
  rw [hX] at hbl
  have HX := Lib.hid (And.intro hbl (show ndV ⟨4, 0, 0, 2, 0, some 0⟩ = .agg X by rw [← hX]; rfl))
  clear hX hbl
  go_enter Tryz.func104, Tryz.ntmps104
  go_wp2_with (first
    | (go_at_call 120
       refine (item0_c s HT.out gp _ _ _ _ _ (by decide) HS.out.1).mono ?_
       rintro e w2 ⟨A2, c2, rfl, hp2, hb2⟩
       replace HS := Lib.hid (And.intro hp2 (HS.out.2.trans hb2))
       clear hp2 hb2))
  refine wp_loop_rounds 2 ?_
  rw [rounds_succ]
  go_wp2_with (first
    | (go_at_call 105
       refine (peek_c s HT.out gp 1 _ _ (by decide) HS.out.1.blk).mono ?_
       rintro e w3 ⟨rfl, hb3, _⟩
       rw [show pk3 1 = 98 from rfl]
       replace HS := Lib.hid (And.intro (HS.out.1.below hb3) (HS.out.2.trans (hb3.mono (Nat.le_of_lt HS.out.1.gp_lt))))
       clear hb3)
    | (go_at_call 120
       refine (item1_c s HT.out gp _ _ _ _ _ (by decide) HS.out.1).mono ?_
       rintro e w2 ⟨A3, c3, rfl, hp2, hb2⟩
       replace HS := Lib.hid (And.intro hp2 (HS.out.2.trans hb2))
       clear hp2 hb2)
    | (with_reducible refine at_oper (.build 58 _) rfl ?_
       refine wpList_val rfl _ (run_built3 58 0 2 3 _ (.tmp 18) (.tmp 19) rfl (.int .i64 4) (vi 0) (vi 2) rfl rfl rfl _ HX.out.1) ?_)
    | (go_at_call 55
       rw [← HX.out.2]
       refine (emit_c s gp 3 _ _ _ _ ⟨4, 0, 0, 2, 0, some 0⟩ _ (by decide) HS.out.1).mono ?_
       rintro e w2 ⟨A4, c4, rfl, hp2, hb2⟩
       replace HS := Lib.hid (And.intro hp2 (HS.out.2.trans hb2))
       clear hp2 hb2))
  rw [rounds_succ]
  go_wp2_with (first
    | (go_at_call 105
       refine (peek_c s HT.out gp 3 _ _ (by decide) HS.out.1.blk).mono ?_
       rintro e w3 ⟨rfl, hb3, _⟩
       rw [show pk3 3 = -1 from rfl]
       replace HS := Lib.hid (And.intro (HS.out.1.below hb3) (HS.out.2.trans (hb3.mono (Nat.le_of_lt HS.out.1.gp_lt))))
       clear hb3))
  go_ret
  exact ⟨A4, c4, rfl, HS.out⟩
set_option maxRecDepth 100000 in
set_option maxHeartbeats 4000000 in
theorem intersections_c (s : ByteArray) (hs : TXT s) (gp : Nat) (A : Option Addr) (c : Nat) (w : World) (h : PST s w gp 0 A 0 c []) : Calls Tryz.prog 53 #[.pointer (some ⟨gp, 0, none⟩)] w
    fun e w' => ∃ A' c', e = .returned (vi 3) ∧ PST s w' gp 3 A' 4 c' nodesAB ∧ Below gp w w' := by
  have HS := Lib.hid (And.intro h (Below.refl gp w))
  have HT := Lib.hid hs
  clear h hs
  go_enter Tryz.func53, Tryz.ntmps53
  go_wp2_with (first
    | (go_at_call 104
       refine (sequence_c s HT.out gp _ _ _ HS.out.1).mono ?_
       rintro e w2 ⟨A4, c4, rfl, hp2, hb2⟩
       replace HS := Lib.hid (And.intro hp2 (HS.out.2.trans hb2))
       clear hp2 hb2))
  refine wp_loop_rounds 1 ?_
  rw [rounds_succ]
  go_wp2_with (first
    | (go_at_call 54
       refine (accept_fi s HT.out gp 3 _ _ _ _ _ _ (by decide) (by decide) (by decide) (by decide) HS.out.1).mono ?_
       rintro e w2 ⟨rfl, hp2, hb2⟩
       replace HS := Lib.hid (And.intro hp2 (HS.out.2.trans hb2))
       clear hp2 hb2))
  go_ret
  exact ⟨A4, c4, rfl, HS.out⟩
set_option maxRecDepth 100000 in
set_option maxHeartbeats 4000000 in
theorem alternatives_c (s : ByteArray) (hs : TXT s) (gp : Nat) (A : Option Addr) (c : Nat) (w : World) (h : PST s w gp 0 A 0 c []) : Calls Tryz.prog 28 #[.pointer (some ⟨gp, 0, none⟩)] w
    fun e w' => ∃ A' c', e = .returned (vi 3) ∧ PST s w' gp 3 A' 4 c' nodesAB ∧ Below gp w w' := by
  have HS := Lib.hid (And.intro h (Below.refl gp w))
  have HT := Lib.hid hs
  clear h hs
  go_enter Tryz.func28, Tryz.ntmps28
  go_wp2_with (first
    | (go_at_call 53
       refine (intersections_c s HT.out gp _ _ _ HS.out.1).mono ?_
       rintro e w2 ⟨A4, c4, rfl, hp2, hb2⟩
       replace HS := Lib.hid (And.intro hp2 (HS.out.2.trans hb2))
       clear hp2 hb2))
  refine wp_loop_rounds 1 ?_
  rw [rounds_succ]
  go_wp2_with (first
    | (go_at_call 54
       refine (accept_fi s HT.out gp 3 _ _ _ _ _ _ (by decide) (by decide) (by decide) (by decide) HS.out.1).mono ?_
       rintro e w2 ⟨rfl, hp2, hb2⟩
       replace HS := Lib.hid (And.intro hp2 (HS.out.2.trans hb2))
       clear hp2 hb2))
  go_ret
  exact ⟨A4, c4, rfl, HS.out⟩
end Go.Proofs.YtjgkdfghjeodeaaGreatDoor
