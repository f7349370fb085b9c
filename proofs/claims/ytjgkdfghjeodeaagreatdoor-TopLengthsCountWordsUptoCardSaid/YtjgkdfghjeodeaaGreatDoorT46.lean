/- regex's parser at the text ab*: peek, accept. -/
import Derived.Test.YtjgkdfghjeodeaaGreatDoorT41
import Derived.Laws.Externs
namespace Go.Proofs.YtjgkdfghjeodeaaGreatDoor
open Go.RowKit

/-- the text -/
structure TXT (s : ByteArray) : Prop where
  sz : s.size = 3
  b0 : ∀ h : 0 < s.size, s[0].toNat = 97
  b1 : ∀ h : 1 < s.size, s[1].toNat = 98
  b2 : ∀ h : 2 < s.size, s[2].toNat = 42
def pk3 (at_ : Nat) : Int := if at_ = 0 then 97 else if at_ = 1 then 98 else if at_ = 2 then 42 else -1
/-- the parser's state: the text, the place, the nodes -/
structure PST (s : ByteArray) (w : World) (gp at_ : Nat) (A : Option Addr) (n c : Nat) (xs : List Nd) : Prop where
  blk : Blk w gp 82 #[.string s, vi at_, .slice A n c]
  own : OwnS w (gp + 1) 58 9 A n c (ndl xs)
theorem PST.below {s : ByteArray} {w w' : World} {gp at_ : Nat} {A : Option Addr} {n c : Nat} {xs : List Nd} (h : PST s w gp at_ A n c xs) (hb : Below w.heap.size w w') : PST s w' gp at_ A n c xs := ⟨h.blk.old hb, h.own.below hb⟩
set_option maxRecDepth 100000 in
set_option maxHeartbeats 2000000 in
theorem peek_c (s : ByteArray) (hs : TXT s) (gp at_ : Nat) (v : Value) (w : World) (ha : at_ ≤ 3) (h : Blk w gp 82 #[.string s, vi at_, v]) : Calls Tryz.prog 105 #[.pointer (some ⟨gp, 0, none⟩)] w fun e w' => e = .returned (.int .i64 (pk3 at_)) ∧ Below w.heap.size w w' ∧ w'.heap.size = w.heap.size := by
  have f0 : w.cell? ⟨gp, 0, none⟩ = some (.string s) := h.cell 0
  have f1 : w.cell? ⟨gp, 1, none⟩ = some (vi at_) := h.cell 1
  clear h
  have hsz := hs.sz
  have b0 := hs.b0 (by omega)
  have b1 := hs.b1 (by omega)
  have b2 := hs.b2 (by omega)
  go_enter Tryz.func105, Tryz.ntmps105
  go_upto_region 1 with fail
  have hcase : at_ = 0 ∨ at_ = 1 ∨ at_ = 2 ∨ at_ = 3 := by omega
  refine wp_region_wz (by kernel_rfl) [(0, .r), (1, .r), (2, .r), (3, .r), (4, .r), (5, .r), (6, .r), (7, .r), (8, .r), (9, .r)] 10 (fun W => W.cell? ⟨gp, 0, none⟩ = some (.string s) ∧ W.cell? ⟨gp, 1, none⟩ = some (vi at_)) (by decide +kernel) (fun _ _ d _ _ h => by cases d <;> exact h) ⟨f0, f1⟩ ?_
  iterate 10 (refine wz_r (by simp only [List.getElem?_toArray, List.getElem?_cons_succ, List.getElem?_cons_zero]; rfl) ?_ (fun W hS => ?_) ?_; rotate_left; (focus (obtain ⟨q1, q2⟩ := hS; go_simp; first | done | rfl)); simp only [Act.put, List.setIfInBounds_toArray, List.set_cons_zero, List.set_cons_succ])
  refine wz_e ?_
  have hb1 : Below w.heap.size w w.drew ∧ w.drew.heap.size = w.heap.size := ⟨(Below.refl _ _).drew, rfl⟩
  replace f0 : w.drew.cell? ⟨gp, 0, none⟩ = some (.string s) := f0
  replace f1 : w.drew.cell? ⟨gp, 1, none⟩ = some (vi at_) := f1
  have HB := Lib.hid hb1
  clear hb1
  generalize w.drew = w1 at *
  rcases hcase with rfl | rfl | rfl | rfl
  · go_upto_region 3 with fail
    refine wp_region_wz (by kernel_rfl) [(0, .r), (1, .r), (2, .r), (3, .r), (4, .r), (5, .r), (6, .r), (7, .r), (8, .r), (9, .r), (10, .c)] 10 (fun W => W.cell? ⟨gp, 0, none⟩ = some (.string s) ∧ W.cell? ⟨gp, 1, none⟩ = some (vi 0)) (by decide +kernel) (fun _ _ d _ _ h => by cases d <;> exact h) ⟨f0, f1⟩ ?_
    iterate 8 (refine wz_r (by simp only [List.getElem?_toArray, List.getElem?_cons_succ, List.getElem?_cons_zero]; rfl) ?_ (fun W hS => ?_) ?_; rotate_left; (focus (obtain ⟨q1, q2⟩ := hS; go_simp; first | done | rfl)); simp only [Act.put, List.setIfInBounds_toArray, List.set_cons_zero, List.set_cons_succ])
    refine wz_r (by simp only [List.getElem?_toArray, List.getElem?_cons_succ, List.getElem?_cons_zero]; rfl) (.int .u8 97) (fun W hS => ?_) ?_; (focus (obtain ⟨q1, q2⟩ := hS; go_simp; first | done | rfl | (rw [b0]; rfl))); simp only [Act.put, List.setIfInBounds_toArray, List.set_cons_zero, List.set_cons_succ]
    iterate 1 (refine wz_r (by simp only [List.getElem?_toArray, List.getElem?_cons_succ, List.getElem?_cons_zero]; rfl) ?_ (fun W hS => ?_) ?_; rotate_left; (focus (obtain ⟨q1, q2⟩ := hS; go_simp; first | done | rfl)); simp only [Act.put, List.setIfInBounds_toArray, List.set_cons_zero, List.set_cons_succ])
    refine wz_c (by simp only [List.getElem?_toArray, List.getElem?_cons_succ, List.getElem?_cons_zero]; rfl) ?_
    go_wp2_with fail
    dsimp only [segQ]
    first | refine ⟨fun h => absurd h (by decide), ?_⟩ | skip
    refine wz_e ?_
    clear f0 f1
    go_wp2_with fail
    go_ret
    exact ⟨rfl, HB.out.1.drew, HB.out.2⟩
  · go_upto_region 3 with fail
    refine wp_region_wz (by kernel_rfl) [(0, .r), (1, .r), (2, .r), (3, .r), (4, .r), (5, .r), (6, .r), (7, .r), (8, .r), (9, .r), (10, .c)] 10 (fun W => W.cell? ⟨gp, 0, none⟩ = some (.string s) ∧ W.cell? ⟨gp, 1, none⟩ = some (vi 1)) (by decide +kernel) (fun _ _ d _ _ h => by cases d <;> exact h) ⟨f0, f1⟩ ?_
    iterate 8 (refine wz_r (by simp only [List.getElem?_toArray, List.getElem?_cons_succ, List.getElem?_cons_zero]; rfl) ?_ (fun W hS => ?_) ?_; rotate_left; (focus (obtain ⟨q1, q2⟩ := hS; go_simp; first | done | rfl)); simp only [Act.put, List.setIfInBounds_toArray, List.set_cons_zero, List.set_cons_succ])
    refine wz_r (by simp only [List.getElem?_toArray, List.getElem?_cons_succ, List.getElem?_cons_zero]; rfl) (.int .u8 98) (fun W hS => ?_) ?_; (focus (obtain ⟨q1, q2⟩ := hS; go_simp; first | done | rfl | (rw [b1]; rfl))); simp only [Act.put, List.setIfInBounds_toArray, List.set_cons_zero, List.set_cons_succ]
    iterate 1 (refine wz_r (by simp only [List.getElem?_toArray, List.getElem?_cons_succ, List.getElem?_cons_zero]; rfl) ?_ (fun W hS => ?_) ?_; rotate_left; (focus (obtain ⟨q1, q2⟩ := hS; go_simp; first | done | rfl)); simp only [Act.put, List.setIfInBounds_toArray, List.set_cons_zero, List.set_cons_succ])
    refine wz_c (by simp only [List.getElem?_toArray, List.getElem?_cons_succ, List.getElem?_cons_zero]; rfl) ?_
    go_wp2_with fail
    dsimp only [segQ]
    first | refine ⟨fun h => absurd h (by decide), ?_⟩ | skip
    refine wz_e ?_
    clear f0 f1
    go_wp2_with fail
    go_ret
    exact ⟨rfl, HB.out.1.drew, HB.out.2⟩
  · go_upto_region 3 with fail
    refine wp_region_wz (by kernel_rfl) [(0, .r), (1, .r), (2, .r), (3, .r), (4, .r), (5, .r), (6, .r), (7, .r), (8, .r), (9, .r), (10, .c)] 10 (fun W => W.cell? ⟨gp, 0, none⟩ = some (.string s) ∧ W.cell? ⟨gp, 1, none⟩ = some (vi 2)) (by decide +kernel) (fun _ _ d _ _ h => by cases d <;> exact h) ⟨f0, f1⟩ ?_
    iterate 8 (refine wz_r (by simp only [List.getElem?_toArray, List.getElem?_cons_succ, List.getElem?_cons_zero]; rfl) ?_ (fun W hS => ?_) ?_; rotate_left; (focus (obtain ⟨q1, q2⟩ := hS; go_simp; first | done | rfl)); simp only [Act.put, List.setIfInBounds_toArray, List.set_cons_zero, List.set_cons_succ])
    refine wz_r (by simp only [List.getElem?_toArray, List.getElem?_cons_succ, List.getElem?_cons_zero]; rfl) (.int .u8 42) (fun W hS => ?_) ?_; (focus (obtain ⟨q1, q2⟩ := hS; go_simp; first | done | rfl | (rw [b2]; rfl))); simp only [Act.put, List.setIfInBounds_toArray, List.set_cons_zero, List.set_cons_succ]
    iterate 1 (refine wz_r (by simp only [List.getElem?_toArray, List.getElem?_cons_succ, List.getElem?_cons_zero]; rfl) ?_ (fun W hS => ?_) ?_; rotate_left; (focus (obtain ⟨q1, q2⟩ := hS; go_simp; first | done | rfl)); simp only [Act.put, List.setIfInBounds_toArray, List.set_cons_zero, List.set_cons_succ])
    refine wz_c (by simp only [List.getElem?_toArray, List.getElem?_cons_succ, List.getElem?_cons_zero]; rfl) ?_
    go_wp2_with fail
    dsimp only [segQ]
    first | refine ⟨fun h => absurd h (by decide), ?_⟩ | skip
    refine wz_e ?_
    clear f0 f1
    go_wp2_with fail
    go_ret
    exact ⟨rfl, HB.out.1.drew, HB.out.2⟩
  · go_wp2_with fail
    go_ret
    exact ⟨rfl, HB.out⟩

theorem size33 : (Tryz.prog.info? 33).map (·.size) = some 1 := by kernel_rfl
theorem PST.gp_lt {s : ByteArray} {w : World} {gp at_ : Nat} {A : Option Addr} {n c : Nat} {xs : List Nd} (h : PST s w gp at_ A n c xs) : gp < w.heap.size := h.blk.lt
theorem PST.only {s : ByteArray} {w w' : World} {gp at_ at2 : Nat} {A : Option Addr} {n c : Nat} {xs : List Nd} (h : PST s w gp at_ A n c xs) (k : Blk w' gp 82 #[.string s, vi at2, .slice A n c]) (o : Only gp w w') : PST s w' gp at2 A n c xs :=
  ⟨k, h.own.only o (fun e => by have := (h.own.lt _ e).1; omega)⟩
set_option maxRecDepth 100000 in
set_option maxHeartbeats 2000000 in
theorem accept_t (s : ByteArray) (hs : TXT s) (gp at_ b : Nat) (A : Option Addr) (n c : Nat) (xs : List Nd) (w : World) (ha : at_ < 3) (hb : pk3 at_ = (b : Int)) (hb2 : b < 256) (h : PST s w gp at_ A n c xs) : Calls Tryz.prog 54 #[.pointer (some ⟨gp, 0, none⟩), .int .u8 b] w
    fun e w' => e = .returned (.bool true) ∧ PST s w' gp (at_ + 1) A n c xs ∧ Below gp w w' ∧ ∀ (g : Nat) (t : TypeId) (cs : Array Value), g ≠ gp → Blk w g t cs → Blk w' g t cs := by
  have hp := peek_c s hs gp at_ (.slice A n c) w (by omega) h.blk
  rw [hb] at hp
  have HP := Lib.hid (And.intro hp h)
  clear hp h hb
  have hw1 : IntKind.i64.wrap (b : Int) = (b : Int) := i64_wrap _ (by omega)
  have hw2 : IntKind.i64.wrap ((at_ : Int) + 1) = (at_ : Int) + 1 := i64_wrap _ (by omega)
  go_enter Tryz.func54, Tryz.ntmps54
  go_upto_region 3 with (first
    | (go_at_call 105
       refine HP.out.1.mono ?_
       rintro e w2 ⟨rfl, hb2, hz2⟩
       have H2 := Lib.hid (show PST s w2 gp at_ A n c xs ∧ Below gp w w2 ∧ Below w.heap.size w w2 from ⟨HP.out.2.below hb2, hb2.mono (Nat.le_of_lt HP.out.2.gp_lt), hb2⟩)
       clear hb2 hz2))
  have f1 : w2.cell? ⟨gp, 1, none⟩ = some (vi at_) := H2.out.1.blk.cell 1
  go_wp2_with (first
    | (with_reducible refine at_oper (.store 3 (.tmp 16) (.tmp 14)) rfl ?_
       refine wpList_store_at rfl 3 (.tmp 16) (.tmp 14) rfl rfl gp 1 (.int .i64 ((at_ : Int) + 1)) _ 82 rfl rfl H2.out.1.blk (by simp) size3 rfl ?_
       intro w3 k3 o3
       rw [show ((at_ : Int) + 1) = ((at_ + 1 : Nat) : Int) by omega] at k3
       have H3 := Lib.hid (show PST s w3 gp (at_ + 1) A n c xs ∧ Below gp w w3 ∧ ∀ (g : Nat) (t : TypeId) (cs : Array Value), g ≠ gp → Blk w g t cs → Blk w3 g t cs from ⟨H2.out.1.only k3 o3, below_only H2.out.2.1 o3 (Nat.le_refl _), fun g t cs hg hk => (hk.old H2.out.2.2).only o3 hg⟩)
       clear k3 o3))
  go_ret
  exact ⟨rfl, H3.out⟩
set_option maxRecDepth 100000 in
set_option maxHeartbeats 2000000 in
theorem accept_f (s : ByteArray) (hs : TXT s) (gp at_ b : Nat) (A : Option Addr) (n c : Nat) (xs : List Nd) (w : World) (ha : at_ ≤ 3) (hb : pk3 at_ ≠ (b : Int)) (hb2 : b < 256) (h : PST s w gp at_ A n c xs) : Calls Tryz.prog 54 #[.pointer (some ⟨gp, 0, none⟩), .int .u8 b] w
    fun e w' => e = .returned (.bool false) ∧ PST s w' gp at_ A n c xs ∧ Below gp w w' := by
  have hp := peek_c s hs gp at_ (.slice A n c) w (by omega) h.blk
  obtain ⟨q, hq⟩ : ∃ q, pk3 at_ = q := ⟨_, rfl⟩
  rw [hq] at hp hb
  have d1 : (q != (b : Int)) = true := by simp [hb]
  have d2 : (q == (b : Int)) = false := by rw [beq_eq_false_iff_ne]; exact hb
  have HP := Lib.hid (And.intro hp h)
  clear hp h hb hq
  have hw1 : IntKind.i64.wrap (b : Int) = (b : Int) := i64_wrap _ (by omega)
  go_enter Tryz.func54, Tryz.ntmps54
  go_wp2_with (first
    | (go_at_call 105
       refine HP.out.1.mono ?_
       rintro e w2 ⟨rfl, hb2, hz2⟩
       have H2 := Lib.hid (show PST s w2 gp at_ A n c xs ∧ Below gp w w2 from ⟨HP.out.2.below hb2, hb2.mono (Nat.le_of_lt HP.out.2.gp_lt)⟩)
       clear hb2 hz2))
  go_ret
  exact ⟨rfl, H2.out⟩
set_option maxRecDepth 100000 in
set_option maxHeartbeats 4000000 in
theorem emit_c (s : ByteArray) (gp at_ : Nat) (A : Option Addr) (n c : Nat) (xs : List Nd) (nd : Nd) (w : World) (hn : n ≤ 1000) (h : PST s w gp at_ A n c xs) : Calls Tryz.prog 55 #[.pointer (some ⟨gp, 0, none⟩), ndV nd] w
    fun e w' => ∃ A' c', e = .returned (vi n) ∧ PST s w' gp at_ A' (n + 1) c' (xs ++ [nd]) ∧ Below gp w w' := by
  obtain ⟨X, hX⟩ : ∃ X, ndc nd = X := ⟨_, rfl⟩
  have zX : X.size = 9 := by rw [← hX]; rfl
  have hE : ndV nd = .agg X := by rw [← hX]; rfl
  have hf := fold_nd nd
  rw [hX] at hf
  rw [hE]
  have hcap := h.own.cap.1
  have HX := Lib.hid (And.intro hX (And.intro h hf))
  clear hX hE h hf
  have hs1 : (n : Int) + 1 - 1 = (n : Int) := by omega
  have hw1 : IntKind.i64.wrap (n : Int) = (n : Int) := i64_wrap _ (by omega)
  go_enter Tryz.func55, Tryz.ntmps55
  go_upto_region 1 with (first
    | (with_reducible refine at_oper (.box 58 (.tmp 1)) rfl ?_
       refine wpList_box_rowG w.heap.size rfl rfl 58 (.tmp 1) rfl X rfl ?_
       intro w1 k1 b1 s1
       have H1 := Lib.hid (show PST s w1 gp at_ A n c xs ∧ Blk w1 w.heap.size 58 X ∧ Below w.heap.size w w1 from ⟨HX.out.2.1.below b1, k1, b1⟩)
       clear k1 b1 s1))
  have f2 : w1.cell? ⟨gp, 2, none⟩ = some (.slice A n c) := H1.out.1.blk.cell 2
  refine wp_region_wz (by kernel_rfl) [(0, .p), (1, .p), (2, .p), (3, .p), (4, .r), (5, .r), (6, .c), (7, .c), (8, .c), (9, .c), (10, .c)] 7 (fun W => W.cell? ⟨gp, 2, none⟩ = some (.slice A n c) ∧ Blk W w.heap.size 58 X) (by decide +kernel) (fun _ _ d _ _ h => by cases d <;> exact h) ⟨f2, H1.out.2.1⟩ ?_
  have HD := Lib.hid (show PST s w1.drew gp at_ A n c xs ∧ Below gp w w1.drew from ⟨H1.out.1.below (Below.refl _ _).drew, (H1.out.2.2.mono (Nat.le_of_lt HX.out.2.1.gp_lt)).drew⟩)
  clear f2
  generalize w1.drew = w2 at *
  iterate 4 (refine wz_p (by simp only [List.getElem?_toArray, List.getElem?_cons_succ, List.getElem?_cons_zero]; rfl) ?_ (fun W => ?_) ?_; rotate_left; (focus (go_simp; first | done | rfl)); simp only [Act.put, List.setIfInBounds_toArray, List.set_cons_zero, List.set_cons_succ])
  refine wz_r (by simp only [List.getElem?_toArray, List.getElem?_cons_succ, List.getElem?_cons_zero]; rfl) (.slice A n c) (fun W hS => ?_) ?_; (focus (obtain ⟨q1, q2⟩ := hS; go_simp; first | done | rfl)); simp only [Act.put, List.setIfInBounds_toArray, List.set_cons_zero, List.set_cons_succ]
  refine wz_r (by simp only [List.getElem?_toArray, List.getElem?_cons_succ, List.getElem?_cons_zero]; rfl) (.agg X) (fun W hS => run_load_blk 58 (.tmp 3) rfl w.heap.size rfl 58 X _ hS.2 Tryz.underlying58 rfl (by rw [zX]; exact size58)) ?_
  simp only [Act.put, List.setIfInBounds_toArray, List.set_cons_zero, List.set_cons_succ]
  refine wz_c (by simp only [List.getElem?_toArray, List.getElem?_cons_succ, List.getElem?_cons_zero]; rfl) ?_
  go_wp2_with fail
  dsimp only [segQ]
  rw [HX.out.2.2]
  have hb3 : Below w2.heap.size w2 (w2.alloc (.cells X 58)) := (Below.refl _ _).alloc (Nat.le_refl _) _
  refine ⟨fun _ hS => ⟨cell_below hb3 hS.1, hS.2.alloc _⟩, ?_⟩
  have hp3 := HD.out.1.below hb3
  have H3 := Lib.hid (show PST s (w2.alloc (.cells X 58)) gp at_ A n c xs ∧ Blk (w2.alloc (.cells X 58)) w2.heap.size 58 X ∧ Below gp w (w2.alloc (.cells X 58)) from ⟨hp3, Blk.new w2 58 X, HD.out.2.trans (hb3.mono (Nat.le_of_lt HD.out.1.gp_lt))⟩)
  clear hb3 hp3
  generalize w2.alloc (.cells X 58) = w3 at *
  generalize w2.heap.size = g2 at *
  refine wz_c (by simp only [List.getElem?_toArray, List.getElem?_cons_succ, List.getElem?_cons_zero]; rfl) ?_
  go_wp2_with (first
    | (at_builtin
       have hsz := H3.out.1.gp_lt
       refine wpList_appendSS rfl (.tmp 9) (.tmp 11) 33 rfl app33 (gp + 1) A n c (ndl xs) rfl H3.out.1.own (some ⟨g2, 0, none⟩) 1 1 X.toList rfl (by rw [Array.length_toList, zX]) (K := TT) (H3.out.2.1.sl.weak fun _ _ _ => trivial) (by rw [← HX.out.1]; exact fun u hu => ndl_one [nd] u (by simpa [ndl] using hu)) (by omega) (by omega) (by omega) ?_
       intro A4 c4 w4 own4 g4 _
       have H4 := Lib.hid (show Blk w4 gp 82 #[.string s, vi at_, .slice A n c] ∧ OwnS w4 (gp + 1) 58 9 A4 (n + 1) c4 (ndl (xs ++ [nd])) ∧ Below gp w w4 from
         ⟨H3.out.1.blk.grown g4 (fun e => by have := (H3.out.1.own.lt _ e).1; omega), by rw [ndl_snoc, HX.out.1]; exact own4, below_grown H3.out.2.2 g4 (by omega) (fun k e => by have := (H3.out.1.own.lt _ e).1; omega)⟩)
       clear own4 g4 hsz))
  dsimp only [segQ]
  first | refine ⟨fun h => absurd h (by decide), ?_⟩ | skip
  refine wz_c (by simp only [List.getElem?_toArray, List.getElem?_cons_succ, List.getElem?_cons_zero]; rfl) ?_
  go_wp2_with fail
  dsimp only [segQ]
  first | refine ⟨fun h => absurd h (by decide), ?_⟩ | skip
  refine wz_c (by simp only [List.getElem?_toArray, List.getElem?_cons_succ, List.getElem?_cons_zero]; rfl) ?_
  go_wp2_with fail
  dsimp only [segQ]
  first | refine ⟨fun h => absurd h (by decide), ?_⟩ | skip
  refine wz_c (by simp only [List.getElem?_toArray, List.getElem?_cons_succ, List.getElem?_cons_zero]; rfl) ?_
  go_wp2_with (first
    | (with_reducible refine at_oper (.store 33 (.tmp 14) (.tmp 12)) rfl ?_
       refine wpList_store_at rfl 33 (.tmp 14) (.tmp 12) rfl rfl gp 2 (.slice A4 (n + 1) c4) _ 82 rfl rfl H4.out.1 (by simp) size33 rfl ?_
       intro w5 k5 o5
       have H5 := Lib.hid (show PST s w5 gp at_ A4 (n + 1) c4 (xs ++ [nd]) ∧ Below gp w w5 from ⟨⟨k5, H4.out.2.1.only o5 (fun e => by have := (H4.out.2.1.lt _ e).1; omega)⟩, below_only H4.out.2.2 o5 (Nat.le_refl _)⟩)
       clear k5 o5))
  dsimp only [segQ]
  first | refine ⟨fun h => absurd h (by decide), ?_⟩ | skip
  refine wz_e ?_
  have f2 : w5.cell? ⟨gp, 2, none⟩ = some (.slice A4 (n + 1) c4) := H5.out.1.blk.cell 2
  have hc4 := H5.out.1.own.cap.1
  go_wp2_with fail
  go_ret
  exact ⟨A4, c4, rfl, H5.out⟩

theorem run170 (S : ByteArray) (b : Nat) (w : World) : (callFunc 170 #[.string S, .int .u8 b]).run Tryz.prog w = .ok (.value (.int .i64 (firstIdx S (b : Int).toNat.toUInt8))) w := by
  rw [run_callFunc_extern (e := Extern.BytealgIndexByte.indexByte) Tryz.func170 (by kernel_rfl) (by kernel_rfl) (by kernel_rfl) (by kernel_rfl), run_indexByte_string]
  rfl
set_option maxRecDepth 100000 in
theorem idx164_c (S : ByteArray) (b : Nat) (h : firstIdx S (b : Int).toNat.toUInt8 = -1) (w : World) : Calls Tryz.prog 164 #[.string S, .int .u8 b] w fun e w' => e = .returned (.int .i64 (-1)) ∧ w' = w := by
  have hx := run170 S b
  rw [h] at hx
  clear h
  go_enter Tryz.func164, Tryz.ntmps164
  go_wp2_with fail
  go_ret
  exact ⟨rfl, rfl⟩
set_option maxRecDepth 100000 in
theorem idx161_c (S : ByteArray) (b : Nat) (h : firstIdx S (b : Int).toNat.toUInt8 = -1) (w : World) : Calls Tryz.prog 161 #[.string S, .int .u8 b] w fun e w' => e = .returned (.int .i64 (-1)) ∧ w' = w := by
  have HX := Lib.hid (idx164_c S b h w)
  clear h
  go_enter Tryz.func161, Tryz.ntmps161
  go_wp2_with (first
    | (go_at_call 164
       refine HX.out.mono ?_
       rintro e w2 ⟨rfl, hw⟩
       have hw := hw.symm
       subst hw))
  go_ret
  exact ⟨rfl, rfl⟩
set_option maxRecDepth 100000 in
set_option maxHeartbeats 2000000 in
theorem plain_c (b : Nat) (hb : b = 97 ∨ b = 98) (w : World) : Calls Tryz.prog 158 #[.int .u8 b] w fun e w' => e = .returned (.bool true) ∧ w' = w := by
  have d1 : decide ((b : Int) > 32) = true := by simp; omega
  have d2 : decide ((b : Int) < 127) = true := by simp; omega
  go_enter Tryz.func158, Tryz.ntmps158
  go_wp2_with (first
    | (with_reducible refine wpList_unguard ?_ ?_ ?_
       rfl
       rfl)
    | (go_at_call 161
       refine (idx161_c _ b (by rcases hb with rfl | rfl <;> decide +kernel) w).mono ?_
       rintro e w2 ⟨rfl, hw⟩
       have hw := hw.symm
       subst hw))
  go_ret
  exact ⟨rfl, rfl⟩
set_option maxRecDepth 100000 in
set_option maxHeartbeats 4000000 in
theorem char0_c (s : ByteArray) (hs : TXT s) (gp : Nat) (A : Option Addr) (n c : Nat) (xs : List Nd) (w : World) (h : PST s w gp 0 A n c xs) : Calls Tryz.prog 149 #[.pointer (some ⟨gp, 0, none⟩)] w
    fun e w' => e = .returned (.int .u8 97) ∧ PST s w' gp 1 A n c xs ∧ Below gp w w' := by
  have HS := Lib.hid h
  have hsz := hs.sz
  have b0 := hs.b0 (by omega)
  have hwz : IntKind.i64.wrap (0 : Int) = 0 := i64_wrap _ (by omega)
  have HT := Lib.hid hs
  clear h hs
  go_enter Tryz.func149, Tryz.ntmps149
  go_upto_region 7 with (first
    | (with_reducible refine wpList_unguard ?_ ?_ ?_
       rfl
       rfl)
    | (go_at_call 54
       refine (accept_f s HT.out gp 0 92 A n c xs w (by decide) (by decide) (by decide) HS.out).mono ?_
       rintro e w2 ⟨rfl, hp2, hb2⟩
       have H2 := Lib.hid (And.intro hp2 hb2)
       clear hp2 hb2)
    | (go_at_call 105
       refine (peek_c s HT.out gp 0 _ w2 (by decide) H2.out.1.blk).mono ?_
       rintro e w3 ⟨rfl, hb3, _⟩
       have H3 := Lib.hid (show PST s w3 gp 0 A n c xs ∧ Below gp w w3 from ⟨H2.out.1.below hb3, H2.out.2.trans (hb3.mono (Nat.le_of_lt H2.out.1.gp_lt))⟩)
       clear hb3
       rw [show pk3 0 = ((97 : Nat) : Int) from rfl])
    | (go_at_call 158
       refine (plain_c 97 (by decide) w3).mono ?_
       rintro e w4 ⟨rfl, hw⟩
       have hw := hw.symm
       subst hw))
  have f1 : w3.cell? ⟨gp, 1, none⟩ = some (vi 0) := H3.out.1.blk.cell 1
  go_upto_region 8 with (first
    | (with_reducible refine at_oper (.store 3 (.tmp 32) (.tmp 30)) rfl ?_
       refine wpList_store_at rfl 3 (.tmp 32) (.tmp 30) rfl rfl gp 1 (vi 1) _ 82 rfl rfl H3.out.1.blk (by simp) size3 rfl ?_
       intro w5 k5 o5
       have H5 := Lib.hid (show PST s w5 gp 1 A n c xs ∧ Below gp w w5 from ⟨H3.out.1.only k5 o5, below_only H3.out.2 o5 (Nat.le_refl _)⟩)
       clear k5 o5))
  clear f1
  refine wp_region_wz (by kernel_rfl) [(0, .r), (1, .r), (2, .r), (3, .r), (4, .r), (5, .r), (6, .r), (7, .r), (8, .r), (9, .r), (10, .c)] 10 (fun W => W.cell? ⟨gp, 0, none⟩ = some (.string s) ∧ W.cell? ⟨gp, 1, none⟩ = some (vi 1)) (by decide +kernel) (fun _ _ d _ _ h => by cases d <;> exact h) ⟨H5.out.1.blk.cell 0, H5.out.1.blk.cell 1⟩ ?_
  iterate 9 (refine wz_r (by simp only [List.getElem?_toArray, List.getElem?_cons_succ, List.getElem?_cons_zero]; rfl) ?_ (fun W hS => ?_) ?_; rotate_left; (focus (obtain ⟨q1, q2⟩ := hS; go_simp; first | done | rfl)); simp only [Act.put, List.setIfInBounds_toArray, List.set_cons_zero, List.set_cons_succ])
  refine wz_r (by simp only [List.getElem?_toArray, List.getElem?_cons_succ, List.getElem?_cons_zero]; rfl) (.int .u8 97) (fun W hS => ?_) ?_; (focus (obtain ⟨q1, q2⟩ := hS; go_simp; first | done | rfl | (rw [b0]; rfl))); simp only [Act.put, List.setIfInBounds_toArray, List.set_cons_zero, List.set_cons_succ]
  have HD := Lib.hid (show PST s w5.drew gp 1 A n c xs ∧ Below gp w w5.drew from ⟨H5.out.1.below (Below.refl _ _).drew, H5.out.2.drew⟩)
  generalize w5.drew = w6 at *
  refine wz_c (by simp only [List.getElem?_toArray, List.getElem?_cons_succ, List.getElem?_cons_zero]; rfl) ?_
  go_wp2_with fail
  dsimp only [segQ]
  first | refine ⟨fun h => absurd h (by decide), ?_⟩ | skip
  refine wz_e ?_
  go_wp2_with fail
  go_ret
  exact ⟨rfl, HD.out⟩
set_option maxRecDepth 100000 in
set_option maxHeartbeats 4000000 in
theorem char1_c (s : ByteArray) (hs : TXT s) (gp : Nat) (A : Option Addr) (n c : Nat) (xs : List Nd) (w : World) (h : PST s w gp 1 A n c xs) : Calls Tryz.prog 149 #[.pointer (some ⟨gp, 0, none⟩)] w
    fun e w' => e = .returned (.int .u8 98) ∧ PST s w' gp 2 A n c xs ∧ Below gp w w' := by
  have HS := Lib.hid h
  have hsz := hs.sz
  have b0 := hs.b1 (by omega)
  have hwz : IntKind.i64.wrap (1 : Int) = 1 := i64_wrap _ (by omega)
  have HT := Lib.hid hs
  clear h hs
  go_enter Tryz.func149, Tryz.ntmps149
  go_upto_region 7 with (first
    | (with_reducible refine wpList_unguard ?_ ?_ ?_
       rfl
       rfl)
    | (go_at_call 54
       refine (accept_f s HT.out gp 1 92 A n c xs w (by decide) (by decide) (by decide) HS.out).mono ?_
       rintro e w2 ⟨rfl, hp2, hb2⟩
       have H2 := Lib.hid (And.intro hp2 hb2)
       clear hp2 hb2)
    | (go_at_call 105
       refine (peek_c s HT.out gp 1 _ w2 (by decide) H2.out.1.blk).mono ?_
       rintro e w3 ⟨rfl, hb3, _⟩
       have H3 := Lib.hid (show PST s w3 gp 1 A n c xs ∧ Below gp w w3 from ⟨H2.out.1.below hb3, H2.out.2.trans (hb3.mono (Nat.le_of_lt H2.out.1.gp_lt))⟩)
       clear hb3
       rw [show pk3 1 = ((98 : Nat) : Int) from rfl])
    | (go_at_call 158
       refine (plain_c 98 (by decide) w3).mono ?_
       rintro e w4 ⟨rfl, hw⟩
       have hw := hw.symm
       subst hw))
  have f1 : w3.cell? ⟨gp, 1, none⟩ = some (vi 1) := H3.out.1.blk.cell 1
  go_upto_region 8 with (first
    | (with_reducible refine at_oper (.store 3 (.tmp 32) (.tmp 30)) rfl ?_
       refine wpList_store_at rfl 3 (.tmp 32) (.tmp 30) rfl rfl gp 1 (vi 2) _ 82 rfl rfl H3.out.1.blk (by simp) size3 rfl ?_
       intro w5 k5 o5
       have H5 := Lib.hid (show PST s w5 gp 2 A n c xs ∧ Below gp w w5 from ⟨H3.out.1.only k5 o5, below_only H3.out.2 o5 (Nat.le_refl _)⟩)
       clear k5 o5))
  clear f1
  refine wp_region_wz (by kernel_rfl) [(0, .r), (1, .r), (2, .r), (3, .r), (4, .r), (5, .r), (6, .r), (7, .r), (8, .r), (9, .r), (10, .c)] 10 (fun W => W.cell? ⟨gp, 0, none⟩ = some (.string s) ∧ W.cell? ⟨gp, 1, none⟩ = some (vi 2)) (by decide +kernel) (fun _ _ d _ _ h => by cases d <;> exact h) ⟨H5.out.1.blk.cell 0, H5.out.1.blk.cell 1⟩ ?_
  iterate 9 (refine wz_r (by simp only [List.getElem?_toArray, List.getElem?_cons_succ, List.getElem?_cons_zero]; rfl) ?_ (fun W hS => ?_) ?_; rotate_left; (focus (obtain ⟨q1, q2⟩ := hS; go_simp; first | done | rfl)); simp only [Act.put, List.setIfInBounds_toArray, List.set_cons_zero, List.set_cons_succ])
  refine wz_r (by simp only [List.getElem?_toArray, List.getElem?_cons_succ, List.getElem?_cons_zero]; rfl) (.int .u8 98) (fun W hS => ?_) ?_; (focus (obtain ⟨q1, q2⟩ := hS; go_simp; first | done | rfl | (rw [b0]; rfl))); simp only [Act.put, List.setIfInBounds_toArray, List.set_cons_zero, List.set_cons_succ]
  have HD := Lib.hid (show PST s w5.drew gp 2 A n c xs ∧ Below gp w w5.drew from ⟨H5.out.1.below (Below.refl _ _).drew, H5.out.2.drew⟩)
  generalize w5.drew = w6 at *
  refine wz_c (by simp only [List.getElem?_toArray, List.getElem?_cons_succ, List.getElem?_cons_zero]; rfl) ?_
  go_wp2_with fail
  dsimp only [segQ]
  first | refine ⟨fun h => absurd h (by decide), ?_⟩ | skip
  refine wz_e ?_
  go_wp2_with fail
  go_ret
  exact ⟨rfl, HD.out⟩
end Go.Proofs.YtjgkdfghjeodeaaGreatDoor
