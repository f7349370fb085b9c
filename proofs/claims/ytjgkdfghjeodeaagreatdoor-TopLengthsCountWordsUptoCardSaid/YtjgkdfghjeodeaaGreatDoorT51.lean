/- univocalref02.push. -/
import Derived.Test.YtjgkdfghjeodeaaGreatDoorT43
import Derived.Test.YtjgkdfghjeodeaaGreatDoorT45
namespace Go.Proofs.YtjgkdfghjeodeaaGreatDoor
open Go.RowKit

/-- a stack is handed back: at most one tree more, at most one node more; with the byte 5 one tree less -/
def PuR (N T b : Nat) (w : World) (e : Ending) (w' : World) : Prop :=
  ∃ N' A' c' us xs, e = .returned (.slice A' N' c') ∧ RXX w' A' N' c' (T + 1) us xs ∧ N' ≤ N + 1 ∧ 1 ≤ N' ∧ (b = 5 → 2 ≤ N → N' + 1 = N) ∧ Below w.heap.size w w'
theorem rx_one {w : World} {g : Nat} {n : Nd} (h : Blk w g 58 (ndc n)) : RX w TT (some ⟨g, 0, none⟩) 1 1 [n] :=
  ⟨rfl, Nat.le_refl _, by omega, by omega, by simpa [ndl] using h.sl.weak fun _ _ _ => trivial⟩
set_option maxRecDepth 100000 in
set_option maxHeartbeats 40000000 in
theorem push_c (A : Option Addr) (N c T b : Nat) (us : List Value) (xs : List (List Nd)) (w : World) (hr : RXX w A N c T us xs) (hT : T ≤ 2900000) (hb : b < 256) : Calls Tryz.prog 17 #[.slice A N c, .int .u8 b] w (PuR N T b w) := by
  have hcap := hr.cap
  have hNT := hr.many
  have HRX := Lib.hid hr
  obtain ⟨k, hk⟩ : ∃ k, b % 14 = k := ⟨_, rfl⟩
  obtain ⟨a, ha⟩ : ∃ a, b / 14 = a := ⟨_, rfl⟩
  have hk13 : k ≤ 13 := by omega
  have ha18 : a ≤ 18 := by omega
  have q1 : IntKind.u8.wrap ((b : Int) / 14) = (a : Int) := by rw [IntKind.wrap_u8]; omega
  have q2 : IntKind.u8.wrap ((b : Int) % 14) = (k : Int) := by rw [IntKind.wrap_u8]; omega
  have q5 : (b : Int) % 14 = (k : Int) := by omega
  have q6 : (b : Int) / 14 = (a : Int) := by omega
  have q3 : IntKind.i64.wrap (a : Int) = (a : Int) := i64_wrap _ (by omega)
  have q4 : IntKind.i64.wrap (k : Int) = (k : Int) := i64_wrap _ (by omega)
  have HK := Lib.hid (And.intro hk ha)
  clear hr hk ha
  go_enter Tryz.func17, Tryz.ntmps17
  go_upto_region 4 with fail
  clear q1 q2 q3 q4 q5 q6
  by_cases hB : 2 ≤ N ∧ (k = 4 ∨ k = 5 ∨ k = 6 ∨ k = 13)
  · obtain ⟨h2, hB⟩ := hB
    have d1 : decide ((N : Int) ≥ 2) = true := by simp; omega
    obtain ⟨p, hp⟩ : ∃ p, N = p + 2 := ⟨N - 2, by omega⟩
    have hs1 : (N : Int) - 2 = (p : Int) := by omega
    have hw1 : IntKind.i64.wrap (p : Int) = (p : Int) := i64_wrap _ (by omega)
    have hs2 : (N : Int) - 1 = ((p + 1 : Nat) : Int) := by omega
    obtain ⟨p1, hp1⟩ : ∃ p1, p + 1 = p1 := ⟨_, rfl⟩
    rw [hp1] at hs2
    have hw2 : IntKind.i64.wrap (p1 : Int) = (p1 : Int) := i64_wrap _ (by omega)
    have hpN : p < N := by omega
    have hpN1 : p1 < N := by omega
    obtain ⟨B1, c1, e1, r1, g1⟩ := HRX.out.ok p hpN
    obtain ⟨B2, c2, e2, r2, g2⟩ := HRX.out.ok p1 hpN1
    obtain ⟨ad, rfl, _, f1⟩ := HRX.out.sl p _ e1
    obtain ⟨ad', e', _, f2⟩ := HRX.out.sl p1 _ e2
    cases e'
    have t1 := sumL_take (xs := xs) (k := p) (by rw [HRX.out.lx]; exact hpN)
    have t2 := sumL_take (xs := xs) (k := p1) (by rw [HRX.out.lx]; exact hpN1)
    have t3 := sumL_take_le xs (p1 + 1)
    have t4 := HRX.out.sum
    rw [hp1] at t1
    obtain ⟨x1, hx1⟩ : ∃ x, xs.getD p [] = x := ⟨_, rfl⟩
    obtain ⟨x2, hx2⟩ : ∃ x, xs.getD p1 [] = x := ⟨_, rfl⟩
    rw [hx1] at e1 r1 g1 f1 t1
    rw [hx2] at e2 r2 g2 f2 t2
    obtain ⟨n1, hn1⟩ : ∃ n, x1.length = n := ⟨_, rfl⟩
    obtain ⟨n2, hn2⟩ : ∃ n, x2.length = n := ⟨_, rfl⟩
    rw [hn1] at r1 f1 t1
    rw [hn2] at r2 f2 t2
    have hnn : sumL (xs.take p) + (n1 + n2 + 1) ≤ T + 1 := by omega
    have hbd : Below w.heap.size w w.drew := (Below.refl _ _).drew
    have HD := Lib.hid (And.intro (RXX.below HRX.out hbd) (And.intro (r1.below hbd) (And.intro g1 (And.intro (r2.below hbd) (And.intro g2 (And.intro hnn hp))))))
    have HF := Lib.hid (And.intro f1 f2)
    have hrn1 := r1.cap
    have hrn2 := r2.cap
    have hnn2 : n1 + n2 ≤ 3000000 := by omega
    clear e1 e2 r1 r2 g1 g2 f1 f2 t1 t2 t3 t4 hx1 hx2 hn1 hn2 hnn hbd hp hp1
    rcases hB with rfl | rfl | rfl | rfl
    · go_upto_region 10 with (first
        | (with_reducible refine wpList_unguard ?_ ?_ ?_
           rfl
           rfl))
      refine wp_region_wz (by kernel_rfl) [(0, .p), (1, .p), (2, .p), (3, .p), (4, .p), (5, .p), (6, .p), (7, .p), (8, .r), (9, .p), (10, .p), (11, .p), (12, .p), (13, .r), (14, .c), (15, .c), (16, .c)] 14 (fun W => W.cell? (ad.add p) = some (.slice B1 n1 c1) ∧ W.cell? (ad.add p1) = some (.slice B2 n2 c2)) (by decide +kernel) (fun _ _ d _ _ h => by cases d <;> exact h) HF.out ?_
      replace HF := Lib.hid (show w.drew.heap.size = w.heap.size ∧ Below w.heap.size w w.drew from ⟨rfl, (Below.refl _ _).drew⟩)
      generalize w.drew = w2 at *
      refine wz_p (by simp only [List.getElem?_toArray, List.getElem?_cons_zero]; rfl) ?_ (fun W => ?_) ?_; rotate_left; (focus (go_simp; first | done | rfl | rw [if_pos (by omega)])); simp only [Act.put, List.setIfInBounds_toArray, List.set_cons_zero, List.set_cons_succ]
      refine wz_p (by simp only [List.getElem?_toArray, List.getElem?_cons_succ, List.getElem?_cons_zero]; rfl) ?_ (fun W => ?_) ?_; rotate_left; (focus (go_simp; first | done | rfl | rw [if_pos (by omega)])); simp only [Act.put, List.setIfInBounds_toArray, List.set_cons_zero, List.set_cons_succ]
      refine wz_p (by simp only [List.getElem?_toArray, List.getElem?_cons_succ, List.getElem?_cons_zero]; rfl) ?_ (fun W => ?_) ?_; rotate_left; (focus (go_simp; first | done | rfl | rw [if_pos (by omega)])); simp only [Act.put, List.setIfInBounds_toArray, List.set_cons_zero, List.set_cons_succ]
      refine wz_p (by simp only [List.getElem?_toArray, List.getElem?_cons_succ, List.getElem?_cons_zero]; rfl) ?_ (fun W => ?_) ?_; rotate_left; (focus (go_simp; first | done | rfl | rw [if_pos (by omega)])); simp only [Act.put, List.setIfInBounds_toArray, List.set_cons_zero, List.set_cons_succ]
      refine wz_p (by simp only [List.getElem?_toArray, List.getElem?_cons_succ, List.getElem?_cons_zero]; rfl) ?_ (fun W => ?_) ?_; rotate_left; (focus (go_simp; first | done | rfl | rw [if_pos (by omega)])); simp only [Act.put, List.setIfInBounds_toArray, List.set_cons_zero, List.set_cons_succ]
      refine wz_p (by simp only [List.getElem?_toArray, List.getElem?_cons_succ, List.getElem?_cons_zero]; rfl) ?_ (fun W => ?_) ?_; rotate_left; (focus (go_simp; first | done | rfl | rw [if_pos (by omega)])); simp only [Act.put, List.setIfInBounds_toArray, List.set_cons_zero, List.set_cons_succ]
      refine wz_p (by simp only [List.getElem?_toArray, List.getElem?_cons_succ, List.getElem?_cons_zero]; rfl) ?_ (fun W => ?_) ?_; rotate_left; (focus (go_simp; first | done | rfl | rw [if_pos (by omega)])); simp only [Act.put, List.setIfInBounds_toArray, List.set_cons_zero, List.set_cons_succ]
      refine wz_p (by simp only [List.getElem?_toArray, List.getElem?_cons_succ, List.getElem?_cons_zero]; rfl) ?_ (fun W => ?_) ?_; rotate_left; (focus (go_simp; first | done | rfl | rw [if_pos (by omega)])); simp only [Act.put, List.setIfInBounds_toArray, List.set_cons_zero, List.set_cons_succ]
      refine wz_r (by simp only [List.getElem?_toArray, List.getElem?_cons_succ, List.getElem?_cons_zero]; rfl) ?_ (fun W hS => ?_) ?_; rotate_left; (focus (obtain ⟨q1, q2⟩ := hS; go_simp; first | done | rfl)); simp only [Act.put, List.setIfInBounds_toArray, List.set_cons_zero, List.set_cons_succ]
      refine wz_p (by simp only [List.getElem?_toArray, List.getElem?_cons_succ, List.getElem?_cons_zero]; rfl) ?_ (fun W => ?_) ?_; rotate_left; (focus (go_simp; first | done | rfl | rw [if_pos (by omega)])); simp only [Act.put, List.setIfInBounds_toArray, List.set_cons_zero, List.set_cons_succ]
      refine wz_p (by simp only [List.getElem?_toArray, List.getElem?_cons_succ, List.getElem?_cons_zero]; rfl) ?_ (fun W => ?_) ?_; rotate_left; (focus (go_simp; first | done | rfl | rw [if_pos (by omega)])); simp only [Act.put, List.setIfInBounds_toArray, List.set_cons_zero, List.set_cons_succ]
      refine wz_p (by simp only [List.getElem?_toArray, List.getElem?_cons_succ, List.getElem?_cons_zero]; rfl) ?_ (fun W => ?_) ?_; rotate_left; (focus (go_simp; first | done | rfl | rw [if_pos (by omega)])); simp only [Act.put, List.setIfInBounds_toArray, List.set_cons_zero, List.set_cons_succ]
      refine wz_p (by simp only [List.getElem?_toArray, List.getElem?_cons_succ, List.getElem?_cons_zero]; rfl) ?_ (fun W => ?_) ?_; rotate_left; (focus (go_simp; first | done | rfl | rw [if_pos (by omega)])); simp only [Act.put, List.setIfInBounds_toArray, List.set_cons_zero, List.set_cons_succ]
      refine wz_r (by simp only [List.getElem?_toArray, List.getElem?_cons_succ, List.getElem?_cons_zero]; rfl) ?_ (fun W hS => ?_) ?_; rotate_left; (focus (obtain ⟨q1, q2⟩ := hS; go_simp; first | done | rfl)); simp only [Act.put, List.setIfInBounds_toArray, List.set_cons_zero, List.set_cons_succ]
      refine wz_c (by simp only [List.getElem?_toArray, List.getElem?_cons_succ, List.getElem?_cons_zero]; rfl) ?_
      go_wp2_with (first
        | (go_at_call 43
           refine (binary_c TT TT B1 B2 n1 c1 n2 c2 _ _ 4 w2 HD.out.2.1 HD.out.2.2.1 HD.out.2.2.2.1 HD.out.2.2.2.2.1 (by decide) hnn2).mono ?_
           rintro e w3 ⟨A3, c3, x3, rfl, g3, r3, b3⟩
           have H3 := Lib.hid (And.intro g3 (And.intro r3 b3))
           clear g3 r3 b3))
      dsimp only [segQ]
      first | refine ⟨fun h => absurd h (by decide), ?_⟩ | skip
      refine wz_c (by simp only [List.getElem?_toArray, List.getElem?_cons_succ, List.getElem?_cons_zero]; rfl) ?_
      go_wp2_with (first
        | (go_at_call 42
           refine (with42_c (some ad) N c p us A3 (n1 + n2 + 1) c3 w3 (HD.out.1.below H3.out.2.2).sl HD.out.1.lu hcap (by omega) (by omega) HD.out.1.slices).mono ?_
           rintro e w4 ⟨A4, c4, rfl, own4, b4⟩
           have H4 := Lib.hid (And.intro own4 b4)
           clear own4 b4))
      dsimp only [segQ]
      first | refine ⟨fun h => absurd h (by decide), ?_⟩ | skip
      refine wz_c (by simp only [List.getElem?_toArray, List.getElem?_cons_succ, List.getElem?_cons_zero]; rfl) ?_
      go_wp2_with fail
      dsimp only [segQ]
      first | refine ⟨fun h => absurd h (by decide), ?_⟩ | skip
      refine wz_e ?_
      go_wp2_with fail
      go_ret
      have hl3 : x3.length = n1 + n2 + 1 := H3.out.2.1.len
      have own4 := H4.out.1
      have r3 := (H3.out.2.1.below H4.out.2).weak (K' := TT) fun _ _ _ => trivial
      rw [← hl3] at own4 r3
      have hput := HD.out.1.put (H3.out.2.2.trans (H4.out.2.mono H3.out.2.2.size)) (k := p) (by omega) own4 r3 H3.out.1 (T' := T + 1) (by rw [hl3]; exact HD.out.2.2.2.2.2.1)
      have hNp := HD.out.2.2.2.2.2.2
      have hbb : Below w.heap.size w w4 := HF.out.2.trans ((H3.out.2.2.trans (H4.out.2.mono H3.out.2.2.size)).mono (by rw [HF.out.1]; exact Nat.le_refl _))
      have hq1 : p + 1 ≤ N + 1 := by rw [hNp]; exact Nat.le_succ_of_le (Nat.le_succ_of_le (Nat.le_refl _))
      refine ⟨p + 1, A4, c4, _, _, rfl, hput, hq1, Nat.le_add_left 1 p, fun _ _ => ?_, hbb⟩
      rw [hNp]
    · go_upto_region 10 with (first
        | (with_reducible refine wpList_unguard ?_ ?_ ?_
           rfl
           rfl))
      refine wp_region_wz (by kernel_rfl) [(0, .p), (1, .p), (2, .p), (3, .p), (4, .p), (5, .p), (6, .p), (7, .p), (8, .r), (9, .p), (10, .p), (11, .p), (12, .p), (13, .r), (14, .c), (15, .c), (16, .c)] 14 (fun W => W.cell? (ad.add p) = some (.slice B1 n1 c1) ∧ W.cell? (ad.add p1) = some (.slice B2 n2 c2)) (by decide +kernel) (fun _ _ d _ _ h => by cases d <;> exact h) HF.out ?_
      replace HF := Lib.hid (show w.drew.heap.size = w.heap.size ∧ Below w.heap.size w w.drew from ⟨rfl, (Below.refl _ _).drew⟩)
      generalize w.drew = w2 at *
      refine wz_p (by simp only [List.getElem?_toArray, List.getElem?_cons_zero]; rfl) ?_ (fun W => ?_) ?_; rotate_left; (focus (go_simp; first | done | rfl | rw [if_pos (by omega)])); simp only [Act.put, List.setIfInBounds_toArray, List.set_cons_zero, List.set_cons_succ]
      refine wz_p (by simp only [List.getElem?_toArray, List.getElem?_cons_succ, List.getElem?_cons_zero]; rfl) ?_ (fun W => ?_) ?_; rotate_left; (focus (go_simp; first | done | rfl | rw [if_pos (by omega)])); simp only [Act.put, List.setIfInBounds_toArray, List.set_cons_zero, List.set_cons_succ]
      refine wz_p (by simp only [List.getElem?_toArray, List.getElem?_cons_succ, List.getElem?_cons_zero]; rfl) ?_ (fun W => ?_) ?_; rotate_left; (focus (go_simp; first | done | rfl | rw [if_pos (by omega)])); simp only [Act.put, List.setIfInBounds_toArray, List.set_cons_zero, List.set_cons_succ]
      refine wz_p (by simp only [List.getElem?_toArray, List.getElem?_cons_succ, List.getElem?_cons_zero]; rfl) ?_ (fun W => ?_) ?_; rotate_left; (focus (go_simp; first | done | rfl | rw [if_pos (by omega)])); simp only [Act.put, List.setIfInBounds_toArray, List.set_cons_zero, List.set_cons_succ]
      refine wz_p (by simp only [List.getElem?_toArray, List.getElem?_cons_succ, List.getElem?_cons_zero]; rfl) ?_ (fun W => ?_) ?_; rotate_left; (focus (go_simp; first | done | rfl | rw [if_pos (by omega)])); simp only [Act.put, List.setIfInBounds_toArray, List.set_cons_zero, List.set_cons_succ]
      refine wz_p (by simp only [List.getElem?_toArray, List.getElem?_cons_succ, List.getElem?_cons_zero]; rfl) ?_ (fun W => ?_) ?_; rotate_left; (focus (go_simp; first | done | rfl | rw [if_pos (by omega)])); simp only [Act.put, List.setIfInBounds_toArray, List.set_cons_zero, List.set_cons_succ]
      refine wz_p (by simp only [List.getElem?_toArray, List.getElem?_cons_succ, List.getElem?_cons_zero]; rfl) ?_ (fun W => ?_) ?_; rotate_left; (focus (go_simp; first | done | rfl | rw [if_pos (by omega)])); simp only [Act.put, List.setIfInBounds_toArray, List.set_cons_zero, List.set_cons_succ]
      refine wz_p (by simp only [List.getElem?_toArray, List.getElem?_cons_succ, List.getElem?_cons_zero]; rfl) ?_ (fun W => ?_) ?_; rotate_left; (focus (go_simp; first | done | rfl | rw [if_pos (by omega)])); simp only [Act.put, List.setIfInBounds_toArray, List.set_cons_zero, List.set_cons_succ]
      refine wz_r (by simp only [List.getElem?_toArray, List.getElem?_cons_succ, List.getElem?_cons_zero]; rfl) ?_ (fun W hS => ?_) ?_; rotate_left; (focus (obtain ⟨q1, q2⟩ := hS; go_simp; first | done | rfl)); simp only [Act.put, List.setIfInBounds_toArray, List.set_cons_zero, List.set_cons_succ]
      refine wz_p (by simp only [List.getElem?_toArray, List.getElem?_cons_succ, List.getElem?_cons_zero]; rfl) ?_ (fun W => ?_) ?_; rotate_left; (focus (go_simp; first | done | rfl | rw [if_pos (by omega)])); simp only [Act.put, List.setIfInBounds_toArray, List.set_cons_zero, List.set_cons_succ]
      refine wz_p (by simp only [List.getElem?_toArray, List.getElem?_cons_succ, List.getElem?_cons_zero]; rfl) ?_ (fun W => ?_) ?_; rotate_left; (focus (go_simp; first | done | rfl | rw [if_pos (by omega)])); simp only [Act.put, List.setIfInBounds_toArray, List.set_cons_zero, List.set_cons_succ]
      refine wz_p (by simp only [List.getElem?_toArray, List.getElem?_cons_succ, List.getElem?_cons_zero]; rfl) ?_ (fun W => ?_) ?_; rotate_left; (focus (go_simp; first | done | rfl | rw [if_pos (by omega)])); simp only [Act.put, List.setIfInBounds_toArray, List.set_cons_zero, List.set_cons_succ]
      refine wz_p (by simp only [List.getElem?_toArray, List.getElem?_cons_succ, List.getElem?_cons_zero]; rfl) ?_ (fun W => ?_) ?_; rotate_left; (focus (go_simp; first | done | rfl | rw [if_pos (by omega)])); simp only [Act.put, List.setIfInBounds_toArray, List.set_cons_zero, List.set_cons_succ]
      refine wz_r (by simp only [List.getElem?_toArray, List.getElem?_cons_succ, List.getElem?_cons_zero]; rfl) ?_ (fun W hS => ?_) ?_; rotate_left; (focus (obtain ⟨q1, q2⟩ := hS; go_simp; first | done | rfl)); simp only [Act.put, List.setIfInBounds_toArray, List.set_cons_zero, List.set_cons_succ]
      refine wz_c (by simp only [List.getElem?_toArray, List.getElem?_cons_succ, List.getElem?_cons_zero]; rfl) ?_
      go_wp2_with (first
        | (go_at_call 43
           refine (binary_c TT TT B1 B2 n1 c1 n2 c2 _ _ 5 w2 HD.out.2.1 HD.out.2.2.1 HD.out.2.2.2.1 HD.out.2.2.2.2.1 (by decide) hnn2).mono ?_
           rintro e w3 ⟨A3, c3, x3, rfl, g3, r3, b3⟩
           have H3 := Lib.hid (And.intro g3 (And.intro r3 b3))
           clear g3 r3 b3))
      dsimp only [segQ]
      first | refine ⟨fun h => absurd h (by decide), ?_⟩ | skip
      refine wz_c (by simp only [List.getElem?_toArray, List.getElem?_cons_succ, List.getElem?_cons_zero]; rfl) ?_
      go_wp2_with (first
        | (go_at_call 42
           refine (with42_c (some ad) N c p us A3 (n1 + n2 + 1) c3 w3 (HD.out.1.below H3.out.2.2).sl HD.out.1.lu hcap (by omega) (by omega) HD.out.1.slices).mono ?_
           rintro e w4 ⟨A4, c4, rfl, own4, b4⟩
           have H4 := Lib.hid (And.intro own4 b4)
           clear own4 b4))
      dsimp only [segQ]
      first | refine ⟨fun h => absurd h (by decide), ?_⟩ | skip
      refine wz_c (by simp only [List.getElem?_toArray, List.getElem?_cons_succ, List.getElem?_cons_zero]; rfl) ?_
      go_wp2_with fail
      dsimp only [segQ]
      first | refine ⟨fun h => absurd h (by decide), ?_⟩ | skip
      refine wz_e ?_
      go_wp2_with fail
      go_ret
      have hl3 : x3.length = n1 + n2 + 1 := H3.out.2.1.len
      have own4 := H4.out.1
      have r3 := (H3.out.2.1.below H4.out.2).weak (K' := TT) fun _ _ _ => trivial
      rw [← hl3] at own4 r3
      have hput := HD.out.1.put (H3.out.2.2.trans (H4.out.2.mono H3.out.2.2.size)) (k := p) (by omega) own4 r3 H3.out.1 (T' := T + 1) (by rw [hl3]; exact HD.out.2.2.2.2.2.1)
      have hNp := HD.out.2.2.2.2.2.2
      have hbb : Below w.heap.size w w4 := HF.out.2.trans ((H3.out.2.2.trans (H4.out.2.mono H3.out.2.2.size)).mono (by rw [HF.out.1]; exact Nat.le_refl _))
      have hq1 : p + 1 ≤ N + 1 := by rw [hNp]; exact Nat.le_succ_of_le (Nat.le_succ_of_le (Nat.le_refl _))
      refine ⟨p + 1, A4, c4, _, _, rfl, hput, hq1, Nat.le_add_left 1 p, fun _ _ => ?_, hbb⟩
      rw [hNp]
    · go_upto_region 10 with (first
        | (with_reducible refine wpList_unguard ?_ ?_ ?_
           rfl
           rfl))
      refine wp_region_wz (by kernel_rfl) [(0, .p), (1, .p), (2, .p), (3, .p), (4, .p), (5, .p), (6, .p), (7, .p), (8, .r), (9, .p), (10, .p), (11, .p), (12, .p), (13, .r), (14, .c), (15, .c), (16, .c)] 14 (fun W => W.cell? (ad.add p) = some (.slice B1 n1 c1) ∧ W.cell? (ad.add p1) = some (.slice B2 n2 c2)) (by decide +kernel) (fun _ _ d _ _ h => by cases d <;> exact h) HF.out ?_
      replace HF := Lib.hid (show w.drew.heap.size = w.heap.size ∧ Below w.heap.size w w.drew from ⟨rfl, (Below.refl _ _).drew⟩)
      generalize w.drew = w2 at *
      refine wz_p (by simp only [List.getElem?_toArray, List.getElem?_cons_zero]; rfl) ?_ (fun W => ?_) ?_; rotate_left; (focus (go_simp; first | done | rfl | rw [if_pos (by omega)])); simp only [Act.put, List.setIfInBounds_toArray, List.set_cons_zero, List.set_cons_succ]
      refine wz_p (by simp only [List.getElem?_toArray, List.getElem?_cons_succ, List.getElem?_cons_zero]; rfl) ?_ (fun W => ?_) ?_; rotate_left; (focus (go_simp; first | done | rfl | rw [if_pos (by omega)])); simp only [Act.put, List.setIfInBounds_toArray, List.set_cons_zero, List.set_cons_succ]
      refine wz_p (by simp only [List.getElem?_toArray, List.getElem?_cons_succ, List.getElem?_cons_zero]; rfl) ?_ (fun W => ?_) ?_; rotate_left; (focus (go_simp; first | done | rfl | rw [if_pos (by omega)])); simp only [Act.put, List.setIfInBounds_toArray, List.set_cons_zero, List.set_cons_succ]
      refine wz_p (by simp only [List.getElem?_toArray, List.getElem?_cons_succ, List.getElem?_cons_zero]; rfl) ?_ (fun W => ?_) ?_; rotate_left; (focus (go_simp; first | done | rfl | rw [if_pos (by omega)])); simp only [Act.put, List.setIfInBounds_toArray, List.set_cons_zero, List.set_cons_succ]
      refine wz_p (by simp only [List.getElem?_toArray, List.getElem?_cons_succ, List.getElem?_cons_zero]; rfl) ?_ (fun W => ?_) ?_; rotate_left; (focus (go_simp; first | done | rfl | rw [if_pos (by omega)])); simp only [Act.put, List.setIfInBounds_toArray, List.set_cons_zero, List.set_cons_succ]
      refine wz_p (by simp only [List.getElem?_toArray, List.getElem?_cons_succ, List.getElem?_cons_zero]; rfl) ?_ (fun W => ?_) ?_; rotate_left; (focus (go_simp; first | done | rfl | rw [if_pos (by omega)])); simp only [Act.put, List.setIfInBounds_toArray, List.set_cons_zero, List.set_cons_succ]
      refine wz_p (by simp only [List.getElem?_toArray, List.getElem?_cons_succ, List.getElem?_cons_zero]; rfl) ?_ (fun W => ?_) ?_; rotate_left; (focus (go_simp; first | done | rfl | rw [if_pos (by omega)])); simp only [Act.put, List.setIfInBounds_toArray, List.set_cons_zero, List.set_cons_succ]
      refine wz_p (by simp only [List.getElem?_toArray, List.getElem?_cons_succ, List.getElem?_cons_zero]; rfl) ?_ (fun W => ?_) ?_; rotate_left; (focus (go_simp; first | done | rfl | rw [if_pos (by omega)])); simp only [Act.put, List.setIfInBounds_toArray, List.set_cons_zero, List.set_cons_succ]
      refine wz_r (by simp only [List.getElem?_toArray, List.getElem?_cons_succ, List.getElem?_cons_zero]; rfl) ?_ (fun W hS => ?_) ?_; rotate_left; (focus (obtain ⟨q1, q2⟩ := hS; go_simp; first | done | rfl)); simp only [Act.put, List.setIfInBounds_toArray, List.set_cons_zero, List.set_cons_succ]
      refine wz_p (by simp only [List.getElem?_toArray, List.getElem?_cons_succ, List.getElem?_cons_zero]; rfl) ?_ (fun W => ?_) ?_; rotate_left; (focus (go_simp; first | done | rfl | rw [if_pos (by omega)])); simp only [Act.put, List.setIfInBounds_toArray, List.set_cons_zero, List.set_cons_succ]
      refine wz_p (by simp only [List.getElem?_toArray, List.getElem?_cons_succ, List.getElem?_cons_zero]; rfl) ?_ (fun W => ?_) ?_; rotate_left; (focus (go_simp; first | done | rfl | rw [if_pos (by omega)])); simp only [Act.put, List.setIfInBounds_toArray, List.set_cons_zero, List.set_cons_succ]
      refine wz_p (by simp only [List.getElem?_toArray, List.getElem?_cons_succ, List.getElem?_cons_zero]; rfl) ?_ (fun W => ?_) ?_; rotate_left; (focus (go_simp; first | done | rfl | rw [if_pos (by omega)])); simp only [Act.put, List.setIfInBounds_toArray, List.set_cons_zero, List.set_cons_succ]
      refine wz_p (by simp only [List.getElem?_toArray, List.getElem?_cons_succ, List.getElem?_cons_zero]; rfl) ?_ (fun W => ?_) ?_; rotate_left; (focus (go_simp; first | done | rfl | rw [if_pos (by omega)])); simp only [Act.put, List.setIfInBounds_toArray, List.set_cons_zero, List.set_cons_succ]
      refine wz_r (by simp only [List.getElem?_toArray, List.getElem?_cons_succ, List.getElem?_cons_zero]; rfl) ?_ (fun W hS => ?_) ?_; rotate_left; (focus (obtain ⟨q1, q2⟩ := hS; go_simp; first | done | rfl)); simp only [Act.put, List.setIfInBounds_toArray, List.set_cons_zero, List.set_cons_succ]
      refine wz_c (by simp only [List.getElem?_toArray, List.getElem?_cons_succ, List.getElem?_cons_zero]; rfl) ?_
      go_wp2_with (first
        | (go_at_call 43
           refine (binary_c TT TT B1 B2 n1 c1 n2 c2 _ _ 6 w2 HD.out.2.1 HD.out.2.2.1 HD.out.2.2.2.1 HD.out.2.2.2.2.1 (by decide) hnn2).mono ?_
           rintro e w3 ⟨A3, c3, x3, rfl, g3, r3, b3⟩
           have H3 := Lib.hid (And.intro g3 (And.intro r3 b3))
           clear g3 r3 b3))
      dsimp only [segQ]
      first | refine ⟨fun h => absurd h (by decide), ?_⟩ | skip
      refine wz_c (by simp only [List.getElem?_toArray, List.getElem?_cons_succ, List.getElem?_cons_zero]; rfl) ?_
      go_wp2_with (first
        | (go_at_call 42
           refine (with42_c (some ad) N c p us A3 (n1 + n2 + 1) c3 w3 (HD.out.1.below H3.out.2.2).sl HD.out.1.lu hcap (by omega) (by omega) HD.out.1.slices).mono ?_
           rintro e w4 ⟨A4, c4, rfl, own4, b4⟩
           have H4 := Lib.hid (And.intro own4 b4)
           clear own4 b4))
      dsimp only [segQ]
      first | refine ⟨fun h => absurd h (by decide), ?_⟩ | skip
      refine wz_c (by simp only [List.getElem?_toArray, List.getElem?_cons_succ, List.getElem?_cons_zero]; rfl) ?_
      go_wp2_with fail
      dsimp only [segQ]
      first | refine ⟨fun h => absurd h (by decide), ?_⟩ | skip
      refine wz_e ?_
      go_wp2_with fail
      go_ret
      have hl3 : x3.length = n1 + n2 + 1 := H3.out.2.1.len
      have own4 := H4.out.1
      have r3 := (H3.out.2.1.below H4.out.2).weak (K' := TT) fun _ _ _ => trivial
      rw [← hl3] at own4 r3
      have hput := HD.out.1.put (H3.out.2.2.trans (H4.out.2.mono H3.out.2.2.size)) (k := p) (by omega) own4 r3 H3.out.1 (T' := T + 1) (by rw [hl3]; exact HD.out.2.2.2.2.2.1)
      have hNp := HD.out.2.2.2.2.2.2
      have hbb : Below w.heap.size w w4 := HF.out.2.trans ((H3.out.2.2.trans (H4.out.2.mono H3.out.2.2.size)).mono (by rw [HF.out.1]; exact Nat.le_refl _))
      have hq1 : p + 1 ≤ N + 1 := by rw [hNp]; exact Nat.le_succ_of_le (Nat.le_succ_of_le (Nat.le_refl _))
      refine ⟨p + 1, A4, c4, _, _, rfl, hput, hq1, Nat.le_add_left 1 p, fun _ _ => ?_, hbb⟩
      rw [hNp]
    · go_upto_region 10 with (first
        | (with_reducible refine wpList_unguard ?_ ?_ ?_
           rfl
           rfl))
      refine wp_region_wz (by kernel_rfl) [(0, .p), (1, .p), (2, .p), (3, .p), (4, .p), (5, .p), (6, .p), (7, .p), (8, .r), (9, .p), (10, .p), (11, .p), (12, .p), (13, .r), (14, .c), (15, .c), (16, .c)] 14 (fun W => W.cell? (ad.add p) = some (.slice B1 n1 c1) ∧ W.cell? (ad.add p1) = some (.slice B2 n2 c2)) (by decide +kernel) (fun _ _ d _ _ h => by cases d <;> exact h) HF.out ?_
      replace HF := Lib.hid (show w.drew.heap.size = w.heap.size ∧ Below w.heap.size w w.drew from ⟨rfl, (Below.refl _ _).drew⟩)
      generalize w.drew = w2 at *
      refine wz_p (by simp only [List.getElem?_toArray, List.getElem?_cons_zero]; rfl) ?_ (fun W => ?_) ?_; rotate_left; (focus (go_simp; first | done | rfl | rw [if_pos (by omega)])); simp only [Act.put, List.setIfInBounds_toArray, List.set_cons_zero, List.set_cons_succ]
      refine wz_p (by simp only [List.getElem?_toArray, List.getElem?_cons_succ, List.getElem?_cons_zero]; rfl) ?_ (fun W => ?_) ?_; rotate_left; (focus (go_simp; first | done | rfl | rw [if_pos (by omega)])); simp only [Act.put, List.setIfInBounds_toArray, List.set_cons_zero, List.set_cons_succ]
      refine wz_p (by simp only [List.getElem?_toArray, List.getElem?_cons_succ, List.getElem?_cons_zero]; rfl) ?_ (fun W => ?_) ?_; rotate_left; (focus (go_simp; first | done | rfl | rw [if_pos (by omega)])); simp only [Act.put, List.setIfInBounds_toArray, List.set_cons_zero, List.set_cons_succ]
      refine wz_p (by simp only [List.getElem?_toArray, List.getElem?_cons_succ, List.getElem?_cons_zero]; rfl) ?_ (fun W => ?_) ?_; rotate_left; (focus (go_simp; first | done | rfl | rw [if_pos (by omega)])); simp only [Act.put, List.setIfInBounds_toArray, List.set_cons_zero, List.set_cons_succ]
      refine wz_p (by simp only [List.getElem?_toArray, List.getElem?_cons_succ, List.getElem?_cons_zero]; rfl) ?_ (fun W => ?_) ?_; rotate_left; (focus (go_simp; first | done | rfl | rw [if_pos (by omega)])); simp only [Act.put, List.setIfInBounds_toArray, List.set_cons_zero, List.set_cons_succ]
      refine wz_p (by simp only [List.getElem?_toArray, List.getElem?_cons_succ, List.getElem?_cons_zero]; rfl) ?_ (fun W => ?_) ?_; rotate_left; (focus (go_simp; first | done | rfl | rw [if_pos (by omega)])); simp only [Act.put, List.setIfInBounds_toArray, List.set_cons_zero, List.set_cons_succ]
      refine wz_p (by simp only [List.getElem?_toArray, List.getElem?_cons_succ, List.getElem?_cons_zero]; rfl) ?_ (fun W => ?_) ?_; rotate_left; (focus (go_simp; first | done | rfl | rw [if_pos (by omega)])); simp only [Act.put, List.setIfInBounds_toArray, List.set_cons_zero, List.set_cons_succ]
      refine wz_p (by simp only [List.getElem?_toArray, List.getElem?_cons_succ, List.getElem?_cons_zero]; rfl) ?_ (fun W => ?_) ?_; rotate_left; (focus (go_simp; first | done | rfl | rw [if_pos (by omega)])); simp only [Act.put, List.setIfInBounds_toArray, List.set_cons_zero, List.set_cons_succ]
      refine wz_r (by simp only [List.getElem?_toArray, List.getElem?_cons_succ, List.getElem?_cons_zero]; rfl) ?_ (fun W hS => ?_) ?_; rotate_left; (focus (obtain ⟨q1, q2⟩ := hS; go_simp; first | done | rfl)); simp only [Act.put, List.setIfInBounds_toArray, List.set_cons_zero, List.set_cons_succ]
      refine wz_p (by simp only [List.getElem?_toArray, List.getElem?_cons_succ, List.getElem?_cons_zero]; rfl) ?_ (fun W => ?_) ?_; rotate_left; (focus (go_simp; first | done | rfl | rw [if_pos (by omega)])); simp only [Act.put, List.setIfInBounds_toArray, List.set_cons_zero, List.set_cons_succ]
      refine wz_p (by simp only [List.getElem?_toArray, List.getElem?_cons_succ, List.getElem?_cons_zero]; rfl) ?_ (fun W => ?_) ?_; rotate_left; (focus (go_simp; first | done | rfl | rw [if_pos (by omega)])); simp only [Act.put, List.setIfInBounds_toArray, List.set_cons_zero, List.set_cons_succ]
      refine wz_p (by simp only [List.getElem?_toArray, List.getElem?_cons_succ, List.getElem?_cons_zero]; rfl) ?_ (fun W => ?_) ?_; rotate_left; (focus (go_simp; first | done | rfl | rw [if_pos (by omega)])); simp only [Act.put, List.setIfInBounds_toArray, List.set_cons_zero, List.set_cons_succ]
      refine wz_p (by simp only [List.getElem?_toArray, List.getElem?_cons_succ, List.getElem?_cons_zero]; rfl) ?_ (fun W => ?_) ?_; rotate_left; (focus (go_simp; first | done | rfl | rw [if_pos (by omega)])); simp only [Act.put, List.setIfInBounds_toArray, List.set_cons_zero, List.set_cons_succ]
      refine wz_r (by simp only [List.getElem?_toArray, List.getElem?_cons_succ, List.getElem?_cons_zero]; rfl) ?_ (fun W hS => ?_) ?_; rotate_left; (focus (obtain ⟨q1, q2⟩ := hS; go_simp; first | done | rfl)); simp only [Act.put, List.setIfInBounds_toArray, List.set_cons_zero, List.set_cons_succ]
      refine wz_c (by simp only [List.getElem?_toArray, List.getElem?_cons_succ, List.getElem?_cons_zero]; rfl) ?_
      go_wp2_with (first
        | (go_at_call 43
           refine (binary_c TT TT B1 B2 n1 c1 n2 c2 _ _ 4 w2 HD.out.2.1 HD.out.2.2.1 HD.out.2.2.2.1 HD.out.2.2.2.2.1 (by decide) hnn2).mono ?_
           rintro e w3 ⟨A3, c3, x3, rfl, g3, r3, b3⟩
           have H3 := Lib.hid (And.intro g3 (And.intro r3 b3))
           clear g3 r3 b3))
      dsimp only [segQ]
      first | refine ⟨fun h => absurd h (by decide), ?_⟩ | skip
      refine wz_c (by simp only [List.getElem?_toArray, List.getElem?_cons_succ, List.getElem?_cons_zero]; rfl) ?_
      go_wp2_with (first
        | (go_at_call 42
           refine (with42_c (some ad) N c p us A3 (n1 + n2 + 1) c3 w3 (HD.out.1.below H3.out.2.2).sl HD.out.1.lu hcap (by omega) (by omega) HD.out.1.slices).mono ?_
           rintro e w4 ⟨A4, c4, rfl, own4, b4⟩
           have H4 := Lib.hid (And.intro own4 b4)
           clear own4 b4))
      dsimp only [segQ]
      first | refine ⟨fun h => absurd h (by decide), ?_⟩ | skip
      refine wz_c (by simp only [List.getElem?_toArray, List.getElem?_cons_succ, List.getElem?_cons_zero]; rfl) ?_
      go_wp2_with fail
      dsimp only [segQ]
      first | refine ⟨fun h => absurd h (by decide), ?_⟩ | skip
      refine wz_e ?_
      go_wp2_with fail
      go_ret
      have hl3 : x3.length = n1 + n2 + 1 := H3.out.2.1.len
      have own4 := H4.out.1
      have r3 := (H3.out.2.1.below H4.out.2).weak (K' := TT) fun _ _ _ => trivial
      rw [← hl3] at own4 r3
      have hput := HD.out.1.put (H3.out.2.2.trans (H4.out.2.mono H3.out.2.2.size)) (k := p) (by omega) own4 r3 H3.out.1 (T' := T + 1) (by rw [hl3]; exact HD.out.2.2.2.2.2.1)
      have hNp := HD.out.2.2.2.2.2.2
      have hbb : Below w.heap.size w w4 := HF.out.2.trans ((H3.out.2.2.trans (H4.out.2.mono H3.out.2.2.size)).mono (by rw [HF.out.1]; exact Nat.le_refl _))
      have hq1 : p + 1 ≤ N + 1 := by rw [hNp]; exact Nat.le_succ_of_le (Nat.le_succ_of_le (Nat.le_refl _))
      refine ⟨p + 1, A4, c4, _, _, rfl, hput, hq1, Nat.le_add_left 1 p, fun _ _ => ?_, hbb⟩
      rw [hNp]
  · go_cut [35] from 18 to 35 (fun s35 wz => s35 = .bool false ∧ wz = w)
    case first =>
      by_cases h2 : 2 ≤ N
      · have d1 : decide ((N : Int) ≥ 2) = true := by simp; omega
        have e4 : ((k : Int) == 4) = false := by rw [beq_eq_false_iff_ne]; omega
        have e5 : ((k : Int) == 5) = false := by rw [beq_eq_false_iff_ne]; omega
        have e6 : ((k : Int) == 6) = false := by rw [beq_eq_false_iff_ne]; omega
        have e13 : ((k : Int) == 13) = false := by rw [beq_eq_false_iff_ne]; omega
        go_wp2_with (first
          | (with_reducible refine wpList_unguard ?_ ?_ ?_
             rfl
             rfl))
        go_meet
        case rel => exact ⟨rfl, rfl⟩
      · have d1 : decide ((N : Int) ≥ 2) = false := by simp; omega
        go_wp2_with (first
          | (with_reducible refine wpList_unguard ?_ ?_ ?_
             rfl
             rfl))
        go_meet
        case rel => exact ⟨rfl, rfl⟩
    obtain ⟨rfl, hw⟩ := hcut
    have hw := hw.symm
    subst hw
    have H5 := Lib.hid (show b = 5 → 2 ≤ N → False from fun h h2 => hB ⟨h2, .inr (.inl (by have := HK.out.1; omega))⟩)
    clear hB
    by_cases hU : 1 ≤ N ∧ 7 ≤ k ∧ k ≤ 11
    · obtain ⟨h1, h7, h11⟩ := hU
      have d1 : decide ((N : Int) ≥ 1) = true := by simp; omega
      obtain ⟨p, hp⟩ : ∃ p, N = p + 1 := ⟨N - 1, by omega⟩
      have hs1 : (N : Int) - 1 = (p : Int) := by omega
      have hw1 : IntKind.i64.wrap (p : Int) = (p : Int) := i64_wrap _ (by omega)
      have hpN : p < N := by omega
      obtain ⟨B1, c1, e1, r1, g1⟩ := HRX.out.ok p hpN
      obtain ⟨ad, rfl, _, f1⟩ := HRX.out.sl p _ e1
      have t1 := sumL_take (xs := xs) (k := p) (by rw [HRX.out.lx]; exact hpN)
      have t3 := sumL_take_le xs (p + 1)
      have t4 := HRX.out.sum
      obtain ⟨x1, hx1⟩ : ∃ x, xs.getD p [] = x := ⟨_, rfl⟩
      rw [hx1] at e1 r1 g1 f1 t1
      obtain ⟨n1, hn1⟩ : ∃ n, x1.length = n := ⟨_, rfl⟩
      rw [hn1] at r1 f1 t1
      have hnn : sumL (xs.take p) + (n1 + 1) ≤ T + 1 := by omega
      have HD := Lib.hid (And.intro r1 (And.intro g1 (And.intro hnn hp)))
      have HF := Lib.hid f1
      have hrn1 := r1.cap
      have hnn2 : n1 ≤ 3000000 := by omega
      clear e1 r1 g1 f1 t1 t3 t4 hx1 hn1 hnn hp
      have hk : k = 7 ∨ k = 8 ∨ k = 9 ∨ k = 10 ∨ k = 11 := by omega
      clear h7 h11
      rcases hk with rfl | rfl | rfl | rfl | rfl
      · go_upto_region 23 with (first
          | (with_reducible refine wpList_unguard ?_ ?_ ?_
             rfl
             rfl)
          | (with_reducible refine at_oper (.alloc 58) rfl ?_
             refine wpList_alloc_rowG w.heap.size rfl rfl 58 rfl _ zero58 ?_
             intro w1 k1 b1 s1
             have H1 := Lib.hid (And.intro k1 b1)
             clear k1 b1 s1)
          | (with_reducible refine at_oper (.store 58 (.tmp 9) (.tmp 66)) rfl ?_
             refine wpList_store_blk rfl 58 (.tmp 9) (.tmp 66) rfl rfl w.heap.size (ndc ⟨8, 0, 0, 0, 0, none⟩) _ 58 rfl rfl H1.out.1 (by rw [ndc_size]; exact size58) rfl (ndc_one _) ?_
             intro w2 k2 o2
             have H2 := Lib.hid (And.intro k2 (below_only H1.out.2 o2 (Nat.le_refl _)))
             clear k2 o2)
          | (with_reducible refine at_oper (.store 58 (.tmp 9) (.tmp 70)) rfl ?_
             refine wpList_store_blk rfl 58 (.tmp 9) (.tmp 70) rfl rfl w.heap.size (ndc ⟨7, 0, 0, 0, 0, some 0⟩) _ 58 rfl rfl H2.out.1 (by rw [ndc_size]; exact size58) rfl (ndc_one _) ?_
             intro w3 k3 o3
             have H3 := Lib.hid (And.intro k3 (below_only H2.out.2 o3 (Nat.le_refl _)))
             clear k3 o3))
        obtain ⟨X, hX⟩ : ∃ X, ndc ⟨7, 0, 0, 0, 0, some 0⟩ = X := ⟨_, rfl⟩
        have zX : X.size = 9 := by rw [← hX]; rfl
        have eX : Value.agg X = ndV ⟨7, 0, 0, 0, 0, some 0⟩ := by rw [← hX]; rfl
        have hS := H3.out
        rw [hX] at hS
        have hcl : w3.cell? (ad.add p) = some (.slice B1 n1 c1) := cell_below hS.2 HF.out
        have HX := Lib.hid eX
        clear hX eX
        refine wp_region_wz (by kernel_rfl) [(0, .p), (1, .p), (2, .p), (3, .r), (4, .p), (5, .p), (6, .p), (7, .p), (8, .r), (9, .c), (10, .c), (11, .c)] 9 (fun W => Blk W w.heap.size 58 X ∧ W.cell? (ad.add p) = some (.slice B1 n1 c1)) (by decide +kernel) (fun _ _ d _ _ h => by cases d <;> exact h) ⟨hS.1, hcl⟩ ?_
        have HB := Lib.hid (show Below w.heap.size w w3.drew from hS.2.drew)
        clear hS hcl
        generalize w3.drew = w5 at *
        refine wz_p (by simp only [List.getElem?_toArray, List.getElem?_cons_zero]; rfl) ?_ (fun W => ?_) ?_; rotate_left; (focus (go_simp; first | done | rfl | rw [if_pos (by omega)])); simp only [Act.put, List.setIfInBounds_toArray, List.set_cons_zero, List.set_cons_succ]
        refine wz_p (by simp only [List.getElem?_toArray, List.getElem?_cons_succ, List.getElem?_cons_zero]; rfl) ?_ (fun W => ?_) ?_; rotate_left; (focus (go_simp; first | done | rfl | rw [if_pos (by omega)])); simp only [Act.put, List.setIfInBounds_toArray, List.set_cons_zero, List.set_cons_succ]
        refine wz_p (by simp only [List.getElem?_toArray, List.getElem?_cons_succ, List.getElem?_cons_zero]; rfl) ?_ (fun W => ?_) ?_; rotate_left; (focus (go_simp; first | done | rfl | rw [if_pos (by omega)])); simp only [Act.put, List.setIfInBounds_toArray, List.set_cons_zero, List.set_cons_succ]
        refine wz_r (by simp only [List.getElem?_toArray, List.getElem?_cons_succ, List.getElem?_cons_zero]; rfl) (.agg X) (fun W hS => run_load_blk 58 (.tmp 9) rfl w.heap.size rfl 58 X _ hS.1 Tryz.underlying58 rfl (by rw [zX]; exact size58)) ?_
        simp only [Act.put, List.setIfInBounds_toArray, List.set_cons_zero, List.set_cons_succ]
        refine wz_p (by simp only [List.getElem?_toArray, List.getElem?_cons_succ, List.getElem?_cons_zero]; rfl) ?_ (fun W => ?_) ?_; rotate_left; (focus (go_simp; first | done | rfl | rw [if_pos (by omega)])); simp only [Act.put, List.setIfInBounds_toArray, List.set_cons_zero, List.set_cons_succ]
        refine wz_p (by simp only [List.getElem?_toArray, List.getElem?_cons_succ, List.getElem?_cons_zero]; rfl) ?_ (fun W => ?_) ?_; rotate_left; (focus (go_simp; first | done | rfl | rw [if_pos (by omega)])); simp only [Act.put, List.setIfInBounds_toArray, List.set_cons_zero, List.set_cons_succ]
        refine wz_p (by simp only [List.getElem?_toArray, List.getElem?_cons_succ, List.getElem?_cons_zero]; rfl) ?_ (fun W => ?_) ?_; rotate_left; (focus (go_simp; first | done | rfl | rw [if_pos (by omega)])); simp only [Act.put, List.setIfInBounds_toArray, List.set_cons_zero, List.set_cons_succ]
        refine wz_p (by simp only [List.getElem?_toArray, List.getElem?_cons_succ, List.getElem?_cons_zero]; rfl) ?_ (fun W => ?_) ?_; rotate_left; (focus (go_simp; first | done | rfl | rw [if_pos (by omega)])); simp only [Act.put, List.setIfInBounds_toArray, List.set_cons_zero, List.set_cons_succ]
        refine wz_r (by simp only [List.getElem?_toArray, List.getElem?_cons_succ, List.getElem?_cons_zero]; rfl) ?_ (fun W hS => ?_) ?_; rotate_left; (focus (obtain ⟨q1, q2⟩ := hS; go_simp; first | done | rfl)); simp only [Act.put, List.setIfInBounds_toArray, List.set_cons_zero, List.set_cons_succ]
        refine wz_c (by simp only [List.getElem?_toArray, List.getElem?_cons_succ, List.getElem?_cons_zero]; rfl) ?_
        go_wp2_with (first
          | (go_at_call 44
             rw [HX.out]
             refine (unary_c TT B1 n1 c1 _ 7 0 (some 0) w5 (HD.out.1.below HB.out) HD.out.2.1 (.inl ⟨rfl, rfl, rfl⟩) hnn2).mono ?_
             rintro e w6 ⟨A6, c6, x6, rfl, g6, r6, b6⟩
             have H6 := Lib.hid (And.intro g6 (And.intro r6 (HB.out.trans (b6.mono HB.out.size))))
             clear g6 r6 b6))
        dsimp only [segQ]
        first | refine ⟨fun h => absurd h (by decide), ?_⟩ | skip
        refine wz_c (by simp only [List.getElem?_toArray, List.getElem?_cons_succ, List.getElem?_cons_zero]; rfl) ?_
        go_wp2_with (first
          | (go_at_call 42
             refine (with42_c (some ad) N c p us A6 (n1 + 1) c6 w6 (HRX.out.below H6.out.2.2).sl HRX.out.lu hcap (by omega) (by omega) HRX.out.slices).mono ?_
             rintro e w7 ⟨A7, c7, rfl, own7, b7⟩
             have H7 := Lib.hid (And.intro own7 b7)
             clear own7 b7))
        dsimp only [segQ]
        first | refine ⟨fun h => absurd h (by decide), ?_⟩ | skip
        refine wz_c (by simp only [List.getElem?_toArray, List.getElem?_cons_succ, List.getElem?_cons_zero]; rfl) ?_
        go_wp2_with fail
        dsimp only [segQ]
        first | refine ⟨fun h => absurd h (by decide), ?_⟩ | skip
        refine wz_e ?_
        go_wp2_with fail
        go_ret
        have hl6 : x6.length = n1 + 1 := H6.out.2.1.len
        have own7 := H7.out.1
        have r6 := (H6.out.2.1.below H7.out.2).weak (K' := TT) fun _ _ _ => trivial
        rw [← hl6] at own7 r6
        have hbb : Below w.heap.size w w7 := H6.out.2.2.trans (H7.out.2.mono H6.out.2.2.size)
        have hput := HRX.out.put hbb (k := p) (by omega) own7 r6 H6.out.1 (T' := T + 1) (by rw [hl6]; exact HD.out.2.2.1)
        have hNp := HD.out.2.2.2
        have hq1 : p + 1 ≤ N + 1 := by rw [hNp]; exact Nat.le_succ _
        exact ⟨p + 1, A7, c7, _, _, rfl, hput, hq1, Nat.le_add_left 1 p, fun hb5 h2 => (H5.out hb5 h2).elim, hbb⟩
      · go_upto_region 23 with (first
          | (with_reducible refine wpList_unguard ?_ ?_ ?_
             rfl
             rfl)
          | (with_reducible refine at_oper (.alloc 58) rfl ?_
             refine wpList_alloc_rowG w.heap.size rfl rfl 58 rfl _ zero58 ?_
             intro w1 k1 b1 s1
             have H1 := Lib.hid (And.intro k1 b1)
             clear k1 b1 s1)
          | (with_reducible refine at_oper (.store 58 (.tmp 9) (.tmp 66)) rfl ?_
             refine wpList_store_blk rfl 58 (.tmp 9) (.tmp 66) rfl rfl w.heap.size (ndc ⟨8, 0, 0, 0, 0, none⟩) _ 58 rfl rfl H1.out.1 (by rw [ndc_size]; exact size58) rfl (ndc_one _) ?_
             intro w2 k2 o2
             have H2 := Lib.hid (And.intro k2 (below_only H1.out.2 o2 (Nat.le_refl _)))
             clear k2 o2))
        obtain ⟨X, hX⟩ : ∃ X, ndc ⟨8, 0, 0, 0, 0, none⟩ = X := ⟨_, rfl⟩
        have zX : X.size = 9 := by rw [← hX]; rfl
        have eX : Value.agg X = ndV ⟨8, 0, 0, 0, 0, none⟩ := by rw [← hX]; rfl
        have hS := H2.out
        rw [hX] at hS
        have hcl : w2.cell? (ad.add p) = some (.slice B1 n1 c1) := cell_below hS.2 HF.out
        have HX := Lib.hid eX
        clear hX eX
        refine wp_region_wz (by kernel_rfl) [(0, .p), (1, .p), (2, .p), (3, .r), (4, .p), (5, .p), (6, .p), (7, .p), (8, .r), (9, .c), (10, .c), (11, .c)] 9 (fun W => Blk W w.heap.size 58 X ∧ W.cell? (ad.add p) = some (.slice B1 n1 c1)) (by decide +kernel) (fun _ _ d _ _ h => by cases d <;> exact h) ⟨hS.1, hcl⟩ ?_
        have HB := Lib.hid (show Below w.heap.size w w2.drew from hS.2.drew)
        clear hS hcl
        generalize w2.drew = w5 at *
        refine wz_p (by simp only [List.getElem?_toArray, List.getElem?_cons_zero]; rfl) ?_ (fun W => ?_) ?_; rotate_left; (focus (go_simp; first | done | rfl | rw [if_pos (by omega)])); simp only [Act.put, List.setIfInBounds_toArray, List.set_cons_zero, List.set_cons_succ]
        refine wz_p (by simp only [List.getElem?_toArray, List.getElem?_cons_succ, List.getElem?_cons_zero]; rfl) ?_ (fun W => ?_) ?_; rotate_left; (focus (go_simp; first | done | rfl | rw [if_pos (by omega)])); simp only [Act.put, List.setIfInBounds_toArray, List.set_cons_zero, List.set_cons_succ]
        refine wz_p (by simp only [List.getElem?_toArray, List.getElem?_cons_succ, List.getElem?_cons_zero]; rfl) ?_ (fun W => ?_) ?_; rotate_left; (focus (go_simp; first | done | rfl | rw [if_pos (by omega)])); simp only [Act.put, List.setIfInBounds_toArray, List.set_cons_zero, List.set_cons_succ]
        refine wz_r (by simp only [List.getElem?_toArray, List.getElem?_cons_succ, List.getElem?_cons_zero]; rfl) (.agg X) (fun W hS => run_load_blk 58 (.tmp 9) rfl w.heap.size rfl 58 X _ hS.1 Tryz.underlying58 rfl (by rw [zX]; exact size58)) ?_
        simp only [Act.put, List.setIfInBounds_toArray, List.set_cons_zero, List.set_cons_succ]
        refine wz_p (by simp only [List.getElem?_toArray, List.getElem?_cons_succ, List.getElem?_cons_zero]; rfl) ?_ (fun W => ?_) ?_; rotate_left; (focus (go_simp; first | done | rfl | rw [if_pos (by omega)])); simp only [Act.put, List.setIfInBounds_toArray, List.set_cons_zero, List.set_cons_succ]
        refine wz_p (by simp only [List.getElem?_toArray, List.getElem?_cons_succ, List.getElem?_cons_zero]; rfl) ?_ (fun W => ?_) ?_; rotate_left; (focus (go_simp; first | done | rfl | rw [if_pos (by omega)])); simp only [Act.put, List.setIfInBounds_toArray, List.set_cons_zero, List.set_cons_succ]
        refine wz_p (by simp only [List.getElem?_toArray, List.getElem?_cons_succ, List.getElem?_cons_zero]; rfl) ?_ (fun W => ?_) ?_; rotate_left; (focus (go_simp; first | done | rfl | rw [if_pos (by omega)])); simp only [Act.put, List.setIfInBounds_toArray, List.set_cons_zero, List.set_cons_succ]
        refine wz_p (by simp only [List.getElem?_toArray, List.getElem?_cons_succ, List.getElem?_cons_zero]; rfl) ?_ (fun W => ?_) ?_; rotate_left; (focus (go_simp; first | done | rfl | rw [if_pos (by omega)])); simp only [Act.put, List.setIfInBounds_toArray, List.set_cons_zero, List.set_cons_succ]
        refine wz_r (by simp only [List.getElem?_toArray, List.getElem?_cons_succ, List.getElem?_cons_zero]; rfl) ?_ (fun W hS => ?_) ?_; rotate_left; (focus (obtain ⟨q1, q2⟩ := hS; go_simp; first | done | rfl)); simp only [Act.put, List.setIfInBounds_toArray, List.set_cons_zero, List.set_cons_succ]
        refine wz_c (by simp only [List.getElem?_toArray, List.getElem?_cons_succ, List.getElem?_cons_zero]; rfl) ?_
        go_wp2_with (first
          | (go_at_call 44
             rw [HX.out]
             refine (unary_c TT B1 n1 c1 _ 8 0 none w5 (HD.out.1.below HB.out) HD.out.2.1 (.inr ⟨rfl, by decide, fun m h => by cases h⟩) hnn2).mono ?_
             rintro e w6 ⟨A6, c6, x6, rfl, g6, r6, b6⟩
             have H6 := Lib.hid (And.intro g6 (And.intro r6 (HB.out.trans (b6.mono HB.out.size))))
             clear g6 r6 b6))
        dsimp only [segQ]
        first | refine ⟨fun h => absurd h (by decide), ?_⟩ | skip
        refine wz_c (by simp only [List.getElem?_toArray, List.getElem?_cons_succ, List.getElem?_cons_zero]; rfl) ?_
        go_wp2_with (first
          | (go_at_call 42
             refine (with42_c (some ad) N c p us A6 (n1 + 1) c6 w6 (HRX.out.below H6.out.2.2).sl HRX.out.lu hcap (by omega) (by omega) HRX.out.slices).mono ?_
             rintro e w7 ⟨A7, c7, rfl, own7, b7⟩
             have H7 := Lib.hid (And.intro own7 b7)
             clear own7 b7))
        dsimp only [segQ]
        first | refine ⟨fun h => absurd h (by decide), ?_⟩ | skip
        refine wz_c (by simp only [List.getElem?_toArray, List.getElem?_cons_succ, List.getElem?_cons_zero]; rfl) ?_
        go_wp2_with fail
        dsimp only [segQ]
        first | refine ⟨fun h => absurd h (by decide), ?_⟩ | skip
        refine wz_e ?_
        go_wp2_with fail
        go_ret
        have hl6 : x6.length = n1 + 1 := H6.out.2.1.len
        have own7 := H7.out.1
        have r6 := (H6.out.2.1.below H7.out.2).weak (K' := TT) fun _ _ _ => trivial
        rw [← hl6] at own7 r6
        have hbb : Below w.heap.size w w7 := H6.out.2.2.trans (H7.out.2.mono H6.out.2.2.size)
        have hput := HRX.out.put hbb (k := p) (by omega) own7 r6 H6.out.1 (T' := T + 1) (by rw [hl6]; exact HD.out.2.2.1)
        have hNp := HD.out.2.2.2
        have hq1 : p + 1 ≤ N + 1 := by rw [hNp]; exact Nat.le_succ _
        exact ⟨p + 1, A7, c7, _, _, rfl, hput, hq1, Nat.le_add_left 1 p, fun hb5 h2 => (H5.out hb5 h2).elim, hbb⟩
      · go_upto_region 23 with (first
          | (with_reducible refine wpList_unguard ?_ ?_ ?_
             rfl
             rfl)
          | (with_reducible refine at_oper (.alloc 58) rfl ?_
             refine wpList_alloc_rowG w.heap.size rfl rfl 58 rfl _ zero58 ?_
             intro w1 k1 b1 s1
             have H1 := Lib.hid (And.intro k1 b1)
             clear k1 b1 s1)
          | (with_reducible refine at_oper (.store 58 (.tmp 9) (.tmp 66)) rfl ?_
             refine wpList_store_blk rfl 58 (.tmp 9) (.tmp 66) rfl rfl w.heap.size (ndc ⟨8, 0, 0, 0, 0, none⟩) _ 58 rfl rfl H1.out.1 (by rw [ndc_size]; exact size58) rfl (ndc_one _) ?_
             intro w2 k2 o2
             have H2 := Lib.hid (And.intro k2 (below_only H1.out.2 o2 (Nat.le_refl _)))
             clear k2 o2)
          | (with_reducible refine at_oper (.store 3 (.tmp 73) _) rfl ?_
             refine wpList_store_at rfl 3 (.tmp 73) _ rfl rfl w.heap.size 7 (vi 1) _ 58 rfl rfl H2.out.1 (by rw [ndc_size]; decide) size3 rfl ?_
             intro w3 k5 o5
             rw [ndc_setmn] at k5
             have H3 := Lib.hid (show Blk w3 w.heap.size 58 (ndc ⟨8, 0, 0, 0, 1, none⟩) ∧ Below w.heap.size w w3 from ⟨k5, below_only H2.out.2 o5 (Nat.le_refl _)⟩)
             clear k5 o5))
        obtain ⟨X, hX⟩ : ∃ X, ndc ⟨8, 0, 0, 0, 1, none⟩ = X := ⟨_, rfl⟩
        have zX : X.size = 9 := by rw [← hX]; rfl
        have eX : Value.agg X = ndV ⟨8, 0, 0, 0, 1, none⟩ := by rw [← hX]; rfl
        have hS := H3.out
        rw [hX] at hS
        have hcl : w3.cell? (ad.add p) = some (.slice B1 n1 c1) := cell_below hS.2 HF.out
        have HX := Lib.hid eX
        clear hX eX
        refine wp_region_wz (by kernel_rfl) [(0, .p), (1, .p), (2, .p), (3, .r), (4, .p), (5, .p), (6, .p), (7, .p), (8, .r), (9, .c), (10, .c), (11, .c)] 9 (fun W => Blk W w.heap.size 58 X ∧ W.cell? (ad.add p) = some (.slice B1 n1 c1)) (by decide +kernel) (fun _ _ d _ _ h => by cases d <;> exact h) ⟨hS.1, hcl⟩ ?_
        have HB := Lib.hid (show Below w.heap.size w w3.drew from hS.2.drew)
        clear hS hcl
        generalize w3.drew = w5 at *
        refine wz_p (by simp only [List.getElem?_toArray, List.getElem?_cons_zero]; rfl) ?_ (fun W => ?_) ?_; rotate_left; (focus (go_simp; first | done | rfl | rw [if_pos (by omega)])); simp only [Act.put, List.setIfInBounds_toArray, List.set_cons_zero, List.set_cons_succ]
        refine wz_p (by simp only [List.getElem?_toArray, List.getElem?_cons_succ, List.getElem?_cons_zero]; rfl) ?_ (fun W => ?_) ?_; rotate_left; (focus (go_simp; first | done | rfl | rw [if_pos (by omega)])); simp only [Act.put, List.setIfInBounds_toArray, List.set_cons_zero, List.set_cons_succ]
        refine wz_p (by simp only [List.getElem?_toArray, List.getElem?_cons_succ, List.getElem?_cons_zero]; rfl) ?_ (fun W => ?_) ?_; rotate_left; (focus (go_simp; first | done | rfl | rw [if_pos (by omega)])); simp only [Act.put, List.setIfInBounds_toArray, List.set_cons_zero, List.set_cons_succ]
        refine wz_r (by simp only [List.getElem?_toArray, List.getElem?_cons_succ, List.getElem?_cons_zero]; rfl) (.agg X) (fun W hS => run_load_blk 58 (.tmp 9) rfl w.heap.size rfl 58 X _ hS.1 Tryz.underlying58 rfl (by rw [zX]; exact size58)) ?_
        simp only [Act.put, List.setIfInBounds_toArray, List.set_cons_zero, List.set_cons_succ]
        refine wz_p (by simp only [List.getElem?_toArray, List.getElem?_cons_succ, List.getElem?_cons_zero]; rfl) ?_ (fun W => ?_) ?_; rotate_left; (focus (go_simp; first | done | rfl | rw [if_pos (by omega)])); simp only [Act.put, List.setIfInBounds_toArray, List.set_cons_zero, List.set_cons_succ]
        refine wz_p (by simp only [List.getElem?_toArray, List.getElem?_cons_succ, List.getElem?_cons_zero]; rfl) ?_ (fun W => ?_) ?_; rotate_left; (focus (go_simp; first | done | rfl | rw [if_pos (by omega)])); simp only [Act.put, List.setIfInBounds_toArray, List.set_cons_zero, List.set_cons_succ]
        refine wz_p (by simp only [List.getElem?_toArray, List.getElem?_cons_succ, List.getElem?_cons_zero]; rfl) ?_ (fun W => ?_) ?_; rotate_left; (focus (go_simp; first | done | rfl | rw [if_pos (by omega)])); simp only [Act.put, List.setIfInBounds_toArray, List.set_cons_zero, List.set_cons_succ]
        refine wz_p (by simp only [List.getElem?_toArray, List.getElem?_cons_succ, List.getElem?_cons_zero]; rfl) ?_ (fun W => ?_) ?_; rotate_left; (focus (go_simp; first | done | rfl | rw [if_pos (by omega)])); simp only [Act.put, List.setIfInBounds_toArray, List.set_cons_zero, List.set_cons_succ]
        refine wz_r (by simp only [List.getElem?_toArray, List.getElem?_cons_succ, List.getElem?_cons_zero]; rfl) ?_ (fun W hS => ?_) ?_; rotate_left; (focus (obtain ⟨q1, q2⟩ := hS; go_simp; first | done | rfl)); simp only [Act.put, List.setIfInBounds_toArray, List.set_cons_zero, List.set_cons_succ]
        refine wz_c (by simp only [List.getElem?_toArray, List.getElem?_cons_succ, List.getElem?_cons_zero]; rfl) ?_
        go_wp2_with (first
          | (go_at_call 44
             rw [HX.out]
             refine (unary_c TT B1 n1 c1 _ 8 1 none w5 (HD.out.1.below HB.out) HD.out.2.1 (.inr ⟨rfl, by decide, fun m h => by cases h⟩) hnn2).mono ?_
             rintro e w6 ⟨A6, c6, x6, rfl, g6, r6, b6⟩
             have H6 := Lib.hid (And.intro g6 (And.intro r6 (HB.out.trans (b6.mono HB.out.size))))
             clear g6 r6 b6))
        dsimp only [segQ]
        first | refine ⟨fun h => absurd h (by decide), ?_⟩ | skip
        refine wz_c (by simp only [List.getElem?_toArray, List.getElem?_cons_succ, List.getElem?_cons_zero]; rfl) ?_
        go_wp2_with (first
          | (go_at_call 42
             refine (with42_c (some ad) N c p us A6 (n1 + 1) c6 w6 (HRX.out.below H6.out.2.2).sl HRX.out.lu hcap (by omega) (by omega) HRX.out.slices).mono ?_
             rintro e w7 ⟨A7, c7, rfl, own7, b7⟩
             have H7 := Lib.hid (And.intro own7 b7)
             clear own7 b7))
        dsimp only [segQ]
        first | refine ⟨fun h => absurd h (by decide), ?_⟩ | skip
        refine wz_c (by simp only [List.getElem?_toArray, List.getElem?_cons_succ, List.getElem?_cons_zero]; rfl) ?_
        go_wp2_with fail
        dsimp only [segQ]
        first | refine ⟨fun h => absurd h (by decide), ?_⟩ | skip
        refine wz_e ?_
        go_wp2_with fail
        go_ret
        have hl6 : x6.length = n1 + 1 := H6.out.2.1.len
        have own7 := H7.out.1
        have r6 := (H6.out.2.1.below H7.out.2).weak (K' := TT) fun _ _ _ => trivial
        rw [← hl6] at own7 r6
        have hbb : Below w.heap.size w w7 := H6.out.2.2.trans (H7.out.2.mono H6.out.2.2.size)
        have hput := HRX.out.put hbb (k := p) (by omega) own7 r6 H6.out.1 (T' := T + 1) (by rw [hl6]; exact HD.out.2.2.1)
        have hNp := HD.out.2.2.2
        have hq1 : p + 1 ≤ N + 1 := by rw [hNp]; exact Nat.le_succ _
        exact ⟨p + 1, A7, c7, _, _, rfl, hput, hq1, Nat.le_add_left 1 p, fun hb5 h2 => (H5.out hb5 h2).elim, hbb⟩
      · go_upto_region 23 with (first
          | (with_reducible refine wpList_unguard ?_ ?_ ?_
             rfl
             rfl)
          | (with_reducible refine at_oper (.alloc 58) rfl ?_
             refine wpList_alloc_rowG w.heap.size rfl rfl 58 rfl _ zero58 ?_
             intro w1 k1 b1 s1
             have H1 := Lib.hid (And.intro k1 b1)
             clear k1 b1 s1)
          | (with_reducible refine at_oper (.store 58 (.tmp 9) (.tmp 66)) rfl ?_
             refine wpList_store_blk rfl 58 (.tmp 9) (.tmp 66) rfl rfl w.heap.size (ndc ⟨8, 0, 0, 0, 0, none⟩) _ 58 rfl rfl H1.out.1 (by rw [ndc_size]; exact size58) rfl (ndc_one _) ?_
             intro w2 k2 o2
             have H2 := Lib.hid (And.intro k2 (below_only H1.out.2 o2 (Nat.le_refl _)))
             clear k2 o2)
          | (with_reducible refine at_oper (.store 3 (.tmp 76) _) rfl ?_
             refine wpList_store_at rfl 3 (.tmp 76) _ rfl rfl w.heap.size 8 (vi 1) _ 58 rfl rfl H2.out.1 (by rw [ndc_size]; decide) size3 rfl ?_
             intro w3 k5 o5
             rw [ndc_setmx] at k5
             have H3 := Lib.hid (show Blk w3 w.heap.size 58 (ndc ⟨8, 0, 0, 0, 0, some 1⟩) ∧ Below w.heap.size w w3 from ⟨k5, below_only H2.out.2 o5 (Nat.le_refl _)⟩)
             clear k5 o5))
        obtain ⟨X, hX⟩ : ∃ X, ndc ⟨8, 0, 0, 0, 0, some 1⟩ = X := ⟨_, rfl⟩
        have zX : X.size = 9 := by rw [← hX]; rfl
        have eX : Value.agg X = ndV ⟨8, 0, 0, 0, 0, some 1⟩ := by rw [← hX]; rfl
        have hS := H3.out
        rw [hX] at hS
        have hcl : w3.cell? (ad.add p) = some (.slice B1 n1 c1) := cell_below hS.2 HF.out
        have HX := Lib.hid eX
        clear hX eX
        refine wp_region_wz (by kernel_rfl) [(0, .p), (1, .p), (2, .p), (3, .r), (4, .p), (5, .p), (6, .p), (7, .p), (8, .r), (9, .c), (10, .c), (11, .c)] 9 (fun W => Blk W w.heap.size 58 X ∧ W.cell? (ad.add p) = some (.slice B1 n1 c1)) (by decide +kernel) (fun _ _ d _ _ h => by cases d <;> exact h) ⟨hS.1, hcl⟩ ?_
        have HB := Lib.hid (show Below w.heap.size w w3.drew from hS.2.drew)
        clear hS hcl
        generalize w3.drew = w5 at *
        refine wz_p (by simp only [List.getElem?_toArray, List.getElem?_cons_zero]; rfl) ?_ (fun W => ?_) ?_; rotate_left; (focus (go_simp; first | done | rfl | rw [if_pos (by omega)])); simp only [Act.put, List.setIfInBounds_toArray, List.set_cons_zero, List.set_cons_succ]
        refine wz_p (by simp only [List.getElem?_toArray, List.getElem?_cons_succ, List.getElem?_cons_zero]; rfl) ?_ (fun W => ?_) ?_; rotate_left; (focus (go_simp; first | done | rfl | rw [if_pos (by omega)])); simp only [Act.put, List.setIfInBounds_toArray, List.set_cons_zero, List.set_cons_succ]
        refine wz_p (by simp only [List.getElem?_toArray, List.getElem?_cons_succ, List.getElem?_cons_zero]; rfl) ?_ (fun W => ?_) ?_; rotate_left; (focus (go_simp; first | done | rfl | rw [if_pos (by omega)])); simp only [Act.put, List.setIfInBounds_toArray, List.set_cons_zero, List.set_cons_succ]
        refine wz_r (by simp only [List.getElem?_toArray, List.getElem?_cons_succ, List.getElem?_cons_zero]; rfl) (.agg X) (fun W hS => run_load_blk 58 (.tmp 9) rfl w.heap.size rfl 58 X _ hS.1 Tryz.underlying58 rfl (by rw [zX]; exact size58)) ?_
        simp only [Act.put, List.setIfInBounds_toArray, List.set_cons_zero, List.set_cons_succ]
        refine wz_p (by simp only [List.getElem?_toArray, List.getElem?_cons_succ, List.getElem?_cons_zero]; rfl) ?_ (fun W => ?_) ?_; rotate_left; (focus (go_simp; first | done | rfl | rw [if_pos (by omega)])); simp only [Act.put, List.setIfInBounds_toArray, List.set_cons_zero, List.set_cons_succ]
        refine wz_p (by simp only [List.getElem?_toArray, List.getElem?_cons_succ, List.getElem?_cons_zero]; rfl) ?_ (fun W => ?_) ?_; rotate_left; (focus (go_simp; first | done | rfl | rw [if_pos (by omega)])); simp only [Act.put, List.setIfInBounds_toArray, List.set_cons_zero, List.set_cons_succ]
        refine wz_p (by simp only [List.getElem?_toArray, List.getElem?_cons_succ, List.getElem?_cons_zero]; rfl) ?_ (fun W => ?_) ?_; rotate_left; (focus (go_simp; first | done | rfl | rw [if_pos (by omega)])); simp only [Act.put, List.setIfInBounds_toArray, List.set_cons_zero, List.set_cons_succ]
        refine wz_p (by simp only [List.getElem?_toArray, List.getElem?_cons_succ, List.getElem?_cons_zero]; rfl) ?_ (fun W => ?_) ?_; rotate_left; (focus (go_simp; first | done | rfl | rw [if_pos (by omega)])); simp only [Act.put, List.setIfInBounds_toArray, List.set_cons_zero, List.set_cons_succ]
        refine wz_r (by simp only [List.getElem?_toArray, List.getElem?_cons_succ, List.getElem?_cons_zero]; rfl) ?_ (fun W hS => ?_) ?_; rotate_left; (focus (obtain ⟨q1, q2⟩ := hS; go_simp; first | done | rfl)); simp only [Act.put, List.setIfInBounds_toArray, List.set_cons_zero, List.set_cons_succ]
        refine wz_c (by simp only [List.getElem?_toArray, List.getElem?_cons_succ, List.getElem?_cons_zero]; rfl) ?_
        go_wp2_with (first
          | (go_at_call 44
             rw [HX.out]
             refine (unary_c TT B1 n1 c1 _ 8 0 (some 1) w5 (HD.out.1.below HB.out) HD.out.2.1 (.inr ⟨rfl, by decide, fun m h => by cases h; decide⟩) hnn2).mono ?_
             rintro e w6 ⟨A6, c6, x6, rfl, g6, r6, b6⟩
             have H6 := Lib.hid (And.intro g6 (And.intro r6 (HB.out.trans (b6.mono HB.out.size))))
             clear g6 r6 b6))
        dsimp only [segQ]
        first | refine ⟨fun h => absurd h (by decide), ?_⟩ | skip
        refine wz_c (by simp only [List.getElem?_toArray, List.getElem?_cons_succ, List.getElem?_cons_zero]; rfl) ?_
        go_wp2_with (first
          | (go_at_call 42
             refine (with42_c (some ad) N c p us A6 (n1 + 1) c6 w6 (HRX.out.below H6.out.2.2).sl HRX.out.lu hcap (by omega) (by omega) HRX.out.slices).mono ?_
             rintro e w7 ⟨A7, c7, rfl, own7, b7⟩
             have H7 := Lib.hid (And.intro own7 b7)
             clear own7 b7))
        dsimp only [segQ]
        first | refine ⟨fun h => absurd h (by decide), ?_⟩ | skip
        refine wz_c (by simp only [List.getElem?_toArray, List.getElem?_cons_succ, List.getElem?_cons_zero]; rfl) ?_
        go_wp2_with fail
        dsimp only [segQ]
        first | refine ⟨fun h => absurd h (by decide), ?_⟩ | skip
        refine wz_e ?_
        go_wp2_with fail
        go_ret
        have hl6 : x6.length = n1 + 1 := H6.out.2.1.len
        have own7 := H7.out.1
        have r6 := (H6.out.2.1.below H7.out.2).weak (K' := TT) fun _ _ _ => trivial
        rw [← hl6] at own7 r6
        have hbb : Below w.heap.size w w7 := H6.out.2.2.trans (H7.out.2.mono H6.out.2.2.size)
        have hput := HRX.out.put hbb (k := p) (by omega) own7 r6 H6.out.1 (T' := T + 1) (by rw [hl6]; exact HD.out.2.2.1)
        have hNp := HD.out.2.2.2
        have hq1 : p + 1 ≤ N + 1 := by rw [hNp]; exact Nat.le_succ _
        exact ⟨p + 1, A7, c7, _, _, rfl, hput, hq1, Nat.le_add_left 1 p, fun hb5 h2 => (H5.out hb5 h2).elim, hbb⟩
      · obtain ⟨mn, hmn⟩ : ∃ mn, a % 3 = mn := ⟨_, rfl⟩
        obtain ⟨q, hq⟩ : ∃ q, a / 3 = q := ⟨_, rfl⟩
        obtain ⟨ms, hms⟩ : ∃ ms, q % 3 = ms := ⟨_, rfl⟩
        have m1 : Int.tmod (a : Int) 3 = (mn : Int) := by rw [Int.tmod_eq_emod_of_nonneg (by omega)]; omega
        have m2 : (a : Int) % 3 = (mn : Int) := by omega
        have m3 : Int.tdiv (a : Int) 3 = (q : Int) := by rw [Int.tdiv_eq_ediv_of_nonneg (by omega)]; omega
        have m4 : (a : Int) / 3 = (q : Int) := by omega
        have m5 : Int.tmod (q : Int) 3 = (ms : Int) := by rw [Int.tmod_eq_emod_of_nonneg (by omega)]; omega
        have m6 : (q : Int) % 3 = (ms : Int) := by omega
        obtain ⟨mx, hmx⟩ : ∃ mx, mn + ms = mx := ⟨_, rfl⟩
        have m7 : (mn : Int) + (ms : Int) = (mx : Int) := by omega
        have m8 : IntKind.i64.wrap (mn : Int) = (mn : Int) := i64_wrap _ (by omega)
        have m9 : IntKind.i64.wrap (q : Int) = (q : Int) := i64_wrap _ (by omega)
        have m10 : IntKind.i64.wrap (ms : Int) = (ms : Int) := i64_wrap _ (by omega)
        have m11 : IntKind.i64.wrap (mx : Int) = (mx : Int) := i64_wrap _ (by omega)
        have hmm : mn ≤ 16 ∧ mx ≤ 16 ∧ mn ≤ mx := by omega
        clear hmn hq hms hmx
        go_upto_region 23 with (first
          | (with_reducible refine wpList_unguard ?_ ?_ ?_
             rfl
             rfl)
          | (with_reducible refine at_oper (.alloc 58) rfl ?_
             refine wpList_alloc_rowG w.heap.size rfl rfl 58 rfl _ zero58 ?_
             intro w1 k1 b1 s1
             have H1 := Lib.hid (And.intro k1 b1)
             clear k1 b1 s1)
          | (with_reducible refine at_oper (.store 58 (.tmp 9) (.tmp 66)) rfl ?_
             refine wpList_store_blk rfl 58 (.tmp 9) (.tmp 66) rfl rfl w.heap.size (ndc ⟨8, 0, 0, 0, 0, none⟩) _ 58 rfl rfl H1.out.1 (by rw [ndc_size]; exact size58) rfl (ndc_one _) ?_
             intro w2 k2 o2
             have H2 := Lib.hid (And.intro k2 (below_only H1.out.2 o2 (Nat.le_refl _)))
             clear k2 o2)
          | (with_reducible refine at_oper (.store 3 (.tmp 81) _) rfl ?_
             refine wpList_store_at rfl 3 (.tmp 81) _ rfl rfl w.heap.size 7 (vi mn) _ 58 rfl rfl H2.out.1 (by rw [ndc_size]; decide) size3 rfl ?_
             intro w3 k5 o5
             rw [ndc_setmn] at k5
             have H3 := Lib.hid (show Blk w3 w.heap.size 58 (ndc ⟨8, 0, 0, 0, mn, none⟩) ∧ Below w.heap.size w w3 from ⟨k5, below_only H2.out.2 o5 (Nat.le_refl _)⟩)
             clear k5 o5)
          | (with_reducible refine at_oper (.store 3 (.tmp 88) _) rfl ?_
             refine wpList_store_at rfl 3 (.tmp 88) _ rfl rfl w.heap.size 8 (vi mx) _ 58 rfl rfl H3.out.1 (by rw [ndc_size]; decide) size3 rfl ?_
             intro w4 k5 o5
             rw [ndc_setmx] at k5
             have H4 := Lib.hid (show Blk w4 w.heap.size 58 (ndc ⟨8, 0, 0, 0, mn, some mx⟩) ∧ Below w.heap.size w w4 from ⟨k5, below_only H3.out.2 o5 (Nat.le_refl _)⟩)
             clear k5 o5))
        obtain ⟨X, hX⟩ : ∃ X, ndc ⟨8, 0, 0, 0, mn, some mx⟩ = X := ⟨_, rfl⟩
        have zX : X.size = 9 := by rw [← hX]; rfl
        have eX : Value.agg X = ndV ⟨8, 0, 0, 0, mn, some mx⟩ := by rw [← hX]; rfl
        have hS := H4.out
        rw [hX] at hS
        have hcl : w4.cell? (ad.add p) = some (.slice B1 n1 c1) := cell_below hS.2 HF.out
        have HX := Lib.hid eX
        clear hX eX
        refine wp_region_wz (by kernel_rfl) [(0, .p), (1, .p), (2, .p), (3, .r), (4, .p), (5, .p), (6, .p), (7, .p), (8, .r), (9, .c), (10, .c), (11, .c)] 9 (fun W => Blk W w.heap.size 58 X ∧ W.cell? (ad.add p) = some (.slice B1 n1 c1)) (by decide +kernel) (fun _ _ d _ _ h => by cases d <;> exact h) ⟨hS.1, hcl⟩ ?_
        have HB := Lib.hid (show Below w.heap.size w w4.drew from hS.2.drew)
        clear hS hcl
        generalize w4.drew = w5 at *
        refine wz_p (by simp only [List.getElem?_toArray, List.getElem?_cons_zero]; rfl) ?_ (fun W => ?_) ?_; rotate_left; (focus (go_simp; first | done | rfl | rw [if_pos (by omega)])); simp only [Act.put, List.setIfInBounds_toArray, List.set_cons_zero, List.set_cons_succ]
        refine wz_p (by simp only [List.getElem?_toArray, List.getElem?_cons_succ, List.getElem?_cons_zero]; rfl) ?_ (fun W => ?_) ?_; rotate_left; (focus (go_simp; first | done | rfl | rw [if_pos (by omega)])); simp only [Act.put, List.setIfInBounds_toArray, List.set_cons_zero, List.set_cons_succ]
        refine wz_p (by simp only [List.getElem?_toArray, List.getElem?_cons_succ, List.getElem?_cons_zero]; rfl) ?_ (fun W => ?_) ?_; rotate_left; (focus (go_simp; first | done | rfl | rw [if_pos (by omega)])); simp only [Act.put, List.setIfInBounds_toArray, List.set_cons_zero, List.set_cons_succ]
        refine wz_r (by simp only [List.getElem?_toArray, List.getElem?_cons_succ, List.getElem?_cons_zero]; rfl) (.agg X) (fun W hS => run_load_blk 58 (.tmp 9) rfl w.heap.size rfl 58 X _ hS.1 Tryz.underlying58 rfl (by rw [zX]; exact size58)) ?_
        simp only [Act.put, List.setIfInBounds_toArray, List.set_cons_zero, List.set_cons_succ]
        refine wz_p (by simp only [List.getElem?_toArray, List.getElem?_cons_succ, List.getElem?_cons_zero]; rfl) ?_ (fun W => ?_) ?_; rotate_left; (focus (go_simp; first | done | rfl | rw [if_pos (by omega)])); simp only [Act.put, List.setIfInBounds_toArray, List.set_cons_zero, List.set_cons_succ]
        refine wz_p (by simp only [List.getElem?_toArray, List.getElem?_cons_succ, List.getElem?_cons_zero]; rfl) ?_ (fun W => ?_) ?_; rotate_left; (focus (go_simp; first | done | rfl | rw [if_pos (by omega)])); simp only [Act.put, List.setIfInBounds_toArray, List.set_cons_zero, List.set_cons_succ]
        refine wz_p (by simp only [List.getElem?_toArray, List.getElem?_cons_succ, List.getElem?_cons_zero]; rfl) ?_ (fun W => ?_) ?_; rotate_left; (focus (go_simp; first | done | rfl | rw [if_pos (by omega)])); simp only [Act.put, List.setIfInBounds_toArray, List.set_cons_zero, List.set_cons_succ]
        refine wz_p (by simp only [List.getElem?_toArray, List.getElem?_cons_succ, List.getElem?_cons_zero]; rfl) ?_ (fun W => ?_) ?_; rotate_left; (focus (go_simp; first | done | rfl | rw [if_pos (by omega)])); simp only [Act.put, List.setIfInBounds_toArray, List.set_cons_zero, List.set_cons_succ]
        refine wz_r (by simp only [List.getElem?_toArray, List.getElem?_cons_succ, List.getElem?_cons_zero]; rfl) ?_ (fun W hS => ?_) ?_; rotate_left; (focus (obtain ⟨q1, q2⟩ := hS; go_simp; first | done | rfl)); simp only [Act.put, List.setIfInBounds_toArray, List.set_cons_zero, List.set_cons_succ]
        refine wz_c (by simp only [List.getElem?_toArray, List.getElem?_cons_succ, List.getElem?_cons_zero]; rfl) ?_
        go_wp2_with (first
          | (go_at_call 44
             rw [HX.out]
             refine (unary_c TT B1 n1 c1 _ 8 mn (some mx) w5 (HD.out.1.below HB.out) HD.out.2.1 (.inr ⟨rfl, hmm.1, fun m h => by cases h; exact hmm.2⟩) hnn2).mono ?_
             rintro e w6 ⟨A6, c6, x6, rfl, g6, r6, b6⟩
             have H6 := Lib.hid (And.intro g6 (And.intro r6 (HB.out.trans (b6.mono HB.out.size))))
             clear g6 r6 b6))
        dsimp only [segQ]
        first | refine ⟨fun h => absurd h (by decide), ?_⟩ | skip
        refine wz_c (by simp only [List.getElem?_toArray, List.getElem?_cons_succ, List.getElem?_cons_zero]; rfl) ?_
        go_wp2_with (first
          | (go_at_call 42
             refine (with42_c (some ad) N c p us A6 (n1 + 1) c6 w6 (HRX.out.below H6.out.2.2).sl HRX.out.lu hcap (by omega) (by omega) HRX.out.slices).mono ?_
             rintro e w7 ⟨A7, c7, rfl, own7, b7⟩
             have H7 := Lib.hid (And.intro own7 b7)
             clear own7 b7))
        dsimp only [segQ]
        first | refine ⟨fun h => absurd h (by decide), ?_⟩ | skip
        refine wz_c (by simp only [List.getElem?_toArray, List.getElem?_cons_succ, List.getElem?_cons_zero]; rfl) ?_
        go_wp2_with fail
        dsimp only [segQ]
        first | refine ⟨fun h => absurd h (by decide), ?_⟩ | skip
        refine wz_e ?_
        go_wp2_with fail
        go_ret
        have hl6 : x6.length = n1 + 1 := H6.out.2.1.len
        have own7 := H7.out.1
        have r6 := (H6.out.2.1.below H7.out.2).weak (K' := TT) fun _ _ _ => trivial
        rw [← hl6] at own7 r6
        have hbb : Below w.heap.size w w7 := H6.out.2.2.trans (H7.out.2.mono H6.out.2.2.size)
        have hput := HRX.out.put hbb (k := p) (by omega) own7 r6 H6.out.1 (T' := T + 1) (by rw [hl6]; exact HD.out.2.2.1)
        have hNp := HD.out.2.2.2
        have hq1 : p + 1 ≤ N + 1 := by rw [hNp]; exact Nat.le_succ _
        exact ⟨p + 1, A7, c7, _, _, rfl, hput, hq1, Nat.le_add_left 1 p, fun hb5 h2 => (H5.out hb5 h2).elim, hbb⟩
    · go_upto_region 11 with fail
      go_cut [65] from 56 to 65 (fun s65 wz => s65 = .bool false ∧ wz = w)
      case first =>
        by_cases h1 : 1 ≤ N
        · have d1 : decide ((N : Int) ≥ 1) = true := by simp; omega
          by_cases h7 : 7 ≤ k
          · have d2 : decide ((k : Int) ≥ 7) = true := by simp; omega
            have d3 : decide ((k : Int) ≤ 11) = false := by simp; omega
            clear hU
            go_wp2_with (first
              | (with_reducible refine wpList_unguard ?_ ?_ ?_
                 rfl
                 rfl))
            go_meet
            case rel => exact ⟨rfl, rfl⟩
          · have d2 : decide ((k : Int) ≥ 7) = false := by simp; omega
            clear hU
            go_wp2_with (first
              | (with_reducible refine wpList_unguard ?_ ?_ ?_
                 rfl
                 rfl))
            go_meet
            case rel => exact ⟨rfl, rfl⟩
        · have d1 : decide ((N : Int) ≥ 1) = false := by simp; omega
          clear hU
          go_wp2_with (first
            | (with_reducible refine wpList_unguard ?_ ?_ ?_
               rfl
               rfl))
          go_meet
          case rel => exact ⟨rfl, rfl⟩
      obtain ⟨rfl, hw⟩ := hcut
      have hw := hw.symm
      subst hw
      clear hU
      have hlf := leaf_c k a hk13 ha18 w
      have HL := Lib.hid hlf
      clear hlf
      go_wp2_with (first
        | (go_at_call 45
           refine HL.out.mono ?_
           rintro e w2 ⟨nd, rfl, g2, b2⟩
           obtain ⟨X, hX⟩ : ∃ X, ndc nd = X := ⟨_, rfl⟩
           have zX : X.size = 9 := by rw [← hX]; rfl
           have hfx := fold_nd nd
           rw [show ndV nd = .agg X by rw [← hX]; rfl]
           rw [hX] at hfx
           have H2 := Lib.hid (And.intro g2 (And.intro b2 (And.intro hX hfx)))
           clear g2 b2 hX hfx)
        | (go_at_call 42
           rw [H2.out.2.2.2]
           have hb3 : Below w.heap.size w (w2.alloc (.cells X 58)) := H2.out.2.1.alloc H2.out.2.1.size _
           have hr3 := rx_one (show Blk (w2.alloc (.cells X 58)) w2.heap.size 58 (ndc nd) by rw [H2.out.2.2.1]; exact Blk.new w2 58 X)
           generalize w2.alloc (.cells X 58) = w3 at *
           refine (with42_c A N c N us _ 1 1 w3 (HRX.out.below hb3).sl HRX.out.lu hcap (Nat.le_refl _) (by omega) HRX.out.slices).mono ?_
           rintro e w7 ⟨A7, c7, rfl, own7, b7⟩
           have H7 := Lib.hid (And.intro own7 (And.intro (hb3.trans (b7.mono hb3.size)) (hr3.below b7)))
           clear own7 b7 hb3 hr3))
      go_ret
      have hput := HRX.out.put H7.out.2.1 (k := N) (Nat.le_refl _) (x' := [nd]) H7.out.1 H7.out.2.2 H2.out.1 (T' := T + 1) (by
        have h1 := sumL_take_le xs N
        have h2 := HRX.out.sum
        show sumL (xs.take N) + 1 ≤ T + 1
        omega)
      exact ⟨N + 1, A7, c7, _, _, rfl, hput, Nat.le_refl _, Nat.le_add_left 1 N, fun hb5 h2 => (H5.out hb5 h2).elim, H7.out.2.1⟩
end Go.Proofs.YtjgkdfghjeodeaaGreatDoor
