/- Walks: between, each, floor, fold, Same, Less. -/
import Derived.Test.YtjienelkjpodkaaLib
import Derived.Test.YtjienelkjpodkaaDefs
import Derived.Test.YtjienelkjpodkaaL1
namespace Go.Proofs.Ytjienelkjpodkaa
open Go.RowKit

theorem below_drew {B : Nat} {a w : World} (h : Below B a w) (n : Nat) : Below B a (w.drewN n) := h.trans ⟨rfl, rfl, rfl, Nat.le_refl _, fun _ _ => rfl⟩

/-- 'between'. -/
theorem between_c (n lo hi : Int) (w : World) :
    Calls Try.prog 26 #[.int .i64 n, .int .i64 lo, .int .i64 hi] w fun e w' => e = .returned (.bool (bet n lo hi)) ∧ w = w' := by
  have H := Lib.hid (show bet n lo hi = (decide (lo ≤ n) && decide (n ≤ hi)) from rfl)
  generalize bet n lo hi = b at *
  by_cases h1 : lo ≤ n
  · have d1 : decide (lo ≤ n) = true := by simpa using h1
    go_enter Try.func26, Try.ntmps26
    go_wp2
    go_ret
    exact ⟨ret_bool (by rw [H.out, d1]; simp), rfl⟩
  · have d1 : decide (lo ≤ n) = false := by simpa using h1
    go_enter Try.func26, Try.ntmps26
    go_wp2
    go_ret
    exact ⟨ret_bool (by rw [H.out, d1]; rfl), rfl⟩

/-- the closure of each: outside -/
theorem out_c (g1 g2 : Nat) (n lo hi : Int) (w : World) (h1 : Blk w g1 3 #[.int .i64 lo]) (h2 : Blk w g2 3 #[.int .i64 hi]) :
    Calls Try.prog 39 #[.int .i64 n, .pointer (some ⟨g1, 0, none⟩), .pointer (some ⟨g2, 0, none⟩)] w fun e w' => e = .returned (.bool (!bet n lo hi)) ∧ w = w' := by
  have c1 : w.cell? ⟨g1, 0, none⟩ = some (.int .i64 lo) := h1.cell 0
  have c2 : w.cell? ⟨g2, 0, none⟩ = some (.int .i64 hi) := h2.cell 0
  have HC := Lib.hid (between_c n lo hi w)
  clear h1 h2
  generalize bet n lo hi = b at *
  go_enter Try.func39, Try.ntmps39
  go_wp2_with (go_at_call 26; refine HC.out.mono ?_; rintro e w' ⟨rfl, rfl⟩)
  go_ret
  exact ⟨rfl, rfl⟩

def IdxPost (b : Bool) (w : World) (e : Ending) (w' : World) : Prop := ∃ r : Int, e = .returned (.int .i64 r) ∧ decide (0 ≤ r) = b ∧ w = w'

/-- 'slices.IndexFunc' over the closure of each. -/
theorem indexOut_c (K : Nat → Prop) (A : Option Addr) (n c : Nat) (l : List Int) (g1 g2 : Nat) (lo hi : Int) (w : World) (h : R1 w K A n c l) (h1 : Blk w g1 3 #[.int .i64 lo]) (h2 : Blk w g2 3 #[.int .i64 hi]) :
    Calls Try.prog 49 #[.slice A n c, .func (.func 39) #[] #[.pointer (some ⟨g1, 0, none⟩), .pointer (some ⟨g2, 0, none⟩)]] w (IdxPost (l.any fun x => !bet x lo hi) w) := by
  have hbig := h.big
  have hcap := h.cap
  have HG := Lib.hid (And.intro h1 h2)
  clear h1 h2
  go_enter Try.func49, Try.ntmps49
  go_wp2
  go_loop [8] (fun i => ∃ k : Nat, k ≤ n ∧ i = .int .i64 k ∧ (l.take k).any (fun x => !bet x lo hi) = false) (fun i => n - (intOf i).toNat)
  case atStart => exact ⟨0, Nat.zero_le _, rfl, by simp⟩
  case round =>
    obtain ⟨k, hk, rfl, hnt⟩ := hrel
    have H := Lib.hid hnt
    clear hnt
    by_cases hlt : k < n
    · obtain ⟨ad, x, rfl, _, hx, hw, hcell⟩ := h.at_ hlt
      obtain ⟨hw1, hw2⟩ := hw
      have HX := Lib.hid (take_snoc_of hx)
      have Hx := Lib.hid hx
      have HC := Lib.hid (out_c g1 g2 x lo hi w HG.out.1 HG.out.2)
      clear hx h
      cases hb : bet x lo hi
      · rw [hb] at HC
        have HB := Lib.hid hb
        clear hb
        go_wp2_with (go_at_call 39; refine HC.out.mono ?_; rintro e w' ⟨rfl, rfl⟩)
        go_ret
        exact ⟨k, rfl, by
          have : (l.any fun x => !bet x lo hi) = true := by rw [List.any_eq_true]; exact ⟨x, List.mem_of_getElem? Hx.out, by rw [HB.out]; rfl⟩
          rw [this]; simp, rfl⟩
      · rw [hb] at HC
        have HB := Lib.hid hb
        clear hb
        go_wp2_with (go_at_call 39; refine HC.out.mono ?_; rintro e w' ⟨rfl, rfl⟩)
        go_round
        case rel =>
          refine ⟨k + 1, by omega, by go_num, ?_⟩
          rw [HX.out, List.any_append, H.out]
          simp [HB.out]
        case measure => simp [intOf]; omega
    · go_wp2
      go_ret
      have hl := h.len
      have := H.out
      rw [List.take_of_length_le (by omega)] at this
      exact ⟨-1, rfl, by rw [this]; rfl, rfl⟩

/-- 'slices.ContainsFunc' over the closure of each. -/
theorem containsOut_c (K : Nat → Prop) (A : Option Addr) (n c : Nat) (l : List Int) (g1 g2 : Nat) (lo hi : Int) (w : World) (h : R1 w K A n c l) (h1 : Blk w g1 3 #[.int .i64 lo]) (h2 : Blk w g2 3 #[.int .i64 hi]) :
    Calls Try.prog 38 #[.slice A n c, .func (.func 39) #[] #[.pointer (some ⟨g1, 0, none⟩), .pointer (some ⟨g2, 0, none⟩)]] w fun e w' => e = .returned (.bool (!eachB l lo hi)) ∧ w = w' := by
  have HC := Lib.hid (indexOut_c K A n c l g1 g2 lo hi w h h1 h2)
  have HE := Lib.hid (show (l.any fun x => !bet x lo hi) = !eachB l lo hi from List.not_all_eq_any_not.symm)
  rw [HE.out] at HC
  clear h h1 h2 HE
  generalize (!eachB l lo hi) = b at *
  go_enter Try.func38, Try.ntmps38
  go_wp2_with (go_at_call 49; refine HC.out.mono ?_; rintro e w' ⟨r, rfl, hb, rfl⟩; have Hb := Lib.hid hb; clear hb)
  go_ret
  exact ⟨ret_bool Hb.out, rfl⟩

/-- 'each'. -/
theorem each_c (K : Nat → Prop) (A : Option Addr) (n c : Nat) (l : List Int) (lo hi : Int) (w : World) (h : R1 w K A n c l) :
    Calls Try.prog 25 #[.slice A n c, .int .i64 lo, .int .i64 hi] w (Gives w (.bool (eachB l lo hi))) := by
  have hb := ((Below.refl w.heap.size w).alloc (Nat.le_refl _) (.cells #[.int .i64 lo] 3)).alloc (by simp) (.cells #[.int .i64 hi] 3)
  have HC := Lib.hid (containsOut_c K A n c l w.heap.size (w.heap.size + 1) lo hi _ (h.below hb) ((Blk.new w 3 #[.int .i64 lo]).alloc _) (by simpa using Blk.new (w.alloc (.cells #[.int .i64 lo] 3)) 3 #[.int .i64 hi]))
  have HB := Lib.hid hb
  clear h hb
  generalize eachB l lo hi = b at *
  go_enter Try.func25, Try.ntmps25
  go_wp2_with (go_at_call 38; refine HC.out.mono ?_; rintro e w' ⟨rfl, rfl⟩)
  go_ret
  exact ⟨ret_bool (by cases b <;> rfl), HB.out⟩

/-- 'floor'. -/
theorem floor_c (a b : Int) (w : World) (ha : -1000000000 ≤ a ∧ a ≤ 1000000000) (hb : 1 ≤ b ∧ b ≤ 1000000000) :
    Calls Try.prog 47 #[.int .i64 a, .int .i64 b] w fun e w' => e = .returned (.int .i64 (floorF a b)) ∧ w = w' := by
  have H := Lib.hid (show floorF a b = if a.tmod b < 0 then a.tdiv b - 1 else a.tdiv b from rfl)
  have h0 : ¬ b = 0 := by omega
  have hq : (a.tdiv b).natAbs ≤ a.natAbs := by rw [Int.natAbs_tdiv]; exact Nat.div_le_self _ _
  have hq1 : -1000000000 ≤ a.tdiv b := by omega
  have hq2 : a.tdiv b ≤ 1000000000 := by omega
  have hn1 : ¬ b = -1 := by omega
  clear hq
  generalize floorF a b = r at *
  by_cases h1 : a.tmod b < 0
  · have d1 : decide (a.tmod b < 0) = true := by simpa using h1
    go_enter Try.func47, Try.ntmps47
    go_wp2
    go_ret
    exact ⟨ret_int (by rw [H.out, if_pos h1] <;> first | rfl | (simp; omega)), rfl⟩
  · have d1 : decide (a.tmod b < 0) = false := by simpa using h1
    go_enter Try.func47, Try.ntmps47
    go_wp2
    go_ret
    exact ⟨ret_int (by rw [H.out, if_neg (by omega)]), rfl⟩

/-- 'fold'. -/
theorem fold_c (n lo hi : Int) (w : World) (hn : I64 n) (hl : -1000 ≤ lo ∧ lo ≤ hi ∧ hi ≤ 1000) :
    Calls Try.prog 20 #[.int .i64 n, .int .i64 lo, .int .i64 hi] w fun e w' => e = .returned (.int .i64 (foldF n lo hi)) ∧ w = w' := by
  unfold I64 at hn
  obtain ⟨k, hk⟩ : ∃ k, k = hi - lo + 1 := ⟨_, rfl⟩
  have hk0 : 0 < k := by omega
  have H := Lib.hid (show foldF n lo hi = lo + n % k by rw [hk]; rfl)
  have hm : n % k = (n.tmod k) % k := by
    have h := Int.tmod_add_mul_tdiv n k
    rw [← h, Int.add_mul_emod_self_left, h]
  have hb1 := Int.tmod_lt_of_pos n hk0
  have hb2 : -k < n.tmod k := Int.lt_tmod_of_pos n hk0
  have hk1 : k ≤ 2001 := by omega
  have hne : ¬ (hi - lo + 1) = 0 := by omega
  have hne1 : ¬ (hi - lo + 1) = -1 := by omega
  rw [hm] at H
  generalize foldF n lo hi = r at *
  have Hk := Lib.hid hk
  have e1 : n.tmod (hi - lo + 1) = n.tmod k := by rw [hk]
  clear hm hk
  generalize n.tmod k = t at *
  by_cases h1 : t < 0
  · have d1 : decide (t < 0) = true := by simpa using h1
    have h2 : t % k = t + k := by rw [← Int.add_emod_right, Int.emod_eq_of_lt (by omega) (by omega)]
    have H2 := Lib.hid h2
    clear h2
    go_enter Try.func20, Try.ntmps20
    go_wp2
    go_ret
    exact ⟨ret_int (by have h3 := H.out; have h4 := H2.out; have h5 := Hk.out; omega), rfl⟩
  · have d1 : decide (t < 0) = false := by simpa using h1
    have h2 : t % k = t := Int.emod_eq_of_lt (by omega) (by omega)
    have H2 := Lib.hid h2
    clear h2
    go_enter Try.func20, Try.ntmps20
    go_wp2
    go_ret
    exact ⟨ret_int (by have h3 := H.out; have h4 := H2.out; omega), rfl⟩

end Go.Proofs.Ytjienelkjpodkaa
namespace Go.Proofs.Ytjienelkjpodkaa
open Go.RowKit

theorem all_mem {l : List Int} {p : Int → Bool} (h : l.all p = true) {k : Nat} {x : Int} (hx : l[k]? = some x) : p x = true := List.all_eq_true.1 h x (List.mem_of_getElem? hx)
theorem bet_iff {n lo hi : Int} : bet n lo hi = true ↔ lo ≤ n ∧ n ≤ hi := by simp [bet]

structure PtRel (l : List Int) (n : Int) (k : Nat) (R : Int) : Prop where
  rest : pointsF (l.drop k) n = R
  b1 : 0 ≤ n
  b2 : n ≤ 16385

/-- 'points', of a system with small bounds. -/
theorem points_c (K _K' : Nat → Prop) (A B : Option Addr) (n c m d : Nat) (l : List Int) (w : World) (h : R1 w K A n c l) (hs : eachB l 0 64 = true) :
    Calls Try.prog 21 #[.agg #[.slice A n c, .slice B m d]] w (Gives w (.int .i64 (pointsF l 1))) := by
  have hb1 := h.big
  have hcap := h.cap
  have HL := Lib.hid h.len
  have HS := Lib.hid hs
  have hb : Below w.heap.size w (w.alloc (.cells #[.slice A n c, .slice B m d] 25)) := (Below.refl _ _).alloc (Nat.le_refl _) _
  have HB := Lib.hid hb
  have H1 := Lib.hid (h.below hb)
  generalize hR : pointsF l 1 = R
  have HR := Lib.hid hR
  clear h hs hR hb
  go_enter Try.func21, Try.ntmps21
  go_wp2
  go_loop [3, 9] (fun s3 s9 => ∃ (k : Nat) (x : Int), k ≤ n ∧ s9 = .int .i64 k ∧ s3 = .int .i64 x ∧ Hid (PtRel l x k R)) (fun _ s9 => n - (intOf s9).toNat)
  case atStart => exact ⟨0, 1, Nat.zero_le _, rfl, rfl, HR.out, by omega, by omega⟩
  case round =>
    obtain ⟨k, x, hk, rfl, rfl, HQ⟩ := hrel
    have hx1 := HQ.out.b1
    have hx2 := HQ.out.b2
    by_cases hlt : k < n
    · obtain ⟨ad, t, rfl, _, ht, _, hct⟩ := H1.out.at_ hlt
      obtain ⟨t1, t2⟩ := bet_iff.1 (all_mem HS.out ht)
      have HT := Lib.hid ht
      have hm1 : 0 ≤ x * (t + 1) := Int.mul_nonneg hx1 (by omega)
      have hm2 : x * (t + 1) ≤ 16385 * 65 := Int.mul_le_mul hx2 (by omega) (by omega) (by omega)
      have hr : pointsF (l.drop (k + 1)) (min (x * (t + 1)) 16385) = R := by
        have := HQ.out.rest
        rw [drop_cons_of ht, pointsF] at this
        exact this
      have HRr := Lib.hid hr
      clear ht hr
      obtain ⟨y, hy⟩ : ∃ y, y = x * (t + 1) := ⟨_, rfl⟩
      rw [← hy] at hm1 hm2 HRr
      have hy' := hy.symm
      clear hy
      go_wp2
      go_round
      case rel => exact ⟨k + 1, min y 16385, by omega, by go_num, by first | rfl | simp, HRr.out, by omega, by omega⟩
      case measure => simp [intOf]; omega
    · obtain rfl : k = n := by omega
      go_wp2
      go_ret
      have hr := HQ.out.rest
      rw [List.drop_eq_nil_of_le (by have := HL.out; omega), pointsF] at hr
      exact ⟨ret_int hr, HB.out⟩

end Go.Proofs.Ytjienelkjpodkaa
