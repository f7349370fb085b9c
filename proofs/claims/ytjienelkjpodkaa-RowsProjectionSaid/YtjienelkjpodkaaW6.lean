/- Walks: Holds. -/
import Derived.Test.YtjienelkjpodkaaW5
namespace Go.Proofs.Ytjienelkjpodkaa
open Go.RowKit

structure HoRel (l x : List Int) (T s : Int) (k : Nat) : Prop where
  rest : s + dot (l.drop k) (x.drop k) = T
  lo : -(1048576 + k * 1099511627776) ≤ s
  hi : s ≤ 1048576 + k * 1099511627776

theorem mul_bounds {a b p q : Int} (ha : -p ≤ a ∧ a ≤ p) (hb : -q ≤ b ∧ b ≤ q) (hp : 0 ≤ p) (hq : 0 ≤ q) : -(p * q) ≤ a * b ∧ a * b ≤ p * q := by
  have h1 : (a * b).natAbs ≤ (p * q).natAbs := by
    rw [Int.natAbs_mul, Int.natAbs_mul]
    exact Nat.mul_le_mul (by omega) (by omega)
  have h2 : 0 ≤ p * q := Int.mul_nonneg hp hq
  omega

theorem ho_step {l x : List Int} {T s : Int} {k : Nat} {a b : Int} (h : HoRel l x T s k) (ha : l[k]? = some a) (hb : x[k]? = some b) (h1 : -1048576 ≤ a ∧ a ≤ 1048576) (h2 : -1048576 ≤ b ∧ b ≤ 1048576) : HoRel l x T (s + a * b) (k + 1) := by
  have hm := mul_bounds h1 h2 (by omega) (by omega)
  have hr := h.rest
  have hl := h.lo
  have hh := h.hi
  rw [drop_cons_of ha, drop_cons_of hb, dot] at hr
  refine ⟨by rw [← hr, Int.add_assoc], ?_, ?_⟩
  · have : ((k + 1 : Nat) : Int) * 1099511627776 = k * 1099511627776 + 1099511627776 := by omega
    omega
  · have : ((k + 1 : Nat) : Int) * 1099511627776 = k * 1099511627776 + 1099511627776 := by omega
    omega

set_option maxHeartbeats 2000000 in
/-- 'Holds'. -/
theorem holds_c (K K' : Nat → Prop) (A B : Option Addr) (n c m d : Nat) (l x : List Int) (C : Int) (w : World) (h : R1 w K A n c l) (hC : I64 C) (h' : R1 w K' B m d x) :
    Calls Try.prog 13 #[.agg #[.slice A n c, .int .i64 C], .slice B m d] w (Gives w (.bool (holdsR (l, C) x))) := by
  have hb1 := h.big
  have hb2 := h'.big
  have hc1 := h.cap
  have hc2 := h'.cap
  have HL := Lib.hid (And.intro h.len h'.len)
  have hb : Below w.heap.size w (w.alloc (.cells #[.slice A n c, .int .i64 C] 37)) := (Below.refl _ _).alloc (Nat.le_refl _) _
  have HB := Lib.hid hb
  have H1 := Lib.hid h
  have H2 := Lib.hid h'
  have HD := Lib.hid (show holdsR (l, C) x = ((l.length == x.length) && (decide (x.length ≤ 12) && (eachB l (-1048576) 1048576 && (eachB x (-1048576) 1048576 && (bet C (-1048576) 1048576 && decide (0 ≤ C + dot l x)))))) from rfl)
  generalize holdsR (l, C) x = R at *
  unfold I64 at hC
  clear h h' hb
  by_cases hnm : n = m
  · subst hnm
    by_cases h12 : 12 < n
    · have d1 : decide (12 < n) = true := by simp; omega
      have d2 : decide (12 < (n : Int)) = true := by simp; omega
      go_enter Try.func13, Try.ntmps13
      go_wp2
      go_ret
      refine ⟨ret_bool ?_, HB.out⟩
      rw [HD.out, HL.out.1, HL.out.2, decide_eq_false (by omega : ¬ n ≤ 12)]; simp
    · have d1 : decide (12 < n) = false := by simp; omega
      have d2 : decide (12 < (n : Int)) = false := by simp; omega
      have HE1 := Lib.hid fun W (hb : Below w.heap.size w W) => each_c K A n c l (-1048576) 1048576 W (H1.out.below hb)
      have HE2 := Lib.hid fun W (hb : Below w.heap.size w W) => each_c K' B n d x (-1048576) 1048576 W (H2.out.below hb)
      have HD2 := Lib.hid (show R = (eachB l (-1048576) 1048576 && (eachB x (-1048576) 1048576 && (bet C (-1048576) 1048576 && decide (0 ≤ C + dot l x)))) by
        rw [HD.out, HL.out.1, HL.out.2, decide_eq_true (by omega : n ≤ 12)]; simp)
      cases e1 : eachB l (-1048576) 1048576
      · rw [e1] at HE1 HD2
        clear e1
        go_enter Try.func13, Try.ntmps13
        go_wp2_with (go_at_call 25; refine (HE1.out _ HB.out).mono ?_; rintro e w2 ⟨rfl, hb⟩; have HB2 := Lib.hid (HB.out.trans (hb.mono HB.out.size)); clear hb)
        go_ret
        exact ⟨ret_bool (by rw [HD2.out]; rfl), HB2.out⟩
      · rw [e1] at HE1 HD2
        have He1 := Lib.hid e1
        clear e1
        cases e2 : eachB x (-1048576) 1048576
        · rw [e2] at HE2 HD2
          clear e2
          go_enter Try.func13, Try.ntmps13
          go_wp2_with (first | (go_at_call 25; refine (HE2.out _ HB2.out).mono ?_; rintro e w3 ⟨rfl, hb⟩; have HB3 := Lib.hid (HB2.out.trans (hb.mono HB2.out.size)); clear hb) | (go_at_call 25; refine (HE1.out _ HB.out).mono ?_; rintro e w2 ⟨rfl, hb⟩; have HB2 := Lib.hid (HB.out.trans (hb.mono HB.out.size)); have hcC : w2.cell? ⟨w.heap.size, 1, none⟩ = some (.int .i64 C) := ((Blk.new w 37 #[.slice A n c, .int .i64 C]).old hb).cell 1; have hcA : w2.cell? ⟨w.heap.size, 0, none⟩ = some (.slice A n c) := ((Blk.new w 37 #[.slice A n c, .int .i64 C]).old hb).cell 0; clear hb))
          go_ret
          exact ⟨ret_bool (by rw [HD2.out]; rfl), HB3.out⟩
        · rw [e2] at HE2 HD2
          have He2 := Lib.hid e2
          clear e2
          have HBt := Lib.hid fun W => between_c C (-1048576) 1048576 W
          cases e3 : bet C (-1048576) 1048576
          · rw [e3] at HBt HD2
            clear e3
            go_enter Try.func13, Try.ntmps13
            go_wp2_with (first | (go_at_call 26; refine (HBt.out _).mono ?_; rintro e wq ⟨rfl, rfl⟩) | (go_at_call 25; refine (HE2.out _ HB2.out).mono ?_; rintro e w3 ⟨rfl, hb⟩; have HB3 := Lib.hid (HB2.out.trans (hb.mono HB2.out.size)); have hdC := ((HK2.out).old hb).cell 1; have hdA := ((HK2.out).old hb).cell 0; clear hb) | (go_at_call 25; refine (HE1.out _ HB.out).mono ?_; rintro e w2 ⟨rfl, hb⟩; have HB2 := Lib.hid (HB.out.trans (hb.mono HB.out.size)); have HK2 := Lib.hid ((Blk.new w 37 #[.slice A n c, .int .i64 C]).old hb); clear hb))
            go_ret
            exact ⟨ret_bool (by rw [HD2.out]; rfl), HB3.out⟩
          · rw [e3] at HBt HD2
            obtain ⟨c3, c4⟩ := bet_iff.1 e3
            clear e3
            go_enter Try.func13, Try.ntmps13
            go_wp2_with (first | (go_at_call 26; refine (HBt.out _).mono ?_; rintro e wq ⟨rfl, rfl⟩) | (go_at_call 25; refine (HE2.out _ HB2.out).mono ?_; rintro e w3 ⟨rfl, hb⟩; have HB3 := Lib.hid (HB2.out.trans (hb.mono HB2.out.size)); have hdC := ((HK2.out).old hb).cell 1; have hdA := ((HK2.out).old hb).cell 0; clear hb) | (go_at_call 25; refine (HE1.out _ HB.out).mono ?_; rintro e w2 ⟨rfl, hb⟩; have HB2 := Lib.hid (HB.out.trans (hb.mono HB.out.size)); have HK2 := Lib.hid ((Blk.new w 37 #[.slice A n c, .int .i64 C]).old hb); clear hb))
            have HS := Lib.hid (show HoRel l x (C + dot l x) C 0 from ⟨by simp, by omega, by omega⟩)
            have HT := Lib.hid (show R = decide (0 ≤ C + dot l x) by rw [HD2.out]; rfl)
            have H1w := Lib.hid (H1.out.below HB3.out)
            have H2w := Lib.hid (H2.out.below HB3.out)
            clear hdC hdA
            generalize C + dot l x = T at *
            go_loop [5, 41] (fun s5 s41 => ∃ (k : Nat) (s : Int), k ≤ n ∧ s41 = .int .i64 k ∧ s5 = .int .i64 s ∧ Hid (HoRel l x T s k)) (fun _ s41 => n - (intOf s41).toNat)
            case atStart => exact ⟨0, C, Nat.zero_le _, rfl, rfl, HS⟩
            case round =>
              clear HS
              obtain ⟨k, s, hk, rfl, rfl, HQ⟩ := hrel
              have hlo := HQ.out.lo
              have hhi := HQ.out.hi
              by_cases hlt : k < n
              · obtain ⟨ad, a, rfl, _, ha, _, hca⟩ := H1w.out.at_ hlt
                obtain ⟨ad2, b, rfl, _, hb, _, hcb⟩ := H2w.out.at_ hlt
                have ha2 := bet_iff.1 (all_mem He1.out ha)
                have hb2 := bet_iff.1 (all_mem He2.out hb)
                have HN := Lib.hid (ho_step HQ.out ha hb ha2 hb2)
                have hm := mul_bounds ha2 hb2 (by omega) (by omega)
                obtain ⟨y, hy⟩ : ∃ y, y = a * b := ⟨_, rfl⟩
                rw [← hy] at HN hm
                have hy' := hy.symm
                clear ha hb ha2 hb2 hy
                go_wp2
                go_round
                case rel => exact ⟨k + 1, s + y, by omega, by go_num, by first | rfl | go_num, HN⟩
                case measure => simp [intOf]; omega
              · obtain rfl : k = n := by omega
                have hr := HQ.out.rest
                rw [List.drop_eq_nil_of_le (by have := HL.out.1; omega)] at hr
                have hsT : s = T := by simpa [dot] using hr
                have HsT := Lib.hid hsT
                clear hr hsT
                go_wp2
                go_ret
                exact ⟨ret_bool (by rw [HT.out, ← HsT.out]), HB3.out⟩
  · have b1 : ((n : Int) != (m : Int)) = true := by simp; omega
    have b2 : ((n : Int) == (m : Int)) = false := by simp; omega
    have b3 : (n == m) = false := by simp [hnm]
    have HN := Lib.hid hnm
    clear hnm
    go_enter Try.func13, Try.ntmps13
    go_wp2
    go_ret
    refine ⟨ret_bool ?_, HB.out⟩
    have : (l.length == x.length) = false := by
      have h1 := HL.out.1
      have h2 := HL.out.2
      have h3 := HN.out
      simp; omega
    rw [HD.out, this]; rfl

end Go.Proofs.Ytjienelkjpodkaa
