/- Walks of the reference: comparisons of results; made literals, clauses, formulas, models. -/
import Derived.Test.YtekbkdbmkjdgbaaW21
namespace Go.Proofs.Ytekbkdbmkjdgbaa
open Go.RowKit

theorem below_drew {B : Nat} {a w : World} (h : Below B a w) (n : Nat) : Below B a (w.drewN n) := h.trans ⟨rfl, rfl, rfl, Nat.le_refl _, fun _ _ => rfl⟩

structure SmRel {α : Type} (w wr : World) (l l' : List α) (k : Nat) : Prop where
  below : Below w.heap.size w wr
  same : l.take k = l'.take k

set_option maxHeartbeats 1000000 in
/-- 'SameInts'. -/
theorem sameInts_c (K K' : Nat → Prop) (A A' : Option Addr) (n c n' c' : Nat) (l l' : List Int) (w : World) (h : R1 w K A n c l) (h' : R1 w K' A' n' c' l') :
    Calls Try.prog 25 #[.slice A n c, .slice A' n' c'] w (Gives w (.bool (decide (l = l')))) := by
  have hl := h.len
  have hl' := h'.len
  have hb1 := h.big
  have hcap := h.cap
  have hcap' := h'.cap
  have H1 := Lib.hid h
  have H2 := Lib.hid h'
  by_cases hn : n = n'
  · subst hn
    have HL := Lib.hid (And.intro hl hl')
    clear h h' hl hl'
    go_enter Try.func25, Try.ntmps25
    go_wp2
    go_loopw [5] (fun s5 wr => ∃ k : Nat, k ≤ n ∧ s5 = .int .i64 k ∧ SmRel w wr l l' k) (fun s5 _ => n - (intOf s5).toNat)
    case atStart => exact ⟨0, Nat.zero_le _, rfl, Below.refl _ _, rfl⟩
    case round =>
      obtain ⟨k, hk, rfl, hq⟩ := hrel
      obtain ⟨wo, rfl⟩ : ∃ wo : World, wo = wr := ⟨_, rfl⟩
      have HQ := Lib.hid hq
      clear hq
      by_cases hlt : k < n
      · obtain ⟨ad, x, rfl, _, hx, hwx, hcx⟩ := (H1.out.below HQ.out.below).at_ hlt
        obtain ⟨ad2, y, rfl, _, hy, hwy, hcy⟩ := (H2.out.below HQ.out.below).at_ hlt
        have HX := Lib.hid hx
        have HY := Lib.hid hy
        clear hx hy hwx hwy
        by_cases hxy : x = y
        · subst hxy
          go_wp2
          go_quiet (fail)
          go_wp2
          go_roundw
          case rel => exact ⟨k + 1, by omega, by go_num, below_drew HQ.out.below _, by rw [take_snoc_of HX.out, take_snoc_of HY.out, HQ.out.same]⟩
          case measure => simp [intOf]; omega
        · have b1 : (x != y) = true := by simp [hxy]
          have b2 : (x == y) = false := by simp [hxy]
          have HN := Lib.hid (show ¬ l = l' from fun e => hxy (by have h1 := HX.out; rw [e, HY.out] at h1; cases h1; rfl))
          clear hxy
          go_wp2
          go_quiet (fail)
          go_wp2
          go_ret
          exact ⟨ret_bool (decide_eq_false HN.out).symm, below_drew HQ.out.below _⟩
      · obtain rfl : k = n := by omega
        go_wp2
        go_ret
        have hs := HQ.out.same
        rw [List.take_of_length_le (by have := HL.out.1; omega), List.take_of_length_le (by have := HL.out.2; omega)] at hs
        exact ⟨ret_bool (decide_eq_true hs).symm, HQ.out.below⟩
  · have b1 : ((n : Int) != (n' : Int)) = true := by simp; omega
    have b2 : ((n : Int) == (n' : Int)) = false := by simp; omega
    have b3 : (n == n') = false := by simp [hn]
    have HN := Lib.hid (show ¬ l = l' from fun e => hn (by rw [← hl, ← hl', e]))
    clear h h' hl hl' hn
    go_enter Try.func25, Try.ntmps25
    go_wp2
    go_ret
    exact ⟨ret_bool (decide_eq_false HN.out).symm, Below.refl _ _⟩

set_option maxHeartbeats 1000000 in
/-- 'SameBools'. -/
theorem sameBools_c (K K' : Nat → Prop) (A A' : Option Addr) (n c n' c' : Nat) (l l' : List Bool) (w : World) (h : RB w K A n c l) (h' : RB w K' A' n' c' l') :
    Calls Try.prog 22 #[.slice A n c, .slice A' n' c'] w (Gives w (.bool (decide (l = l')))) := by
  have hl := h.len
  have hl' := h'.len
  have hb1 := h.big
  have hcap := h.cap
  have hcap' := h'.cap
  have H1 := Lib.hid h
  have H2 := Lib.hid h'
  by_cases hn : n = n'
  · subst hn
    have HL := Lib.hid (And.intro hl hl')
    clear h h' hl hl'
    go_enter Try.func22, Try.ntmps22
    go_wp2
    go_loopw [5] (fun s5 wr => ∃ k : Nat, k ≤ n ∧ s5 = .int .i64 k ∧ SmRel w wr l l' k) (fun s5 _ => n - (intOf s5).toNat)
    case atStart => exact ⟨0, Nat.zero_le _, rfl, Below.refl _ _, rfl⟩
    case round =>
      obtain ⟨k, hk, rfl, hq⟩ := hrel
      obtain ⟨wo, rfl⟩ : ∃ wo : World, wo = wr := ⟨_, rfl⟩
      have HQ := Lib.hid hq
      clear hq
      by_cases hlt : k < n
      · obtain ⟨ad, x, rfl, _, hx, hcx⟩ := (H1.out.below HQ.out.below).at_ hlt
        obtain ⟨ad2, y, rfl, _, hy, hcy⟩ := (H2.out.below HQ.out.below).at_ hlt
        have HX := Lib.hid hx
        have HY := Lib.hid hy
        clear hx hy
        by_cases hxy : x = y
        · subst hxy
          go_wp2
          go_quiet (fail)
          go_wp2
          go_roundw
          case rel => exact ⟨k + 1, by omega, by go_num, below_drew HQ.out.below _, by rw [take_snoc_of HX.out, take_snoc_of HY.out, HQ.out.same]⟩
          case measure => simp [intOf]; omega
        · have b1 : (x != y) = true := by simp [hxy]
          have b2 : (x == y) = false := by simp [hxy]
          have HN := Lib.hid (show ¬ l = l' from fun e => hxy (by have h1 := HX.out; rw [e, HY.out] at h1; cases h1; rfl))
          clear hxy
          go_wp2
          go_quiet (fail)
          go_wp2
          go_ret
          exact ⟨ret_bool (decide_eq_false HN.out).symm, below_drew HQ.out.below _⟩
      · obtain rfl : k = n := by omega
        go_wp2
        go_ret
        have hs := HQ.out.same
        rw [List.take_of_length_le (by have := HL.out.1; omega), List.take_of_length_le (by have := HL.out.2; omega)] at hs
        exact ⟨ret_bool (decide_eq_true hs).symm, HQ.out.below⟩
  · have b1 : ((n : Int) != (n' : Int)) = true := by simp; omega
    have b2 : ((n : Int) == (n' : Int)) = false := by simp; omega
    have b3 : (n == n') = false := by simp [hn]
    have HN := Lib.hid (show ¬ l = l' from fun e => hn (by rw [← hl, ← hl', e]))
    clear h h' hl hl' hn
    go_enter Try.func22, Try.ntmps22
    go_wp2
    go_ret
    exact ⟨ret_bool (decide_eq_false HN.out).symm, Below.refl _ _⟩

structure LsRel (w wr : World) (l l' : List Bool) (r : Bool) (k : Nat) : Prop where
  below : Below w.heap.size w wr
  rest : lessF (l.drop k) (l'.drop k) = r

set_option maxHeartbeats 1000000 in
/-- 'Less', of two assignments of one length. -/
theorem less_c (K K' : Nat → Prop) (A A' : Option Addr) (n c c' : Nat) (l l' : List Bool) (w : World) (h : RB w K A n c l) (h' : RB w K' A' n c' l') :
    Calls Try.prog 32 #[.slice A n c, .slice A' n c'] w (Gives w (.bool (lessF l l'))) := by
  have hb1 := h.big
  have hcap := h.cap
  have hcap' := h'.cap
  have H1 := Lib.hid h
  have H2 := Lib.hid h'
  have HL := Lib.hid (And.intro h.len h'.len)
  generalize hr : lessF l l' = r
  have HR := Lib.hid hr
  clear h h' hr
  go_enter Try.func32, Try.ntmps32
  go_wp2
  go_loopw [5] (fun s5 wr => ∃ k : Nat, k ≤ n ∧ s5 = .int .i64 k ∧ LsRel w wr l l' r k) (fun s5 _ => n - (intOf s5).toNat)
  case atStart => exact ⟨0, Nat.zero_le _, rfl, Below.refl _ _, HR.out⟩
  case round =>
    obtain ⟨k, hk, rfl, hq⟩ := hrel
    obtain ⟨wo, rfl⟩ : ∃ wo : World, wo = wr := ⟨_, rfl⟩
    have HQ := Lib.hid hq
    clear hq
    by_cases hlt : k < n
    · obtain ⟨ad, x, rfl, _, hx, hcx⟩ := (H1.out.below HQ.out.below).at_ hlt
      obtain ⟨ad2, y, rfl, _, hy, hcy⟩ := (H2.out.below HQ.out.below).at_ hlt
      have HX := Lib.hid hx
      have HY := Lib.hid hy
      clear hx hy
      by_cases hxy : x = y
      · subst hxy
        go_wp2
        go_quiet (fail)
        go_wp2
        go_roundw
        case rel =>
          refine ⟨k + 1, by omega, by go_num, below_drew HQ.out.below _, ?_⟩
          have hr := HQ.out.rest
          rw [drop_cons_of HX.out, drop_cons_of HY.out, lessF, if_neg (by simp)] at hr
          exact hr
        case measure => simp [intOf]; omega
      · have b1 : (x != y) = true := by simp [hxy]
        have b2 : (x == y) = false := by simp [hxy]
        have HN := Lib.hid (show r = y by
          have hr := HQ.out.rest
          rw [drop_cons_of HX.out, drop_cons_of HY.out, lessF, if_pos b1] at hr
          exact hr.symm)
        have hcy2 : ∀ q, (wo.drewN q).cell? (ad2.add k) = some (.bool y) := fun q => hcy
        clear hxy
        go_wp2
        go_quiet (fail)
        go_wp2
        go_ret
        exact ⟨ret_bool HN.out.symm, below_drew HQ.out.below _⟩
    · obtain rfl : k = n := by omega
      go_wp2
      go_ret
      have hr := HQ.out.rest
      rw [List.drop_eq_nil_of_le (by have := HL.out.1; omega), lessF] at hr
      exact ⟨ret_bool hr, HQ.out.below⟩

/-! ### made -/
theorem and7 {x : Int} (_ : I64 x) : bits BinOp.and IntKind.i64 x 7 = x % 8 := by
  have h1 : (BitVec.ofInt 64 x &&& BitVec.ofInt 64 7).toNat = (BitVec.ofInt 64 x).toNat % 8 := by
    rw [BitVec.toNat_and]
    exact Nat.and_two_pow_sub_one_eq_mod _ 3
  have h2 : ((BitVec.ofInt 64 x).toNat : Int) = x % 18446744073709551616 := by
    rw [BitVec.toNat_ofInt]
    have : (0 : Int) ≤ x % 18446744073709551616 := by omega
    omega
  show IntKind.i64.wrap (((BitVec.ofInt 64 x &&& BitVec.ofInt 64 7).toNat : Nat) : Int) = x % 8
  rw [h1]
  have h3 : (((BitVec.ofInt 64 x).toNat % 8 : Nat) : Int) = x % 8 := by omega
  rw [h3]
  have : 0 ≤ x % 8 ∧ x % 8 < 8 := by omega
  simp [IntKind.wrap, IntKind.bits, IntKind.signed]
  omega

/-- 'MadeLiteral'. -/
theorem madeL_c (x : Int) (w : World) (h : I64 x) :
    Calls Try.prog 36 #[.int .i64 x] w fun e w' => e = .returned (.int .i64 (madeL x)) ∧ w = w' := by
  have HC := Lib.hid (rwithin_c x 4 w ⟨by omega, by omega⟩)
  have HA := and7 h
  have HD := Lib.hid (show madeL x = if wi 4 x then x else if x % 8 < 4 then x % 8 + 1 else 3 - x % 8 from rfl)
  unfold I64 at h
  cases hw : wi 4 x
  · rw [hw] at HC HD
    clear hw
    by_cases h4 : x % 8 < 4
    · go_enter Try.func36, Try.ntmps36
      go_wp2_with (go_at_call 35; refine HC.out.mono ?_; rintro e w1 ⟨rfl, rfl⟩)
      go_ret
      refine ⟨ret_int ?_, rfl⟩
      rw [HD.out, if_neg (by simp), if_pos h4]
    · go_enter Try.func36, Try.ntmps36
      go_wp2_with (go_at_call 35; refine HC.out.mono ?_; rintro e w1 ⟨rfl, rfl⟩)
      go_ret
      refine ⟨ret_int ?_, rfl⟩
      rw [HD.out, if_neg (by simp), if_neg (by omega)]
  · rw [hw] at HC HD
    clear hw
    go_enter Try.func36, Try.ntmps36
    go_wp2_with (go_at_call 35; refine HC.out.mono ?_; rintro e w1 ⟨rfl, rfl⟩)
    go_ret
    exact ⟨ret_int HD.out.symm, rfl⟩

structure McRel (w wr : World) (l : List Int) (k : Nat) (A : Option Addr) (c : Nat) : Prop where
  below : Below w.heap.size w wr
  own : Own wr w.heap.size 3 A k c (((l.take k).map madeL).map (Value.int .i64))

theorem madeC_i64 (l : List Int) : ∀ x ∈ madeC l, I64 x := fun x hx => by
  obtain ⟨h0, h1, h2⟩ := wi_facts (List.all_eq_true.1 (madeC_wi l) x hx)
  unfold I64; omega
theorem madeC_take {l : List Int} {n k : Nat} (hl : l.length = n) (hk : k = min n 4) : (l.take k).map madeL = madeC l := by
  rw [madeC, hk]
  by_cases h : n ≤ 4
  · rw [Nat.min_eq_left h, List.take_of_length_le (by omega), List.take_of_length_le (by omega)]
  · rw [Nat.min_eq_right (by omega)]

set_option maxHeartbeats 1000000 in
/-- 'MadeClause'. -/
theorem madeC_c (K : Nat → Prop) (A : Option Addr) (n c : Nat) (l : List Int) (w : World) (h : R1 w K A n c l) :
    Calls Try.prog 33 #[.slice A n c] w fun e w' => ∃ A n c, e = .returned (.slice A n c) ∧ R1 w' (fun k => w.heap.size ≤ k) A n c (madeC l) ∧ n ≤ 4 ∧ Below w.heap.size w w' := by
  have hb1 := h.big
  have hcap := h.cap
  have H1 := Lib.hid h
  have HL := Lib.hid h.len
  clear h
  go_enter Try.func33, Try.ntmps33
  go_wp2
  have HS := Lib.hid (show McRel w (w.alloc (.cells #[] 3)) l 0 (some ⟨w.heap.size, 0, none⟩) 0 from ⟨(Below.refl _ _).alloc (Nat.le_refl _) _, Own.lit 3 #[] 0 (Nat.le_refl _) (by omega) rfl⟩)
  go_loopw [3, 4] (fun s3 s4 wr => ∃ (k c0 : Nat) (A0 : Option Addr), k ≤ n ∧ k ≤ 4 ∧ s4 = .int .i64 k ∧ s3 = .slice A0 k c0 ∧ McRel w wr l k A0 c0) (fun _ s4 _ => 4 - (intOf s4).toNat)
  case atStart => exact ⟨0, 0, _, Nat.zero_le _, by omega, rfl, rfl, HS.out⟩
  case round =>
    clear HS
    obtain ⟨k, c0, A0, hk, hk4, rfl, rfl, hq⟩ := hrel
    obtain ⟨wo, rfl⟩ : ∃ wo : World, wo = wr := ⟨_, rfl⟩
    have HQ := Lib.hid hq
    have hkc := hq.own.cap
    clear hq
    by_cases hlt : k < n
    · by_cases hlt4 : k < 4
      · obtain ⟨ad, x, rfl, _, hx, hwx, hcx⟩ := (H1.out.below HQ.out.below).at_ hlt
        have HX := Lib.hid hx
        have HM := Lib.hid (madeL_c x wo hwx)
        have d1 : decide (k < 4) = true := by simp; omega
        clear hx hwx
        go_wp2_with (first | (go_at_call 36; refine HM.out.mono ?_; rintro e w1 ⟨rfl, rfl⟩) | (at_builtin; refine wpList_push rfl (.tmp 16) (.tmp 22) 32 rfl app32 w.heap.size A0 k c0 (((l.take k).map madeL).map (Value.int .i64)) rfl (HQ.out.own.alloc _) wo.heap.size (.int .i64 (madeL x)) rfl ((Blk.new wo 3 _).cell 0) rfl (by omega) (by omega) (by have := HQ.out.below.size; simp; omega) ?_; intro A1 c1 w7 hown hgr hob; have HO := Lib.hid hown; have HG := Lib.hid hgr; clear hown hgr hob))
        go_roundw
        case rel =>
          refine ⟨k + 1, c1, A1, by omega, by omega, by go_num, rfl, (HQ.out.below.alloc HQ.out.below.size _).grown HG.out (by have := HQ.out.below.size; simp; omega) (fun g hg => (HQ.out.own.lt g hg).1), ?_⟩
          rw [take_snoc_of HX.out, List.map_append, List.map_append]
          exact HO.out
        case measure => simp [intOf]; omega
      · obtain rfl : k = 4 := by omega
        go_wp2
        go_ret
        have ho := HQ.out.own
        rw [madeC_take HL.out (by omega)] at ho
        exact ⟨A0, 4, c0, rfl, ho.r1 (fun g hg => (ho.lt g hg).1) (by omega) (madeC_i64 l), by omega, HQ.out.below⟩
    · obtain rfl : k = n := by omega
      go_wp2
      go_ret
      have ho := HQ.out.own
      rw [madeC_take HL.out (by omega)] at ho
      exact ⟨A0, k, c0, rfl, ho.r1 (fun g hg => (ho.lt g hg).1) (by omega) (madeC_i64 l), by omega, HQ.out.below⟩

structure MfRel (w wr : World) (f : List (List Int)) (k : Nat) (A : Option Addr) (c : Nat) : Prop where
  below : Below w.heap.size w wr
  ex : ∃ us, Own wr w.heap.size 32 A k c us ∧ All1 wr (fun q => w.heap.size ≤ q ∧ obl A ≠ some q) us ((f.take k).map madeC)

theorem madeF_take {l : List (List Int)} {n k : Nat} (hl : l.length = n) (hk : k = min n 12) : (l.take k).map madeC = madeF l := by
  rw [madeF, hk]
  by_cases h : n ≤ 12
  · rw [Nat.min_eq_left h, List.take_of_length_le (by omega), List.take_of_length_le (by omega)]
  · rw [Nat.min_eq_right (by omega)]

set_option maxHeartbeats 1000000 in
/-- 'Made'. -/
theorem madeF_c (K : Nat → Prop) (A : Option Addr) (n c : Nat) (f : List (List Int)) (w : World) (h : R2 w K A n c f) :
    Calls Try.prog 30 #[.slice A n c] w fun e w' => ∃ ad n c, e = .returned (.slice (some ad) n c) ∧ R2 w' (fun k => w.heap.size ≤ k) (some ad) n c (madeF f) ∧ n ≤ 12 ∧ Below w.heap.size w w' := by
  have hb1 := h.big
  have hcap := h.cap
  have H1 := Lib.hid h
  have HL := Lib.hid h.len
  clear h
  go_enter Try.func30, Try.ntmps30
  go_wp2
  have HS := Lib.hid (show MfRel w (w.alloc (.cells #[] 32)) f 0 (some ⟨w.heap.size, 0, none⟩) 0 from ⟨(Below.refl _ _).alloc (Nat.le_refl _) _, [], Own.lit 32 #[] 0 (Nat.le_refl _) (by omega) rfl, All1.nil_ _ _⟩)
  go_loopw [3, 4] (fun s3 s4 wr => ∃ (k c0 : Nat) (ad0 : Addr), k ≤ n ∧ k ≤ 12 ∧ s4 = .int .i64 k ∧ s3 = .slice (some ad0) k c0 ∧ MfRel w wr f k (some ad0) c0) (fun _ s4 _ => 12 - (intOf s4).toNat)
  case atStart => exact ⟨0, 0, _, Nat.zero_le _, by omega, rfl, rfl, HS.out⟩
  case round =>
    clear HS
    obtain ⟨k, c0, ad0, hk, hk4, rfl, rfl, hq⟩ := hrel
    obtain ⟨wo, rfl⟩ : ∃ wo : World, wo = wr := ⟨_, rfl⟩
    have HQ := Lib.hid hq
    obtain ⟨us, kn1, kn2⟩ := hq.ex
    have HK1 := Lib.hid kn1
    have HKa := Lib.hid kn2
    have hkc := kn1.cap
    clear hq kn1 kn2
    by_cases hlt : k < n
    · by_cases hlt4 : k < 12
      · obtain ⟨ad, x, xA, xn, xc, rfl, _, hx, hcx, hx1⟩ := (H1.out.below HQ.out.below).at_ hlt
        have HX := Lib.hid hx
        have HM := Lib.hid (madeC_c _ xA xn xc x wo hx1)
        have d1 : decide (k < 12) = true := by simp; omega
        clear hx hx1
        go_wp2_with (first | (go_at_call 33; refine HM.out.mono ?_; rintro e w1 ⟨cA, cn, cc, rfl, hr, hn4, hb⟩; have HB1 := Lib.hid hb; have HR1 := Lib.hid hr; clear hr hb) | (at_builtin; refine wpList_push rfl (.tmp 16) (.tmp 22) 22 rfl app22 w.heap.size (some ad0) k c0 us rfl ((HK1.out.below HB1.out).alloc _) w1.heap.size (.slice cA cn cc) rfl ((Blk.new w1 32 _).cell 0) rfl (by omega) (by omega) (by have := HQ.out.below.size; have := HB1.out.size; simp; omega) ?_; intro A1 c1 w7 hown hgr hob; have HO := Lib.hid hown; have HG := Lib.hid hgr; have HN := Lib.hid hob; clear hown hgr hob))
        obtain ⟨ad1, rfl⟩ := HO.out.some_
        go_roundw
        case rel =>
          refine ⟨k + 1, c1, ad1, by omega, by omega, by go_num, rfl, ((HQ.out.below.trans (HB1.out.mono HQ.out.below.size)).alloc (by have := HQ.out.below.size; have := HB1.out.size; omega) _).grown HG.out (by have := HQ.out.below.size; have := HB1.out.size; simp; omega) (fun g hg => (HK1.out.lt g hg).1), _, HO.out, ?_⟩
          rw [take_snoc_of HX.out, List.map_append]
          have hsz : wo.heap.size ≤ w1.heap.size := HB1.out.size
          have hsz0 : w.heap.size ≤ wo.heap.size := HQ.out.below.size
          have hold : ∀ q, q < w1.heap.size → obl (some ad0) ≠ some q → w7.heap[q]? = w1.heap[q]? := fun q hq hne => by
            rw [HG.out.block q (by simp; omega) (fun e => hne e.symm), Below.heap_alloc _ _ _ hq]
          have hnew : ∀ q, q < w1.heap.size → obl (some ad0) ≠ some q → obl (some ad1) ≠ some q := fun q hq hne e => by
            rcases HN.out with e' | e'
            · exact hne (by rw [← e']; exact e)
            · rw [e'] at e; cases e; simp at hq; omega
          have a1 : All1 w1 (fun q => w.heap.size ≤ q ∧ obl (some ad0) ≠ some q) us ((f.take k).map madeC) := HKa.out.old (Old.of_below HB1.out)
          have a2 : All1 w1 (fun q => (w.heap.size ≤ q ∧ obl (some ad0) ≠ some q) ∧ obl (some ad1) ≠ some q) us ((f.take k).map madeC) := a1.weak fun q hq h => ⟨h, hnew q hq h.2⟩
          have a3 : All1 w7 (fun q => w.heap.size ≤ q ∧ obl (some ad1) ≠ some q) us ((f.take k).map madeC) := (a2.old (w' := w7) fun q h hq => hold q hq h.1.2).weak fun q _ h => ⟨h.1.1, h.2⟩
          have b1 : R1 w1 (fun q => (wo.heap.size ≤ q ∧ obl (some ad0) ≠ some q) ∧ obl (some ad1) ≠ some q) cA cn cc (madeC x) := HR1.out.weak fun q hq h => by
            have hne : obl (some ad0) ≠ some q := fun e => by have := (HK1.out.lt q e).2; omega
            exact ⟨⟨h, hne⟩, hnew q hq hne⟩
          have b2 : R1 w7 (fun q => w.heap.size ≤ q ∧ obl (some ad1) ≠ some q) cA cn cc (madeC x) := (b1.old (w' := w7) fun q h hq => hold q hq h.1.2).weak fun q _ h => ⟨by omega, h.2⟩
          exact a3.snoc ⟨cA, cn, cc, rfl, b2⟩
        case measure => simp [intOf]; omega
      · obtain rfl : k = 12 := by omega
        go_wp2
        go_ret
        have ha := HKa.out
        rw [madeF_take HL.out (by omega)] at ha
        exact ⟨ad0, 12, c0, rfl, HK1.out.r2 (fun g hg => (HK1.out.lt g hg).1) (by omega) (ha.weak fun _ _ h => h.1), by omega, HQ.out.below⟩
    · obtain rfl : k = n := by omega
      go_wp2
      go_ret
      have ha := HKa.out
      rw [madeF_take HL.out (by omega)] at ha
      exact ⟨ad0, k, c0, rfl, HK1.out.r2 (fun g hg => (HK1.out.lt g hg).1) (by omega) (ha.weak fun _ _ h => h.1), by omega, HQ.out.below⟩

end Go.Proofs.Ytekbkdbmkjdgbaa
