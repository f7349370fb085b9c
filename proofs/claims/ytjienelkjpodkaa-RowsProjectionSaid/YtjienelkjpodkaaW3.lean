/- Walks: Same, Less, gcd. -/
import Derived.Test.YtjienelkjpodkaaW2
namespace Go.Proofs.Ytjienelkjpodkaa
open Go.RowKit

structure SmRel {α : Type} (w wr : World) (l l' : List α) (k : Nat) : Prop where
  below : Below w.heap.size w wr
  same : l.take k = l'.take k

set_option maxHeartbeats 1000000 in
/-- 'Same'. -/
theorem same_c (K K' : Nat → Prop) (A A' : Option Addr) (n c n' c' : Nat) (l l' : List Int) (w : World) (h : R1 w K A n c l) (h' : R1 w K' A' n' c' l') :
    Calls Try.prog 17 #[.slice A n c, .slice A' n' c'] w (Gives w (.bool (decide (l = l')))) := by
  have hl := h.len
  have hl' := h'.len
  have hb1 := h.big
  have hcap := h.cap
  have hcap' := h'.cap
  have H1 := Lib.hid h
  have H2 := Lib.hid h'
  by_cases hn : n = n'
  · subst hn
    have HL := Lib.hid (And.intro hl hl')
    clear h h' hl hl'
    go_enter Try.func17, Try.ntmps17
    go_wp2
    go_loopw [5] (fun s5 wr => ∃ k : Nat, k ≤ n ∧ s5 = .int .i64 k ∧ SmRel w wr l l' k) (fun s5 _ => n - (intOf s5).toNat)
    case atStart => exact ⟨0, Nat.zero_le _, rfl, Below.refl _ _, rfl⟩
    case round =>
      obtain ⟨k, hk, rfl, hq⟩ := hrel
      obtain ⟨wo, rfl⟩ : ∃ wo : World, wo = wr := ⟨_, rfl⟩
      have HQ := Lib.hid hq
      clear hq
      by_cases hlt : k < n
      · obtain ⟨ad, x, rfl, _, hx, hwx, hcx⟩ := (H1.out.below HQ.out.below).at_ hlt
        obtain ⟨ad2, y, rfl, _, hy, hwy, hcy⟩ := (H2.out.below HQ.out.below).at_ hlt
        have HX := Lib.hid hx
        have HY := Lib.hid hy
        clear hx hy hwx hwy
        by_cases hxy : x = y
        · subst hxy
          go_wp2
          go_quiet (fail)
          go_wp2
          go_roundw
          case rel => exact ⟨k + 1, by omega, by go_num, below_drew HQ.out.below _, by rw [take_snoc_of HX.out, take_snoc_of HY.out, HQ.out.same]⟩
          case measure => simp [intOf]; omega
        · have b1 : (x != y) = true := by simp [hxy]
          have b2 : (x == y) = false := by simp [hxy]
          have HN := Lib.hid (show ¬ l = l' from fun e => hxy (by have h1 := HX.out; rw [e, HY.out] at h1; cases h1; rfl))
          clear hxy
          go_wp2
          go_quiet (fail)
          go_wp2
          go_ret
          exact ⟨ret_bool (decide_eq_false HN.out).symm, below_drew HQ.out.below _⟩
      · obtain rfl : k = n := by omega
        go_wp2
        go_ret
        have hs := HQ.out.same
        rw [List.take_of_length_le (by have := HL.out.1; omega), List.take_of_length_le (by have := HL.out.2; omega)] at hs
        exact ⟨ret_bool (decide_eq_true hs).symm, HQ.out.below⟩
  · have b1 : ((n : Int) != (n' : Int)) = true := by simp; omega
    have b2 : ((n : Int) == (n' : Int)) = false := by simp; omega
    have b3 : (n == n') = false := by simp [hn]
    have HN := Lib.hid (show ¬ l = l' from fun e => hn (by rw [← hl, ← hl', e]))
    clear h h' hl hl' hn
    go_enter Try.func17, Try.ntmps17
    go_wp2
    go_ret
    exact ⟨ret_bool (decide_eq_false HN.out).symm, Below.refl _ _⟩


structure LsRel (w wr : World) (l l' : List Int) (r : Bool) (k : Nat) : Prop where
  below : Below w.heap.size w wr
  rest : lessF (l.drop k) (l'.drop k) = r

set_option maxHeartbeats 1000000 in
/-- 'Less', of two points of one length. -/
theorem less_c (K K' : Nat → Prop) (A A' : Option Addr) (n c c' : Nat) (l l' : List Int) (w : World) (h : R1 w K A n c l) (h' : R1 w K' A' n c' l') :
    Calls Try.prog 15 #[.slice A n c, .slice A' n c'] w (Gives w (.bool (lessF l l'))) := by
  have hb1 := h.big
  have hcap := h.cap
  have hcap' := h'.cap
  have H1 := Lib.hid h
  have H2 := Lib.hid h'
  have HL := Lib.hid (And.intro h.len h'.len)
  generalize hr : lessF l l' = r
  have HR := Lib.hid hr
  clear h h' hr
  go_enter Try.func15, Try.ntmps15
  go_wp2
  go_loopw [5] (fun s5 wr => ∃ k : Nat, k ≤ n ∧ s5 = .int .i64 k ∧ LsRel w wr l l' r k) (fun s5 _ => n - (intOf s5).toNat)
  case atStart => exact ⟨0, Nat.zero_le _, rfl, Below.refl _ _, HR.out⟩
  case round =>
    obtain ⟨k, hk, rfl, hq⟩ := hrel
    obtain ⟨wo, rfl⟩ : ∃ wo : World, wo = wr := ⟨_, rfl⟩
    have HQ := Lib.hid hq
    clear hq
    by_cases hlt : k < n
    · obtain ⟨ad, x, rfl, _, hx, hwx, hcx⟩ := (H1.out.below HQ.out.below).at_ hlt
      obtain ⟨ad2, y, rfl, _, hy, hwy, hcy⟩ := (H2.out.below HQ.out.below).at_ hlt
      have HX := Lib.hid hx
      have HY := Lib.hid hy
      clear hx hy hwx hwy
      by_cases hxy : x = y
      · subst hxy
        go_wp2
        go_quiet (fail)
        go_wp2
        go_roundw
        case rel =>
          refine ⟨k + 1, by omega, by go_num, below_drew HQ.out.below _, ?_⟩
          have hr := HQ.out.rest
          rw [drop_cons_of HX.out, drop_cons_of HY.out, lessF, if_neg (by simp)] at hr
          exact hr
        case measure => simp [intOf]; omega
      · have b1 : (x != y) = true := by simp [hxy]
        have b2 : (x == y) = false := by simp [hxy]
        have HN := Lib.hid (show r = decide (x < y) by
          have hr := HQ.out.rest
          rw [drop_cons_of HX.out, drop_cons_of HY.out, lessF, if_pos b1] at hr
          exact hr.symm)
        clear hxy
        go_wp2
        go_quiet (fail)
        go_wp2
        go_quiet (fail)
        go_wp2
        go_ret
        exact ⟨ret_bool HN.out.symm, below_drew (below_drew HQ.out.below _) _⟩
    · obtain rfl : k = n := by omega
      go_wp2
      go_ret
      have hr := HQ.out.rest
      rw [List.drop_eq_nil_of_le (by have := HL.out.1; omega), lessF] at hr
      exact ⟨ret_bool hr, HQ.out.below⟩

/-! ### gcd -/
theorem gcdStep_fuel : ∀ {k k' : Nat} {g n : Int}, n.natAbs < k → n.natAbs < k' → gcdStep k g n = gcdStep k' g n
  | 0, _, _, _, h, _ => by omega
  | _, 0, _, _, _, h => by omega
  | k + 1, k' + 1, g, n, h, h' => by
    rw [gcdStep, gcdStep]
    by_cases hn : n = 0
    · rw [if_pos hn, if_pos hn]
    · rw [if_neg hn, if_neg hn]
      have : (g.tmod n).natAbs < n.natAbs := by
        rw [Int.natAbs_tmod]
        exact Nat.mod_lt _ (by omega)
      exact gcdStep_fuel (by omega) (by omega)

structure GcRel (l : List Int) (k : Nat) (g n : Int) (R : Int) : Prop where
  rest : gcdFrom (l.drop (k + 1)) (gcdStep (n.natAbs + 1) g n) = R
  bg : -1000000 ≤ g ∧ g ≤ 1000000
  bn : -1000000 ≤ n ∧ n ≤ 1000000

theorem gc_next {l : List Int} {k : Nat} {g m R : Int} (h : GcRel l k g m R) (hm : m ≠ 0) : GcRel l k m (g.tmod m) R := by
  have hlt : (g.tmod m).natAbs < m.natAbs := by
    rw [Int.natAbs_tmod]
    exact Nat.mod_lt _ (by omega)
  refine ⟨?_, h.bn, by have := h.bn; omega⟩
  have hr := h.rest
  rw [gcdStep, if_neg hm] at hr
  rw [← hr]
  rw [gcdStep_fuel (k := (g.tmod m).natAbs + 1) (k' := m.natAbs) (by omega) hlt]
theorem gc_done {l : List Int} {k : Nat} {g R : Int} (h : GcRel l k g 0 R) : gcdFrom (l.drop (k + 1)) g = R := by
  have hr := h.rest
  rw [gcdStep, if_pos rfl] at hr
  exact hr
theorem gc_start {l : List Int} {k : Nat} {g x R : Int} (hx : l[k]? = some x) (hr : gcdFrom (l.drop k) g = R) (hg : -1000000 ≤ g ∧ g ≤ 1000000) (hb : -1000000 ≤ x ∧ x ≤ 1000000) : GcRel l k g x R := by
  refine ⟨?_, hg, hb⟩
  rw [drop_cons_of hx, gcdFrom] at hr
  exact hr

set_option maxHeartbeats 1000000 in
/-- 'gcd'. -/
theorem gcd_c (K : Nat → Prop) (A : Option Addr) (n c : Nat) (l : List Int) (w : World) (h : R1 w K A n c l) (hl : eachB l (-1000000) 1000000 = true) :
    Calls Try.prog 33 #[.slice A n c] w (Gives w (.int .i64 (gcdF l))) := by
  have hbig := h.big
  have hcap := h.cap
  have H1 := Lib.hid h
  have HLn := Lib.hid h.len
  have HB := Lib.hid hl
  have HD := Lib.hid (show gcdF l = max (gcdFrom l 0) (-gcdFrom l 0) from rfl)
  generalize hR : gcdFrom l 0 = R at *
  have HR := Lib.hid hR
  generalize gcdF l = r at *
  clear h hl hR
  go_enter Try.func33, Try.ntmps33
  go_wp2
  go_loopw [3, 8] (fun s3 s8 wr => ∃ (k : Nat) (g : Int), k ≤ n ∧ s8 = .int .i64 k ∧ s3 = .int .i64 g ∧ (-1000000 ≤ g ∧ g ≤ 1000000) ∧ Hid (gcdFrom (l.drop k) g = R) ∧ Below w.heap.size w wr) (fun _ s8 _ => n - (intOf s8).toNat)
  case atStart => exact ⟨0, 0, Nat.zero_le _, rfl, rfl, by omega, HR, Below.refl _ _⟩
  case round =>
    obtain ⟨k, g, hk, rfl, rfl, hg, Hr, hq⟩ := hrel
    obtain ⟨wo, rfl⟩ : ∃ wo : World, wo = wr := ⟨_, rfl⟩
    have HQ := Lib.hid hq
    clear hq
    by_cases hlt : k < n
    · obtain ⟨ad, x, rfl, _, hx, _, hcx⟩ := (H1.out.below HQ.out).at_ hlt
      have hxb := bet_iff.1 (all_mem HB.out hx)
      have HG := Lib.hid (gc_start hx Hr.out hg hxb)
      clear hx hg hxb
      go_wp2
      go_loopw [3, 5] (fun s3 s5 w2 => ∃ (g m : Int), s3 = .int .i64 g ∧ s5 = .int .i64 m ∧ Hid (GcRel l k g m R) ∧ Below wo.heap.size wo w2) (fun _ s5 _ => (intOf s5).natAbs)
      case atStart => exact ⟨g, x, rfl, rfl, HG, Below.refl _ _⟩
      case round =>
        clear HG
        obtain ⟨g, m, rfl, rfl, HG, hq⟩ := hrel
        have HQ2 := Lib.hid hq
        clear hq
        by_cases hm : m = 0
        · subst hm
          have hgb := HG.out.bg
          go_wp2
          go_roundw
          case rel => exact ⟨k + 1, g, by omega, by go_num, rfl, hgb, gc_done HG.out, HQ.out.trans (HQ2.out.mono HQ.out.size)⟩
          case measure => simp [intOf]; omega
        · have b1 : (m != 0) = true := by simp [hm]
          have b2 : (m == 0) = false := by simp [hm]
          have Hm := Lib.hid hm
          have hgb := HG.out.bg
          have hnb := HG.out.bn
          have hlt2 : (g.tmod m).natAbs < m.natAbs := by
            rw [Int.natAbs_tmod]
            exact Nat.mod_lt _ (by omega)
          have Hlt := Lib.hid hlt2
          clear hlt2
          go_wp2
          go_quiet (fail)
          go_wp2
          go_roundw
          case rel => exact ⟨m, g.tmod m, rfl, by go_num, gc_next HG.out Hm.out, below_drew HQ2.out _⟩
          case measure => have := Hlt.out; simpa [intOf] using this
    · obtain rfl : k = n := by omega
      have hr := Hr.out
      rw [List.drop_eq_nil_of_le (by have := HLn.out; omega), gcdFrom] at hr
      have HD' := HD
      rw [← hr] at HD'
      clear hr
      go_wp2
      go_ret
      exact ⟨ret_int (by rw [HD'.out]), HQ.out⟩

end Go.Proofs.Ytjienelkjpodkaa
