/- Walks: greatest. -/
import Derived.Test.YtjienelkjpodkaaW7
import Derived.Test.YtjienelkjpodkaaP1
namespace Go.Proofs.Ytjienelkjpodkaa
open Go.RowKit

def bxv (b : Box) : Array Value := (b.ints.map (Value.int .i64)).toArray
theorem bxv_size {b : Box} (h : b.Wf) : (bxv b).size = 49 := by simp [bxv, Box.ints, h.lo, h.hi, h.below, h.above]
theorem getD_app_l {l r : List Int} {i : Nat} (h : i < l.length) : (l ++ r).getD i 0 = l.getD i 0 := by
  simp [List.getD_eq_getElem?_getD, List.getElem?_append_left h]
theorem getD_app_r {l r : List Int} {n i : Nat} (h : l.length = n) : (l ++ r).getD (n + i) 0 = r.getD i 0 := by
  simp [List.getD_eq_getElem?_getD, List.getElem?_append_right (show l.length ≤ n + i by omega), show n + i - l.length = i by omega]
theorem ints_eq (b : Box) : b.ints = b.lo ++ (b.hi ++ (b.below ++ (b.above ++ [b.rows]))) := by simp [Box.ints]
theorem ints_lo {b : Box} (h : b.Wf) {i : Nat} (hi : i < 12) : b.ints.getD i 0 = b.lo.getD i 0 := by
  rw [ints_eq, getD_app_l (by rw [h.lo]; exact hi)]
theorem ints_hi {b : Box} (h : b.Wf) {i : Nat} (hi : i < 12) : b.ints.getD (12 + i) 0 = b.hi.getD i 0 := by
  rw [ints_eq, getD_app_r h.lo, getD_app_l (by rw [h.hi]; exact hi)]
theorem ints_below {b : Box} (h : b.Wf) {i : Nat} (hi : i < 12) : b.ints.getD (24 + i) 0 = b.below.getD i 0 := by
  rw [ints_eq, show 24 + i = 12 + (12 + i) by omega, getD_app_r h.lo, getD_app_r h.hi, getD_app_l (by rw [h.below]; exact hi)]
theorem ints_above {b : Box} (h : b.Wf) {i : Nat} (hi : i < 12) : b.ints.getD (36 + i) 0 = b.above.getD i 0 := by
  rw [ints_eq, show 36 + i = 12 + (12 + (12 + i)) by omega, getD_app_r h.lo, getD_app_r h.hi, getD_app_r h.below, getD_app_l (by rw [h.above]; exact hi)]
theorem ints_rows {b : Box} (h : b.Wf) : b.ints.getD 48 0 = b.rows := by
  rw [ints_eq, show 48 = 12 + (12 + (12 + (12 + 0))) by omega, getD_app_r h.lo, getD_app_r h.hi, getD_app_r h.below, getD_app_r h.above]; rfl
theorem bxv_get {b : Box} (h : b.Wf) {i : Nat} (hi : i < 49) : (bxv b)[i]? = some (.int .i64 (b.ints.getD i 0)) := by
  have : i < b.ints.length := by simp [Box.ints, h.lo, h.hi, h.below, h.above]; omega
  simp [bxv, this]
theorem size58 : (Try.prog.info? 58).map (·.size) = some 49 := by kernel_rfl
theorem bxv_one (b : Box) : (bxv b).all (·.oneCell') = true := by
  unfold bxv
  rw [Array.all_eq_true]
  intro i hi
  simp [Value.oneCell']

structure GrRel (l : List Int) (b : Box) (T s : Int) (k : Nat) : Prop where
  rest : s + grF (l.drop k) (b.lo.drop k) (b.hi.drop k) = T
  lo : -(1000000 + k * 64000) ≤ s
  hi : s ≤ 1000000 + k * 64000
theorem drop_getD {l : List Int} {k : Nat} (h : k < l.length) : l.drop k = l.getD k 0 :: l.drop (k + 1) := by
  rw [List.drop_eq_getElem_cons h]
  simp [h]
theorem gr_step {l : List Int} {b : Box} {T s : Int} {k : Nat} {a y : Int} (hw : b.Wf) (h : GrRel l b T s k) (hk : k < 12) (ha : l[k]? = some a) (h1 : -1000 ≤ a ∧ a ≤ 1000) (hy : y = if 0 < a then b.hi.getD k 0 else b.lo.getD k 0) (h2 : 0 ≤ y ∧ y ≤ 64) : GrRel l b T (s + a * y) (k + 1) := by
  have hm := mul_bounds (p := 1000) (q := 64) h1 (show -64 ≤ y ∧ y ≤ 64 by omega) (by omega) (by omega)
  have hr := h.rest
  have hl := h.lo
  have hh := h.hi
  rw [drop_cons_of ha, drop_getD (l := b.lo) (by rw [hw.lo]; exact hk), drop_getD (l := b.hi) (by rw [hw.hi]; exact hk), grF] at hr
  refine ⟨?_, ?_, ?_⟩
  · rw [← hr, hy]
    split <;> rw [Int.add_assoc]
  · have : ((k + 1 : Nat) : Int) * 64000 = k * 64000 + 64000 := by omega
    omega
  · have : ((k + 1 : Nat) : Int) * 64000 = k * 64000 + 64000 := by omega
    omega
theorem getD_bet {l : List Int} {lo hi : Int} {k : Nat} (h : eachB l lo hi = true) (hk : k < l.length) : lo ≤ l.getD k 0 ∧ l.getD k 0 ≤ hi := by
  have : l[k]? = some (l.getD k 0) := by simp [hk]
  exact bet_iff.1 (all_mem h this)

set_option maxHeartbeats 2000000 in
/-- 'greatest'. -/
theorem greatest_c (K : Nat → Prop) (A : Option Addr) (n c : Nat) (l : List Int) (C : Int) (b : Box) (w : World) (h : R1 w K A n c l) (hn : n ≤ 12) (hl : eachB l (-1000) 1000 = true) (hC : -1000000 ≤ C ∧ C ≤ 1000000)
    (hb : b.Wf) (hlo : eachB b.lo 0 64 = true) (hhi : eachB b.hi 0 64 = true) :
    Calls Try.prog 36 #[.agg #[.slice A n c, .int .i64 C], .agg (bxv b)] w (Gives w (.int .i64 (greatestF (l, C) b))) := by
  have hcap := h.cap
  have HL := Lib.hid h.len
  have HBd := Lib.hid hl
  have hbb : Below w.heap.size w ((w.alloc (.cells #[.slice A n c, .int .i64 C] 37)).alloc (.cells (bxv b) 58)) := ((Below.refl _ _).alloc (Nat.le_refl _) _).alloc (by simp) _
  have HB := Lib.hid hbb
  have H1 := Lib.hid (h.below hbb)
  have HW := Lib.hid hb
  have HLo := Lib.hid hlo
  have HHi := Lib.hid hhi
  have hk := Blk.new (w.alloc (.cells #[.slice A n c, .int .i64 C] 37)) 58 (bxv b)
  have HK := Lib.hid (show Blk ((w.alloc (.cells #[.slice A n c, .int .i64 C] 37)).alloc (.cells (bxv b) 58)) (w.heap.size + 1) 58 (bxv b) by simpa using hk)
  have HS := Lib.hid (show GrRel l b (greatestF (l, C) b) C 0 from ⟨by simp [greatestF], by omega, by omega⟩)
  generalize greatestF (l, C) b = T at *
  clear h hl hbb hb hlo hhi hk
  go_enter Try.func36, Try.ntmps36
  go_wp2
  go_loop [5, 13] (fun s5 s13 => ∃ (k : Nat) (s : Int), k ≤ n ∧ s13 = .int .i64 k ∧ s5 = .int .i64 s ∧ Hid (GrRel l b T s k)) (fun _ s13 => n - (intOf s13).toNat)
  case atStart => exact ⟨0, C, Nat.zero_le _, rfl, rfl, HS⟩
  case round =>
    clear HS
    obtain ⟨k, s, hk, rfl, rfl, HQ⟩ := hrel
    have hlo := HQ.out.lo
    have hhi := HQ.out.hi
    by_cases hlt : k < n
    · obtain ⟨ad, a, rfl, _, ha, _, hca⟩ := H1.out.at_ hlt
      have ha2 := bet_iff.1 (all_mem HBd.out ha)
      have hk12 : k < 12 := by omega
      have l1 := getD_bet HLo.out (show k < b.lo.length by rw [HW.out.lo]; exact hk12)
      have l2 := getD_bet HHi.out (show k < b.hi.length by rw [HW.out.hi]; exact hk12)
      have hc1 := HK.out.cell (12 + k)
      rw [bxv_get HW.out (by omega), ints_hi HW.out hk12] at hc1
      have hc2 := HK.out.cell k
      rw [bxv_get HW.out (by omega), ints_lo HW.out hk12] at hc2
      by_cases h0 : 0 < a
      · have HN := Lib.hid (gr_step HW.out HQ.out hk12 ha ha2 (y := b.hi.getD k 0) (by rw [if_pos h0]) l2)
        have d1 : decide (0 < a) = true := by simpa using h0
        have hm := mul_bounds (p := 1000) (q := 64) ha2 (show -64 ≤ b.hi.getD k 0 ∧ b.hi.getD k 0 ≤ 64 by omega) (by omega) (by omega)
        generalize b.hi.getD k 0 = y at *
        obtain ⟨z, hz⟩ : ∃ z, z = a * y := ⟨_, rfl⟩
        rw [← hz] at HN hm
        have hz' := hz.symm
        clear ha ha2 hz h0
        go_wp2
        go_round
        case rel => exact ⟨k + 1, s + z, by omega, by go_num, by first | rfl | go_num, HN⟩
        case measure => simp [intOf]; omega
      · have HN := Lib.hid (gr_step HW.out HQ.out hk12 ha ha2 (y := b.lo.getD k 0) (by rw [if_neg h0]) l1)
        have d1 : decide (0 < a) = false := by simpa using h0
        have hm := mul_bounds (p := 1000) (q := 64) ha2 (show -64 ≤ b.lo.getD k 0 ∧ b.lo.getD k 0 ≤ 64 by omega) (by omega) (by omega)
        generalize b.lo.getD k 0 = y at *
        obtain ⟨z, hz⟩ : ∃ z, z = a * y := ⟨_, rfl⟩
        rw [← hz] at HN hm
        have hz' := hz.symm
        clear ha ha2 hz h0
        go_wp2
        go_round
        case rel => exact ⟨k + 1, s + z, by omega, by go_num, by first | rfl | go_num, HN⟩
        case measure => simp [intOf]; omega
    · obtain rfl : k = n := by omega
      have hr := HQ.out.rest
      rw [List.drop_eq_nil_of_le (by have := HL.out; omega)] at hr
      have HsT := Lib.hid (show s = T by simpa [grF] using hr)
      clear hr
      go_wp2
      go_ret
      exact ⟨ret_int HsT.out, HB.out⟩

end Go.Proofs.Ytjienelkjpodkaa
