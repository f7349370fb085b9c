/- Walks: Valid. -/
import Derived.Test.YtjienelkjpodkaaW6
namespace Go.Proofs.Ytjienelkjpodkaa
open Go.RowKit

theorem all_snoc {α : Type} {l : List α} {p : α → Bool} {k : Nat} {x : α} (hx : l[k]? = some x) : (l.take (k + 1)).all p = ((l.take k).all p && p x) := by
  rw [take_snoc_of hx, List.all_append]; simp
theorem all_false_of {α : Type} {l : List α} {p : α → Bool} {k : Nat} {x : α} (hx : l[k]? = some x) (h : p x = false) : l.all p = false := by
  cases hq : l.all p
  · rfl
  · have := List.all_eq_true.1 hq x (List.mem_of_getElem? hx)
    rw [h] at this; cases this

structure VaRel (w wr : World) (rs : List Row) (n k : Nat) : Prop where
  below : Below w.heap.size w wr
  ok : (rs.take k).all (rowOk n) = true

set_option maxHeartbeats 2000000 in
/-- 'Valid'. -/
theorem valid_c (K K' : Nat → Prop) (A B : Option Addr) (n c m d : Nat) (top : List Int) (rs : List Row) (w : World) (h : R1 w K A n c top) (h' : RR w K' B m d rs) :
    Calls Try.prog 11 #[.agg #[.slice A n c, .slice B m d]] w (Gives w (.bool (validS (top, rs)))) := by
  have hb1 := h.big
  have hb2 := h'.big
  have hc1 := h.cap
  have hc2 := h'.cap
  have HL := Lib.hid (And.intro h.len h'.len)
  have hb : Below w.heap.size w (w.alloc (.cells #[.slice A n c, .slice B m d] 25)) := (Below.refl _ _).alloc (Nat.le_refl _) _
  have HB := Lib.hid hb
  have H1 := Lib.hid h
  have H2 := Lib.hid h'
  have HD := Lib.hid (show validS (top, rs) = (decide (1 ≤ top.length) && (decide (top.length ≤ 12) && (decide (rs.length ≤ 24) && (eachB top 0 64 && rs.all (rowOk top.length))))) from rfl)
  generalize validS (top, rs) = R at *
  rw [h.len, h'.len] at HD
  clear h h' hb
  by_cases h1 : n < 1
  · have d1 : decide (n < 1) = true := by simp; omega
    have d2 : decide ((n : Int) < 1) = true := by simp; omega
    go_enter Try.func11, Try.ntmps11
    go_wp2
    go_ret
    exact ⟨ret_bool (by rw [HD.out, decide_eq_false (by omega : ¬ 1 ≤ n)]; rfl), HB.out⟩
  · have d1 : decide (n < 1) = false := decide_eq_false (by omega)
    have d2 : decide ((n : Int) < 1) = false := decide_eq_false (by omega)
    by_cases h12 : 12 < n
    · have d3 : decide (12 < n) = true := decide_eq_true (by omega)
      have d4 : decide (12 < (n : Int)) = true := decide_eq_true (by omega)
      go_enter Try.func11, Try.ntmps11
      go_wp2
      go_ret
      exact ⟨ret_bool (by rw [HD.out, decide_eq_false (by omega : ¬ n ≤ 12)]; simp), HB.out⟩
    · have d3 : decide (12 < n) = false := decide_eq_false (by omega)
      have d4 : decide (12 < (n : Int)) = false := decide_eq_false (by omega)
      by_cases h24 : 24 < m
      · have d5 : decide (24 < m) = true := decide_eq_true (by omega)
        have d6 : decide (24 < (m : Int)) = true := decide_eq_true (by omega)
        go_enter Try.func11, Try.ntmps11
        go_wp2
        go_ret
        exact ⟨ret_bool (by rw [HD.out, decide_eq_false (by omega : ¬ m ≤ 24)]; simp), HB.out⟩
      · have d5 : decide (24 < m) = false := decide_eq_false (by omega)
        have d6 : decide (24 < (m : Int)) = false := decide_eq_false (by omega)
        have HE := Lib.hid fun W (hb : Below w.heap.size w W) => each_c K A n c top 0 64 W (H1.out.below hb)
        have HD2 := Lib.hid (show R = (eachB top 0 64 && rs.all (rowOk n)) by
          rw [HD.out, decide_eq_true (by omega : 1 ≤ n), decide_eq_true (by omega : n ≤ 12), decide_eq_true (by omega : m ≤ 24)]; rfl)
        cases e1 : eachB top 0 64
        · rw [e1] at HE HD2
          clear e1
          go_enter Try.func11, Try.ntmps11
          go_wp2_with (go_at_call 25; refine (HE.out _ HB.out).mono ?_; rintro e w2 ⟨rfl, hb⟩; have HB2 := Lib.hid (HB.out.trans (hb.mono HB.out.size)); clear hb)
          go_ret
          exact ⟨ret_bool (by rw [HD2.out]; rfl), HB2.out⟩
        · rw [e1] at HE HD2
          clear e1
          have HT := Lib.hid (show R = rs.all (rowOk n) by rw [HD2.out]; rfl)
          go_enter Try.func11, Try.ntmps11
          go_wp2_with (go_at_call 25; refine (HE.out _ HB.out).mono ?_; rintro e w2 ⟨rfl, hb⟩; have HB2 := Lib.hid (HB.out.trans (hb.mono HB.out.size)); have hk := (Blk.new w 25 #[.slice A n c, .slice B m d]).old hb; have hcA := hk.cell 0; have hcB := hk.cell 1; clear hb hk)
          have HS := Lib.hid (show VaRel w w2 rs n 0 from ⟨HB2.out, rfl⟩)
          clear hcA hcB
          go_loopw [30] (fun s30 wr => ∃ k : Nat, k ≤ m ∧ s30 = .int .i64 k ∧ VaRel w wr rs n k) (fun s30 _ => m - (intOf s30).toNat)
          case atStart => exact ⟨0, Nat.zero_le _, rfl, HS.out⟩
          case round =>
            clear HS
            obtain ⟨k, hk, rfl, hq⟩ := hrel
            obtain ⟨wo, rfl⟩ : ∃ wo : World, wo = wr := ⟨_, rfl⟩
            have HQ := Lib.hid hq
            clear hq
            by_cases hlt : k < m
            · obtain ⟨ad, r, rA, rn, rc, rfl, _, hr, hcu, hcv, hr1, hrC⟩ := (H2.out.below HQ.out.below).at_ hlt
              have HCu := Lib.hid hcu
              have HCv := Lib.hid (show wo.cell? ((ad.add (k * 2)).add 1) = some (.int .i64 r.2) by rw [add_of_add]; exact hcv)
              have HR := Lib.hid hr
              have hb' : Below wo.heap.size wo (wo.alloc (.cells #[.slice rA rn rc, .int .i64 r.2] 37)) := (Below.refl _ _).alloc (Nat.le_refl _) _
              have HB' := Lib.hid hb'
              have Hr1 := Lib.hid hr1
              have HEr := Lib.hid fun W (hb : Below wo.heap.size wo W) => each_c _ rA rn rc r.1 (-1000) 1000 W (Hr1.out.below hb)
              have HBt := Lib.hid fun W => between_c r.2 (-1000) 1000 W
              have hrl := hr1.len
              have hrcap := hr1.cap
              have hrb := hr1.big
              have HDr := Lib.hid (show rowOk n r = ((r.1.length == n) && (eachB r.1 (-1000) 1000 && bet r.2 (-1000) 1000)) from rfl)
              rw [hrl] at HDr
              have hcC := (Blk.new wo 37 #[.slice rA rn rc, .int .i64 r.2])
              have HcC := Lib.hid hcC
              clear hcu hcv hr hb' hr1 hrl hcC
              by_cases hrn : rn = n
              · have b1 : ((rn : Int) != (n : Int)) = false := by simp [hrn]
                have b2 : ((rn : Int) == (n : Int)) = true := by simp [hrn]
                have b3 : (rn == n) = true := by simp [hrn]
                have HDr2 := Lib.hid (show rowOk n r = (eachB r.1 (-1000) 1000 && bet r.2 (-1000) 1000) by rw [HDr.out, b3]; rfl)
                clear hrn
                cases e2 : eachB r.1 (-1000) 1000
                · rw [e2] at HEr HDr2
                  clear e2
                  go_wp2_with (first | (refine wpList_load_two rfl 37 (.tmp 32) rfl (ad.add (k * 2)) rfl _ _ HCu.out HCv.out Try.underlying37 size37 ?_) | (go_at_call 25; refine (HEr.out _ HB'.out).mono ?_; rintro e w3 ⟨rfl, hb⟩; have HB3 := Lib.hid (HB'.out.trans (hb.mono HB'.out.size)); clear hb))
                  go_ret
                  exact ⟨ret_bool (by rw [HT.out]; exact (all_false_of HR.out (by rw [HDr2.out]; rfl)).symm), HQ.out.below.trans (HB3.out.mono HQ.out.below.size)⟩
                · rw [e2] at HEr HDr2
                  clear e2
                  cases e3 : bet r.2 (-1000) 1000
                  · rw [e3] at HBt HDr2
                    clear e3
                    go_wp2_with (first | (refine wpList_load_two rfl 37 (.tmp 32) rfl (ad.add (k * 2)) rfl _ _ HCu.out HCv.out Try.underlying37 size37 ?_) | (go_at_call 25; refine (HEr.out _ HB'.out).mono ?_; rintro e w3 ⟨rfl, hb⟩; have HB3 := Lib.hid (HB'.out.trans (hb.mono HB'.out.size)); have hdA := (HcC.out.old hb).cell 0; have hdC := (HcC.out.old hb).cell 1; clear hb) | (go_at_call 26; refine (HBt.out _).mono ?_; rintro e wq ⟨rfl, rfl⟩))
                    go_ret
                    exact ⟨ret_bool (by rw [HT.out]; exact (all_false_of HR.out (by rw [HDr2.out]; rfl)).symm), HQ.out.below.trans (HB3.out.mono HQ.out.below.size)⟩
                  · rw [e3] at HBt HDr2
                    clear e3
                    go_wp2_with (first | (refine wpList_load_two rfl 37 (.tmp 32) rfl (ad.add (k * 2)) rfl _ _ HCu.out HCv.out Try.underlying37 size37 ?_) | (go_at_call 25; refine (HEr.out _ HB'.out).mono ?_; rintro e w3 ⟨rfl, hb⟩; have HB3 := Lib.hid (HB'.out.trans (hb.mono HB'.out.size)); have hdA := (HcC.out.old hb).cell 0; have hdC := (HcC.out.old hb).cell 1; clear hb) | (go_at_call 26; refine (HBt.out _).mono ?_; rintro e wq ⟨rfl, rfl⟩))
                    go_roundw
                    case rel => exact ⟨k + 1, by omega, by go_num, HQ.out.below.trans (HB3.out.mono HQ.out.below.size), by rw [all_snoc HR.out, HQ.out.ok, HDr2.out]; rfl⟩
                    case measure => simp [intOf]; omega
              · have b1 : ((rn : Int) != (n : Int)) = true := by simp; omega
                have b2 : ((rn : Int) == (n : Int)) = false := by simp; omega
                have b3 : (rn == n) = false := by simp [hrn]
                clear hrn
                go_wp2_with (refine wpList_load_two rfl 37 (.tmp 32) rfl (ad.add (k * 2)) rfl _ _ HCu.out HCv.out Try.underlying37 size37 ?_)
                go_ret
                exact ⟨ret_bool (by rw [HT.out]; exact (all_false_of HR.out (by rw [HDr.out, b3]; rfl)).symm), HQ.out.below.trans (HB'.out.mono HQ.out.below.size)⟩
            · obtain rfl : k = m := by omega
              go_wp2
              go_ret
              have hok := HQ.out.ok
              rw [List.take_of_length_le (by have := HL.out.2; omega)] at hok
              exact ⟨ret_bool (by rw [HT.out, hok]), HQ.out.below⟩

end Go.Proofs.Ytjienelkjpodkaa
