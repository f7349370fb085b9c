/- Walks of the reference: Solve, left. -/
import Derived.Test.YtekbkdbmkjdgbaaW18
import Derived.Test.YtekbkdbmkjdgbaaW19
import Derived.Test.YtekbkdbmkjdgbaaW13
import Derived.Test.YtekbkdbmkjdgbaaP7
namespace Go.Proofs.Ytekbkdbmkjdgbaa
open Go.RowKit

def RSolvePost (w : World) (r : List Bool × Bool × Int) (e : Ending) (w' : World) : Prop :=
  ∃ mA mn mc pA pn pc, e = .returned (.tuple #[.slice mA mn mc, .slice pA pn pc, .bool r.2.1, .int .i64 r.2.2]) ∧ RB w' (fun _ => True) mA mn mc r.1 ∧ Below w.heap.size w w'

theorem rsolveF_none {f : List (List Int)} {m : Int} (h : validB f m = true) (hr : rleast f m.toNat = none) : rsolveF f m = ([], false, 0) := by
  rw [rsolveF, if_pos h, hr]
theorem rsolveF_some {f : List (List Int)} {m : Int} {x : List Bool} (h : validB f m = true) (hr : rleast f m.toNat = some x) : rsolveF f m = (x, true, 0) := by
  rw [rsolveF, if_pos h, hr]
theorem rsolveF_bad {f : List (List Int)} {m : Int} (h : validB f m = false) : rsolveF f m = ([], false, 1) := by
  rw [rsolveF, h]; rfl

set_option maxHeartbeats 1000000 in
/-- the reference's 'Solve'. -/
theorem rsolve_c (K : Nat → Prop) (A : Option Addr) (n c : Nat) (f : List (List Int)) (m : Int) (w : World) (h : R2 w K A n c f) (hm1 : -9223372036854775808 ≤ m) (hm2 : m ≤ 9223372036854775807) :
    Calls Try.prog 17 #[.slice A n c, .int .i64 m] w (RSolvePost w (rsolveF f m)) := by
  have HV := Lib.hid (rvalid_c K A n c f m w h hm1 hm2)
  cases hv : validB f m
  · rw [hv] at HV
    rw [rsolveF_bad hv]
    clear hv h
    go_enter Try.func17, Try.ntmps17
    go_wp2_with (go_at_call 19; refine HV.out.mono ?_; rintro e w1 ⟨rfl, rfl⟩)
    refine bodyPost_ret (results_tmp4 rfl _ _ _) rfl ?_
    exact ⟨none, 0, 0, none, 0, 0, rfl, RB.nil_ _ _, Below.refl _ _⟩
  · rw [hv] at HV
    obtain ⟨e0, h16, hw⟩ := valid_nat hv
    have HW16 := Lib.hid (valid_le hv)
    have hsm := fun x hx => rsolveF_some (x := x) hv hx
    have hno := fun hx => rsolveF_none hv hx
    have Hsm := Lib.hid hsm
    have Hno := Lib.hid hno
    have HF := Lib.hid h
    generalize m.toNat = nn at *
    subst e0
    have HM := Lib.hid (model_c K A n c nn f w h hw h16)
    clear hv h hw hsm hno
    cases hr : rleast f nn with
    | some x =>
      rw [hr] at HM
      rw [Hsm.out x hr]
      clear hr
      go_enter Try.func17, Try.ntmps17
      go_wp2_with (first | (go_at_call 19; refine HV.out.mono ?_; rintro e w1 ⟨rfl, rfl⟩) | (go_at_call 39; refine HM.out.mono ?_; rintro e w1 ⟨mA, mn, mc, rfl, hm, hb⟩; have HB := Lib.hid hb; have HMo := Lib.hid hm; clear hm hb))
      refine bodyPost_ret (results_tmp4 rfl _ _ _) rfl ?_
      exact ⟨mA, mn, mc, none, 0, 0, rfl, HMo.out, HB.out⟩
    | none =>
      rw [hr] at HM
      rw [Hno.out hr]
      clear hr
      go_enter Try.func17, Try.ntmps17
      go_wp2_with (first | (go_at_call 19; refine HV.out.mono ?_; rintro e w1 ⟨rfl, rfl⟩) | (go_at_call 39; refine HM.out.mono ?_; rintro e w1 ⟨rfl, hb⟩; have HB := Lib.hid hb; clear hb) | (go_at_call 40; refine (refute_top K (fun _ => True) A n c f nn ⟨w1.heap.size, 0, none⟩ 0 _ (HF.out.below (HB.out.alloc HB.out.size _)) HW16.out h16 ((Own.lit 3 #[] 0 (Nat.le_refl _) (by omega) rfl : Own _ w1.heap.size 3 _ 0 0 []).r1 (l := []) (fun _ _ => trivial) (by omega) (by simp))).mono ?_; rintro e w2 ⟨ad2, n2, c2, us2, rfl, _, _, _, hb⟩; have HB2 := Lib.hid ((HB.out.alloc HB.out.size _).trans (hb.mono (HB.out.alloc HB.out.size _).size)); clear hb))
      refine bodyPost_ret (results_tmp4 rfl _ _ _) rfl ?_
      exact ⟨none, 0, 0, some ad2, n2, c2, rfl, RB.nil_ _ _, HB2.out⟩

/-! ### left -/
theorem left_go {f : List (List Int)} {g : List Bool} {k : Nat} {x : List Int} (hf : f[k]? = some x) (hg : g[k]? = some false) : leftF (f.take (k + 1)) (g.take (k + 1)) = leftF (f.take k) (g.take k) ++ [x] := by
  have hkf := (List.getElem?_eq_some_iff.1 hf).1
  have hkg := (List.getElem?_eq_some_iff.1 hg).1
  rw [take_snoc_of hf, take_snoc_of hg, leftF, leftF, List.zip_append (by simp; omega), List.filter_append, List.map_append]
  simp
theorem left_skip {f : List (List Int)} {g : List Bool} {k : Nat} {x : List Int} (hf : f[k]? = some x) (hg : g[k]? = some true) : leftF (f.take (k + 1)) (g.take (k + 1)) = leftF (f.take k) (g.take k) := by
  have hkf := (List.getElem?_eq_some_iff.1 hf).1
  have hkg := (List.getElem?_eq_some_iff.1 hg).1
  rw [take_snoc_of hf, take_snoc_of hg, leftF, leftF, List.zip_append (by simp; omega), List.filter_append, List.map_append]
  simp

structure LfRel (w wr : World) (f : List (List Int)) (g : List Bool) (k : Nat) (A : Option Addr) (n c : Nat) : Prop where
  below : Below w.heap.size w wr
  ex : ∃ us, Own wr w.heap.size 32 A n c us ∧ All1 wr (fun q => q < w.heap.size) us (leftF (f.take k) (g.take k))
  len : n ≤ k

/-- It hands back a slice of slices that reads as ls. -/
def Gives2 (w : World) (ls : List (List Int)) (e : Ending) (w' : World) : Prop := ∃ A n c, e = .returned (.slice A n c) ∧ R2 w' (fun _ => True) A n c ls ∧ Below w.heap.size w w'

set_option maxHeartbeats 1000000 in
/-- 'left'. -/
theorem left_c (K K' : Nat → Prop) (A gA : Option Addr) (n c gc : Nat) (f : List (List Int)) (g : List Bool) (w : World) (h : R2 w K A n c f) (h' : RB w K' gA n gc g) (hn : n ≤ 1000000) :
    Calls Try.prog 56 #[.slice A n c, .slice gA n gc] w (Gives2 w (leftF f g)) := by
  have hcap := h.cap
  have hcap' := h'.cap
  have HL := Lib.hid (And.intro h.len h'.len)
  have hK := h.weak (K' := fun k => k < w.heap.size) fun k hk _ => hk
  have HK := Lib.hid hK
  have HG := Lib.hid h'
  clear h h' hK
  go_enter Try.func56, Try.ntmps56
  go_wp2
  have HS := Lib.hid (show LfRel w (w.alloc (.cells #[] 32)) f g 0 (some ⟨w.heap.size, 0, none⟩) 0 0 from ⟨(Below.refl _ _).alloc (Nat.le_refl _) _, ⟨[], Own.lit 32 #[] 0 (Nat.le_refl _) (by omega) rfl, by simp [leftF]; exact All1.nil_ _ _⟩, Nat.le_refl _⟩)
  go_loopw [5, 6] (fun s5 s6 wr => ∃ (k n0 c0 : Nat) (A0 : Option Addr), k ≤ n ∧ s6 = .int .i64 k ∧ s5 = .slice A0 n0 c0 ∧ LfRel w wr f g k A0 n0 c0) (fun _ s6 _ => n - (intOf s6).toNat)
  case atStart => exact ⟨0, 0, 0, _, Nat.zero_le _, rfl, rfl, HS.out⟩
  case round =>
    clear HS
    obtain ⟨k, n0, c0, A0, hk, rfl, rfl, hq⟩ := hrel
    obtain ⟨wo, rfl⟩ : ∃ wo : World, wo = wr := ⟨_, rfl⟩
    have HQ := Lib.hid hq
    have hn0 := hq.len
    clear hq
    by_cases hlt : k < n
    · obtain ⟨ad, x, xA, xn, xc, rfl, _, hx, hcell, hx1⟩ := (HK.out.below HQ.out.below).at_ hlt
      obtain ⟨ad2, b, rfl, _, hb, hcell2⟩ := (HG.out.below HQ.out.below).at_ hlt
      have HX := Lib.hid hx
      have HX1 := Lib.hid hx1
      have HBt := Lib.hid hb
      clear hx hx1 hb
      obtain ⟨us', kn1, kn2⟩ := HQ.out.ex
      have HK1 := Lib.hid kn1
      have HKa := Lib.hid kn2
      have hkcap := kn1.cap
      clear kn1 kn2
      cases b with
      | true =>
        go_wp2
        go_roundw
        case rel => exact ⟨k + 1, n0, c0, A0, by omega, by go_num, rfl, HQ.out.below, ⟨us', HK1.out, by rw [left_skip HX.out HBt.out]; exact HKa.out⟩, by omega⟩
        case measure => simp [intOf]; omega
      | false =>
        go_wp2_with (at_builtin; refine wpList_push rfl (.tmp 19) (.tmp 24) 22 rfl app22 w.heap.size A0 n0 c0 us' rfl (HK1.out.alloc _) wo.heap.size (.slice xA xn xc) rfl ((Blk.new wo 32 _).cell 0) rfl (by omega) (by omega) (by have := HQ.out.below.size; simp; omega) ?_; intro A9 c9 w9 hown hgr hob; have HO9 := Lib.hid hown; have HG9 := Lib.hid hgr; clear hown hgr hob)
        have hold : Old (fun q => q < w.heap.size) wo w9 := fun q hq hlt => by
          rw [HG9.out.block q (by simp; omega) (fun e => by have := (HK1.out.lt q e.symm).1; omega), Below.heap_alloc _ _ _ hlt]
        have HOld := Lib.hid hold
        clear hold
        go_roundw
        case rel =>
          refine ⟨k + 1, n0 + 1, c9, A9, by omega, by go_num, rfl, (HQ.out.below.alloc HQ.out.below.size _).grown HG9.out (by have := HQ.out.below.size; simp; omega) (fun g hg => (HK1.out.lt g hg).1), ⟨_, HO9.out, ?_⟩, by omega⟩
          rw [left_go HX.out HBt.out]
          exact (HKa.out.old HOld.out).snoc ((show In1 wo (fun q => q < w.heap.size) (.slice xA xn xc) x from ⟨xA, xn, xc, rfl, HX1.out⟩).old HOld.out)
        case measure => simp [intOf]; omega
    · obtain rfl : k = n := by omega
      go_wp2
      go_ret
      obtain ⟨us', kn1, kn2⟩ := HQ.out.ex
      rw [List.take_of_length_le (by have := HL.out.1; omega), List.take_of_length_le (by have := HL.out.2; omega)] at kn2
      exact ⟨A0, n0, c0, rfl, kn1.r2 (fun _ _ => trivial) (by omega) (kn2.weak fun _ _ _ => trivial), HQ.out.below⟩

end Go.Proofs.Ytekbkdbmkjdgbaa
