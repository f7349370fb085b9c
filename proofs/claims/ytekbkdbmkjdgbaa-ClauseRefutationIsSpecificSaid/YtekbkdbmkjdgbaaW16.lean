/- Walks of the reference: sorted, Propagate. -/
import Derived.Test.YtekbkdbmkjdgbaaW15
import Derived.Test.YtekbkdbmkjdgbaaW6
namespace Go.Proofs.Ytekbkdbmkjdgbaa
open Go.RowKit

structure SoRel (w wr : World) (s out R : List Int) (k : Nat) (A : Option Addr) (n c : Nat) : Prop where
  below : Below w.heap.size w wr
  own : Own wr w.heap.size 3 A n c (out.map (Value.int .i64))
  small : n ≤ 2 * k
  wf : ∀ x ∈ out, I64 x
  rest : sortedF s (17 - k) out = R

def sortedStep (s : List Int) (v : Int) (out : List Int) : List Int :=
  if hasB s (-v) then (if hasB s v then out ++ [v] else out) ++ [-v] else if hasB s v then out ++ [v] else out

theorem sorted_next {s out R : List Int} {k : Nat} (h1 : 1 ≤ k) (h16 : k ≤ 16) (h : sortedF s (17 - k) out = R) : sortedF s (17 - (k + 1)) (sortedStep s k out) = R := by
  have e : 17 - k = (16 - k) + 1 := by omega
  have e2 : 17 - (k + 1) = 16 - k := by omega
  rw [e, sortedF] at h
  have e3 : ((16 - (16 - k) : Nat) : Int) = k := by omega
  rw [e3] at h
  rw [e2, sortedStep, ← h]

theorem i64_small {v : Int} (h1 : -16 ≤ v) (h2 : v ≤ 16) : I64 v := by unfold I64; omega
theorem wf_snoc {out : List Int} {v : Int} (h : ∀ x ∈ out, I64 x) (hv : I64 v) : ∀ x ∈ out ++ [v], I64 x := fun x hx => by
  rcases List.mem_append.1 hx with h1 | h1
  · exact h x h1
  · simp only [List.mem_singleton] at h1; rw [h1]; exact hv

def Gives1 (w : World) (l : List Int) (e : Ending) (w' : World) : Prop := ∃ A n c, e = .returned (.slice A n c) ∧ R1 w' (fun _ => True) A n c l ∧ Below w.heap.size w w'

set_option maxHeartbeats 1000000 in
/-- 'sorted'. -/
theorem sorted_c (K : Nat → Prop) (A : Option Addr) (n c : Nat) (s : List Int) (w : World) (h : R1 w K A n c s) :
    Calls Try.prog 52 #[.slice A n c] w (Gives1 w (sortedF s 16 [])) := by
  have HH := Lib.hid fun W (hb : Below w.heap.size w W) y => has_c K A n c s y W (h.below hb)
  generalize hR : sortedF s 16 [] = R
  have HR := Lib.hid hR
  have hcap := h.cap
  have hbig := h.big
  clear hR h
  go_enter Try.func52, Try.ntmps52
  go_wp2
  have HS := Lib.hid (show SoRel w (w.alloc (.cells #[] 3)) s [] R 1 (some ⟨w.heap.size, 0, none⟩) 0 0 from ⟨(Below.refl _ _).alloc (Nat.le_refl _) _, Own.lit 3 #[] 0 (Nat.le_refl _) (by omega) rfl, by omega, by simp, HR.out⟩)
  go_loopw [3, 4] (fun s3 s4 wr => ∃ (k n0 c0 : Nat) (A0 : Option Addr) (out : List Int), 1 ≤ k ∧ k ≤ 17 ∧ s4 = .int .i64 k ∧ s3 = .slice A0 n0 c0 ∧ SoRel w wr s out R k A0 n0 c0) (fun _ s4 _ => 17 - (intOf s4).toNat)
  case atStart => exact ⟨1, 0, 0, _, [], by omega, by omega, rfl, rfl, HS.out⟩
  case round =>
    clear HS HR
    obtain ⟨k, n0, c0, A0, out, hk1, hk, rfl, rfl, hq⟩ := hrel
    obtain ⟨wo, rfl⟩ : ∃ wo : World, wo = wr := ⟨_, rfl⟩
    have HQ := Lib.hid hq
    have hn0 := hq.small
    have hn0c := hq.own.cap
    clear hq
    by_cases hlt : k ≤ 16
    · have HN := Lib.hid (sorted_next hk1 hlt HQ.out.rest)
      cases hp : hasB s (k : Int)
      · cases hn : hasB s (-(k : Int))
        · have HT := Lib.hid (And.intro hp hn)
          go_wp2_with (go_at_call 59; refine (HH.out _ HQ.out.below _).mono ?_; rintro e w' ⟨rfl, rfl⟩)
          go_roundw
          case rel => exact ⟨k + 1, n0, c0, A0, out, by omega, by omega, by go_num, rfl, HQ.out.below, HQ.out.own, by omega, HQ.out.wf, by have := HN.out; rw [sortedStep, HT.out.1, HT.out.2] at this; exact this⟩
          case measure => simp [intOf]; omega
        · have HT := Lib.hid (And.intro hp hn)
          go_wp2_with (first | (go_at_call 59; refine (HH.out _ HQ.out.below _).mono ?_; rintro e w' ⟨rfl, rfl⟩) | (at_builtin; refine wpList_push rfl (.tmp 21) (.tmp 24) 32 rfl app32 w.heap.size A0 n0 c0 (out.map (Value.int .i64)) rfl (HQ.out.own.alloc _) wo.heap.size (.int .i64 (-(k : Int))) rfl ((Blk.new wo 3 _).cell 0) rfl (by omega) (by omega) (by have := HQ.out.below.size; simp; omega) ?_; intro A1 c1 w7 hown hgr hob; have HO := Lib.hid hown; have HG := Lib.hid hgr; clear hown hgr hob))
          go_roundw
          case rel =>
            refine ⟨k + 1, n0 + 1, c1, A1, out ++ [-(k : Int)], by omega, by omega, by go_num, rfl, (HQ.out.below.alloc HQ.out.below.size _).grown HG.out (by have := HQ.out.below.size; simp; omega) (fun g hg => (HQ.out.own.lt g hg).1), by simpa using HO.out, by omega, wf_snoc HQ.out.wf (i64_small (by omega) (by omega)), ?_⟩
            have := HN.out; rw [sortedStep, HT.out.1, HT.out.2] at this; exact this
          case measure => simp [intOf]; omega
      · cases hn : hasB s (-(k : Int))
        · have HT := Lib.hid (And.intro hp hn)
          go_wp2_with (first | (go_at_call 59; refine (HH.out _ (by first | exact HB7.out | exact HQ.out.below) _).mono ?_; rintro e w' ⟨rfl, rfl⟩) | (at_builtin; refine wpList_push rfl (.tmp 13) (.tmp 15) 32 rfl app32 w.heap.size A0 n0 c0 (out.map (Value.int .i64)) rfl (HQ.out.own.alloc _) wo.heap.size (.int .i64 (k : Int)) rfl ((Blk.new wo 3 _).cell 0) rfl (by omega) (by omega) (by have := HQ.out.below.size; simp; omega) ?_; intro A1 c1 w7 hown hgr hob; have HO := Lib.hid hown; have HB7 := Lib.hid ((HQ.out.below.alloc HQ.out.below.size _).grown hgr (by have := HQ.out.below.size; simp; omega) (fun g hg => (HQ.out.own.lt g hg).1)); clear hown hgr hob))
          go_roundw
          case rel =>
            refine ⟨k + 1, n0 + 1, c1, A1, out ++ [(k : Int)], by omega, by omega, by go_num, rfl, HB7.out, by simpa using HO.out, by omega, wf_snoc HQ.out.wf (i64_small (by omega) (by omega)), ?_⟩
            have := HN.out; rw [sortedStep, HT.out.1, HT.out.2] at this; exact this
          case measure => simp [intOf]; omega
        · have HT := Lib.hid (And.intro hp hn)
          go_wp2_with (first | (go_at_call 59; refine (HH.out _ (by first | exact HB7.out | exact HQ.out.below) _).mono ?_; rintro e w' ⟨rfl, rfl⟩) | (at_builtin; refine wpList_push rfl (.tmp 13) (.tmp 15) 32 rfl app32 w.heap.size A0 n0 c0 (out.map (Value.int .i64)) rfl (HQ.out.own.alloc _) wo.heap.size (.int .i64 (k : Int)) rfl ((Blk.new wo 3 _).cell 0) rfl (by omega) (by omega) (by have := HQ.out.below.size; simp; omega) ?_; intro A1 c1 w7 hown hgr hob; have HO := Lib.hid hown; have hcap1 := hown.cap; have HB7 := Lib.hid ((HQ.out.below.alloc HQ.out.below.size _).grown hgr (by have := HQ.out.below.size; simp; omega) (fun g hg => (HQ.out.own.lt g hg).1)); clear hown hgr hob) | (at_builtin; refine wpList_push rfl (.tmp 21) (.tmp 24) 32 rfl app32 w.heap.size A1 (n0 + 1) c1 (out.map (Value.int .i64) ++ [.int .i64 (k : Int)]) rfl (HO.out.alloc _) w7.heap.size (.int .i64 (-(k : Int))) rfl ((Blk.new w7 3 _).cell 0) rfl (by omega) (by omega) (by have := HB7.out.size; simp; omega) ?_; intro A2 c2 w8 hown hgr hob; have HO2 := Lib.hid hown; have HB8 := Lib.hid ((HB7.out.alloc HB7.out.size _).grown hgr (by have := HB7.out.size; simp; omega) (fun g hg => (HO.out.lt g hg).1)); clear hown hgr hob))
          go_roundw
          case rel =>
            refine ⟨k + 1, n0 + 1 + 1, c2, A2, out ++ [(k : Int)] ++ [-(k : Int)], by omega, by omega, by go_num, rfl, HB8.out, by simpa using HO2.out, by omega, wf_snoc (wf_snoc HQ.out.wf (i64_small (by omega) (by omega))) (i64_small (by omega) (by omega)), ?_⟩
            have := HN.out; rw [sortedStep, HT.out.1, HT.out.2] at this; exact this
          case measure => simp [intOf]; omega
    · obtain rfl : k = 17 := by omega
      go_wp2
      go_ret
      have hr := HQ.out.rest
      rw [sortedF] at hr
      subst hr
      exact ⟨A0, n0, c0, rfl, HQ.out.own.r1 (fun _ _ => trivial) (by omega) HQ.out.wf, HQ.out.below⟩

theorem rpf_invalid {f : List (List Int)} {l : List Int} (h : validB f 16 = false) : rpropagateF f l = ([], false) := by rw [rpropagateF, h]; rfl
theorem rpf_outside {f : List (List Int)} {l : List Int} (h : l.all (wi 16) = false) : rpropagateF f l = ([], false) := by rw [rpropagateF, h, Bool.and_false]; rfl
theorem rpf_clos {f : List (List Int)} {l : List Int} (hv : validB f 16 = true) (hl : l.all (wi 16) = true) : rpropagateF f l = match closF f l with | none => ([], false) | some s => (sortedF s 16 [], true) := by
  rw [rpropagateF, hv, hl]; rfl

set_option maxHeartbeats 1000000 in
/-- the reference's 'Propagate'. -/
theorem rpropagate_c (K K' : Nat → Prop) (A A' : Option Addr) (n c n' c' : Nat) (f : List (List Int)) (l : List Int) (w : World) (h : R2 w K A n c f) (h' : R1 w K' A' n' c' l) :
    Calls Try.prog 24 #[.slice A n c, .slice A' n' c'] w (GivesL w (rpropagateF f l).1 (rpropagateF f l).2) := by
  have HV := Lib.hid (rvalid_c K A n c f 16 w h (by omega) (by omega))
  have HA := Lib.hid (rall_c K' A' n' c' l 16 w h' ⟨by omega, by omega⟩)
  cases hv : validB f 16
  · rw [hv] at HV
    rw [rpf_invalid hv]
    clear hv h h' HA
    go_enter Try.func24, Try.ntmps24
    go_wp2_with (go_at_call 19; refine HV.out.mono ?_; rintro e w1 ⟨rfl, rfl⟩)
    go_ret2
    exact GivesL.none_ (Below.refl _ _)
  · rw [hv] at HV
    cases hl : l.all (wi 16)
    · rw [hl] at HA
      rw [rpf_outside hl]
      clear hv hl h h'
      go_enter Try.func24, Try.ntmps24
      go_wp2_with (first | (go_at_call 19; refine HV.out.mono ?_; rintro e w1 ⟨rfl, rfl⟩) | (go_at_call 44; refine HA.out.mono ?_; rintro e w1 ⟨rfl, rfl⟩))
      go_ret2
      exact GivesL.none_ (Below.refl _ _)
    · rw [hl] at HA
      rw [rpf_clos hv hl]
      have HC := Lib.hid (clos_c K K' A A' n c n' c' f l w h h' (valid_wi hv) hl)
      clear hv hl h h'
      generalize closF f l = r at *
      cases r with
      | none =>
        go_enter Try.func24, Try.ntmps24
        go_wp2_with (first | (go_at_call 19; refine HV.out.mono ?_; rintro e w1 ⟨rfl, rfl⟩) | (go_at_call 44; refine HA.out.mono ?_; rintro e w1 ⟨rfl, rfl⟩) | (go_at_call 51; refine HC.out.mono ?_; rintro e w1 ⟨rfl, hb⟩; have HB := Lib.hid hb; clear hb))
        go_ret2
        exact GivesL.none_ HB.out
      | some s =>
        go_enter Try.func24, Try.ntmps24
        go_wp2_with (first | (go_at_call 19; refine HV.out.mono ?_; rintro e w1 ⟨rfl, rfl⟩) | (go_at_call 44; refine HA.out.mono ?_; rintro e w1 ⟨rfl, rfl⟩) | (go_at_call 51; refine HC.out.mono ?_; rintro e w1 ⟨sA, sn, sc, rfl, hs, hs17, hb⟩; have HB := Lib.hid hb; have HSo := Lib.hid (sorted_c _ sA sn sc s w1 hs); clear hb hs) | (go_at_call 52; refine HSo.out.mono ?_; rintro e w2 ⟨oA, on, oc, rfl, ho, hb⟩; have HB2 := Lib.hid (HB.out.trans (hb.mono HB.out.size)); have HO := Lib.hid ho; clear hb ho))
        go_ret2
        exact ⟨oA, on, oc, by rfl, HO.out, HB2.out⟩

end Go.Proofs.Ytekbkdbmkjdgbaa
