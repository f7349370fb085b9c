/- The walk of the program's Propagate. -/
import Derived.Test.YtekbkdbmkjdgbaaL1
import Derived.Test.YtekbkdbmkjdgbaaW3
import Derived.Test.YtekbkdbmkjdgbaaW4
namespace Go.Proofs.Ytekbkdbmkjdgbaa
open Go.RowKit

/-- It hands back a slice of integers that reads as l, and v; nothing that was there has turned. -/
def GivesL (w : World) (l : List Int) (b : Bool) (e : Ending) (w' : World) : Prop :=
  ∃ A n c, e = .returned (.tuple #[.slice A n c, .bool b]) ∧ R1 w' (fun _ => True) A n c l ∧ Below w.heap.size w w'

structure LitRel (w wr : World) (a : List Int) (k m : Nat) (A : Option Addr) (c : Nat) (out : List Int) : Prop where
  below : Below w.heap.size w wr
  own : Own wr w.heap.size 3 A m c (out.map (Value.int .i64))
  small : m ≤ k
  wf : ∀ x ∈ out, I64 x
  rest : out ++ litsF (a.drop k) k = litsF a 0

theorem lit_skip {a : List Int} {k : Nat} {out : List Int} (hk : a[k]? = some 0) (h : out ++ litsF (a.drop k) k = litsF a 0) : out ++ litsF (a.drop (k + 1)) (k + 1) = litsF a 0 := by
  rw [← h, drop_cons_of hk, litsF, if_pos rfl]
theorem lit_take {a : List Int} {k : Nat} {x : Int} {out : List Int} (hk : a[k]? = some x) (hx : x ≠ 0) (h : out ++ litsF (a.drop k) k = litsF a 0) : out ++ [(k : Int) * x] ++ litsF (a.drop (k + 1)) (k + 1) = litsF a 0 := by
  rw [← h, drop_cons_of hk, litsF, if_neg hx, List.append_assoc]; rfl

theorem pf_invalid {f : List (List Int)} {l : List Int} (h : validB f 16 = false) : propagateF f l = ([], false) := by rw [propagateF, h]; rfl
theorem pf_outside {f : List (List Int)} {l : List Int} (h : l.all (wi 16) = false) : propagateF f l = ([], false) := by rw [propagateF, h, Bool.and_false]; rfl
theorem pf_begin {f : List (List Int)} {l : List Int} (h : beginF l l zeros = none) : propagateF f l = ([], false) := by
  rw [propagateF, startF, h]
  cases validB f 16 && l.all (wi 16) <;> rfl
theorem pf_prop {f : List (List Int)} {l a : List Int} (hv : validB f 16 = true) (hl : l.all (wi 16) = true) (h : beginF l l zeros = some a) : propagateF f l = (litsF ((propA f a).getD zeros) 0, (propA f a).isSome) := by
  rw [propagateF, startF, h, hv, hl]
  show (match propA f a with | none => ([], false) | some a => (litsF a 0, true)) = _
  cases propA f a with
  | none => rw [Option.getD_none, litsF_zeros]; rfl
  | some a => rfl

theorem GivesL.none_ {w w' : World} (h : Below w.heap.size w w') : GivesL w [] false (.returned (.tuple #[.slice none 0 0, .bool false])) w' :=
  ⟨none, 0, 0, rfl, ⟨rfl, Nat.le_refl _, by omega, by omega, by simp, fun j u hu => by simp at hu⟩, h⟩

structure Tail (w w' : World) (g : Nat) (a : List Int) : Prop where
  below : Below w.heap.size w w'
  blk : Blk w' g 55 (pv a)
  wf : Wf a
  old : w.heap.size ≤ g

set_option maxHeartbeats 1000000 in
/-- 'Propagate'. -/
theorem propagate23_c (K K' : Nat → Prop) (A A' : Option Addr) (n c n' c' : Nat) (f : List (List Int)) (l : List Int) (w : World) (h : R2 w K A n c f) (h' : R1 w K' A' n' c' l) :
    Calls Try.prog 23 #[.slice A n c, .slice A' n' c'] w (GivesL w (propagateF f l).1 (propagateF f l).2) := by
  have HV := Lib.hid (valid_c K A n c f 16 w h (by omega) (by omega))
  cases hv : validB f 16
  · rw [hv] at HV
    rw [pf_invalid hv]
    clear hv h h'
    go_enter Try.func23, Try.ntmps23
    go_wp2_with (go_at_call 18; refine HV.out.mono ?_; rintro e w1 ⟨rfl, hb⟩; have HB1 := Lib.hid hb; clear hb)
    go_ret2
    exact GivesL.none_ HB1.out
  · rw [hv] at HV
    have HW := Lib.hid (valid_wi hv)
    have Hv := Lib.hid hv
    clear hv
    cases hl : l.all (wi 16)
    · rw [pf_outside hl]
      have HL := Lib.hid hl
      clear hl
      go_enter Try.func23, Try.ntmps23
      go_wp2_with fail
      refine HV.out.mono ?_
      rintro e w1 ⟨rfl, hb⟩
      have HB1 := Lib.hid hb
      have HC := Lib.hid (within_c K' A' n' c' l 16 _ (h'.below hb) ⟨by omega, by omega⟩)
      rw [HL.out] at HC
      clear hb h h'
      go_wp2_with (go_at_call 43; refine HC.out.mono ?_; rintro e w2 ⟨rfl, hb⟩; have HB2 := Lib.hid hb; clear hb)
      go_ret2
      exact GivesL.none_ (HB1.out.trans (HB2.out.mono HB1.out.size))
    · have HL := Lib.hid hl
      clear hl
      -- what begin and propagate come to
      obtain ⟨beg, hbeg⟩ : ∃ b, b = beginF l l zeros := ⟨_, rfl⟩
      have hres : ∃ L b, propagateF f l = (L, b) := ⟨_, _, rfl⟩
      obtain ⟨L, b, hres⟩ := hres
      rw [hres]
      have HR := Lib.hid hres
      have HE := Lib.hid hbeg
      have HBeg := Lib.hid fun W (hW : Below w.heap.size w W) => begin_c K' A' n' c' l W (h'.below hW) HL.out
      have HVal := Lib.hid fun W (hW : Below w.heap.size w W) => within_c K' A' n' c' l 16 W (h'.below hW) ⟨by omega, by omega⟩
      have HProp := Lib.hid fun W (hW : Below w.heap.size w W) a (ha : Wf a) => propagate_c K A n c f a W (h.below hW) HW.out ha
      rw [← hbeg] at HBeg
      rw [HL.out] at HVal
      clear hres hbeg h h'
      go_enter Try.func23, Try.ntmps23
      go_wp2_with fail
      refine HV.out.mono ?_
      rintro e w1 ⟨rfl, hb⟩
      have HB1 := Lib.hid hb
      clear hb
      go_wp2_with fail
      refine (HVal.out _ HB1.out).mono ?_
      rintro e w2 ⟨rfl, hb⟩
      have HB2 := Lib.hid (HB1.out.trans (hb.mono HB1.out.size))
      clear hb HB1
      go_wp2_with fail
      refine (HBeg.out _ HB2.out).mono ?_
      rintro e w3 ⟨rfl, hb⟩
      have HB3 := Lib.hid (HB2.out.trans (hb.mono HB2.out.size))
      clear hb HBeg HB2 HVal HV
      cases beg with
      | none =>
        have hL : L = litsF zeros 0 ∧ b = false := by
          have := HR.out
          rw [pf_begin HE.out.symm] at this
          cases this
          exact ⟨litsF_zeros.symm, rfl⟩
        have HL2 := Lib.hid hL
        clear hL
        go_wp2_with (first | (refine wpList_store_fresh rfl 55 (.tmp 6) (.tmp 22) rfl rfl (pv zeros) _ 55 rfl rfl (size55 Wf.zeros) rfl (pv_one _) ?_; intro w4 hk hb hs; have HT := Lib.hid (show Tail w w4 w3.heap.size zeros from ⟨HB3.out.trans (hb.mono HB3.out.size), hk, Wf.zeros, HB3.out.size⟩); clear hk hb hs) | (refine wpList_load_blk rfl 55 (.tmp 6) rfl w3.heap.size rfl 55 (pv zeros) _ HT.out.blk Try.underlying55 rfl (size55 HT.out.wf) ?_))
        obtain ⟨hL1, hL2⟩ := HL2.out
        have HQ := Lib.hid (show LitRel w w4 (zeros) 0 0 none 0 [] from ⟨HT.out.below, Own.nil_ _ _ _, Nat.le_refl _, by simp, rfl⟩)
        have HLL := Lib.hid hL1
        have HLB := Lib.hid hL2
        have Hwf := Lib.hid HT.out.wf
        clear hL1 hL2 HT HL2
        generalize zeros = a2 at *
        go_loopw [8, 32] (fun s8 s32 wr => ∃ (k m : Nat) (A0 : Option Addr) (c0 : Nat) (out : List Int), k ≤ 17 ∧ s32 = .int .i64 k ∧ s8 = .slice A0 m c0 ∧ LitRel w wr a2 k m A0 c0 out) (fun _ i _ => 17 - (intOf i).toNat)
        case atStart => exact ⟨0, 0, none, 0, [], by omega, rfl, rfl, HQ.out⟩
        case round =>
          clear HQ
          obtain ⟨k, m, A0, c0, out, hk, rfl, rfl, hq⟩ := hrel
          have HQ := Lib.hid hq
          have hsm := hq.small
          clear hq
          by_cases hlt : k < 17
          · have hix := fun W => run_ix (k := k) Hwf.out.1 hlt W
            have hbd := Hwf.out.getD k
            have hget : a2[k]? = some (a2.getD k 0) := by
              have : k < a2.length := by rw [Hwf.out.1]; exact hlt
              simp [List.getD_eq_getElem?_getD, this]
            have HX := Lib.hid hget
            clear hget
            generalize a2.getD k 0 = x at *
            obtain ⟨hb1, hb2⟩ := hbd
            by_cases hx0 : x = 0
            · subst hx0
              go_wp2
              go_roundw
              case rel => exact ⟨k + 1, m, A0, c0, out, by omega, by go_num, rfl, HQ.out.below, HQ.out.own, by omega, HQ.out.wf, lit_skip HX.out HQ.out.rest⟩
              case measure => simp [intOf]; omega
            · have b0 : (x == 0) = false := by simp [hx0]
              have b1 : (x != 0) = true := by simp [hx0]
              have hmw : I64 ((k : Int) * x) := by
                have : x = 1 ∨ x = -1 := by omega
                rcases this with rfl | rfl <;> (unfold I64; omega)
              have hmul : IntKind.i64.wrap ((k : Int) * x) = (k : Int) * x := IntWalk.i64_in _ (by unfold I64 at hmw; omega)
              have HM := Lib.hid hmw
              clear hmw
              go_wp2_with (at_builtin; refine wpList_push rfl (.tmp 38) (.tmp 42) 32 rfl app32 w.heap.size A0 m c0 (out.map (Value.int .i64)) rfl (HQ.out.own.alloc _) wr.heap.size (.int .i64 ((k : Int) * x)) rfl ((Blk.new wr 3 _).cell 0) rfl (by omega) (by omega) (by have := HQ.out.below.size; simp; omega) ?_; intro A1 c1 w7 hown hgr hob; have HO := Lib.hid hown; have HG := Lib.hid hgr; clear hown hgr hob)
              go_roundw
              case rel =>
                refine ⟨k + 1, m + 1, A1, c1, out ++ [(k : Int) * x], by omega, by go_num, rfl, ?_, by simpa using HO.out, by omega, ?_, lit_take HX.out hx0 HQ.out.rest⟩
                · exact (HQ.out.below.alloc HQ.out.below.size _).grown HG.out (by have := HQ.out.below.size; simp; omega) (fun g hg => (HQ.out.own.lt g hg).1)
                · intro y hy
                  rcases List.mem_append.1 hy with h1 | h1
                  · exact HQ.out.wf y h1
                  · simp only [List.mem_singleton] at h1; rw [h1]; exact HM.out
              case measure => simp [intOf]; omega
          · obtain rfl : k = 17 := by omega
            go_wp2
            go_ret2
            refine ⟨A0, m, c0, by rw [HLB.out] <;> rfl, ?_, HQ.out.below⟩
            have hr := HQ.out.rest
            rw [List.drop_eq_nil_of_le (by have := Hwf.out.1; omega), litsF, List.append_nil] at hr
            rw [HLL.out, ← hr]
            exact HQ.out.own.r1 (fun _ _ => trivial) (by omega) HQ.out.wf
      | some a =>
        have HWA := Lib.hid (beginF_wf Wf.zeros HE.out.symm)
        have hL : L = litsF ((propA f a).getD zeros) 0 ∧ b = (propA f a).isSome := by
          have := HR.out
          rw [pf_prop Hv.out HL.out HE.out.symm] at this
          cases this
          exact ⟨rfl, rfl⟩
        have HL2 := Lib.hid hL
        have HWR := Lib.hid (getD_wf fun a' e => propF_wf (Lits.of_all HW.out) HWA.out (show propF 18 f a = some a' from e))
        clear hL
        rw [show propF 18 f a = propA f a from rfl] at HWR
        generalize hr : propA f a = r at *
        have Hr := Lib.hid hr
        clear hr
        go_wp2_with (first | (refine wpList_store_fresh rfl 55 (.tmp 6) (.tmp 22) rfl rfl (pv a) _ 55 rfl rfl (size55 HWA.out) (pv17 HWA.out) (pv_one _) ?_; intro w4 hk hb hs; have HT := Lib.hid (show Tail w w4 w3.heap.size a from ⟨HB3.out.trans (hb.mono HB3.out.size), hk, HWA.out, HB3.out.size⟩); clear hk hb hs) | (refine wpList_load_blk rfl 55 (.tmp 6) rfl w3.heap.size rfl 55 (pv a) _ HT.out.blk Try.underlying55 rfl (size55 HWA.out) ?_))
        have HPr := Lib.hid (HProp.out _ HT.out.below _ HWA.out)
        rw [Hr.out] at HPr
        refine HPr.out.mono ?_
        rintro e w5 ⟨rfl, hb⟩
        have HB5 := Lib.hid hb
        clear hb HPr
        go_wp2_with (first | (refine wpList_store_blk rfl 55 (.tmp 6) (.tmp 29) rfl rfl w3.heap.size (pv (r.getD zeros)) (pv a) 55 rfl rfl (HT.out.blk.old HB5.out) (size55 HWR.out) (pvpv HWA.out HWR.out) (pv_one _) ?_; intro w6 hk ho; have HT2 := Lib.hid (show Tail w w6 w3.heap.size (r.getD zeros) from ⟨below_only (HT.out.below.trans (HB5.out.mono HT.out.below.size)) ho HT.out.old, hk, HWR.out, HT.out.old⟩); clear hk ho) | (refine wpList_load_blk rfl 55 (.tmp 6) rfl w3.heap.size rfl 55 (pv (r.getD zeros)) _ HT2.out.blk Try.underlying55 rfl (size55 HWR.out) ?_))
        obtain ⟨hL1, hL2⟩ := HL2.out
        have HQ := Lib.hid (show LitRel w w6 (r.getD zeros) 0 0 none 0 [] from ⟨HT2.out.below, Own.nil_ _ _ _, Nat.le_refl _, by simp, rfl⟩)
        have HLL := Lib.hid hL1
        have HLB := Lib.hid hL2
        have Hwf := Lib.hid HT2.out.wf
        clear hL1 hL2 HT2 HL2
        generalize r.getD zeros = a2 at *
        go_loopw [8, 32] (fun s8 s32 wr => ∃ (k m : Nat) (A0 : Option Addr) (c0 : Nat) (out : List Int), k ≤ 17 ∧ s32 = .int .i64 k ∧ s8 = .slice A0 m c0 ∧ LitRel w wr a2 k m A0 c0 out) (fun _ i _ => 17 - (intOf i).toNat)
        case atStart => exact ⟨0, 0, none, 0, [], by omega, rfl, rfl, HQ.out⟩
        case round =>
          clear HQ
          obtain ⟨k, m, A0, c0, out, hk, rfl, rfl, hq⟩ := hrel
          have HQ := Lib.hid hq
          have hsm := hq.small
          clear hq
          by_cases hlt : k < 17
          · have hix := fun W => run_ix (k := k) Hwf.out.1 hlt W
            have hbd := Hwf.out.getD k
            have hget : a2[k]? = some (a2.getD k 0) := by
              have : k < a2.length := by rw [Hwf.out.1]; exact hlt
              simp [List.getD_eq_getElem?_getD, this]
            have HX := Lib.hid hget
            clear hget
            generalize a2.getD k 0 = x at *
            obtain ⟨hb1, hb2⟩ := hbd
            by_cases hx0 : x = 0
            · subst hx0
              go_wp2
              go_roundw
              case rel => exact ⟨k + 1, m, A0, c0, out, by omega, by go_num, rfl, HQ.out.below, HQ.out.own, by omega, HQ.out.wf, lit_skip HX.out HQ.out.rest⟩
              case measure => simp [intOf]; omega
            · have b0 : (x == 0) = false := by simp [hx0]
              have b1 : (x != 0) = true := by simp [hx0]
              have hmw : I64 ((k : Int) * x) := by
                have : x = 1 ∨ x = -1 := by omega
                rcases this with rfl | rfl <;> (unfold I64; omega)
              have hmul : IntKind.i64.wrap ((k : Int) * x) = (k : Int) * x := IntWalk.i64_in _ (by unfold I64 at hmw; omega)
              have HM := Lib.hid hmw
              clear hmw
              go_wp2_with (at_builtin; refine wpList_push rfl (.tmp 38) (.tmp 42) 32 rfl app32 w.heap.size A0 m c0 (out.map (Value.int .i64)) rfl (HQ.out.own.alloc _) wr.heap.size (.int .i64 ((k : Int) * x)) rfl ((Blk.new wr 3 _).cell 0) rfl (by omega) (by omega) (by have := HQ.out.below.size; simp; omega) ?_; intro A1 c1 w7 hown hgr hob; have HO := Lib.hid hown; have HG := Lib.hid hgr; clear hown hgr hob)
              go_roundw
              case rel =>
                refine ⟨k + 1, m + 1, A1, c1, out ++ [(k : Int) * x], by omega, by go_num, rfl, ?_, by simpa using HO.out, by omega, ?_, lit_take HX.out hx0 HQ.out.rest⟩
                · exact (HQ.out.below.alloc HQ.out.below.size _).grown HG.out (by have := HQ.out.below.size; simp; omega) (fun g hg => (HQ.out.own.lt g hg).1)
                · intro y hy
                  rcases List.mem_append.1 hy with h1 | h1
                  · exact HQ.out.wf y h1
                  · simp only [List.mem_singleton] at h1; rw [h1]; exact HM.out
              case measure => simp [intOf]; omega
          · obtain rfl : k = 17 := by omega
            go_wp2
            go_ret2
            refine ⟨A0, m, c0, by rw [HLB.out] <;> rfl, ?_, HQ.out.below⟩
            have hr := HQ.out.rest
            rw [List.drop_eq_nil_of_le (by have := Hwf.out.1; omega), litsF, List.append_nil] at hr
            rw [HLL.out, ← hr]
            exact HQ.out.own.r1 (fun _ _ => trivial) (by omega) HQ.out.wf

end Go.Proofs.Ytekbkdbmkjdgbaa
