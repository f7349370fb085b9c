/- The walk of the program's Holds. -/
import Derived.Test.YtekbkdbmkjdgbaaW4
namespace Go.Proofs.Ytekbkdbmkjdgbaa
open Go.RowKit

/-- 'Holds'. -/
theorem holds_c (K K' : Nat → Prop) (A A' : Option Addr) (n c n' c' : Nat) (f : List (List Int)) (m : List Bool) (w : World) (h : R2 w K A n c f) (h' : RB w K' A' n' c' m) :
    Calls Try.prog 20 #[.slice A n c, .slice A' n' c'] w (Gives w (.bool (holdsB f m))) := by
  have hb1 := h'.big
  have hb2 := h'.cap
  have HL := Lib.hid h'.len
  have hb := (Below.refl w.heap.size w).alloc (Nat.le_refl _) (.cells #[.slice A' n' c'] 23)
  have HB0 := Lib.hid hb
  have HV := Lib.hid (valid_c K A n c f n' _ (h.below hb) (by omega) (by omega))
  have HG := Lib.hid (Blk.new w 23 #[.slice A' n' c'])
  clear hb
  cases hv : validB f n'
  · rw [hv] at HV
    have HE := Lib.hid (show holdsB f m = false by rw [holdsB, HL.out, hv]; rfl)
    clear hv
    generalize holdsB f m = b at *
    go_enter Try.func20, Try.ntmps20
    go_wp2_with (go_at_call 18; refine HV.out.mono ?_; rintro e w' ⟨rfl, hb⟩; have HB1 := Lib.hid hb; clear hb)
    go_ret
    exact ⟨ret_bool HE.out.symm, HB0.out.trans (HB1.out.mono (by simp))⟩
  · rw [hv] at HV
    have HE := Lib.hid (show holdsB f m = satF m f by rw [holdsB, HL.out, hv]; rfl)
    have HW := Lib.hid (valid_wi hv)
    have Hh := Lib.hid h
    have Hh' := Lib.hid h'
    clear hv h h'
    generalize holdsB f m = b at *
    go_enter Try.func20, Try.ntmps20
    go_wp2_with fail
    refine HV.out.mono ?_
    rintro e w1 ⟨rfl, hb⟩
    have HB1 := Lib.hid (HB0.out.trans (hb.mono (by simp)))
    have HG1 := Lib.hid (HG.out.old hb)
    clear hb
    have hw2 := below_setRow ((Below.refl w1.heap.size w1).alloc (Nat.le_refl _) (.cells #[.nilFunc] 64)) (Nat.le_refl _) #[.func (.func 45) #[] #[.pointer (some ⟨w.heap.size, 0, none⟩)]]
    have hh2 := (Blk.new w1 64 #[.nilFunc]).setRow #[.func (.func 45) #[] #[.pointer (some ⟨w.heap.size, 0, none⟩)]]
    have HC := Lib.hid (containsCl_c K K' A A' n c n' c' f w.heap.size w1.heap.size m _ (Hh.out.below (HB1.out.trans (hw2.mono HB1.out.size))) (HG1.out.old hw2) hh2 (Hh'.out.below (HB1.out.trans (hw2.mono HB1.out.size))) HW.out)
    have HB2 := Lib.hid (HB1.out.trans (hw2.mono HB1.out.size))
    clear hw2 hh2
    go_wp2_with (refine wpList_store_oneTo rfl 64 (.tmp 5) (.tmp 11) rfl rfl w1.heap.size (.func (.func 45) #[] #[.pointer (some ⟨w.heap.size, 0, none⟩)]) rfl rfl rfl 64 _ (Blk.new w1 64 _) (by kernel_rfl) ?_)
    refine HC.out.mono ?_
    rintro e w3 ⟨rfl, rfl⟩
    go_wp2
    go_ret
    exact ⟨ret_bool (by rw [HE.out] <;> cases satF m f <;> rfl), HB2.out⟩

end Go.Proofs.Ytekbkdbmkjdgbaa
