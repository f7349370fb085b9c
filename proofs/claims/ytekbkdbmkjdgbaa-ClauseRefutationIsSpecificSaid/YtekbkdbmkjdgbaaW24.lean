/- Walks of the reference: MadeModel; a slice cut short. -/
import Derived.Test.YtekbkdbmkjdgbaaW22
import Derived.Test.YtekbkdbmkjdgbaaL6
namespace Go.Proofs.Ytekbkdbmkjdgbaa
open Go.RowKit

theorem bit_all : ∀ n : Fin 256, [decide (0 < bits BinOp.and IntKind.u8 (n.val : Int) 1), decide (0 < bits BinOp.and IntKind.u8 (n.val : Int) 2), decide (0 < bits BinOp.and IntKind.u8 (n.val : Int) 4), decide (0 < bits BinOp.and IntKind.u8 (n.val : Int) 8)] = madeM n.val := by decide +kernel

/-- 'MadeModel'. -/
theorem madeM_c (x : Nat) (w : World) (h : x < 256) :
    Calls Try.prog 31 #[.int .u8 x] w fun e w' => ∃ ad, e = .returned (.slice (some ad) 4 4) ∧ RB w' (fun _ => True) (some ad) 4 4 (madeM x) ∧ Below w.heap.size w w' := by
  have hb := bit_all ⟨x, h⟩
  dsimp only at hb
  have HR := Lib.hid (litB_rb w (madeM x) (by rw [madeM_len]; omega))
  have HBl := Lib.hid (litB_below w (madeM x))
  rw [← hb] at HR HBl
  have HM := Lib.hid hb
  clear hb
  go_enter Try.func31, Try.ntmps31
  go_wp2
  go_ret
  refine ⟨_, rfl, ?_, HBl.out⟩
  rw [← HM.out]
  exact HR.out

theorem R2.short {w : World} {K : Nat → Prop} {A : Option Addr} {k c : Nat} {ls : List (List Int)} (h : R2 w K A (k + 1) c ls) : R2 w K A k c (ls.take k) := by
  obtain ⟨us, h1, h2, h3⟩ := h.ex
  have hl := h.len
  have hc := h.cap
  have hb := h.big
  refine ⟨by rw [List.length_take]; omega, by omega, by omega, h.top, us.take k, fun j u hu => ?_, by rw [List.length_take, List.length_take, h2], fun j u l hu hl' => ?_⟩
  · rw [List.getElem?_take] at hu
    split at hu
    · exact h1 j u hu
    · cases hu
  · rw [List.getElem?_take] at hu hl'
    split at hu
    · rename_i hj
      rw [if_pos hj] at hl'
      exact h3 j u l hu hl'
    · cases hu

/-- what Solve answers of a formula over four variables -/
theorem solve4 (K : Nat → Prop) (A : Option Addr) (n c : Nat) (f : List (List Int)) (w : World) (h : R2 w K A n c f) : Calls Try.prog 16 #[.slice A n c, .int .i64 4] w (SolvePost w (solveF f 4)) :=
  solve_c K A n c f 4 w h (by omega) (by omega)
theorem len_small {f : List (List Int)} {L : List (List Int)} {ms : List Bool} (h : solveF f 4 = (ms, L, false, 0)) : L.length ≤ 1000000 := by
  have hl := findF_len (4 : Int).toNat f 18 [] []
  rw [solveF] at h
  split at h
  · cases hr : findF (4 : Int).toNat f 18 [] [] with
    | mk o L' =>
      rw [hr] at hl h
      cases o with
      | some a => cases h
      | none =>
        have e : L' = L := congrArg (fun x => x.2.1) h
        subst e
        simp only [List.length_nil, Nat.zero_add] at hl
        have : 2 ^ 18 = 262144 := rfl
        omega
  · cases h

/-! ### a formula that is put together -/
structure BdRel (w wr : World) (ls : List (List Int)) (A : Option Addr) (n c : Nat) : Prop where
  below : Below w.heap.size w wr
  ex : ∃ us, Own wr w.heap.size 32 A n c us ∧ All1 wr (fun q => obl A ≠ some q) us ls

theorem BdRel.start (w : World) : BdRel w (w.alloc (.cells #[] 32)) [] (some ⟨w.heap.size, 0, none⟩) 0 0 :=
  ⟨(Below.refl _ _).alloc (Nat.le_refl _) _, [], Own.lit 32 #[] 0 (Nat.le_refl _) (by omega) rfl, All1.nil_ _ _⟩
theorem BdRel.old {w wr w2 : World} {ls : List (List Int)} {A : Option Addr} {n c : Nat} (h : BdRel w wr ls A n c) (hb : Below wr.heap.size wr w2) : BdRel w w2 ls A n c := by
  obtain ⟨us, h1, h2⟩ := h.ex
  exact ⟨h.below.trans (hb.mono h.below.size), us, h1.below hb, h2.old (Old.of_below hb)⟩
theorem BdRel.len {w wr : World} {ls : List (List Int)} {A : Option Addr} {n c : Nat} (h : BdRel w wr ls A n c) : ls.length = n := by
  obtain ⟨us, h1, h2⟩ := h.ex
  rw [← h2.1]; exact h1.len
theorem BdRel.r2 {w wr : World} {ls : List (List Int)} {A : Option Addr} {n c : Nat} (h : BdRel w wr ls A n c) (hn : n ≤ 140737488355328) : R2 wr (fun _ => True) A n c ls := by
  obtain ⟨us, h1, h2⟩ := h.ex
  exact h1.r2 (fun _ _ => trivial) hn (h2.weak fun _ _ _ => trivial)
theorem All1.app {w : World} {K : Nat → Prop} : ∀ {us vs : List Value} {ls ms : List (List Int)}, All1 w K us ls → All1 w K vs ms → All1 w K (us ++ vs) (ls ++ ms)
  | us, [], ls, ms, h, h' => by
    have : ms = [] := List.eq_nil_of_length_eq_zero (by rw [← h'.1]; rfl)
    subst this
    rw [List.append_nil, List.append_nil]; exact h
  | us, v :: vs, ls, [], h, h' => by have := h'.1; simp at this
  | us, v :: vs, ls, m :: ms, h, h' => by
    have h1 := h.snoc (h'.2 0 v m rfl rfl)
    have h2 : All1 w K vs ms := ⟨by have := h'.1; simpa using this, fun j u l hu hl => h'.2 (j + 1) u l (by simpa using hu) (by simpa using hl)⟩
    have := All1.app h1 h2
    simpa using this
/-- an append to it: of what lies elsewhere -/
theorem BdRel.push {w wr w7 : World} {ls ms : List (List Int)} {A A1 : Option Addr} {n c n1 c1 : Nat} {us vs : List Value} {O : Obj} (hb : Below w.heap.size w wr) (h1 : Own wr w.heap.size 32 A n c us) (h2 : All1 wr (fun q => obl A ≠ some q) us ls)
    (hv : All1 wr (fun q => obl A ≠ some q) vs ms) (hown : Own w7 w.heap.size 32 A1 n1 c1 (us ++ vs)) (hgr : (wr.alloc O).grownBy w7 (obl A)) (hob : obl A1 = obl A ∨ obl A1 = some (wr.alloc O).heap.size) : BdRel w w7 (ls ++ ms) A1 n1 c1 := by
  have hsz0 : w.heap.size ≤ wr.heap.size := hb.size
  have hold : ∀ q, q < wr.heap.size → obl A ≠ some q → w7.heap[q]? = wr.heap[q]? := fun q hq hne => by
    rw [hgr.block q (by simp; omega) (fun e => hne e.symm), Below.heap_alloc _ _ _ hq]
  have hnew : ∀ q, q < wr.heap.size → obl A ≠ some q → obl A1 ≠ some q := fun q hq hne e => by
    rcases hob with e' | e'
    · exact hne (by rw [← e']; exact e)
    · rw [e'] at e; cases e; simp at hq; omega
  have a1 := h2.app hv
  have a2 : All1 wr (fun q => obl A ≠ some q ∧ obl A1 ≠ some q) (us ++ vs) (ls ++ ms) := a1.weak fun q hq h => ⟨h, hnew q hq h⟩
  have a3 : All1 w7 (fun q => obl A1 ≠ some q) (us ++ vs) (ls ++ ms) := (a2.old (w' := w7) fun q h hq => hold q hq h.1).weak fun q _ h => h.2
  exact ⟨(hb.alloc hsz0 _).grown hgr (by simp; omega) (fun g hg => (h1.lt g hg).1), _, hown, a3⟩
/-- one clause that lies elsewhere -/
theorem BdRel.one {w wr w7 : World} {ls : List (List Int)} {A A1 : Option Addr} {n c n1 c1 : Nat} {us : List Value} {O : Obj} {x : List Int} {xA : Option Addr} {xn xc : Nat} (hb : Below w.heap.size w wr) (h1 : Own wr w.heap.size 32 A n c us) (h2 : All1 wr (fun q => obl A ≠ some q) us ls)
    (hx : R1 wr (fun q => obl A ≠ some q) xA xn xc x) (hown : Own w7 w.heap.size 32 A1 n1 c1 (us ++ [.slice xA xn xc])) (hgr : (wr.alloc O).grownBy w7 (obl A)) (hob : obl A1 = obl A ∨ obl A1 = some (wr.alloc O).heap.size) : BdRel w w7 (ls ++ [x]) A1 n1 c1 :=
  BdRel.push hb h1 h2 (All1.snoc (All1.nil_ wr _) ⟨xA, xn, xc, rfl, hx⟩) hown hgr hob
/-- what was there before the row does not lie in it -/
theorem R1.apart {w wr : World} {A xA : Option Addr} {n c xn xc : Nat} {us : List Value} {x : List Int} (h : R1 wr (fun q => q < w.heap.size) xA xn xc x) (ho : Own wr w.heap.size 32 A n c us) : R1 wr (fun q => obl A ≠ some q) xA xn xc x :=
  h.weak fun q _ hq e => by have := (ho.lt q e).1; omega

end Go.Proofs.Ytekbkdbmkjdgbaa
