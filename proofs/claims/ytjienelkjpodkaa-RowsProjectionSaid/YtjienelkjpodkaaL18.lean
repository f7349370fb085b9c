/- The laws' calls of Solve. -/
import Derived.Test.YtjienelkjpodkaaP8
import Derived.Test.YtjienelkjpodkaaW31
import Derived.Test.YtjienelkjpodkaaW26
import Derived.Test.YtjienelkjpodkaaW27
namespace Go.Proofs.Ytjienelkjpodkaa
open Go.RowKit

theorem solve_yes {A B : Option Addr} {n c m d : Nat} {t : Sys} {x : List Int} {w : World} (h : R1 w TT A n c t.1) (h' : RR w TT B m d t.2) (hs : solveF t = (x, [], true, 0)) (hx : x.length = n) :
    Calls Try.prog 10 #[.agg #[.slice A n c, .slice B m d]] w fun e w' => ∃ xA xc pA pc, e = .returned (.tuple #[.slice xA n xc, .slice pA 0 pc, .bool true, .int .i64 0]) ∧ R1 w' TT xA n xc x ∧ Below w.heap.size w w' := by
  refine (solve_c TT A B n c m d t w h h').mono ?_
  rw [hs]
  rintro e w' ⟨xA, xn, xc, pA, pn, pc, rfl, h1, h2, hb⟩
  obtain rfl : n = xn := by rw [← hx]; exact h1.len
  obtain rfl : pn = 0 := h2.len.symm
  exact ⟨xA, xc, pA, pc, rfl, h1.tt, hb⟩
theorem solve_no {A B : Option Addr} {n c m d : Nat} {t : Sys} {p : List Step} {w : World} (h : R1 w TT A n c t.1) (h' : RR w TT B m d t.2) (hs : solveF t = ([], p, false, 0)) :
    Calls Try.prog 10 #[.agg #[.slice A n c, .slice B m d]] w fun e w' => ∃ xA xc pA pn pc, e = .returned (.tuple #[.slice xA 0 xc, .slice pA pn pc, .bool false, .int .i64 0]) ∧ RP w' TT pA pn pc p ∧ R1 w' TT xA 0 xc [] ∧ Below w.heap.size w w' := by
  refine (solve_c TT A B n c m d t w h h').mono ?_
  rw [hs]
  rintro e w' ⟨xA, xn, xc, pA, pn, pc, rfl, h1, h2, hb⟩
  obtain rfl : xn = 0 := h1.len.symm
  exact ⟨xA, xc, pA, pn, pc, rfl, h2.tt, h1.tt, hb⟩
theorem check_yes {A B P : Option Addr} {n c m d pn pc : Nat} {t : Sys} {p : List Step} {w : World} (h : R1 w TT A n c t.1) (h' : RR w TT B m d t.2) (hp : RP w TT P pn pc p) (hc : checkF t p = true) :
    Calls Try.prog 12 #[.agg #[.slice A n c, .slice B m d], .slice P pn pc] w (Gives w (.bool true)) := by
  have := check_c TT A B P n c m d pn pc t p w h h' hp
  rwa [hc] at this
theorem valid_yes {A B : Option Addr} {n c m d : Nat} {t : Sys} {w : World} (h : R1 w TT A n c t.1) (h' : RR w TT B m d t.2) (hv : validS t = true) : Calls Try.prog 11 #[.agg #[.slice A n c, .slice B m d]] w (Gives w (.bool true)) := by
  have := valid_c TT TT A B n c m d t.1 t.2 w h h'
  rwa [show validS (t.1, t.2) = true from hv] at this

/-- a system that a law keeps in a block of its own -/
structure LMem (w : World) (g : Nat) (A : Option Addr) (n c : Nat) (B : Option Addr) (m d : Nat) (t : Sys) (W : World) : Prop where
  b : Below w.heap.size w W
  k : Blk W g 25 #[.slice A n c, .slice B m d]
  top : R1 W TT A n c t.1
  rows : RR W TT B m d t.2
section
variable {w W W' : World} {g : Nat} {A B : Option Addr} {n c m d : Nat} {t : Sys}
theorem LMem.step (h : LMem w g A n c B m d t W) (hb : Below W.heap.size W W') : LMem w g A n c B m d t W' :=
  ⟨h.b.trans (hb.mono h.b.size), h.k.old hb, h.top.below hb, h.rows.below hb⟩
theorem LMem.start (hb : Below w.heap.size w W) (h1 : R1 W TT A n c t.1) (h2 : RR W TT B m d t.2) : LMem w W.heap.size A n c B m d t (W.alloc (.cells #[.slice A n c, .slice B m d] 25)) :=
  have h : Below W.heap.size W (W.alloc (.cells #[.slice A n c, .slice B m d] 25)) := (Below.refl _ _).alloc (Nat.le_refl _) _
  ⟨hb.trans (h.mono hb.size), Blk.new _ _ _, h1.below h, h2.below h⟩
theorem LMem.c0 (h : LMem w g A n c B m d t W) : W.cell? ⟨g, 0, none⟩ = some (.slice A n c) := h.k.cell 0
theorem LMem.c1 (h : LMem w g A n c B m d t W) : W.cell? ⟨g, 1, none⟩ = some (.slice B m d) := h.k.cell 1
end
end Go.Proofs.Ytjienelkjpodkaa
