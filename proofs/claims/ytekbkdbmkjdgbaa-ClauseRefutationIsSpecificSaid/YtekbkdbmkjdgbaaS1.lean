/- What the plain functions give at the examples of 'sanity'. -/
import Derived.Test.YtekbkdbmkjdgbaaP7
namespace Go.Proofs.Ytekbkdbmkjdgbaa

def sf : List (List Int) := [[1, 2], [-1, 2]]
def sg : List (List Int) := [[1, 2], [1, -2], [-1, 2], [-1, -2]]
theorem ev_sf : solveF sf 2 = ([false, true], [], true, 0) := by decide +kernel
theorem ev_sg : solveF sg 2 = ([], [[1], [-1], []], false, 0) := by decide +kernel
theorem ev_c0 : checkF sg 2 [[1], [-1], []] = true := by decide +kernel
theorem ev_nil : solveF [] 0 = ([], [], true, 0) := by decide +kernel
theorem ev_empty : solveF [[]] 0 = ([], [[]], false, 0) := by decide +kernel
theorem ev_bad : solveF [[3]] 2 = ([], [], false, 1) := by decide +kernel
theorem ev_p1 : propagateF sf [-1] = ([-1, 2], true) := by decide +kernel
theorem ev_p2 : propagateF sf [-2] = ([], false) := by decide +kernel
theorem ev_core : coreF [[1], [-1], [2], [-2]] 2 = ([0, 1], true, 0) := by decide +kernel
theorem ev_c1 : checkF sg 2 [[1], []] = true := by decide +kernel
theorem ev_c2 : checkF sg 2 [[]] = false := by decide +kernel
theorem ev_c3 : checkF sf 2 [[1], []] = false := by decide +kernel
theorem ev_c4 : checkF [[]] 0 [[]] = true := by decide +kernel
theorem ev_h1 : holdsB sf [true, true] = true := by decide +kernel
theorem ev_h2 : holdsB sf [true, false] = false := by decide +kernel
theorem ev_v1 : validB sf 2 = true := by decide +kernel
theorem ev_v2 : validB sf 1 = false := by decide +kernel

end Go.Proofs.Ytekbkdbmkjdgbaa
