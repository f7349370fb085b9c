/- Walks: sanity. -/
import Derived.Test.YtjienelkjpodkaaW28
import Derived.Test.YtjienelkjpodkaaW17
import Derived.Test.YtjienelkjpodkaaW25
import Derived.Test.YtjienelkjpodkaaL16
namespace Go.Proofs.Ytjienelkjpodkaa
open Go.RowKit

def sA : Sys := ([3, 3], [([1, 1], -4), ([1, -1], 0)])
def sB : Sys := ([5], [([2], -3), ([-2], 3)])
def pB : List Step := [{ kind := 2, d := 2, next := 1 }, { kind := 1, m := [0, 1, 0, 0, 2], next := 2 }, { kind := 4 }]
theorem ev1 : (solveF sA).1 = [2, 2] ∧ (solveF sA).2.2.1 = true ∧ (solveF sA).2.2.2 = 0 := by decide +kernel
theorem ev2 : (solveF sB).2.2.1 = false ∧ (solveF sB).2.2.2 = 0 ∧ checkF sB (solveF sB).2.1 = true := by decide +kernel
theorem ev3 : projectF sA 1 = (1, 3, true) ∧ (projectF sB 0).2.2 = false := by decide +kernel
theorem ev4 : (solveF ([], [])).2.2.2 = 1 ∧ (solveF ([64, 64, 4], [])).2.2.2 = 2 := by decide +kernel
theorem ev5 : checkF sB pB = true ∧ checkF sA pB = false ∧ checkF sB (pB.take 2) = false := by decide +kernel
theorem ev6 : holdsR ([1, 1], -4) [2, 2] = true ∧ holdsR ([1, 1], -4) [2, 1] = false ∧ validS sA = true ∧ validS ([65], []) = false := by decide +kernel

theorem blk_at {w : World} {g : Nat} (h : w.heap.size = g) (t : TypeId) (cs : Array Value) : Blk (w.alloc (.cells cs t)) g t cs ∧ (w.alloc (.cells cs t)).heap.size = g + 1 := by
  subst h
  exact ⟨Blk.new w t cs, by simp⟩
theorem Blk.r1l {w : World} {g n : Nat} {cs : Array Value} (h : Blk w g 3 cs) (l : List Int) (hc : cs = (l.map (Value.int .i64)).toArray) (hl : l.length = n) (hn : n ≤ 1000000) (hw : ∀ x ∈ l, I64 x) : R1 w TT (some ⟨g, 0, none⟩) n n l := by
  subst hc
  exact h.r1 trivial hl (by omega) hw
theorem Blk.rrl {w : World} {g n : Nat} {cs : Array Value} (h : Blk w g 37 cs) (rs : List Row) (hl : rs.length = n) (hn : n ≤ 1000000) (ha : AllR w TT cs.toList rs) : RR w TT (some ⟨g, 0, none⟩) n n rs :=
  ⟨hl, Nat.le_refl _, by omega, by omega, cs.toList, blk_sl h, ha⟩
theorem AllR.cons2 {w : World} {u v x y : Value} {r r' : Row} (h : RowIn w TT u v r) (h' : RowIn w TT x y r') : AllR w TT [u, v, x, y] [r, r'] :=
  ((AllR.nil_ w TT).snoc h).snoc h'
theorem i64_lit {l : List Int} (h : (l.all fun x => bet x (-1000) 1000) = true) : ∀ x ∈ l, I64 x := fun x hx => by
  have := bet_iff.1 (List.all_eq_true.1 h x hx)
  exact i64_small (by omega) (by omega)

/-- the literals of the fixed examples -/
structure SanMem (g0 g3 g4 g5 g8 g9 g11 : Nat) (wr : World) : Prop where
  a1 : R1 wr TT (some ⟨g0, 0, none⟩) 2 2 sA.1
  a2 : RR wr TT (some ⟨g3, 0, none⟩) 2 2 sA.2
  a3 : Blk wr g4 25 #[.slice (some ⟨g0, 0, none⟩) 2 2, .slice (some ⟨g3, 0, none⟩) 2 2]
  b1 : R1 wr TT (some ⟨g5, 0, none⟩) 1 1 sB.1
  b2 : RR wr TT (some ⟨g8, 0, none⟩) 2 2 sB.2
  b3 : Blk wr g9 25 #[.slice (some ⟨g5, 0, none⟩) 1 1, .slice (some ⟨g8, 0, none⟩) 2 2]
  p : RP wr TT (some ⟨g11, 0, none⟩) 3 3 pB
theorem SanMem.below {g0 g3 g4 g5 g8 g9 g11 : Nat} {wr w' : World} (h : SanMem g0 g3 g4 g5 g8 g9 g11 wr) (hb : Below wr.heap.size wr w') : SanMem g0 g3 g4 g5 g8 g9 g11 w' :=
  ⟨h.a1.below hb, h.a2.below hb, h.a3.old hb, h.b1.below hb, h.b2.below hb, h.b3.old hb, h.p.below hb⟩

theorem san_mem (w : World) : SanMem (w.heap.size) (w.heap.size + 1 + 1 + 1) (w.heap.size + 1 + 1 + 1 + 1) (w.heap.size + 1 + 1 + 1 + 1 + 1) (w.heap.size + 1 + 1 + 1 + 1 + 1 + 1 + 1 + 1) (w.heap.size + 1 + 1 + 1 + 1 + 1 + 1 + 1 + 1 + 1) (w.heap.size + 1 + 1 + 1 + 1 + 1 + 1 + 1 + 1 + 1 + 1 + 1) ((((((((((((w.alloc (.cells #[.int .i64 3, .int .i64 3] 3)).alloc (.cells #[.int .i64 1, .int .i64 1] 3)).alloc (.cells #[.int .i64 1, .int .i64 (-1)] 3)).alloc (.cells #[.slice (some ⟨w.heap.size + 1, 0, none⟩) 2 2, .int .i64 (-4), .slice (some ⟨w.heap.size + 1 + 1, 0, none⟩) 2 2, .int .i64 0] 37)).alloc (.cells #[.slice (some ⟨w.heap.size, 0, none⟩) 2 2, .slice (some ⟨w.heap.size + 1 + 1 + 1, 0, none⟩) 2 2] 25)).alloc (.cells #[.int .i64 5] 3)).alloc (.cells #[.int .i64 2] 3)).alloc (.cells #[.int .i64 (-2)] 3)).alloc (.cells #[.slice (some ⟨w.heap.size + 1 + 1 + 1 + 1 + 1 + 1, 0, none⟩) 1 1, .int .i64 (-3), .slice (some ⟨w.heap.size + 1 + 1 + 1 + 1 + 1 + 1 + 1, 0, none⟩) 1 1, .int .i64 3] 37)).alloc (.cells #[.slice (some ⟨w.heap.size + 1 + 1 + 1 + 1 + 1, 0, none⟩) 1 1, .slice (some ⟨w.heap.size + 1 + 1 + 1 + 1 + 1 + 1 + 1 + 1, 0, none⟩) 2 2] 25)).alloc (.cells #[.int .i64 0, .int .i64 1, .int .i64 0, .int .i64 0, .int .i64 2] 3)).alloc (.cells #[.int .i64 2, .slice none 0 0, .int .i64 0, .int .i64 2, .int .i64 0, .int .i64 0, .int .i64 1, .int .i64 0, .int .i64 1, .slice (some ⟨w.heap.size + 1 + 1 + 1 + 1 + 1 + 1 + 1 + 1 + 1 + 1, 0, none⟩) 5 5, .int .i64 0, .int .i64 0, .int .i64 0, .int .i64 0, .int .i64 2, .int .i64 0, .int .i64 4, .slice none 0 0, .int .i64 0, .int .i64 0, .int .i64 0, .int .i64 0, .int .i64 0, .int .i64 0] 49)) ∧ Below w.heap.size w ((((((((((((w.alloc (.cells #[.int .i64 3, .int .i64 3] 3)).alloc (.cells #[.int .i64 1, .int .i64 1] 3)).alloc (.cells #[.int .i64 1, .int .i64 (-1)] 3)).alloc (.cells #[.slice (some ⟨w.heap.size + 1, 0, none⟩) 2 2, .int .i64 (-4), .slice (some ⟨w.heap.size + 1 + 1, 0, none⟩) 2 2, .int .i64 0] 37)).alloc (.cells #[.slice (some ⟨w.heap.size, 0, none⟩) 2 2, .slice (some ⟨w.heap.size + 1 + 1 + 1, 0, none⟩) 2 2] 25)).alloc (.cells #[.int .i64 5] 3)).alloc (.cells #[.int .i64 2] 3)).alloc (.cells #[.int .i64 (-2)] 3)).alloc (.cells #[.slice (some ⟨w.heap.size + 1 + 1 + 1 + 1 + 1 + 1, 0, none⟩) 1 1, .int .i64 (-3), .slice (some ⟨w.heap.size + 1 + 1 + 1 + 1 + 1 + 1 + 1, 0, none⟩) 1 1, .int .i64 3] 37)).alloc (.cells #[.slice (some ⟨w.heap.size + 1 + 1 + 1 + 1 + 1, 0, none⟩) 1 1, .slice (some ⟨w.heap.size + 1 + 1 + 1 + 1 + 1 + 1 + 1 + 1, 0, none⟩) 2 2] 25)).alloc (.cells #[.int .i64 0, .int .i64 1, .int .i64 0, .int .i64 0, .int .i64 2] 3)).alloc (.cells #[.int .i64 2, .slice none 0 0, .int .i64 0, .int .i64 2, .int .i64 0, .int .i64 0, .int .i64 1, .int .i64 0, .int .i64 1, .slice (some ⟨w.heap.size + 1 + 1 + 1 + 1 + 1 + 1 + 1 + 1 + 1 + 1, 0, none⟩) 5 5, .int .i64 0, .int .i64 0, .int .i64 0, .int .i64 0, .int .i64 2, .int .i64 0, .int .i64 4, .slice none 0 0, .int .i64 0, .int .i64 0, .int .i64 0, .int .i64 0, .int .i64 0, .int .i64 0] 49)) ∧
    Sl ((((((((((((w.alloc (.cells #[.int .i64 3, .int .i64 3] 3)).alloc (.cells #[.int .i64 1, .int .i64 1] 3)).alloc (.cells #[.int .i64 1, .int .i64 (-1)] 3)).alloc (.cells #[.slice (some ⟨w.heap.size + 1, 0, none⟩) 2 2, .int .i64 (-4), .slice (some ⟨w.heap.size + 1 + 1, 0, none⟩) 2 2, .int .i64 0] 37)).alloc (.cells #[.slice (some ⟨w.heap.size, 0, none⟩) 2 2, .slice (some ⟨w.heap.size + 1 + 1 + 1, 0, none⟩) 2 2] 25)).alloc (.cells #[.int .i64 5] 3)).alloc (.cells #[.int .i64 2] 3)).alloc (.cells #[.int .i64 (-2)] 3)).alloc (.cells #[.slice (some ⟨w.heap.size + 1 + 1 + 1 + 1 + 1 + 1, 0, none⟩) 1 1, .int .i64 (-3), .slice (some ⟨w.heap.size + 1 + 1 + 1 + 1 + 1 + 1 + 1, 0, none⟩) 1 1, .int .i64 3] 37)).alloc (.cells #[.slice (some ⟨w.heap.size + 1 + 1 + 1 + 1 + 1, 0, none⟩) 1 1, .slice (some ⟨w.heap.size + 1 + 1 + 1 + 1 + 1 + 1 + 1 + 1, 0, none⟩) 2 2] 25)).alloc (.cells #[.int .i64 0, .int .i64 1, .int .i64 0, .int .i64 0, .int .i64 2] 3)).alloc (.cells #[.int .i64 2, .slice none 0 0, .int .i64 0, .int .i64 2, .int .i64 0, .int .i64 0, .int .i64 1, .int .i64 0, .int .i64 1, .slice (some ⟨w.heap.size + 1 + 1 + 1 + 1 + 1 + 1 + 1 + 1 + 1 + 1, 0, none⟩) 5 5, .int .i64 0, .int .i64 0, .int .i64 0, .int .i64 0, .int .i64 2, .int .i64 0, .int .i64 4, .slice none 0 0, .int .i64 0, .int .i64 0, .int .i64 0, .int .i64 0, .int .i64 0, .int .i64 0] 49)) TT (some ⟨w.heap.size + 1 + 1 + 1, 0, none⟩) [.slice (some ⟨w.heap.size + 1, 0, none⟩) 2 2, .int .i64 (-4)] ∧ R1 ((((((((((((w.alloc (.cells #[.int .i64 3, .int .i64 3] 3)).alloc (.cells #[.int .i64 1, .int .i64 1] 3)).alloc (.cells #[.int .i64 1, .int .i64 (-1)] 3)).alloc (.cells #[.slice (some ⟨w.heap.size + 1, 0, none⟩) 2 2, .int .i64 (-4), .slice (some ⟨w.heap.size + 1 + 1, 0, none⟩) 2 2, .int .i64 0] 37)).alloc (.cells #[.slice (some ⟨w.heap.size, 0, none⟩) 2 2, .slice (some ⟨w.heap.size + 1 + 1 + 1, 0, none⟩) 2 2] 25)).alloc (.cells #[.int .i64 5] 3)).alloc (.cells #[.int .i64 2] 3)).alloc (.cells #[.int .i64 (-2)] 3)).alloc (.cells #[.slice (some ⟨w.heap.size + 1 + 1 + 1 + 1 + 1 + 1, 0, none⟩) 1 1, .int .i64 (-3), .slice (some ⟨w.heap.size + 1 + 1 + 1 + 1 + 1 + 1 + 1, 0, none⟩) 1 1, .int .i64 3] 37)).alloc (.cells #[.slice (some ⟨w.heap.size + 1 + 1 + 1 + 1 + 1, 0, none⟩) 1 1, .slice (some ⟨w.heap.size + 1 + 1 + 1 + 1 + 1 + 1 + 1 + 1, 0, none⟩) 2 2] 25)).alloc (.cells #[.int .i64 0, .int .i64 1, .int .i64 0, .int .i64 0, .int .i64 2] 3)).alloc (.cells #[.int .i64 2, .slice none 0 0, .int .i64 0, .int .i64 2, .int .i64 0, .int .i64 0, .int .i64 1, .int .i64 0, .int .i64 1, .slice (some ⟨w.heap.size + 1 + 1 + 1 + 1 + 1 + 1 + 1 + 1 + 1 + 1, 0, none⟩) 5 5, .int .i64 0, .int .i64 0, .int .i64 0, .int .i64 0, .int .i64 2, .int .i64 0, .int .i64 4, .slice none 0 0, .int .i64 0, .int .i64 0, .int .i64 0, .int .i64 0, .int .i64 0, .int .i64 0] 49)) TT (some ⟨w.heap.size + 1, 0, none⟩) 2 2 [1, 1] := by
  obtain ⟨k0, s0⟩ := blk_at (w := w) rfl 3 #[.int .i64 3, .int .i64 3]
  obtain ⟨k1, s1⟩ := blk_at (w := _) s0 3 #[.int .i64 1, .int .i64 1]
  obtain ⟨k2, s2⟩ := blk_at (w := _) s1 3 #[.int .i64 1, .int .i64 (-1)]
  obtain ⟨k3, s3⟩ := blk_at (w := _) s2 37 #[.slice (some ⟨w.heap.size + 1, 0, none⟩) 2 2, .int .i64 (-4), .slice (some ⟨w.heap.size + 1 + 1, 0, none⟩) 2 2, .int .i64 0]
  obtain ⟨k4, s4⟩ := blk_at (w := _) s3 25 #[.slice (some ⟨w.heap.size, 0, none⟩) 2 2, .slice (some ⟨w.heap.size + 1 + 1 + 1, 0, none⟩) 2 2]
  obtain ⟨k5, s5⟩ := blk_at (w := _) s4 3 #[.int .i64 5]
  obtain ⟨k6, s6⟩ := blk_at (w := _) s5 3 #[.int .i64 2]
  obtain ⟨k7, s7⟩ := blk_at (w := _) s6 3 #[.int .i64 (-2)]
  obtain ⟨k8, s8⟩ := blk_at (w := _) s7 37 #[.slice (some ⟨w.heap.size + 1 + 1 + 1 + 1 + 1 + 1, 0, none⟩) 1 1, .int .i64 (-3), .slice (some ⟨w.heap.size + 1 + 1 + 1 + 1 + 1 + 1 + 1, 0, none⟩) 1 1, .int .i64 3]
  obtain ⟨k9, s9⟩ := blk_at (w := _) s8 25 #[.slice (some ⟨w.heap.size + 1 + 1 + 1 + 1 + 1, 0, none⟩) 1 1, .slice (some ⟨w.heap.size + 1 + 1 + 1 + 1 + 1 + 1 + 1 + 1, 0, none⟩) 2 2]
  obtain ⟨k10, s10⟩ := blk_at (w := _) s9 3 #[.int .i64 0, .int .i64 1, .int .i64 0, .int .i64 0, .int .i64 2]
  obtain ⟨k11, s11⟩ := blk_at (w := _) s10 49 #[.int .i64 2, .slice none 0 0, .int .i64 0, .int .i64 2, .int .i64 0, .int .i64 0, .int .i64 1, .int .i64 0, .int .i64 1, .slice (some ⟨w.heap.size + 1 + 1 + 1 + 1 + 1 + 1 + 1 + 1 + 1 + 1, 0, none⟩) 5 5, .int .i64 0, .int .i64 0, .int .i64 0, .int .i64 0, .int .i64 2, .int .i64 0, .int .i64 4, .slice none 0 0, .int .i64 0, .int .i64 0, .int .i64 0, .int .i64 0, .int .i64 0, .int .i64 0]
  have K0 := (((((((((((k0).alloc (.cells #[.int .i64 1, .int .i64 1] 3)).alloc (.cells #[.int .i64 1, .int .i64 (-1)] 3)).alloc (.cells #[.slice (some ⟨w.heap.size + 1, 0, none⟩) 2 2, .int .i64 (-4), .slice (some ⟨w.heap.size + 1 + 1, 0, none⟩) 2 2, .int .i64 0] 37)).alloc (.cells #[.slice (some ⟨w.heap.size, 0, none⟩) 2 2, .slice (some ⟨w.heap.size + 1 + 1 + 1, 0, none⟩) 2 2] 25)).alloc (.cells #[.int .i64 5] 3)).alloc (.cells #[.int .i64 2] 3)).alloc (.cells #[.int .i64 (-2)] 3)).alloc (.cells #[.slice (some ⟨w.heap.size + 1 + 1 + 1 + 1 + 1 + 1, 0, none⟩) 1 1, .int .i64 (-3), .slice (some ⟨w.heap.size + 1 + 1 + 1 + 1 + 1 + 1 + 1, 0, none⟩) 1 1, .int .i64 3] 37)).alloc (.cells #[.slice (some ⟨w.heap.size + 1 + 1 + 1 + 1 + 1, 0, none⟩) 1 1, .slice (some ⟨w.heap.size + 1 + 1 + 1 + 1 + 1 + 1 + 1 + 1, 0, none⟩) 2 2] 25)).alloc (.cells #[.int .i64 0, .int .i64 1, .int .i64 0, .int .i64 0, .int .i64 2] 3)).alloc (.cells #[.int .i64 2, .slice none 0 0, .int .i64 0, .int .i64 2, .int .i64 0, .int .i64 0, .int .i64 1, .int .i64 0, .int .i64 1, .slice (some ⟨w.heap.size + 1 + 1 + 1 + 1 + 1 + 1 + 1 + 1 + 1 + 1, 0, none⟩) 5 5, .int .i64 0, .int .i64 0, .int .i64 0, .int .i64 0, .int .i64 2, .int .i64 0, .int .i64 4, .slice none 0 0, .int .i64 0, .int .i64 0, .int .i64 0, .int .i64 0, .int .i64 0, .int .i64 0] 49)
  have K1 := ((((((((((k1).alloc (.cells #[.int .i64 1, .int .i64 (-1)] 3)).alloc (.cells #[.slice (some ⟨w.heap.size + 1, 0, none⟩) 2 2, .int .i64 (-4), .slice (some ⟨w.heap.size + 1 + 1, 0, none⟩) 2 2, .int .i64 0] 37)).alloc (.cells #[.slice (some ⟨w.heap.size, 0, none⟩) 2 2, .slice (some ⟨w.heap.size + 1 + 1 + 1, 0, none⟩) 2 2] 25)).alloc (.cells #[.int .i64 5] 3)).alloc (.cells #[.int .i64 2] 3)).alloc (.cells #[.int .i64 (-2)] 3)).alloc (.cells #[.slice (some ⟨w.heap.size + 1 + 1 + 1 + 1 + 1 + 1, 0, none⟩) 1 1, .int .i64 (-3), .slice (some ⟨w.heap.size + 1 + 1 + 1 + 1 + 1 + 1 + 1, 0, none⟩) 1 1, .int .i64 3] 37)).alloc (.cells #[.slice (some ⟨w.heap.size + 1 + 1 + 1 + 1 + 1, 0, none⟩) 1 1, .slice (some ⟨w.heap.size + 1 + 1 + 1 + 1 + 1 + 1 + 1 + 1, 0, none⟩) 2 2] 25)).alloc (.cells #[.int .i64 0, .int .i64 1, .int .i64 0, .int .i64 0, .int .i64 2] 3)).alloc (.cells #[.int .i64 2, .slice none 0 0, .int .i64 0, .int .i64 2, .int .i64 0, .int .i64 0, .int .i64 1, .int .i64 0, .int .i64 1, .slice (some ⟨w.heap.size + 1 + 1 + 1 + 1 + 1 + 1 + 1 + 1 + 1 + 1, 0, none⟩) 5 5, .int .i64 0, .int .i64 0, .int .i64 0, .int .i64 0, .int .i64 2, .int .i64 0, .int .i64 4, .slice none 0 0, .int .i64 0, .int .i64 0, .int .i64 0, .int .i64 0, .int .i64 0, .int .i64 0] 49)
  have K2 := (((((((((k2).alloc (.cells #[.slice (some ⟨w.heap.size + 1, 0, none⟩) 2 2, .int .i64 (-4), .slice (some ⟨w.heap.size + 1 + 1, 0, none⟩) 2 2, .int .i64 0] 37)).alloc (.cells #[.slice (some ⟨w.heap.size, 0, none⟩) 2 2, .slice (some ⟨w.heap.size + 1 + 1 + 1, 0, none⟩) 2 2] 25)).alloc (.cells #[.int .i64 5] 3)).alloc (.cells #[.int .i64 2] 3)).alloc (.cells #[.int .i64 (-2)] 3)).alloc (.cells #[.slice (some ⟨w.heap.size + 1 + 1 + 1 + 1 + 1 + 1, 0, none⟩) 1 1, .int .i64 (-3), .slice (some ⟨w.heap.size + 1 + 1 + 1 + 1 + 1 + 1 + 1, 0, none⟩) 1 1, .int .i64 3] 37)).alloc (.cells #[.slice (some ⟨w.heap.size + 1 + 1 + 1 + 1 + 1, 0, none⟩) 1 1, .slice (some ⟨w.heap.size + 1 + 1 + 1 + 1 + 1 + 1 + 1 + 1, 0, none⟩) 2 2] 25)).alloc (.cells #[.int .i64 0, .int .i64 1, .int .i64 0, .int .i64 0, .int .i64 2] 3)).alloc (.cells #[.int .i64 2, .slice none 0 0, .int .i64 0, .int .i64 2, .int .i64 0, .int .i64 0, .int .i64 1, .int .i64 0, .int .i64 1, .slice (some ⟨w.heap.size + 1 + 1 + 1 + 1 + 1 + 1 + 1 + 1 + 1 + 1, 0, none⟩) 5 5, .int .i64 0, .int .i64 0, .int .i64 0, .int .i64 0, .int .i64 2, .int .i64 0, .int .i64 4, .slice none 0 0, .int .i64 0, .int .i64 0, .int .i64 0, .int .i64 0, .int .i64 0, .int .i64 0] 49)
  have K3 := ((((((((k3).alloc (.cells #[.slice (some ⟨w.heap.size, 0, none⟩) 2 2, .slice (some ⟨w.heap.size + 1 + 1 + 1, 0, none⟩) 2 2] 25)).alloc (.cells #[.int .i64 5] 3)).alloc (.cells #[.int .i64 2] 3)).alloc (.cells #[.int .i64 (-2)] 3)).alloc (.cells #[.slice (some ⟨w.heap.size + 1 + 1 + 1 + 1 + 1 + 1, 0, none⟩) 1 1, .int .i64 (-3), .slice (some ⟨w.heap.size + 1 + 1 + 1 + 1 + 1 + 1 + 1, 0, none⟩) 1 1, .int .i64 3] 37)).alloc (.cells #[.slice (some ⟨w.heap.size + 1 + 1 + 1 + 1 + 1, 0, none⟩) 1 1, .slice (some ⟨w.heap.size + 1 + 1 + 1 + 1 + 1 + 1 + 1 + 1, 0, none⟩) 2 2] 25)).alloc (.cells #[.int .i64 0, .int .i64 1, .int .i64 0, .int .i64 0, .int .i64 2] 3)).alloc (.cells #[.int .i64 2, .slice none 0 0, .int .i64 0, .int .i64 2, .int .i64 0, .int .i64 0, .int .i64 1, .int .i64 0, .int .i64 1, .slice (some ⟨w.heap.size + 1 + 1 + 1 + 1 + 1 + 1 + 1 + 1 + 1 + 1, 0, none⟩) 5 5, .int .i64 0, .int .i64 0, .int .i64 0, .int .i64 0, .int .i64 2, .int .i64 0, .int .i64 4, .slice none 0 0, .int .i64 0, .int .i64 0, .int .i64 0, .int .i64 0, .int .i64 0, .int .i64 0] 49)
  have K4 := (((((((k4).alloc (.cells #[.int .i64 5] 3)).alloc (.cells #[.int .i64 2] 3)).alloc (.cells #[.int .i64 (-2)] 3)).alloc (.cells #[.slice (some ⟨w.heap.size + 1 + 1 + 1 + 1 + 1 + 1, 0, none⟩) 1 1, .int .i64 (-3), .slice (some ⟨w.heap.size + 1 + 1 + 1 + 1 + 1 + 1 + 1, 0, none⟩) 1 1, .int .i64 3] 37)).alloc (.cells #[.slice (some ⟨w.heap.size + 1 + 1 + 1 + 1 + 1, 0, none⟩) 1 1, .slice (some ⟨w.heap.size + 1 + 1 + 1 + 1 + 1 + 1 + 1 + 1, 0, none⟩) 2 2] 25)).alloc (.cells #[.int .i64 0, .int .i64 1, .int .i64 0, .int .i64 0, .int .i64 2] 3)).alloc (.cells #[.int .i64 2, .slice none 0 0, .int .i64 0, .int .i64 2, .int .i64 0, .int .i64 0, .int .i64 1, .int .i64 0, .int .i64 1, .slice (some ⟨w.heap.size + 1 + 1 + 1 + 1 + 1 + 1 + 1 + 1 + 1 + 1, 0, none⟩) 5 5, .int .i64 0, .int .i64 0, .int .i64 0, .int .i64 0, .int .i64 2, .int .i64 0, .int .i64 4, .slice none 0 0, .int .i64 0, .int .i64 0, .int .i64 0, .int .i64 0, .int .i64 0, .int .i64 0] 49)
  have K5 := ((((((k5).alloc (.cells #[.int .i64 2] 3)).alloc (.cells #[.int .i64 (-2)] 3)).alloc (.cells #[.slice (some ⟨w.heap.size + 1 + 1 + 1 + 1 + 1 + 1, 0, none⟩) 1 1, .int .i64 (-3), .slice (some ⟨w.heap.size + 1 + 1 + 1 + 1 + 1 + 1 + 1, 0, none⟩) 1 1, .int .i64 3] 37)).alloc (.cells #[.slice (some ⟨w.heap.size + 1 + 1 + 1 + 1 + 1, 0, none⟩) 1 1, .slice (some ⟨w.heap.size + 1 + 1 + 1 + 1 + 1 + 1 + 1 + 1, 0, none⟩) 2 2] 25)).alloc (.cells #[.int .i64 0, .int .i64 1, .int .i64 0, .int .i64 0, .int .i64 2] 3)).alloc (.cells #[.int .i64 2, .slice none 0 0, .int .i64 0, .int .i64 2, .int .i64 0, .int .i64 0, .int .i64 1, .int .i64 0, .int .i64 1, .slice (some ⟨w.heap.size + 1 + 1 + 1 + 1 + 1 + 1 + 1 + 1 + 1 + 1, 0, none⟩) 5 5, .int .i64 0, .int .i64 0, .int .i64 0, .int .i64 0, .int .i64 2, .int .i64 0, .int .i64 4, .slice none 0 0, .int .i64 0, .int .i64 0, .int .i64 0, .int .i64 0, .int .i64 0, .int .i64 0] 49)
  have K6 := (((((k6).alloc (.cells #[.int .i64 (-2)] 3)).alloc (.cells #[.slice (some ⟨w.heap.size + 1 + 1 + 1 + 1 + 1 + 1, 0, none⟩) 1 1, .int .i64 (-3), .slice (some ⟨w.heap.size + 1 + 1 + 1 + 1 + 1 + 1 + 1, 0, none⟩) 1 1, .int .i64 3] 37)).alloc (.cells #[.slice (some ⟨w.heap.size + 1 + 1 + 1 + 1 + 1, 0, none⟩) 1 1, .slice (some ⟨w.heap.size + 1 + 1 + 1 + 1 + 1 + 1 + 1 + 1, 0, none⟩) 2 2] 25)).alloc (.cells #[.int .i64 0, .int .i64 1, .int .i64 0, .int .i64 0, .int .i64 2] 3)).alloc (.cells #[.int .i64 2, .slice none 0 0, .int .i64 0, .int .i64 2, .int .i64 0, .int .i64 0, .int .i64 1, .int .i64 0, .int .i64 1, .slice (some ⟨w.heap.size + 1 + 1 + 1 + 1 + 1 + 1 + 1 + 1 + 1 + 1, 0, none⟩) 5 5, .int .i64 0, .int .i64 0, .int .i64 0, .int .i64 0, .int .i64 2, .int .i64 0, .int .i64 4, .slice none 0 0, .int .i64 0, .int .i64 0, .int .i64 0, .int .i64 0, .int .i64 0, .int .i64 0] 49)
  have K7 := ((((k7).alloc (.cells #[.slice (some ⟨w.heap.size + 1 + 1 + 1 + 1 + 1 + 1, 0, none⟩) 1 1, .int .i64 (-3), .slice (some ⟨w.heap.size + 1 + 1 + 1 + 1 + 1 + 1 + 1, 0, none⟩) 1 1, .int .i64 3] 37)).alloc (.cells #[.slice (some ⟨w.heap.size + 1 + 1 + 1 + 1 + 1, 0, none⟩) 1 1, .slice (some ⟨w.heap.size + 1 + 1 + 1 + 1 + 1 + 1 + 1 + 1, 0, none⟩) 2 2] 25)).alloc (.cells #[.int .i64 0, .int .i64 1, .int .i64 0, .int .i64 0, .int .i64 2] 3)).alloc (.cells #[.int .i64 2, .slice none 0 0, .int .i64 0, .int .i64 2, .int .i64 0, .int .i64 0, .int .i64 1, .int .i64 0, .int .i64 1, .slice (some ⟨w.heap.size + 1 + 1 + 1 + 1 + 1 + 1 + 1 + 1 + 1 + 1, 0, none⟩) 5 5, .int .i64 0, .int .i64 0, .int .i64 0, .int .i64 0, .int .i64 2, .int .i64 0, .int .i64 4, .slice none 0 0, .int .i64 0, .int .i64 0, .int .i64 0, .int .i64 0, .int .i64 0, .int .i64 0] 49)
  have K8 := (((k8).alloc (.cells #[.slice (some ⟨w.heap.size + 1 + 1 + 1 + 1 + 1, 0, none⟩) 1 1, .slice (some ⟨w.heap.size + 1 + 1 + 1 + 1 + 1 + 1 + 1 + 1, 0, none⟩) 2 2] 25)).alloc (.cells #[.int .i64 0, .int .i64 1, .int .i64 0, .int .i64 0, .int .i64 2] 3)).alloc (.cells #[.int .i64 2, .slice none 0 0, .int .i64 0, .int .i64 2, .int .i64 0, .int .i64 0, .int .i64 1, .int .i64 0, .int .i64 1, .slice (some ⟨w.heap.size + 1 + 1 + 1 + 1 + 1 + 1 + 1 + 1 + 1 + 1, 0, none⟩) 5 5, .int .i64 0, .int .i64 0, .int .i64 0, .int .i64 0, .int .i64 2, .int .i64 0, .int .i64 4, .slice none 0 0, .int .i64 0, .int .i64 0, .int .i64 0, .int .i64 0, .int .i64 0, .int .i64 0] 49)
  have K9 := ((k9).alloc (.cells #[.int .i64 0, .int .i64 1, .int .i64 0, .int .i64 0, .int .i64 2] 3)).alloc (.cells #[.int .i64 2, .slice none 0 0, .int .i64 0, .int .i64 2, .int .i64 0, .int .i64 0, .int .i64 1, .int .i64 0, .int .i64 1, .slice (some ⟨w.heap.size + 1 + 1 + 1 + 1 + 1 + 1 + 1 + 1 + 1 + 1, 0, none⟩) 5 5, .int .i64 0, .int .i64 0, .int .i64 0, .int .i64 0, .int .i64 2, .int .i64 0, .int .i64 4, .slice none 0 0, .int .i64 0, .int .i64 0, .int .i64 0, .int .i64 0, .int .i64 0, .int .i64 0] 49)
  have K10 := (k10).alloc (.cells #[.int .i64 2, .slice none 0 0, .int .i64 0, .int .i64 2, .int .i64 0, .int .i64 0, .int .i64 1, .int .i64 0, .int .i64 1, .slice (some ⟨w.heap.size + 1 + 1 + 1 + 1 + 1 + 1 + 1 + 1 + 1 + 1, 0, none⟩) 5 5, .int .i64 0, .int .i64 0, .int .i64 0, .int .i64 0, .int .i64 2, .int .i64 0, .int .i64 4, .slice none 0 0, .int .i64 0, .int .i64 0, .int .i64 0, .int .i64 0, .int .i64 0, .int .i64 0] 49)
  have K11 := k11
  have hb : Below w.heap.size w ((((((((((((w.alloc (.cells #[.int .i64 3, .int .i64 3] 3)).alloc (.cells #[.int .i64 1, .int .i64 1] 3)).alloc (.cells #[.int .i64 1, .int .i64 (-1)] 3)).alloc (.cells #[.slice (some ⟨w.heap.size + 1, 0, none⟩) 2 2, .int .i64 (-4), .slice (some ⟨w.heap.size + 1 + 1, 0, none⟩) 2 2, .int .i64 0] 37)).alloc (.cells #[.slice (some ⟨w.heap.size, 0, none⟩) 2 2, .slice (some ⟨w.heap.size + 1 + 1 + 1, 0, none⟩) 2 2] 25)).alloc (.cells #[.int .i64 5] 3)).alloc (.cells #[.int .i64 2] 3)).alloc (.cells #[.int .i64 (-2)] 3)).alloc (.cells #[.slice (some ⟨w.heap.size + 1 + 1 + 1 + 1 + 1 + 1, 0, none⟩) 1 1, .int .i64 (-3), .slice (some ⟨w.heap.size + 1 + 1 + 1 + 1 + 1 + 1 + 1, 0, none⟩) 1 1, .int .i64 3] 37)).alloc (.cells #[.slice (some ⟨w.heap.size + 1 + 1 + 1 + 1 + 1, 0, none⟩) 1 1, .slice (some ⟨w.heap.size + 1 + 1 + 1 + 1 + 1 + 1 + 1 + 1, 0, none⟩) 2 2] 25)).alloc (.cells #[.int .i64 0, .int .i64 1, .int .i64 0, .int .i64 0, .int .i64 2] 3)).alloc (.cells #[.int .i64 2, .slice none 0 0, .int .i64 0, .int .i64 2, .int .i64 0, .int .i64 0, .int .i64 1, .int .i64 0, .int .i64 1, .slice (some ⟨w.heap.size + 1 + 1 + 1 + 1 + 1 + 1 + 1 + 1 + 1 + 1, 0, none⟩) 5 5, .int .i64 0, .int .i64 0, .int .i64 0, .int .i64 0, .int .i64 2, .int .i64 0, .int .i64 4, .slice none 0 0, .int .i64 0, .int .i64 0, .int .i64 0, .int .i64 0, .int .i64 0, .int .i64 0] 49)) := ((((((((((((Below.refl w.heap.size w).alloc (by first | exact Nat.le_refl _ | (simp <;> omega)) _).alloc (by first | exact Nat.le_refl _ | (simp <;> omega)) _).alloc (by first | exact Nat.le_refl _ | (simp <;> omega)) _).alloc (by first | exact Nat.le_refl _ | (simp <;> omega)) _).alloc (by first | exact Nat.le_refl _ | (simp <;> omega)) _).alloc (by first | exact Nat.le_refl _ | (simp <;> omega)) _).alloc (by first | exact Nat.le_refl _ | (simp <;> omega)) _).alloc (by first | exact Nat.le_refl _ | (simp <;> omega)) _).alloc (by first | exact Nat.le_refl _ | (simp <;> omega)) _).alloc (by first | exact Nat.le_refl _ | (simp <;> omega)) _).alloc (by first | exact Nat.le_refl _ | (simp <;> omega)) _).alloc (by first | exact Nat.le_refl _ | (simp <;> omega)) _
  have r1 := K1.r1l [1, 1] rfl rfl (by decide) (i64_lit (by decide))
  have r2 := K2.r1l [1, -1] rfl rfl (by decide) (i64_lit (by decide))
  have r6 := K6.r1l [2] rfl rfl (by decide) (i64_lit (by decide))
  have r7 := K7.r1l [-2] rfl rfl (by decide) (i64_lit (by decide))
  have r10 := K10.r1l [0, 1, 0, 0, 2] rfl rfl (by decide) (i64_lit (by decide))
  refine ⟨⟨K0.r1l [3, 3] rfl rfl (by decide) (i64_lit (by decide)), K3.rrl sA.2 rfl (by decide) (AllR.cons2 ⟨_, _, _, rfl, rfl, r1, i64_small (by decide) (by decide)⟩ ⟨_, _, _, rfl, rfl, r2, i64_small (by decide) (by decide)⟩), K4,
    K5.r1l [5] rfl rfl (by decide) (i64_lit (by decide)), K8.rrl sB.2 rfl (by decide) (AllR.cons2 ⟨_, _, _, rfl, rfl, r6, i64_small (by decide) (by decide)⟩ ⟨_, _, _, rfl, rfl, r7, i64_small (by decide) (by decide)⟩), K9, ?_⟩, hb, ?_, r1⟩
  · refine ⟨rfl, Nat.le_refl _, by decide, by decide, fun s hs => ?_, _, blk_sl K11, ?_⟩
    · simp only [pB, List.mem_cons, List.not_mem_nil, or_false] at hs
      rcases hs with rfl | rfl | rfl <;> constructor <;> exact i64_small (by decide) (by decide)
    · have h0 := (((AllS.nil_ ((((((((((((w.alloc (.cells #[.int .i64 3, .int .i64 3] 3)).alloc (.cells #[.int .i64 1, .int .i64 1] 3)).alloc (.cells #[.int .i64 1, .int .i64 (-1)] 3)).alloc (.cells #[.slice (some ⟨w.heap.size + 1, 0, none⟩) 2 2, .int .i64 (-4), .slice (some ⟨w.heap.size + 1 + 1, 0, none⟩) 2 2, .int .i64 0] 37)).alloc (.cells #[.slice (some ⟨w.heap.size, 0, none⟩) 2 2, .slice (some ⟨w.heap.size + 1 + 1 + 1, 0, none⟩) 2 2] 25)).alloc (.cells #[.int .i64 5] 3)).alloc (.cells #[.int .i64 2] 3)).alloc (.cells #[.int .i64 (-2)] 3)).alloc (.cells #[.slice (some ⟨w.heap.size + 1 + 1 + 1 + 1 + 1 + 1, 0, none⟩) 1 1, .int .i64 (-3), .slice (some ⟨w.heap.size + 1 + 1 + 1 + 1 + 1 + 1 + 1, 0, none⟩) 1 1, .int .i64 3] 37)).alloc (.cells #[.slice (some ⟨w.heap.size + 1 + 1 + 1 + 1 + 1, 0, none⟩) 1 1, .slice (some ⟨w.heap.size + 1 + 1 + 1 + 1 + 1 + 1 + 1 + 1, 0, none⟩) 2 2] 25)).alloc (.cells #[.int .i64 0, .int .i64 1, .int .i64 0, .int .i64 0, .int .i64 2] 3)).alloc (.cells #[.int .i64 2, .slice none 0 0, .int .i64 0, .int .i64 2, .int .i64 0, .int .i64 0, .int .i64 1, .int .i64 0, .int .i64 1, .slice (some ⟨w.heap.size + 1 + 1 + 1 + 1 + 1 + 1 + 1 + 1 + 1 + 1, 0, none⟩) 5 5, .int .i64 0, .int .i64 0, .int .i64 0, .int .i64 0, .int .i64 2, .int .i64 0, .int .i64 4, .slice none 0 0, .int .i64 0, .int .i64 0, .int .i64 0, .int .i64 0, .int .i64 0, .int .i64 0] 49)) TT).snoc (s := { kind := 2, d := 2, next := 1 }) (R1.nil_ _ _)).snoc (s := { kind := 1, m := [0, 1, 0, 0, 2], next := 2 }) r10).snoc (s := { kind := 4 }) (R1.nil_ _ _)
      exact h0
  · intro j u hu
    exact (blk_sl K3) j u (by
      have hj : j = 0 ∨ j = 1 := by
        have := (List.getElem?_eq_some_iff.1 hu).1
        simp at this
        omega
      rcases hj with rfl | rfl <;> exact hu)
end Go.Proofs.Ytjienelkjpodkaa
namespace Go.Proofs.Ytjienelkjpodkaa
open Go.RowKit

/-- a world in which the literals of sanity lie -/
structure SanW (w : World) (g0 g1 g3 g4 g5 g8 g9 g11 : Nat) (W : World) : Prop where
  m : SanMem g0 g3 g4 g5 g8 g9 g11 W
  b : Below w.heap.size w W
  s : Sl W TT (some ⟨g3, 0, none⟩) [.slice (some ⟨g1, 0, none⟩) 2 2, .int .i64 (-4)]
  r : R1 W TT (some ⟨g1, 0, none⟩) 2 2 [1, 1]
section
variable {w W W' : World} {g0 g1 g3 g4 g5 g8 g9 g11 : Nat}
theorem SanW.step (h : SanW w g0 g1 g3 g4 g5 g8 g9 g11 W) (hb : Below W.heap.size W W') : SanW w g0 g1 g3 g4 g5 g8 g9 g11 W' :=
  ⟨h.m.below hb, h.b.trans (hb.mono h.b.size), h.s.old (Old.of_below hb), h.r.below hb⟩
theorem SanW.drew (h : SanW w g0 g1 g3 g4 g5 g8 g9 g11 W) : SanW w g0 g1 g3 g4 g5 g8 g9 g11 W.drew := h.step (Below.refl _ _).drew
theorem SanW.alloc (h : SanW w g0 g1 g3 g4 g5 g8 g9 g11 W) (o : Obj) : SanW w g0 g1 g3 g4 g5 g8 g9 g11 (W.alloc o) := h.step ((Below.refl _ _).alloc (Nat.le_refl _) _)
theorem SanW.c40 (h : SanW w g0 g1 g3 g4 g5 g8 g9 g11 W) : W.cell? ⟨g4, 0, none⟩ = some (.slice (some ⟨g0, 0, none⟩) 2 2) := h.m.a3.cell 0
theorem SanW.c41 (h : SanW w g0 g1 g3 g4 g5 g8 g9 g11 W) : W.cell? ⟨g4, 1, none⟩ = some (.slice (some ⟨g3, 0, none⟩) 2 2) := h.m.a3.cell 1
theorem SanW.c90 (h : SanW w g0 g1 g3 g4 g5 g8 g9 g11 W) : W.cell? ⟨g9, 0, none⟩ = some (.slice (some ⟨g5, 0, none⟩) 1 1) := h.m.b3.cell 0
theorem SanW.c91 (h : SanW w g0 g1 g3 g4 g5 g8 g9 g11 W) : W.cell? ⟨g9, 1, none⟩ = some (.slice (some ⟨g8, 0, none⟩) 2 2) := h.m.b3.cell 1
theorem SanW.c30 (h : SanW w g0 g1 g3 g4 g5 g8 g9 g11 W) : W.cell? ⟨g3, 0, none⟩ = some (.slice (some ⟨g1, 0, none⟩) 2 2) := by
  obtain ⟨ad, h1, _, h2⟩ := h.s 0 _ rfl
  cases h1
  exact h2
theorem SanW.c31 (h : SanW w g0 g1 g3 g4 g5 g8 g9 g11 W) : W.cell? ⟨g3, 1, none⟩ = some (.int .i64 (-4)) := by
  obtain ⟨ad, h1, _, h2⟩ := h.s 1 _ rfl
  cases h1
  exact h2
theorem R1.tt {W : World} {K : Nat → Prop} {A : Option Addr} {n c : Nat} {l : List Int} (h : R1 W K A n c l) : R1 W TT A n c l := h.weak fun _ _ _ => trivial
theorem RP.tt {W : World} {K : Nat → Prop} {A : Option Addr} {n c : Nat} {l : List Step} (h : RP W K A n c l) : RP W TT A n c l := h.weak fun _ _ _ => trivial

theorem run_sliceTo {o : Oper} {a : Act} {x : Operand} (ho : o.op = .slice 29 x none (some (.const (.int .i64 2))) none) (hx : a.eval x = .slice (some ⟨g11, 0, none⟩) 3 3) (W : World) : (execOp a.eval o).run Try.prog W = .ok (.value (.slice (some ⟨g11, 0, none⟩) 2 3)) W := by
  unfold execOp
  simp only [ho, hx]
  go_simp

theorem run_field4 {o : Oper} {a : Act} {x : Operand} (ho : o.op = .fieldAddr 25 x 1) (hx : a.eval x = .pointer (some ⟨g4, 0, none⟩)) (W : World) : (execOp a.eval o).run Try.prog W = .ok (.value (.pointer (some ⟨g4, 1, none⟩))) W := by
  unfold execOp
  simp only [ho, hx]
  go_simp
theorem run_index3 {o : Oper} {a : Act} {x : Operand} (ho : o.op = .indexAddr 23 x (.const (.int .i64 0))) (hx : a.eval x = .slice (some ⟨g3, 0, none⟩) 2 2) (W : World) : (execOp a.eval o).run Try.prog W = .ok (.value (.pointer (some ⟨g3, 0, none⟩))) W := by
  unfold execOp
  simp only [ho, hx]
  go_simp
theorem run_two22 {o : Oper} {a : Act} (y : Int) (ho : o.op = .buildSlice 22 2 #[(0, .const (.int .i64 2)), (1, .const (.int .i64 y))]) (W : World) : (execOp a.eval o).run Try.prog W = .ok (.value (.slice (some ⟨W.heap.size, 0, none⟩) 2 2)) (W.alloc (.cells #[.int .i64 2, .int .i64 y] 3)) := by
  unfold execOp
  simp only [ho]
  go_simp

theorem san_s1 (h : SanW w g0 g1 g3 g4 g5 g8 g9 g11 W) : Calls Try.prog 10 #[.agg #[.slice (some ⟨g0, 0, none⟩) 2 2, .slice (some ⟨g3, 0, none⟩) 2 2]] W fun e w' =>
    ∃ xA xn xc pA pn pc, e = .returned (.tuple #[.slice xA xn xc, .slice pA pn pc, .bool true, .int .i64 0]) ∧ R1 w' TT xA xn xc [2, 2] ∧ SanW w g0 g1 g3 g4 g5 g8 g9 g11 w' := by
  refine (solve_c TT _ _ 2 2 2 2 sA W h.m.a1 h.m.a2).mono ?_
  rintro e w' ⟨xA, xn, xc, pA, pn, pc, rfl, h1, _, hb⟩
  rw [ev1.1] at h1
  rw [ev1.2.1, ev1.2.2]
  exact ⟨xA, xn, xc, pA, pn, pc, rfl, h1.tt, h.step hb⟩
theorem san_s2 (h : SanW w g0 g1 g3 g4 g5 g8 g9 g11 W) : Calls Try.prog 10 #[.agg #[.slice (some ⟨g5, 0, none⟩) 1 1, .slice (some ⟨g8, 0, none⟩) 2 2]] W fun e w' =>
    ∃ xA xn xc pA pn pc, e = .returned (.tuple #[.slice xA xn xc, .slice pA pn pc, .bool false, .int .i64 0]) ∧ RP w' TT pA pn pc (solveF sB).2.1 ∧ Below W.heap.size W w' ∧ SanW w g0 g1 g3 g4 g5 g8 g9 g11 w' := by
  refine (solve_c TT _ _ 1 1 2 2 sB W h.m.b1 h.m.b2).mono ?_
  rintro e w' ⟨xA, xn, xc, pA, pn, pc, rfl, _, h2, hb⟩
  rw [ev2.1, ev2.2.1]
  exact ⟨xA, xn, xc, pA, pn, pc, rfl, h2.tt, hb, h.step hb⟩
theorem san_s3 (h : SanW w g0 g1 g3 g4 g5 g8 g9 g11 W) : Calls Try.prog 18 #[.agg #[.slice (some ⟨g0, 0, none⟩) 2 2, .slice (some ⟨g3, 0, none⟩) 2 2], .int .i64 1] W fun e w' =>
    e = .returned (.tuple #[.int .i64 1, .int .i64 3, .bool true]) ∧ Below W.heap.size W w' ∧ SanW w g0 g1 g3 g4 g5 g8 g9 g11 w' := by
  refine (project_c TT _ _ 2 2 2 2 sA 1 W h.m.a1 h.m.a2 (i64_small (by decide) (by decide))).mono ?_
  rintro e w' ⟨rfl, hb⟩
  rw [ev3.1]
  exact ⟨rfl, hb, h.step hb⟩
theorem san_s4 (h : SanW w g0 g1 g3 g4 g5 g8 g9 g11 W) : Calls Try.prog 18 #[.agg #[.slice (some ⟨g5, 0, none⟩) 1 1, .slice (some ⟨g8, 0, none⟩) 2 2], .int .i64 0] W fun e w' =>
    ∃ a b, e = .returned (.tuple #[a, b, .bool false]) ∧ Below W.heap.size W w' ∧ SanW w g0 g1 g3 g4 g5 g8 g9 g11 w' := by
  refine (project_c TT _ _ 1 1 2 2 sB 0 W h.m.b1 h.m.b2 (i64_small (by decide) (by decide))).mono ?_
  rintro e w' ⟨rfl, hb⟩
  rw [ev3.2]
  exact ⟨_, _, rfl, hb, h.step hb⟩
theorem san_s5 (h : SanW w g0 g1 g3 g4 g5 g8 g9 g11 W) : Calls Try.prog 10 #[.agg #[.slice none 0 0, .slice none 0 0]] W fun e w' =>
    ∃ a b c, e = .returned (.tuple #[a, b, c, .int .i64 1]) ∧ Below W.heap.size W w' ∧ SanW w g0 g1 g3 g4 g5 g8 g9 g11 w' := by
  refine (solve_c TT _ _ 0 0 0 0 ([], []) W (R1.nil_ _ _) (RR.nil_ _ _)).mono ?_
  rintro e w' ⟨xA, xn, xc, pA, pn, pc, rfl, _, _, hb⟩
  rw [ev4.1]
  exact ⟨_, _, _, rfl, hb, h.step hb⟩
theorem san_s6 (h : SanW w g0 g1 g3 g4 g5 g8 g9 g11 W) : Calls Try.prog 10 #[.agg #[.slice (some ⟨W.heap.size, 0, none⟩) 3 3, .slice none 0 0]] (W.alloc (.cells #[.int .i64 64, .int .i64 64, .int .i64 4] 3)) fun e w' =>
    ∃ a b c, e = .returned (.tuple #[a, b, c, .int .i64 2]) ∧ Below W.heap.size W w' ∧ SanW w g0 g1 g3 g4 g5 g8 g9 g11 w' := by
  have hb0 : Below W.heap.size W (W.alloc (.cells #[.int .i64 64, .int .i64 64, .int .i64 4] 3)) := (Below.refl _ _).alloc (Nat.le_refl _) _
  refine (solve_c TT _ _ 3 3 0 0 ([64, 64, 4], []) _ ((Blk.new W 3 #[.int .i64 64, .int .i64 64, .int .i64 4]).r1l [64, 64, 4] rfl rfl (by decide) (i64_lit (by decide))) (RR.nil_ _ _)).mono ?_
  rintro e w' ⟨xA, xn, xc, pA, pn, pc, rfl, _, _, hb⟩
  rw [ev4.2]
  have hb1 := hb0.trans (hb.mono hb0.size)
  exact ⟨_, _, _, rfl, hb1, h.step hb1⟩
theorem san_same {A : Option Addr} {n c : Nat} (hs : SanW w g0 g1 g3 g4 g5 g8 g9 g11 W) (h : R1 W TT A n c [2, 2]) : Calls Try.prog 17 #[.slice A n c, .slice (some ⟨W.heap.size, 0, none⟩) 2 2] (W.alloc (.cells #[.int .i64 2, .int .i64 2] 3)) fun e w' =>
    e = .returned (.bool true) ∧ Below W.heap.size W w' ∧ SanW w g0 g1 g3 g4 g5 g8 g9 g11 w' := by
  have hb0 : Below W.heap.size W (W.alloc (.cells #[.int .i64 2, .int .i64 2] 3)) := (Below.refl _ _).alloc (Nat.le_refl _) _
  refine (same_c TT TT _ _ n c 2 2 [2, 2] [2, 2] _ (h.below hb0) ((Blk.new W 3 #[.int .i64 2, .int .i64 2]).r1l [2, 2] rfl rfl (by decide) (i64_lit (by decide)))).mono ?_
  rintro e w' ⟨rfl, hb⟩
  have hb1 := hb0.trans (hb.mono hb0.size)
  exact ⟨by rfl, hb1, hs.step hb1⟩
theorem san_c1 {A : Option Addr} {n c : Nat} (h : SanW w g0 g1 g3 g4 g5 g8 g9 g11 W) (hp : RP W TT A n c (solveF sB).2.1) : Calls Try.prog 12 #[.agg #[.slice (some ⟨g5, 0, none⟩) 1 1, .slice (some ⟨g8, 0, none⟩) 2 2], .slice A n c] W fun e w' =>
    e = .returned (.bool true) ∧ SanW w g0 g1 g3 g4 g5 g8 g9 g11 w' := by
  refine (check_c TT _ _ _ 1 1 2 2 n c sB _ W h.m.b1 h.m.b2 hp).mono ?_
  rintro e w' ⟨rfl, hb⟩
  rw [ev2.2.2]
  exact ⟨rfl, h.step hb⟩
theorem san_c2 (h : SanW w g0 g1 g3 g4 g5 g8 g9 g11 W) : Calls Try.prog 12 #[.agg #[.slice (some ⟨g5, 0, none⟩) 1 1, .slice (some ⟨g8, 0, none⟩) 2 2], .slice (some ⟨g11, 0, none⟩) 3 3] W fun e w' =>
    e = .returned (.bool true) ∧ SanW w g0 g1 g3 g4 g5 g8 g9 g11 w' := by
  refine (check_c TT _ _ _ 1 1 2 2 3 3 sB pB W h.m.b1 h.m.b2 h.m.p).mono ?_
  rintro e w' ⟨rfl, hb⟩
  rw [ev5.1]
  exact ⟨rfl, h.step hb⟩
theorem san_c3 (h : SanW w g0 g1 g3 g4 g5 g8 g9 g11 W) : Calls Try.prog 12 #[.agg #[.slice (some ⟨g0, 0, none⟩) 2 2, .slice (some ⟨g3, 0, none⟩) 2 2], .slice (some ⟨g11, 0, none⟩) 3 3] W fun e w' =>
    e = .returned (.bool false) ∧ SanW w g0 g1 g3 g4 g5 g8 g9 g11 w' := by
  refine (check_c TT _ _ _ 2 2 2 2 3 3 sA pB W h.m.a1 h.m.a2 h.m.p).mono ?_
  rintro e w' ⟨rfl, hb⟩
  rw [ev5.2.1]
  exact ⟨rfl, h.step hb⟩
theorem RP.take {W : World} {K : Nat → Prop} {A : Option Addr} {n c k : Nat} {l : List Step} (h : RP W K A n c l) (hk : k ≤ n) : RP W K A k c (l.take k) := by
  obtain ⟨us, h1, h2⟩ := h.ex
  refine ⟨by have := h.len; simp; omega, by have := h.cap; omega, by have := h.big; omega, h.top, fun s hs => h.wf s (List.mem_of_mem_take hs), us.take (8 * k), fun j u hu => ?_, ?_⟩
  · rw [List.getElem?_take] at hu
    split at hu
    · exact h1 j u hu
    · cases hu
  · refine ⟨by rw [List.length_take, List.length_take, h2.1]; omega, fun j s hs => ?_⟩
    rw [List.getElem?_take] at hs
    split at hs
    · next hj =>
      obtain ⟨A', n', c', h3, h4⟩ := h2.2 j s hs
      refine ⟨A', n', c', ?_, h4⟩
      rw [List.drop_take, List.take_take, show min 8 (8 * k - j * 8) = 8 by omega]
      exact h3
    · cases hs
theorem san_c4 (h : SanW w g0 g1 g3 g4 g5 g8 g9 g11 W) : Calls Try.prog 12 #[.agg #[.slice (some ⟨g5, 0, none⟩) 1 1, .slice (some ⟨g8, 0, none⟩) 2 2], .slice (some ⟨g11, 0, none⟩) 2 3] W fun e w' =>
    e = .returned (.bool false) ∧ SanW w g0 g1 g3 g4 g5 g8 g9 g11 w' := by
  refine (check_c TT _ _ _ 1 1 2 2 2 3 sB (pB.take 2) W h.m.b1 h.m.b2 (h.m.p.take (by decide))).mono ?_
  rintro e w' ⟨rfl, hb⟩
  rw [ev5.2.2]
  exact ⟨rfl, h.step hb⟩
theorem san_h1 (h : SanW w g0 g1 g3 g4 g5 g8 g9 g11 W) : Calls Try.prog 13 #[.agg #[.slice (some ⟨g1, 0, none⟩) 2 2, .int .i64 (-4)], .slice (some ⟨W.heap.size, 0, none⟩) 2 2] (W.alloc (.cells #[.int .i64 2, .int .i64 2] 3)) fun e w' =>
    e = .returned (.bool true) ∧ SanW w g0 g1 g3 g4 g5 g8 g9 g11 w' := by
  have h' := h.alloc (.cells #[.int .i64 2, .int .i64 2] 3)
  refine (holds_c TT TT _ _ 2 2 2 2 [1, 1] [2, 2] (-4) _ h'.r (i64_small (by decide) (by decide)) ((Blk.new W 3 #[.int .i64 2, .int .i64 2]).r1l [2, 2] rfl rfl (by decide) (i64_lit (by decide)))).mono ?_
  rintro e w' ⟨rfl, hb⟩
  rw [ev6.1]
  exact ⟨rfl, h'.step hb⟩
theorem san_h2 (h : SanW w g0 g1 g3 g4 g5 g8 g9 g11 W) : Calls Try.prog 13 #[.agg #[.slice (some ⟨g1, 0, none⟩) 2 2, .int .i64 (-4)], .slice (some ⟨W.heap.size, 0, none⟩) 2 2] (W.alloc (.cells #[.int .i64 2, .int .i64 1] 3)) fun e w' =>
    e = .returned (.bool false) ∧ SanW w g0 g1 g3 g4 g5 g8 g9 g11 w' := by
  have h' := h.alloc (.cells #[.int .i64 2, .int .i64 1] 3)
  refine (holds_c TT TT _ _ 2 2 2 2 [1, 1] [2, 1] (-4) _ h'.r (i64_small (by decide) (by decide)) ((Blk.new W 3 #[.int .i64 2, .int .i64 1]).r1l [2, 1] rfl rfl (by decide) (i64_lit (by decide)))).mono ?_
  rintro e w' ⟨rfl, hb⟩
  rw [ev6.2.1]
  exact ⟨rfl, h'.step hb⟩
theorem san_v1 (h : SanW w g0 g1 g3 g4 g5 g8 g9 g11 W) : Calls Try.prog 11 #[.agg #[.slice (some ⟨g0, 0, none⟩) 2 2, .slice (some ⟨g3, 0, none⟩) 2 2]] W fun e w' =>
    e = .returned (.bool true) ∧ SanW w g0 g1 g3 g4 g5 g8 g9 g11 w' := by
  refine (valid_c TT TT _ _ 2 2 2 2 sA.1 sA.2 W h.m.a1 h.m.a2).mono ?_
  rintro e w' ⟨rfl, hb⟩
  rw [show validS (sA.1, sA.2) = true from ev6.2.2.1]
  exact ⟨rfl, h.step hb⟩
theorem san_v2 (h : SanW w g0 g1 g3 g4 g5 g8 g9 g11 W) : Calls Try.prog 11 #[.agg #[.slice (some ⟨W.heap.size, 0, none⟩) 1 1, .slice none 0 0]] (W.alloc (.cells #[.int .i64 65] 3)) fun e w' =>
    e = .returned (.bool false) ∧ SanW w g0 g1 g3 g4 g5 g8 g9 g11 w' := by
  have h' := h.alloc (.cells #[.int .i64 65] 3)
  refine (valid_c TT TT _ _ 1 1 0 0 [65] [] _ ((Blk.new W 3 #[.int .i64 65]).r1l [65] rfl rfl (by decide) (i64_lit (by decide))) (RR.nil_ _ _)).mono ?_
  rintro e w' ⟨rfl, hb⟩
  rw [show validS ([65], []) = false from ev6.2.2.2]
  exact ⟨rfl, h'.step hb⟩
end
end Go.Proofs.Ytjienelkjpodkaa
