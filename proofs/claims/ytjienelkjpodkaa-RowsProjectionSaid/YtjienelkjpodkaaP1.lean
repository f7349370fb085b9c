/- The plain functions of the search: boxes, steps, the search itself. -/
import Derived.Test.YtjienelkjpodkaaDefs
namespace Go.Proofs.Ytjienelkjpodkaa

structure Box where
  lo : List Int
  hi : List Int
  below : List Int
  above : List Int
  rows : Int

/-- a box's cells -/
def Box.ints (b : Box) : List Int := b.lo ++ b.hi ++ b.below ++ b.above ++ [b.rows]
structure Box.Wf (b : Box) : Prop where
  lo : b.lo.length = 12
  hi : b.hi.length = 12
  below : b.below.length = 12
  above : b.above.length = 12

structure Step where
  kind : Int
  m : List Int := []
  r : Int := 0
  d : Int := 0
  x : Int := 0
  k : Int := 0
  next : Int := 0
  els : Int := 0

/-- the greatest value of a row's coefficients in a box -/
def grF : List Int → List Int → List Int → Int
  | a :: l, x :: lo, y :: hi => (if 0 < a then a * y else a * x) + grF l lo hi
  | _, _, _ => 0
def greatestF (r : Row) (b : Box) : Int := r.2 + grF r.1 b.lo b.hi

def addAt (m : List Int) (i n : Int) : List Int := m.set i.toNat (m.getD i.toNat 0 + n)
/-- the multipliers by which a row is refuted in a box -/
def multF : List Int → List Int → List Int → List Int → List Int
  | a :: l, u :: below, v :: above, m => multF l below above (if 0 < a then addAt m v a else addAt m u (-a))
  | _, _, _, m => m
def refuteF (r : Row) (at' : Int) (b : Box) (p : List Step) : List Step :=
  p ++ [{ kind := 1, m := multF r.1 b.below b.above (addAt (List.replicate b.rows.toNat 0) at' 1), next := p.length + 1 }] ++ [{ kind := 4 }]

/-- the first row that fails in the whole box -/
def failF : List Row → List Int → Box → Option (Row × Int)
  | r :: rs, a :: as, b => if greatestF r b < 0 then some (r, a) else failF rs as b
  | _, _, _ => none

/-- the first variable that is not fixed -/
def freeF : List Int → List Int → Nat → Nat → Option Nat
  | x :: lo, y :: hi, n + 1, i => if x = y then freeF lo hi n (i + 1) else some i
  | _, _, _, _ => none

def Box.low (b : Box) (i : Nat) (mid : Int) : Box := { b with hi := b.hi.set i mid, above := b.above.set i b.rows, rows := b.rows + 1 }
def Box.high (b : Box) (i : Nat) (mid : Int) : Box := { b with lo := b.lo.set i (mid + 1), below := b.below.set i b.rows, rows := b.rows + 1 }

/-- the search: a point, or the steps that refute the box -/
def visitF (rows : List Row) (at' : List Int) (n : Nat) : Nat → Box → List Step → Option (List Int) × List Step
  | 0, _, p => (none, p)
  | k + 1, b, p =>
    match failF rows at' b with
    | some (r, a) => (none, refuteF r a b p)
    | none =>
      match freeF b.lo b.hi n 0 with
      | none => (some (b.lo.take n), p)
      | some i =>
        let mid := (b.lo.getD i 0 + b.hi.getD i 0).tdiv 2
        let p1 := p ++ [{ kind := 3, x := i, k := mid, next := p.length + 1 }]
        match visitF rows at' n k (b.low i mid) p1 with
        | (some x, p2) => (some x, p2)
        | (none, p2) => visitF rows at' n k (b.high i mid) (p2.set p.length { p2.getD p.length { kind := 0 } with els := p2.length })

/-- the rows with which a search begins, the indices of the rows in the branch, the steps, the rows of the branch -/
structure Begin where
  rows : List Row
  at' : List Int
  p : List Step
  n : Int
def startGo : List Row → Nat → Begin → Begin
  | [], _, s => s
  | r :: rs, k, s =>
    let g := gcdF r.1
    if 2 ≤ g ∧ r.2.tmod g ≠ 0 then
      startGo rs (k + 1) ⟨s.rows ++ [r] ++ [cutR r g], s.at' ++ [(k : Int)] ++ [s.n], s.p ++ [{ kind := 2, r := k, d := g, next := s.p.length + 1 }], s.n + 1⟩
    else startGo rs (k + 1) ⟨s.rows ++ [r], s.at' ++ [(k : Int)], s.p, s.n⟩
def startF (s : Sys) : Begin := startGo s.2 0 ⟨[], [], [], s.2.length + 2 * s.1.length⟩
def pad (l : List Int) : List Int := l ++ List.replicate (12 - l.length) 0
def boxF (s : Sys) (n : Int) : Box :=
  { lo := List.replicate 12 0, hi := pad s.1, below := pad ((List.range s.1.length).map fun i => ((s.2.length + i : Nat) : Int)), above := pad ((List.range s.1.length).map fun i => ((s.2.length + s.1.length + i : Nat) : Int)), rows := n }
/-- fuel for a search: the sum of the widths, and one -/
def fuelF (_s : Sys) : Nat := 65 * 12 + 1
def searchF (s : Sys) : Option (List Int) × List Step := visitF (startF s).rows (startF s).at' s.1.length (fuelF s) (boxF s (startF s).n) (startF s).p
def solveF (s : Sys) : List Int × List Step × Bool × Int :=
  if validS s then
    if pointsF s.1 1 > 16384 then ([], [], false, 2)
    else match searchF s with
      | (some x, _) => (x, [], true, 0)
      | (none, p) => ([], p, false, 0)
  else ([], [], false, 1)

/-! ### Project -/
def fixS (s : Sys) (x : Nat) (v : Int) : Sys := (s.1.set x 0, s.2.map fun r => (r.1, r.2 + r.1.getD x 0 * v))
def projFrom (s : Sys) (x : Nat) : List Nat → Int × Int × Bool → Int × Int × Bool
  | [], a => a
  | v :: vs, a =>
    if pointsF s.1 1 > 16384 || (searchF (fixS s x v)).1.isNone then projFrom s x vs a
    else projFrom s x vs (if a.2.2 then a.1 else v, v, true)
def projectF (s : Sys) (x : Int) : Int × Int × Bool :=
  if validS s && (decide (0 ≤ x) && decide (x < s.1.length)) then projFrom s x.toNat (List.range (s.1.getD x.toNat 0 + 1).toNat) (0, 0, false) else (0, 0, false)

/-! ### Check -/
def stepOk (s : Step) : Bool :=
  if s.kind = 1 then decide (s.r = 0 ∧ s.d = 0 ∧ s.x = 0 ∧ s.k = 0 ∧ s.els = 0)
  else if s.kind = 2 then s.m.isEmpty && decide (s.x = 0 ∧ s.k = 0 ∧ s.els = 0)
  else if s.kind = 3 then s.m.isEmpty && decide (s.r = 0 ∧ s.d = 0)
  else if s.kind = 4 then s.m.isEmpty && decide (s.r = 0 ∧ s.d = 0 ∧ s.x = 0 ∧ s.k = 0 ∧ s.els = 0 ∧ s.next = 0)
  else false
/-- a child: it lies behind its parent, within the list, and has no other parent so far -/
def childF (n : Nat) (at' : Nat) (next : Int) (par : List Int) : Option (List Int) :=
  if next ≤ at' || (n : Int) ≤ next then none
  else if par.getD next.toNat 0 = 0 then some (par.set next.toNat 1) else none
def treeFrom (n : Nat) : List Step → Nat → List Int → Bool
  | [], _, _ => true
  | s :: p, at', par =>
    stepOk s &&
      (if s.kind = 4 then treeFrom n p (at' + 1) par
      else match childF n at' s.next par with
        | none => false
        | some par1 =>
          if s.kind = 3 then
            match childF n at' s.els par1 with
            | none => false
            | some par2 => treeFrom n p (at' + 1) par2
          else treeFrom n p (at' + 1) par1)
def treeF (p : List Step) : Bool := treeFrom p.length p 0 (List.replicate p.length 0)

def addRow (o : List Int) (m : Int) (a : List Int) : List Int := List.zipWith (fun x y => x + m * y) o a
def large : Int := 1099511627776
def sumFrom : List Row → List Int → Row → Option Row
  | r :: l, m :: ms, o =>
    let o1 : Row := (addRow o.1 m r.1, o.2 + m * r.2)
    if eachB o1.1 (-large) large && bet o1.2 (-large) large then sumFrom l ms o1 else none
  | _, _, o => some o
def sumF (l : List Row) (m : List Int) : Option Row := sumFrom l m (List.replicate (l.getD 0 ([], 0)).1.length 0, 0)
def closesF (n : Nat) (p : List Step) : Nat → Nat → List Row → Bool
  | 0, _, _ => false
  | f + 1, at', l =>
    match p[at']? with
    | none => false
    | some s =>
      if s.kind = 1 then
        decide (s.m.length = l.length) && (eachB s.m 0 1000 &&
          match sumF l s.m with
          | none => false
          | some r => closesF n p f s.next.toNat (l ++ [r]))
      else if s.kind = 2 then
        bet s.r 0 (l.length - 1) && (decide (2 ≤ s.d) && ((l.getD s.r.toNat ([], 0)).1.all (fun a => a.tmod s.d == 0) && closesF n p f s.next.toNat (l ++ [cutR (l.getD s.r.toNat ([], 0)) s.d])))
      else if s.kind = 3 then
        bet s.x 0 (n - 1) && (bet s.k (-side) side && (closesF n p f s.next.toNat (l ++ [unitR n s.x.toNat (-1) s.k]) && closesF n p f s.els.toNat (l ++ [unitR n s.x.toNat 1 (-s.k - 1)])))
      else
        match l.getLast? with
        | none => false
        | some r => decide (r.2 < 0) && r.1.all (fun a => decide (a ≤ 0))
def firstF (s : Sys) : List Row :=
  s.2 ++ ((List.range s.1.length).map fun i => unitR s.1.length i 1 0) ++ ((List.range s.1.length).map fun i => unitR s.1.length i (-1) (s.1.getD i 0))
def checkF (s : Sys) (p : List Step) : Bool :=
  validS s && (decide (1 ≤ p.length) && (decide (p.length ≤ 65536) && (treeF p && closesF s.1.length p p.length 0 (firstF s))))

end Go.Proofs.Ytjienelkjpodkaa
