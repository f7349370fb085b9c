/- The plain functions that the Go functions of the clause package and of its reference compute. -/
namespace Go.Proofs.Ytekbkdbmkjdgbaa

/-- a literal is within n -/
def wi (n l : Int) : Bool := decide (l ≠ 0) && (decide (l ≤ n) && decide (-n ≤ l))
def okC (n : Int) (c : List Int) : Bool := decide (c.length ≤ 8) && c.all (wi n)
def validB (f : List (List Int)) (n : Int) : Bool := decide (0 ≤ n) && (decide (n ≤ 16) && (decide (f.length ≤ 200) && f.all (okC n)))

def litB (m : List Bool) (l : Int) : Bool := if 0 < l then m.getD (l - 1).toNat false else !(m.getD (-l - 1).toNat false)
def satC (m : List Bool) (c : List Int) : Bool := c.any (litB m)
def satF (m : List Bool) (f : List (List Int)) : Bool := f.all (satC m)
def holdsB (f : List (List Int)) (m : List Bool) : Bool := validB f m.length && satF m f

/-- membership, as a word that the walks do not open -/
def hasB (l : List Int) (t : Int) : Bool := l.contains t
theorem hasB_eq (l : List Int) (t : Int) : hasB l t = l.contains t := rfl
theorem hasB_true {l : List Int} {t : Int} : hasB l t = true ↔ t ∈ l := by simp [hasB]
theorem hasB_false {l : List Int} {t : Int} : hasB l t = false ↔ ¬ t ∈ l := by simp [hasB]

/-- partial assignments: seventeen numbers -/
def zeros : List Int := List.replicate 17 0
def val (a : List Int) (l : Int) : Int := if l < 0 then -(a.getD (-l).toNat 0) else a.getD l.toNat 0
def setL (a : List Int) (l : Int) : List Int := if l < 0 then a.set (-l).toNat (-1) else a.set l.toNat 1

def beginF (l : List Int) : List Int → List Int → Option (List Int)
  | [], a => some a
  | x :: r, a => if hasB l (-x) then none else beginF l r (setL a x)

/-- a clause under an assignment: none: passed over; some 0: a conflict; some u: u is a unit -/
def scanF (a : List Int) : List Int → Int → Option Int
  | [], u => some u
  | l :: r, u => if 0 < val a l || (val a l == 0 && (u != 0 && u != l)) then none else scanF a r (if val a l == 0 then l else u)

def passF : List (List Int) → List Int → Bool → Option (List Int × Bool)
  | [], a, ch => some (a, ch)
  | c :: f, a, ch =>
    match scanF a c 0 with
    | none => passF f a ch
    | some u => if u = 0 then none else passF f (setL a u) true

/-- what follows a pass -/
def nextP (go : List Int → Option (List Int)) : Option (List Int × Bool) → Option (List Int)
  | none => none
  | some (a', ch) => if ch then go a' else some a'

def propF : Nat → List (List Int) → List Int → Option (List Int)
  | 0, _, _ => none
  | k + 1, f, a => nextP (propF k f) (passF f a false)

/-- propagation, with all the fuel that it ever wants -/
def propA (f : List (List Int)) (a : List Int) : Option (List Int) := propF 18 f a

def startF (f : List (List Int)) (l : List Int) : Option (List Int) :=
  match beginF l l zeros with
  | none => none
  | some a => propA f a

/-- the literals of an assignment, from variable v on -/
def litsF : List Int → Nat → List Int
  | [], _ => []
  | s :: r, v => if s = 0 then litsF r (v + 1) else (v : Int) * s :: litsF r (v + 1)

def propagateF (f : List (List Int)) (l : List Int) : List Int × Bool :=
  if validB f 16 && l.all (wi 16) then
    match startF f l with
    | none => ([], false)
    | some a => (litsF a 0, true)
  else ([], false)

/-- the first variable from v on, within n, that is not decided -/
def firstF (a : List Int) (n : Nat) : Nat → Nat → Nat
  | 0, v => v
  | k + 1, v => if v ≤ n && a.getD v 0 != 0 then firstF a n k (v + 1) else v

def negs (d : List Int) : List Int := d.map (- ·)

/-- the search; f: the formula, L: what has been learned -/
def findF (n : Nat) (f : List (List Int)) : Nat → List (List Int) → List Int → Option (List Int) × List (List Int)
  | 0, L, _ => (none, L)
  | k + 1, L, d =>
    match startF (f ++ L) d with
    | none => (none, L ++ [negs d])
    | some a =>
      if firstF a n 17 1 > n then (some a, L) else
      match findF n f k L (d ++ [-(firstF a n 17 1 : Int)]) with
      | (some m, L1) => (some m, L1)
      | (none, L1) =>
        match findF n f k L1 (d ++ [(firstF a n 17 1 : Int)]) with
        | (some m, L2) => (some m, L2)
        | (none, L2) => (none, L2 ++ [negs d])

def modelF (n : Nat) (a : List Int) : List Bool := (List.range n).map fun v => decide (0 < a.getD (v + 1) 0)

/-- Solve: the values, the refutation, the decision, the error -/
def solveF (f : List (List Int)) (n : Int) : List Bool × List (List Int) × Bool × Int :=
  if validB f n then
    match findF n.toNat f 18 [] [] with
    | (some a, _) => (modelF n.toNat a, [], true, 0)
    | (none, L) => ([], L, false, 0)
  else ([], [], false, 1)

def checkStep (known : List (List Int)) (n : Int) (c : List Int) : Bool :=
  decide (c.length ≤ 16) && (c.all (wi n) && (startF known (negs c)).isNone)
def checkFrom (n : Int) : List (List Int) → List (List Int) → Bool
  | _, [] => true
  | known, c :: p => checkStep known n c && checkFrom n (known ++ [c]) p
def checkF (f : List (List Int)) (n : Int) (p : List (List Int)) : Bool :=
  validB f n && (p.getLast?.any (·.isEmpty) && checkFrom n f p)

/-- Core: the indices that are left while those below i are still to be tried -/
def pickF (f : List (List Int)) (is : List Int) : List (List Int) := is.map fun k => f.getD k.toNat []
def coreFrom (f : List (List Int)) (n : Int) : Nat → List Int → List Int
  | 0, left => left
  | i + 1, left =>
    let rest := left.filter (· != (i : Int))
    coreFrom f n i (if (solveF (pickF f rest) n).2.2.1 then left else rest)
def coreF (f : List (List Int)) (n : Int) : List Int × Bool × Int :=
  match solveF f n with
  | (_, _, ok, e) => if ok || e != 0 then ([], false, e) else (coreFrom f n f.length ((List.range f.length).map fun i : Nat => (i : Int)), true, 0)

/-! ### The reference -/

def unitF (set : List Int) : List Int → Int → Int × Bool
  | [], u => (u, u == 0)
  | l :: r, u =>
    if hasB set l || (u != 0 && (u != l && !hasB set (-l))) then (0, false)
    else unitF set r (if hasB set (-l) then u else l)

def rbeginF : List Int → List Int → Option (List Int)
  | [], s => some s
  | x :: r, s => if hasB s (-x) then none else rbeginF r (if hasB s x then s else s ++ [x])

def rpassF : List (List Int) → List Int → Bool → Option (List Int × Bool)
  | [], s, ch => some (s, ch)
  | c :: f, s, ch =>
    if (unitF s c 0).2 then none
    else if (unitF s c 0).1 = 0 then rpassF f s ch
    else rpassF f (s ++ [(unitF s c 0).1]) true

def rpropF : Nat → List (List Int) → List Int → Option (List Int)
  | 0, _, _ => none
  | k + 1, f, s => nextP (rpropF k f) (rpassF f s false)
def rpropA (f : List (List Int)) (s : List Int) : Option (List Int) := rpropF 18 f s

def closF (f : List (List Int)) (l : List Int) : Option (List Int) :=
  match rbeginF l [] with
  | none => none
  | some s => rpropA f s

def sortedF (s : List Int) : Nat → List Int → List Int
  | 0, out => out
  | k + 1, out =>
    let v : Int := (16 - k : Nat)
    let out1 := if hasB s v then out ++ [v] else out
    sortedF s k (if hasB s (-v) then out1 ++ [-v] else out1)

def rpropagateF (f : List (List Int)) (l : List Int) : List Int × Bool :=
  if validB f 16 && l.all (wi 16) then
    match closF f l with
    | none => ([], false)
    | some s => (sortedF s 16 [], true)
  else ([], false)

/-- the next assignment: the last places first -/
def nextF (m : List Bool) : Nat → List Bool × Bool
  | 0 => (m, false)
  | i + 1 => if m.getD i false then nextF (m.set i false) i else (m.set i true, true)

def rmodelF (f : List (List Int)) : Nat → List Bool → Option (List Bool)
  | 0, _ => none
  | k + 1, m => if satF m f then some m else if (nextF m m.length).2 then rmodelF f k (nextF m m.length).1 else none

def rleast (f : List (List Int)) (n : Nat) : Option (List Bool) := rmodelF f (2 ^ n) (List.replicate n false)

def rcheckStep (known : List (List Int)) (n : Int) (c : List Int) : Bool :=
  decide (c.length ≤ 16) && (c.all (wi n) && (closF known (negs c)).isNone)
def rcheckFrom (n : Int) : List (List Int) → List (List Int) → Bool
  | _, [] => true
  | known, c :: p => rcheckStep known n c && rcheckFrom n (known ++ [c]) p
def rcheckF (f : List (List Int)) (n : Int) (p : List (List Int)) : Bool :=
  validB f n && (p.getLast?.any (·.isEmpty) && rcheckFrom n f p)

def leftF (f : List (List Int)) (gone : List Bool) : List (List Int) := ((f.zip gone).filter fun x => !x.2).map (·.1)
def goneFrom (f : List (List Int)) (n : Nat) : Nat → List Bool → List Bool
  | 0, gone => gone
  | i + 1, gone => goneFrom f n i (gone.set i (rleast (leftF f (gone.set i true)) n).isNone)
def stayF : List Bool → Nat → List Int
  | [], _ => []
  | g :: r, i => if g then stayF r (i + 1) else (i : Int) :: stayF r (i + 1)
def rcoreF (f : List (List Int)) (n : Int) : List Int × Bool × Int :=
  if validB f n then
    match rleast f n.toNat with
    | some _ => ([], false, 0)
    | none => (stayF (goneFrom f n.toNat f.length (List.replicate f.length false)) 0, true, 0)
  else ([], false, 1)

def lessF : List Bool → List Bool → Bool
  | [], _ => false
  | _, [] => false
  | a :: r, b :: s => if a != b then b else lessF r s

/-- the low three bits of a number -/
def madeL (x : Int) : Int := if wi 4 x then x else if x % 8 < 4 then x % 8 + 1 else 3 - x % 8
def madeC (l : List Int) : List Int := (l.take 4).map madeL
def madeF (f : List (List Int)) : List (List Int) := (f.take 12).map madeC
def madeM (n : Nat) : List Bool := [n % 2 == 1, n / 2 % 2 == 1, n / 4 % 2 == 1, n / 8 % 2 == 1]

end Go.Proofs.Ytekbkdbmkjdgbaa
