/- The plain functions that the Go functions of package rows and of its reference compute. -/

namespace Go.Proofs.Ytjienelkjpodkaa

abbrev Row := List Int × Int
/-- a system: the bounds, the rows -/
abbrev Sys := List Int × List Row

def bet (n lo hi : Int) : Bool := decide (lo ≤ n) && decide (n ≤ hi)
def eachB (l : List Int) (lo hi : Int) : Bool := l.all fun n => bet n lo hi
def rowOk (n : Nat) (r : Row) : Bool := (r.1.length == n) && (eachB r.1 (-1000) 1000 && bet r.2 (-1000) 1000)
def validS (s : Sys) : Bool := decide (1 ≤ s.1.length) && (decide (s.1.length ≤ 12) && (decide (s.2.length ≤ 24) && (eachB s.1 0 64 && s.2.all (rowOk s.1.length))))

def dot : List Int → List Int → Int
  | a :: r, x :: s => a * x + dot r s
  | _, _ => 0
def valR (r : Row) (x : List Int) : Int := r.2 + dot r.1 x
def side : Int := 1048576
def holdsR (r : Row) (x : List Int) : Bool :=
  (r.1.length == x.length) && (decide (x.length ≤ 12) && (eachB r.1 (-side) side && (eachB x (-side) side && (bet r.2 (-side) side && decide (0 ≤ valR r x)))))

/-- the number of candidate points, or 16385 -/
def pointsF : List Int → Int → Int
  | [], n => n
  | t :: r, n => pointsF r (min (n * (t + 1)) 16385)

def foldF (n lo hi : Int) : Int := lo + n % (hi - lo + 1)
def madeRow (r : Row) (n : Nat) : Row := ((List.range n).map fun i => if i < r.1.length then foldF (r.1.getD i 0) (-6) 6 else 0, foldF r.2 (-20) 20)
def madeS (s : Sys) : Sys :=
  let top := if s.1.isEmpty then [3] else (s.1.take 4).map fun t => foldF t 0 5
  (top, (s.2.take 6).map fun r => madeRow r top.length)
def madeP (s : Sys) (x : List Int) : List Int := (List.range s.1.length).map fun i => if i < x.length then foldF (x.getD i 0) 0 (s.1.getD i 0) else 0

def lessF : List Int → List Int → Bool
  | [], _ => false
  | _, [] => false
  | a :: r, b :: s => if a != b then decide (a < b) else lessF r s

def unitR (n i : Nat) (a c : Int) : Row := ((List.replicate n 0).set i a, c)

def floorF (a b : Int) : Int := if a.tmod b < 0 then a.tdiv b - 1 else a.tdiv b
def gcdStep : Nat → Int → Int → Int
  | 0, g, _ => g
  | k + 1, g, n => if n = 0 then g else gcdStep k n (g.tmod n)
def gcdFrom : List Int → Int → Int
  | [], g => g
  | n :: r, g => gcdFrom r (gcdStep (n.natAbs + 1) g n)
def gcdF (l : List Int) : Int := max (gcdFrom l 0) (-gcdFrom l 0)
def cutR (r : Row) (d : Int) : Row := (r.1.map fun a => a.tdiv d, floorF r.2 d)

end Go.Proofs.Ytjienelkjpodkaa
