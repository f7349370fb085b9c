/-
  No cell of these rows narrows 'for every input' (looked for: loops, veiled, ifaces, maps, wideKeys, modest, calm, conditions, laid).
  DERIVED. THE GIVEN ROWS OF THIS SEAT. 5 by the template 'for every input the law returns true; each argument reads behind the call as it read before'; 0 by the template 'total and deterministic' (their statements: YtjienelkjpodkaaTotals.lean).
  GIVEN WITH THE SEED: the statements are not yours to turn. If you find one false, say at which input.
  Laid BY PROGRAM, IN A SANDBOX (cutbox-rows.mjs): the forced cells as the released guide's own fill.sh prints them over the translation 638244bbfddbbf77… (all of the seat's roots in one cut). By AI agents, Wed Nov 11 2026. No macro, syntax, notation, axiom, sorry.
-/
import Derived.Test.YtjienelkjpodkaaChecked
import GoSem.Claim
import GoSem.ClaimJoined
import GoSem.ClaimMapViews
import Derived.JoinedTies
import Derived.KernelRfl
namespace Go.Proofs.Ytjienelkjpodkaa
/- THE CELL 'sum', in the pinned program and in every row, IS THE sha256 OF THE DUMP (.gsa) THAT YtjienelkjpodkaaProg.lean LOADS. Nothing in Lean hashes anything: it is a label: what it is worth is what the hold of that sum in a sandbox is worth. -/
noncomputable def Try.pinned : Pinned := { name := "ytjienelkjpodkaa", sum := "638244bbfddbbf77f29c0d5bab0f8d058bab62864f97d1d477bae91a280f7be5", checked := Try.checked }
namespace Rows
def none {H : Type} : Left H := { results := [], args := [] }

/-- 'univocallaw10.RowsDecides': WHATEVER THE INPUT: true; the input reads as it did. -/
def rowsDecidesSpec : ChangeSpec := { name := "rowsDecides", fn := fun _ => fun
  | [d] => { results := [.lit (.bool true)], args := [d] }
  | _ => none }
def rowsDecidesRow : OpenClaim := { program := "ytjienelkjpodkaa", sum := "638244bbfddbbf77f29c0d5bab0f8d058bab62864f97d1d477bae91a280f7be5", func := "univocal/univocallaw10.RowsDecides", spec := "rowsDecides", unfollowed := true, recurses := true, apart := false }
def RowsDecidesSaid : Prop := rowsDecidesRow.holds Try.pinned (OpenSpec.ofChange rowsDecidesSpec)

/-- ITS FALSE NEIGHBOUR: 'it returns false'. Refute it at one input. -/
def rowsDecidesWrong : ChangeSpec := { name := "rowsDecides", fn := fun _ => fun
  | [d] => { results := [.lit (.bool false)], args := [d] }
  | _ => none }
def RowsDecidesWrongFalsely : Prop := rowsDecidesRow.holds Try.pinned (OpenSpec.ofChange rowsDecidesWrong)

/-- 'univocallaw10.RowsLeast': WHATEVER THE INPUT: true; the input reads as it did. -/
def rowsLeastSpec : ChangeSpec := { name := "rowsLeast", fn := fun _ => fun
  | [d1, d2] => { results := [.lit (.bool true)], args := [d1, d2] }
  | _ => none }
def rowsLeastRow : OpenClaim := { program := "ytjienelkjpodkaa", sum := "638244bbfddbbf77f29c0d5bab0f8d058bab62864f97d1d477bae91a280f7be5", func := "univocal/univocallaw10.RowsLeast", spec := "rowsLeast", unfollowed := true, recurses := true, apart := false }
def RowsLeastSaid : Prop := rowsLeastRow.holds Try.pinned (OpenSpec.ofChange rowsLeastSpec)

/-- ITS FALSE NEIGHBOUR: 'it returns false'. Refute it at one input. -/
def rowsLeastWrong : ChangeSpec := { name := "rowsLeast", fn := fun _ => fun
  | [d1, d2] => { results := [.lit (.bool false)], args := [d1, d2] }
  | _ => none }
def RowsLeastWrongFalsely : Prop := rowsLeastRow.holds Try.pinned (OpenSpec.ofChange rowsLeastWrong)

/-- 'univocallaw10.RowsFewerSolutions': WHATEVER THE INPUT: true; the input reads as it did. -/
def rowsFewerSolutionsSpec : ChangeSpec := { name := "rowsFewerSolutions", fn := fun _ => fun
  | [d1, d2] => { results := [.lit (.bool true)], args := [d1, d2] }
  | _ => none }
def rowsFewerSolutionsRow : OpenClaim := { program := "ytjienelkjpodkaa", sum := "638244bbfddbbf77f29c0d5bab0f8d058bab62864f97d1d477bae91a280f7be5", func := "univocal/univocallaw10.RowsFewerSolutions", spec := "rowsFewerSolutions", unfollowed := true, recurses := true, apart := false }
def RowsFewerSolutionsSaid : Prop := rowsFewerSolutionsRow.holds Try.pinned (OpenSpec.ofChange rowsFewerSolutionsSpec)

/-- ITS FALSE NEIGHBOUR: 'it returns false'. Refute it at one input. -/
def rowsFewerSolutionsWrong : ChangeSpec := { name := "rowsFewerSolutions", fn := fun _ => fun
  | [d1, d2] => { results := [.lit (.bool false)], args := [d1, d2] }
  | _ => none }
def RowsFewerSolutionsWrongFalsely : Prop := rowsFewerSolutionsRow.holds Try.pinned (OpenSpec.ofChange rowsFewerSolutionsWrong)

/-- 'univocallaw10.RowsCombination': WHATEVER THE INPUT: true; the input reads as it did. -/
def rowsCombinationSpec : ChangeSpec := { name := "rowsCombination", fn := fun _ => fun
  | [d1, d2, d3] => { results := [.lit (.bool true)], args := [d1, d2, d3] }
  | _ => none }
def rowsCombinationRow : OpenClaim := { program := "ytjienelkjpodkaa", sum := "638244bbfddbbf77f29c0d5bab0f8d058bab62864f97d1d477bae91a280f7be5", func := "univocal/univocallaw10.RowsCombination", spec := "rowsCombination", unfollowed := true, recurses := true, apart := false }
def RowsCombinationSaid : Prop := rowsCombinationRow.holds Try.pinned (OpenSpec.ofChange rowsCombinationSpec)

/-- ITS FALSE NEIGHBOUR: 'it returns false'. Refute it at one input. -/
def rowsCombinationWrong : ChangeSpec := { name := "rowsCombination", fn := fun _ => fun
  | [d1, d2, d3] => { results := [.lit (.bool false)], args := [d1, d2, d3] }
  | _ => none }
def RowsCombinationWrongFalsely : Prop := rowsCombinationRow.holds Try.pinned (OpenSpec.ofChange rowsCombinationWrong)

/-- 'univocallaw10.RowsProjection': WHATEVER THE INPUT: true; the input reads as it did. -/
def rowsProjectionSpec : ChangeSpec := { name := "rowsProjection", fn := fun _ => fun
  | [d1, d2] => { results := [.lit (.bool true)], args := [d1, d2] }
  | _ => none }
def rowsProjectionRow : OpenClaim := { program := "ytjienelkjpodkaa", sum := "638244bbfddbbf77f29c0d5bab0f8d058bab62864f97d1d477bae91a280f7be5", func := "univocal/univocallaw10.RowsProjection", spec := "rowsProjection", unfollowed := true, recurses := true, apart := false }
def RowsProjectionSaid : Prop := rowsProjectionRow.holds Try.pinned (OpenSpec.ofChange rowsProjectionSpec)

/-- ITS FALSE NEIGHBOUR: 'it returns false'. Refute it at one input. -/
def rowsProjectionWrong : ChangeSpec := { name := "rowsProjection", fn := fun _ => fun
  | [d1, d2] => { results := [.lit (.bool false)], args := [d1, d2] }
  | _ => none }
def RowsProjectionWrongFalsely : Prop := rowsProjectionRow.holds Try.pinned (OpenSpec.ofChange rowsProjectionWrong)

/- THE SECOND FORM. 'bulk': how many values and letters a reading holds, each counted each time it is reached (what is shared counts as often as it is met; a slice's spare places count too). A statement '..UptoSaid' is the law's where the arguments, and the package variables that the reading takes, are together of bulk at most 1048576: NARROWER than '..Said'. Prove '..Said' where nothing that the law and all that it calls make is longer than what came in: it says more and counts as full. Else prove '..UptoSaid'. A law counts once. -/
mutual
def uptoBulk {H : Type} : DataW H → Nat
  | .lit (.string bytes) => bytes.length + 1
  | .lit _ => 1
  | .nil => 1
  | .ptr d => uptoBulk d + 1
  | .slice elems spare => uptoBulkAll elems + uptoBulkAll spare + 1
  | .agg parts => uptoBulkAll parts + 1
  | .iface _ d => uptoBulk d + 1
  | .map entries => uptoBulkEntries entries + 1
  | .held _ => 1
def uptoBulkAll {H : Type} : List (DataW H) → Nat
  | [] => 0
  | d :: r => uptoBulk d + uptoBulkAll r
def uptoBulkEntries {H : Type} : List (Lit × DataW H) → Nat
  | [] => 0
  | x :: r => uptoBulkEntry x + uptoBulkEntries r
def uptoBulkEntry {H : Type} : Lit × DataW H → Nat
  | (.string bytes, d) => bytes.length + uptoBulk d + 1
  | (_, d) => uptoBulk d + 1
 end
def uptoSmall : (H : Type) → List (DataW H) → Bool := fun _ ds => decide (uptoBulkAll ds ≤ 1048576)
def OpenSpec.upto (s : _root_.Go.ChangeSpec) : _root_.Go.OpenSpec := { _root_.Go.OpenSpec.ofChange s with cond := some uptoSmall }

/-- 'univocallaw10.RowsDecides', WHERE WHAT IT READS IS OF BULK AT MOST 1048576: true; the input reads as it did. -/
def rowsDecidesUptoRow : OpenClaim := { program := "ytjienelkjpodkaa", sum := "638244bbfddbbf77f29c0d5bab0f8d058bab62864f97d1d477bae91a280f7be5", func := "univocal/univocallaw10.RowsDecides", spec := "rowsDecides", unfollowed := true, recurses := true, apart := false, narrowed := true }
def RowsDecidesUptoSaid : Prop := rowsDecidesUptoRow.holds Try.pinned (OpenSpec.upto rowsDecidesSpec)

/-- 'univocallaw10.RowsLeast', WHERE WHAT IT READS IS OF BULK AT MOST 1048576: true; the input reads as it did. -/
def rowsLeastUptoRow : OpenClaim := { program := "ytjienelkjpodkaa", sum := "638244bbfddbbf77f29c0d5bab0f8d058bab62864f97d1d477bae91a280f7be5", func := "univocal/univocallaw10.RowsLeast", spec := "rowsLeast", unfollowed := true, recurses := true, apart := false, narrowed := true }
def RowsLeastUptoSaid : Prop := rowsLeastUptoRow.holds Try.pinned (OpenSpec.upto rowsLeastSpec)

/-- 'univocallaw10.RowsFewerSolutions', WHERE WHAT IT READS IS OF BULK AT MOST 1048576: true; the input reads as it did. -/
def rowsFewerSolutionsUptoRow : OpenClaim := { program := "ytjienelkjpodkaa", sum := "638244bbfddbbf77f29c0d5bab0f8d058bab62864f97d1d477bae91a280f7be5", func := "univocal/univocallaw10.RowsFewerSolutions", spec := "rowsFewerSolutions", unfollowed := true, recurses := true, apart := false, narrowed := true }
def RowsFewerSolutionsUptoSaid : Prop := rowsFewerSolutionsUptoRow.holds Try.pinned (OpenSpec.upto rowsFewerSolutionsSpec)

/-- 'univocallaw10.RowsCombination', WHERE WHAT IT READS IS OF BULK AT MOST 1048576: true; the input reads as it did. -/
def rowsCombinationUptoRow : OpenClaim := { program := "ytjienelkjpodkaa", sum := "638244bbfddbbf77f29c0d5bab0f8d058bab62864f97d1d477bae91a280f7be5", func := "univocal/univocallaw10.RowsCombination", spec := "rowsCombination", unfollowed := true, recurses := true, apart := false, narrowed := true }
def RowsCombinationUptoSaid : Prop := rowsCombinationUptoRow.holds Try.pinned (OpenSpec.upto rowsCombinationSpec)

/-- 'univocallaw10.RowsProjection', WHERE WHAT IT READS IS OF BULK AT MOST 1048576: true; the input reads as it did. -/
def rowsProjectionUptoRow : OpenClaim := { program := "ytjienelkjpodkaa", sum := "638244bbfddbbf77f29c0d5bab0f8d058bab62864f97d1d477bae91a280f7be5", func := "univocal/univocallaw10.RowsProjection", spec := "rowsProjection", unfollowed := true, recurses := true, apart := false, narrowed := true }
def RowsProjectionUptoSaid : Prop := rowsProjectionUptoRow.holds Try.pinned (OpenSpec.upto rowsProjectionSpec)

end Rows
end Go.Proofs.Ytjienelkjpodkaa
