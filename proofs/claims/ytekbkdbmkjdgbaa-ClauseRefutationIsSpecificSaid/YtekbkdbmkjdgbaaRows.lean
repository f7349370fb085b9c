/-
  No cell of these rows narrows 'for every input' (looked for: loops, veiled, ifaces, maps, wideKeys, modest, calm, conditions, laid).
  DERIVED. THE GIVEN ROWS OF THIS SEAT. 12 by the template 'for every input the law returns true; each argument reads behind the call as it read before'; 0 by the template 'total and deterministic' (their statements: YtekbkdbmkjdgbaaTotals.lean).
  GIVEN WITH THE SEED: the statements are not yours to turn. If you find one false, say at which input.
  Laid BY PROGRAM, IN A SANDBOX (cutbox-rows.mjs): the forced cells as the released guide's own fill.sh prints them over the translation 1e3c96753a500413… (all of the seat's roots in one cut). By AI agents, Wed Nov 11 2026. No macro, syntax, notation, axiom, sorry.
-/
import Derived.Test.YtekbkdbmkjdgbaaChecked
import GoSem.Claim
import GoSem.ClaimJoined
import GoSem.ClaimMapViews
import Derived.JoinedTies
import Derived.KernelRfl
namespace Go.Proofs.Ytekbkdbmkjdgbaa
/- THE CELL 'sum', in the pinned program and in every row, IS THE sha256 OF THE DUMP (.gsa) THAT YtekbkdbmkjdgbaaProg.lean LOADS. Nothing in Lean hashes anything: it is a label: what it is worth is what the hold of that sum in a sandbox is worth. -/
noncomputable def Try.pinned : Pinned := { name := "ytekbkdbmkjdgbaa", sum := "1e3c96753a5004136a21da0f749a9e44b93d1539814dcc0e38d4c687e68d7b20", checked := Try.checked }
namespace Rows
def none {H : Type} : Left H := { results := [], args := [] }

/-- 'univocallaw12.ClauseMatchesReference': WHATEVER THE INPUT: true; the input reads as it did. -/
def clauseMatchesReferenceSpec : ChangeSpec := { name := "clauseMatchesReference", fn := fun _ => fun
  | [d1, d2, d3] => { results := [.lit (.bool true)], args := [d1, d2, d3] }
  | _ => none }
def clauseMatchesReferenceRow : OpenClaim := { program := "ytekbkdbmkjdgbaa", sum := "1e3c96753a5004136a21da0f749a9e44b93d1539814dcc0e38d4c687e68d7b20", func := "univocal/univocallaw12.ClauseMatchesReference", spec := "clauseMatchesReference", unfollowed := true, recurses := true, apart := false }
def ClauseMatchesReferenceSaid : Prop := clauseMatchesReferenceRow.holds Try.pinned (OpenSpec.ofChange clauseMatchesReferenceSpec)

/-- ITS FALSE NEIGHBOUR: 'it returns false'. Refute it at one input. -/
def clauseMatchesReferenceWrong : ChangeSpec := { name := "clauseMatchesReference", fn := fun _ => fun
  | [d1, d2, d3] => { results := [.lit (.bool false)], args := [d1, d2, d3] }
  | _ => none }
def ClauseMatchesReferenceWrongFalsely : Prop := clauseMatchesReferenceRow.holds Try.pinned (OpenSpec.ofChange clauseMatchesReferenceWrong)

/-- 'univocallaw12.ClausePropagationMatchesReference': WHATEVER THE INPUT: true; the input reads as it did. -/
def clausePropagationMatchesReferenceSpec : ChangeSpec := { name := "clausePropagationMatchesReference", fn := fun _ => fun
  | [d1, d2] => { results := [.lit (.bool true)], args := [d1, d2] }
  | _ => none }
def clausePropagationMatchesReferenceRow : OpenClaim := { program := "ytekbkdbmkjdgbaa", sum := "1e3c96753a5004136a21da0f749a9e44b93d1539814dcc0e38d4c687e68d7b20", func := "univocal/univocallaw12.ClausePropagationMatchesReference", spec := "clausePropagationMatchesReference", unfollowed := true, recurses := true, apart := false }
def ClausePropagationMatchesReferenceSaid : Prop := clausePropagationMatchesReferenceRow.holds Try.pinned (OpenSpec.ofChange clausePropagationMatchesReferenceSpec)

/-- ITS FALSE NEIGHBOUR: 'it returns false'. Refute it at one input. -/
def clausePropagationMatchesReferenceWrong : ChangeSpec := { name := "clausePropagationMatchesReference", fn := fun _ => fun
  | [d1, d2] => { results := [.lit (.bool false)], args := [d1, d2] }
  | _ => none }
def ClausePropagationMatchesReferenceWrongFalsely : Prop := clausePropagationMatchesReferenceRow.holds Try.pinned (OpenSpec.ofChange clausePropagationMatchesReferenceWrong)

/-- 'univocallaw12.ClauseCheckMatchesReference': WHATEVER THE INPUT: true; the input reads as it did. -/
def clauseCheckMatchesReferenceSpec : ChangeSpec := { name := "clauseCheckMatchesReference", fn := fun _ => fun
  | [d1, d2, d3] => { results := [.lit (.bool true)], args := [d1, d2, d3] }
  | _ => none }
def clauseCheckMatchesReferenceRow : OpenClaim := { program := "ytekbkdbmkjdgbaa", sum := "1e3c96753a5004136a21da0f749a9e44b93d1539814dcc0e38d4c687e68d7b20", func := "univocal/univocallaw12.ClauseCheckMatchesReference", spec := "clauseCheckMatchesReference", unfollowed := true, recurses := true, apart := false }
def ClauseCheckMatchesReferenceSaid : Prop := clauseCheckMatchesReferenceRow.holds Try.pinned (OpenSpec.ofChange clauseCheckMatchesReferenceSpec)

/-- ITS FALSE NEIGHBOUR: 'it returns false'. Refute it at one input. -/
def clauseCheckMatchesReferenceWrong : ChangeSpec := { name := "clauseCheckMatchesReference", fn := fun _ => fun
  | [d1, d2, d3] => { results := [.lit (.bool false)], args := [d1, d2, d3] }
  | _ => none }
def ClauseCheckMatchesReferenceWrongFalsely : Prop := clauseCheckMatchesReferenceRow.holds Try.pinned (OpenSpec.ofChange clauseCheckMatchesReferenceWrong)

/-- 'univocallaw12.ClauseCoreMatchesReference': WHATEVER THE INPUT: true; the input reads as it did. -/
def clauseCoreMatchesReferenceSpec : ChangeSpec := { name := "clauseCoreMatchesReference", fn := fun _ => fun
  | [d1, d2] => { results := [.lit (.bool true)], args := [d1, d2] }
  | _ => none }
def clauseCoreMatchesReferenceRow : OpenClaim := { program := "ytekbkdbmkjdgbaa", sum := "1e3c96753a5004136a21da0f749a9e44b93d1539814dcc0e38d4c687e68d7b20", func := "univocal/univocallaw12.ClauseCoreMatchesReference", spec := "clauseCoreMatchesReference", unfollowed := true, recurses := true, apart := false }
def ClauseCoreMatchesReferenceSaid : Prop := clauseCoreMatchesReferenceRow.holds Try.pinned (OpenSpec.ofChange clauseCoreMatchesReferenceSpec)

/-- ITS FALSE NEIGHBOUR: 'it returns false'. Refute it at one input. -/
def clauseCoreMatchesReferenceWrong : ChangeSpec := { name := "clauseCoreMatchesReference", fn := fun _ => fun
  | [d1, d2] => { results := [.lit (.bool false)], args := [d1, d2] }
  | _ => none }
def ClauseCoreMatchesReferenceWrongFalsely : Prop := clauseCoreMatchesReferenceRow.holds Try.pinned (OpenSpec.ofChange clauseCoreMatchesReferenceWrong)

/-- 'univocallaw12.ClauseRefutationIsSound': WHATEVER THE INPUT: true; the input reads as it did. -/
def clauseRefutationIsSoundSpec : ChangeSpec := { name := "clauseRefutationIsSound", fn := fun _ => fun
  | [d1, d2, d3] => { results := [.lit (.bool true)], args := [d1, d2, d3] }
  | _ => none }
def clauseRefutationIsSoundRow : OpenClaim := { program := "ytekbkdbmkjdgbaa", sum := "1e3c96753a5004136a21da0f749a9e44b93d1539814dcc0e38d4c687e68d7b20", func := "univocal/univocallaw12.ClauseRefutationIsSound", spec := "clauseRefutationIsSound", unfollowed := true, recurses := true, apart := false }
def ClauseRefutationIsSoundSaid : Prop := clauseRefutationIsSoundRow.holds Try.pinned (OpenSpec.ofChange clauseRefutationIsSoundSpec)

/-- ITS FALSE NEIGHBOUR: 'it returns false'. Refute it at one input. -/
def clauseRefutationIsSoundWrong : ChangeSpec := { name := "clauseRefutationIsSound", fn := fun _ => fun
  | [d1, d2, d3] => { results := [.lit (.bool false)], args := [d1, d2, d3] }
  | _ => none }
def ClauseRefutationIsSoundWrongFalsely : Prop := clauseRefutationIsSoundRow.holds Try.pinned (OpenSpec.ofChange clauseRefutationIsSoundWrong)

/-- 'univocallaw12.ClauseDecides': WHATEVER THE INPUT: true; the input reads as it did. -/
def clauseDecidesSpec : ChangeSpec := { name := "clauseDecides", fn := fun _ => fun
  | [d] => { results := [.lit (.bool true)], args := [d] }
  | _ => none }
def clauseDecidesRow : OpenClaim := { program := "ytekbkdbmkjdgbaa", sum := "1e3c96753a5004136a21da0f749a9e44b93d1539814dcc0e38d4c687e68d7b20", func := "univocal/univocallaw12.ClauseDecides", spec := "clauseDecides", unfollowed := true, recurses := true, apart := false }
def ClauseDecidesSaid : Prop := clauseDecidesRow.holds Try.pinned (OpenSpec.ofChange clauseDecidesSpec)

/-- ITS FALSE NEIGHBOUR: 'it returns false'. Refute it at one input. -/
def clauseDecidesWrong : ChangeSpec := { name := "clauseDecides", fn := fun _ => fun
  | [d] => { results := [.lit (.bool false)], args := [d] }
  | _ => none }
def ClauseDecidesWrongFalsely : Prop := clauseDecidesRow.holds Try.pinned (OpenSpec.ofChange clauseDecidesWrong)

/-- 'univocallaw12.ClauseLeast': WHATEVER THE INPUT: true; the input reads as it did. -/
def clauseLeastSpec : ChangeSpec := { name := "clauseLeast", fn := fun _ => fun
  | [d1, d2] => { results := [.lit (.bool true)], args := [d1, d2] }
  | _ => none }
def clauseLeastRow : OpenClaim := { program := "ytekbkdbmkjdgbaa", sum := "1e3c96753a5004136a21da0f749a9e44b93d1539814dcc0e38d4c687e68d7b20", func := "univocal/univocallaw12.ClauseLeast", spec := "clauseLeast", unfollowed := true, recurses := true, apart := false }
def ClauseLeastSaid : Prop := clauseLeastRow.holds Try.pinned (OpenSpec.ofChange clauseLeastSpec)

/-- ITS FALSE NEIGHBOUR: 'it returns false'. Refute it at one input. -/
def clauseLeastWrong : ChangeSpec := { name := "clauseLeast", fn := fun _ => fun
  | [d1, d2] => { results := [.lit (.bool false)], args := [d1, d2] }
  | _ => none }
def ClauseLeastWrongFalsely : Prop := clauseLeastRow.holds Try.pinned (OpenSpec.ofChange clauseLeastWrong)

/-- 'univocallaw12.ClausePropagationIsSound': WHATEVER THE INPUT: true; the input reads as it did. -/
def clausePropagationIsSoundSpec : ChangeSpec := { name := "clausePropagationIsSound", fn := fun _ => fun
  | [d1, d2, d3] => { results := [.lit (.bool true)], args := [d1, d2, d3] }
  | _ => none }
def clausePropagationIsSoundRow : OpenClaim := { program := "ytekbkdbmkjdgbaa", sum := "1e3c96753a5004136a21da0f749a9e44b93d1539814dcc0e38d4c687e68d7b20", func := "univocal/univocallaw12.ClausePropagationIsSound", spec := "clausePropagationIsSound", unfollowed := true, recurses := true, apart := false }
def ClausePropagationIsSoundSaid : Prop := clausePropagationIsSoundRow.holds Try.pinned (OpenSpec.ofChange clausePropagationIsSoundSpec)

/-- ITS FALSE NEIGHBOUR: 'it returns false'. Refute it at one input. -/
def clausePropagationIsSoundWrong : ChangeSpec := { name := "clausePropagationIsSound", fn := fun _ => fun
  | [d1, d2, d3] => { results := [.lit (.bool false)], args := [d1, d2, d3] }
  | _ => none }
def ClausePropagationIsSoundWrongFalsely : Prop := clausePropagationIsSoundRow.holds Try.pinned (OpenSpec.ofChange clausePropagationIsSoundWrong)

/-- 'univocallaw12.ClausePropagationIsMonotone': WHATEVER THE INPUT: true; the input reads as it did. -/
def clausePropagationIsMonotoneSpec : ChangeSpec := { name := "clausePropagationIsMonotone", fn := fun _ => fun
  | [d1, d2, d3] => { results := [.lit (.bool true)], args := [d1, d2, d3] }
  | _ => none }
def clausePropagationIsMonotoneRow : OpenClaim := { program := "ytekbkdbmkjdgbaa", sum := "1e3c96753a5004136a21da0f749a9e44b93d1539814dcc0e38d4c687e68d7b20", func := "univocal/univocallaw12.ClausePropagationIsMonotone", spec := "clausePropagationIsMonotone", unfollowed := true, recurses := true, apart := false }
def ClausePropagationIsMonotoneSaid : Prop := clausePropagationIsMonotoneRow.holds Try.pinned (OpenSpec.ofChange clausePropagationIsMonotoneSpec)

/-- ITS FALSE NEIGHBOUR: 'it returns false'. Refute it at one input. -/
def clausePropagationIsMonotoneWrong : ChangeSpec := { name := "clausePropagationIsMonotone", fn := fun _ => fun
  | [d1, d2, d3] => { results := [.lit (.bool false)], args := [d1, d2, d3] }
  | _ => none }
def ClausePropagationIsMonotoneWrongFalsely : Prop := clausePropagationIsMonotoneRow.holds Try.pinned (OpenSpec.ofChange clausePropagationIsMonotoneWrong)

/-- 'univocallaw12.ClauseCoreIsMinimal': WHATEVER THE INPUT: true; the input reads as it did. -/
def clauseCoreIsMinimalSpec : ChangeSpec := { name := "clauseCoreIsMinimal", fn := fun _ => fun
  | [d] => { results := [.lit (.bool true)], args := [d] }
  | _ => none }
def clauseCoreIsMinimalRow : OpenClaim := { program := "ytekbkdbmkjdgbaa", sum := "1e3c96753a5004136a21da0f749a9e44b93d1539814dcc0e38d4c687e68d7b20", func := "univocal/univocallaw12.ClauseCoreIsMinimal", spec := "clauseCoreIsMinimal", unfollowed := true, recurses := true, apart := false }
def ClauseCoreIsMinimalSaid : Prop := clauseCoreIsMinimalRow.holds Try.pinned (OpenSpec.ofChange clauseCoreIsMinimalSpec)

/-- ITS FALSE NEIGHBOUR: 'it returns false'. Refute it at one input. -/
def clauseCoreIsMinimalWrong : ChangeSpec := { name := "clauseCoreIsMinimal", fn := fun _ => fun
  | [d] => { results := [.lit (.bool false)], args := [d] }
  | _ => none }
def ClauseCoreIsMinimalWrongFalsely : Prop := clauseCoreIsMinimalRow.holds Try.pinned (OpenSpec.ofChange clauseCoreIsMinimalWrong)

/-- 'univocallaw12.ClauseOrder': WHATEVER THE INPUT: true; the input reads as it did. -/
def clauseOrderSpec : ChangeSpec := { name := "clauseOrder", fn := fun _ => fun
  | [d1, d2] => { results := [.lit (.bool true)], args := [d1, d2] }
  | _ => none }
def clauseOrderRow : OpenClaim := { program := "ytekbkdbmkjdgbaa", sum := "1e3c96753a5004136a21da0f749a9e44b93d1539814dcc0e38d4c687e68d7b20", func := "univocal/univocallaw12.ClauseOrder", spec := "clauseOrder", unfollowed := true, recurses := true, apart := false }
def ClauseOrderSaid : Prop := clauseOrderRow.holds Try.pinned (OpenSpec.ofChange clauseOrderSpec)

/-- ITS FALSE NEIGHBOUR: 'it returns false'. Refute it at one input. -/
def clauseOrderWrong : ChangeSpec := { name := "clauseOrder", fn := fun _ => fun
  | [d1, d2] => { results := [.lit (.bool false)], args := [d1, d2] }
  | _ => none }
def ClauseOrderWrongFalsely : Prop := clauseOrderRow.holds Try.pinned (OpenSpec.ofChange clauseOrderWrong)

/-- 'univocallaw12.ClauseRefutationIsSpecific': WHATEVER THE INPUT: true; the input reads as it did. -/
def clauseRefutationIsSpecificSpec : ChangeSpec := { name := "clauseRefutationIsSpecific", fn := fun _ => fun
  | [d1, d2] => { results := [.lit (.bool true)], args := [d1, d2] }
  | _ => none }
def clauseRefutationIsSpecificRow : OpenClaim := { program := "ytekbkdbmkjdgbaa", sum := "1e3c96753a5004136a21da0f749a9e44b93d1539814dcc0e38d4c687e68d7b20", func := "univocal/univocallaw12.ClauseRefutationIsSpecific", spec := "clauseRefutationIsSpecific", unfollowed := true, recurses := true, apart := false }
def ClauseRefutationIsSpecificSaid : Prop := clauseRefutationIsSpecificRow.holds Try.pinned (OpenSpec.ofChange clauseRefutationIsSpecificSpec)

/-- ITS FALSE NEIGHBOUR: 'it returns false'. Refute it at one input. -/
def clauseRefutationIsSpecificWrong : ChangeSpec := { name := "clauseRefutationIsSpecific", fn := fun _ => fun
  | [d1, d2] => { results := [.lit (.bool false)], args := [d1, d2] }
  | _ => none }
def ClauseRefutationIsSpecificWrongFalsely : Prop := clauseRefutationIsSpecificRow.holds Try.pinned (OpenSpec.ofChange clauseRefutationIsSpecificWrong)

/- THE SECOND FORM. 'bulk': how many values and letters a reading holds, each counted each time it is reached (what is shared counts as often as it is met; a slice's spare places count too). A statement '..UptoSaid' is the law's where the arguments, and the package variables that the reading takes, are together of bulk at most 1048576: NARROWER than '..Said'. Prove '..Said' where nothing that the law and all that it calls make is longer than what came in: it says more and counts as full. Else prove '..UptoSaid'. A law counts once. -/
mutual
def uptoBulk {H : Type} : DataW H → Nat
  | .lit (.string bytes) => bytes.length + 1
  | .lit _ => 1
  | .nil => 1
  | .ptr d => uptoBulk d + 1
  | .slice elems spare => uptoBulkAll elems + uptoBulkAll spare + 1
  | .agg parts => uptoBulkAll parts + 1
  | .iface _ d => uptoBulk d + 1
  | .map entries => uptoBulkEntries entries + 1
  | .held _ => 1
def uptoBulkAll {H : Type} : List (DataW H) → Nat
  | [] => 0
  | d :: r => uptoBulk d + uptoBulkAll r
def uptoBulkEntries {H : Type} : List (Lit × DataW H) → Nat
  | [] => 0
  | x :: r => uptoBulkEntry x + uptoBulkEntries r
def uptoBulkEntry {H : Type} : Lit × DataW H → Nat
  | (.string bytes, d) => bytes.length + uptoBulk d + 1
  | (_, d) => uptoBulk d + 1
 end
def uptoSmall : (H : Type) → List (DataW H) → Bool := fun _ ds => decide (uptoBulkAll ds ≤ 1048576)
def OpenSpec.upto (s : _root_.Go.ChangeSpec) : _root_.Go.OpenSpec := { _root_.Go.OpenSpec.ofChange s with cond := some uptoSmall }

/-- 'univocallaw12.ClauseMatchesReference', WHERE WHAT IT READS IS OF BULK AT MOST 1048576: true; the input reads as it did. -/
def clauseMatchesReferenceUptoRow : OpenClaim := { program := "ytekbkdbmkjdgbaa", sum := "1e3c96753a5004136a21da0f749a9e44b93d1539814dcc0e38d4c687e68d7b20", func := "univocal/univocallaw12.ClauseMatchesReference", spec := "clauseMatchesReference", unfollowed := true, recurses := true, apart := false, narrowed := true }
def ClauseMatchesReferenceUptoSaid : Prop := clauseMatchesReferenceUptoRow.holds Try.pinned (OpenSpec.upto clauseMatchesReferenceSpec)

/-- 'univocallaw12.ClausePropagationMatchesReference', WHERE WHAT IT READS IS OF BULK AT MOST 1048576: true; the input reads as it did. -/
def clausePropagationMatchesReferenceUptoRow : OpenClaim := { program := "ytekbkdbmkjdgbaa", sum := "1e3c96753a5004136a21da0f749a9e44b93d1539814dcc0e38d4c687e68d7b20", func := "univocal/univocallaw12.ClausePropagationMatchesReference", spec := "clausePropagationMatchesReference", unfollowed := true, recurses := true, apart := false, narrowed := true }
def ClausePropagationMatchesReferenceUptoSaid : Prop := clausePropagationMatchesReferenceUptoRow.holds Try.pinned (OpenSpec.upto clausePropagationMatchesReferenceSpec)

/-- 'univocallaw12.ClauseCheckMatchesReference', WHERE WHAT IT READS IS OF BULK AT MOST 1048576: true; the input reads as it did. -/
def clauseCheckMatchesReferenceUptoRow : OpenClaim := { program := "ytekbkdbmkjdgbaa", sum := "1e3c96753a5004136a21da0f749a9e44b93d1539814dcc0e38d4c687e68d7b20", func := "univocal/univocallaw12.ClauseCheckMatchesReference", spec := "clauseCheckMatchesReference", unfollowed := true, recurses := true, apart := false, narrowed := true }
def ClauseCheckMatchesReferenceUptoSaid : Prop := clauseCheckMatchesReferenceUptoRow.holds Try.pinned (OpenSpec.upto clauseCheckMatchesReferenceSpec)

/-- 'univocallaw12.ClauseCoreMatchesReference', WHERE WHAT IT READS IS OF BULK AT MOST 1048576: true; the input reads as it did. -/
def clauseCoreMatchesReferenceUptoRow : OpenClaim := { program := "ytekbkdbmkjdgbaa", sum := "1e3c96753a5004136a21da0f749a9e44b93d1539814dcc0e38d4c687e68d7b20", func := "univocal/univocallaw12.ClauseCoreMatchesReference", spec := "clauseCoreMatchesReference", unfollowed := true, recurses := true, apart := false, narrowed := true }
def ClauseCoreMatchesReferenceUptoSaid : Prop := clauseCoreMatchesReferenceUptoRow.holds Try.pinned (OpenSpec.upto clauseCoreMatchesReferenceSpec)

/-- 'univocallaw12.ClauseRefutationIsSound', WHERE WHAT IT READS IS OF BULK AT MOST 1048576: true; the input reads as it did. -/
def clauseRefutationIsSoundUptoRow : OpenClaim := { program := "ytekbkdbmkjdgbaa", sum := "1e3c96753a5004136a21da0f749a9e44b93d1539814dcc0e38d4c687e68d7b20", func := "univocal/univocallaw12.ClauseRefutationIsSound", spec := "clauseRefutationIsSound", unfollowed := true, recurses := true, apart := false, narrowed := true }
def ClauseRefutationIsSoundUptoSaid : Prop := clauseRefutationIsSoundUptoRow.holds Try.pinned (OpenSpec.upto clauseRefutationIsSoundSpec)

/-- 'univocallaw12.ClauseDecides', WHERE WHAT IT READS IS OF BULK AT MOST 1048576: true; the input reads as it did. -/
def clauseDecidesUptoRow : OpenClaim := { program := "ytekbkdbmkjdgbaa", sum := "1e3c96753a5004136a21da0f749a9e44b93d1539814dcc0e38d4c687e68d7b20", func := "univocal/univocallaw12.ClauseDecides", spec := "clauseDecides", unfollowed := true, recurses := true, apart := false, narrowed := true }
def ClauseDecidesUptoSaid : Prop := clauseDecidesUptoRow.holds Try.pinned (OpenSpec.upto clauseDecidesSpec)

/-- 'univocallaw12.ClauseLeast', WHERE WHAT IT READS IS OF BULK AT MOST 1048576: true; the input reads as it did. -/
def clauseLeastUptoRow : OpenClaim := { program := "ytekbkdbmkjdgbaa", sum := "1e3c96753a5004136a21da0f749a9e44b93d1539814dcc0e38d4c687e68d7b20", func := "univocal/univocallaw12.ClauseLeast", spec := "clauseLeast", unfollowed := true, recurses := true, apart := false, narrowed := true }
def ClauseLeastUptoSaid : Prop := clauseLeastUptoRow.holds Try.pinned (OpenSpec.upto clauseLeastSpec)

/-- 'univocallaw12.ClausePropagationIsSound', WHERE WHAT IT READS IS OF BULK AT MOST 1048576: true; the input reads as it did. -/
def clausePropagationIsSoundUptoRow : OpenClaim := { program := "ytekbkdbmkjdgbaa", sum := "1e3c96753a5004136a21da0f749a9e44b93d1539814dcc0e38d4c687e68d7b20", func := "univocal/univocallaw12.ClausePropagationIsSound", spec := "clausePropagationIsSound", unfollowed := true, recurses := true, apart := false, narrowed := true }
def ClausePropagationIsSoundUptoSaid : Prop := clausePropagationIsSoundUptoRow.holds Try.pinned (OpenSpec.upto clausePropagationIsSoundSpec)

/-- 'univocallaw12.ClausePropagationIsMonotone', WHERE WHAT IT READS IS OF BULK AT MOST 1048576: true; the input reads as it did. -/
def clausePropagationIsMonotoneUptoRow : OpenClaim := { program := "ytekbkdbmkjdgbaa", sum := "1e3c96753a5004136a21da0f749a9e44b93d1539814dcc0e38d4c687e68d7b20", func := "univocal/univocallaw12.ClausePropagationIsMonotone", spec := "clausePropagationIsMonotone", unfollowed := true, recurses := true, apart := false, narrowed := true }
def ClausePropagationIsMonotoneUptoSaid : Prop := clausePropagationIsMonotoneUptoRow.holds Try.pinned (OpenSpec.upto clausePropagationIsMonotoneSpec)

/-- 'univocallaw12.ClauseCoreIsMinimal', WHERE WHAT IT READS IS OF BULK AT MOST 1048576: true; the input reads as it did. -/
def clauseCoreIsMinimalUptoRow : OpenClaim := { program := "ytekbkdbmkjdgbaa", sum := "1e3c96753a5004136a21da0f749a9e44b93d1539814dcc0e38d4c687e68d7b20", func := "univocal/univocallaw12.ClauseCoreIsMinimal", spec := "clauseCoreIsMinimal", unfollowed := true, recurses := true, apart := false, narrowed := true }
def ClauseCoreIsMinimalUptoSaid : Prop := clauseCoreIsMinimalUptoRow.holds Try.pinned (OpenSpec.upto clauseCoreIsMinimalSpec)

/-- 'univocallaw12.ClauseOrder', WHERE WHAT IT READS IS OF BULK AT MOST 1048576: true; the input reads as it did. -/
def clauseOrderUptoRow : OpenClaim := { program := "ytekbkdbmkjdgbaa", sum := "1e3c96753a5004136a21da0f749a9e44b93d1539814dcc0e38d4c687e68d7b20", func := "univocal/univocallaw12.ClauseOrder", spec := "clauseOrder", unfollowed := true, recurses := true, apart := false, narrowed := true }
def ClauseOrderUptoSaid : Prop := clauseOrderUptoRow.holds Try.pinned (OpenSpec.upto clauseOrderSpec)

/-- 'univocallaw12.ClauseRefutationIsSpecific', WHERE WHAT IT READS IS OF BULK AT MOST 1048576: true; the input reads as it did. -/
def clauseRefutationIsSpecificUptoRow : OpenClaim := { program := "ytekbkdbmkjdgbaa", sum := "1e3c96753a5004136a21da0f749a9e44b93d1539814dcc0e38d4c687e68d7b20", func := "univocal/univocallaw12.ClauseRefutationIsSpecific", spec := "clauseRefutationIsSpecific", unfollowed := true, recurses := true, apart := false, narrowed := true }
def ClauseRefutationIsSpecificUptoSaid : Prop := clauseRefutationIsSpecificUptoRow.holds Try.pinned (OpenSpec.upto clauseRefutationIsSpecificSpec)

end Rows
end Go.Proofs.Ytekbkdbmkjdgbaa
