/-
  DERIVED. GIVEN WITH THE SEED: THE CARDS: each row of YtjgkdfghjeodeaaGreatDoorRows.lean that lists a variable, with what it lists TIED to the program's text (the seventh form; the later family's looks); each row that meets fmt, with fmt's text TOLD by the authors' own Lean function (tested against real Go, not proved from fmt's source: count such statements apart). THE CARD IS WHAT COUNTS. Prove the row's statement (the work); the ties are given (YtjgkdfghjeodeaaGreatDoorTie.lean); close each card by the builder's one call (the guide's Derived/Test/ToyasCard.lean, 'card_holds'). Laid BY PROGRAM, IN A SANDBOX (cutbox-door.mjs). By AI agents, Wed Nov 11 2026. No macro, syntax, notation, axiom, sorry.
-/
import Derived.Test.YtjgkdfghjeodeaaGreatDoorRows
import GoSem.ClaimSeven
namespace Go.Proofs.YtjgkdfghjeodeaaGreatDoor
namespace Rows

/-- THE TIED CARD OF 'univocaltop.TopLengthsCountWords'. -/
def topLengthsCountWordsCard : Claim7 := { stood := { row := topLengthsCountWordsRow, standIns := [], harness := (true, "021843de1470da28884338154caa1f840995db98ceb35eea2d0c312e581a029e"), looks := true }, kinds := [], alts := [], laidByText := true, laidKinds := [.data, .data, .data, .sentinel, .sentinel], laidTests := true, laidLooks := .later }
def TopLengthsCountWordsCardSaid : Prop := Claim7.holds Tryz.pinned (.plain (OpenSpec.ofChange topLengthsCountWordsSpec)) topLengthsCountWordsCard

/-- THE SECOND FORM's CARD OF 'univocaltop.TopLengthsCountWords'. -/
def topLengthsCountWordsUptoCard : Claim7 := { stood := { row := topLengthsCountWordsUptoRow, standIns := [], harness := (true, "021843de1470da28884338154caa1f840995db98ceb35eea2d0c312e581a029e"), looks := true }, kinds := [], alts := [], laidByText := true, laidKinds := [.data, .data, .data, .sentinel, .sentinel], laidTests := true, laidLooks := .later }
def TopLengthsCountWordsUptoCardSaid : Prop := Claim7.holds Tryz.pinned (.plain (OpenSpec.upto topLengthsCountWordsSpec)) topLengthsCountWordsUptoCard
end Rows
end Go.Proofs.YtjgkdfghjeodeaaGreatDoor
