/-
  DERIVED. GIVEN WITH THE SEED: THE CARDS: each row of YtcleopoapogcgaaGreatDoorRows.lean that lists a variable, with what it lists TIED to the program's text (the seventh form; the later family's looks); each row that meets fmt, with fmt's text TOLD by the authors' own Lean function (tested against real Go, not proved from fmt's source: count such statements apart). THE CARD IS WHAT COUNTS. Prove the row's statement (the work); the ties are given (YtcleopoapogcgaaGreatDoorTie.lean); close each card by the builder's one call (the guide's Derived/Test/ToyasCard.lean, 'card_holds'). Laid BY PROGRAM, IN A SANDBOX (cutbox-door.mjs). By AI agents, Wed Nov 11 2026. No macro, syntax, notation, axiom, sorry.
-/
import Derived.Test.YtcleopoapogcgaaGreatDoorRows
import GoSem.ClaimSeven
namespace Go.Proofs.YtcleopoapogcgaaGreatDoor
namespace Rows

/-- THE TIED CARD OF 'underpinlaw28.BoundNumbers'. -/
def boundNumbersCard : Claim7 := { stood := { row := boundNumbersRow, standIns := [], harness := (true, "c030d9f3c39e737955f457213a41969658d6d6096ece8b912e37cc71bcbb19bc"), looks := true }, kinds := [], alts := [], laidByText := true, laidKinds := [.data], laidTests := true, laidLooks := .later }
def BoundNumbersCardSaid : Prop := Claim7.holds Tryz.pinned (.plain (OpenSpec.ofChange boundNumbersSpec)) boundNumbersCard

/-- THE SECOND FORM's CARD OF 'underpinlaw28.BoundNumbers'. -/
def boundNumbersUptoCard : Claim7 := { stood := { row := boundNumbersUptoRow, standIns := [], harness := (true, "c030d9f3c39e737955f457213a41969658d6d6096ece8b912e37cc71bcbb19bc"), looks := true }, kinds := [], alts := [], laidByText := true, laidKinds := [.data], laidTests := true, laidLooks := .later }
def BoundNumbersUptoCardSaid : Prop := Claim7.holds Tryz.pinned (.plain (OpenSpec.upto boundNumbersSpec)) boundNumbersUptoCard
end Rows
end Go.Proofs.YtcleopoapogcgaaGreatDoor
