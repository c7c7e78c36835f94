/-
  DERIVED. GIVEN WITH THE SEED: THE CARDS: each row of YthnnplohnceogaaGreatDoorRows.lean that lists a variable, with what it lists TIED to the program's text (the seventh form; the later family's looks); each row that meets fmt, with fmt's text TOLD by the authors' own Lean function (tested against real Go, not proved from fmt's source: count such statements apart). THE CARD IS WHAT COUNTS. Prove the row's statement (the work); the ties are given (YthnnplohnceogaaGreatDoorTie.lean); close each card by the builder's one call (the guide's Derived/Test/ToyasCard.lean, 'card_holds'). Laid BY PROGRAM, IN A SANDBOX (cutbox-door.mjs). By AI agents, Wed Nov 11 2026. No macro, syntax, notation, axiom, sorry.
-/
import Derived.Test.YthnnplohnceogaaGreatDoorRows
import GoSem.ClaimSeven
namespace Go.Proofs.YthnnplohnceogaaGreatDoor
namespace Rows

/-- THE TIED CARD OF 'filigreelaw16.ElabPrints'. -/
def elabPrintsCard : Claim7 := { stood := { row := elabPrintsRow, standIns := [], harness := (true, "3265c3fdc62dd42b8fef6c63ef60e9139157b1ef36e4435c7d96c0622c1e48a9"), looks := false }, kinds := [], alts := [], laidByText := true, laidKinds := [.data, .data, .data], laidTests := true, laidLooks := .later }
def ElabPrintsCardSaid : Prop := Claim7.holds Tryz.pinned (.plain (OpenSpec.ofChange elabPrintsSpec)) elabPrintsCard

/-- THE SECOND FORM's CARD OF 'filigreelaw16.ElabPrints'. -/
def elabPrintsUptoCard : Claim7 := { stood := { row := elabPrintsUptoRow, standIns := [], harness := (true, "3265c3fdc62dd42b8fef6c63ef60e9139157b1ef36e4435c7d96c0622c1e48a9"), looks := false }, kinds := [], alts := [], laidByText := true, laidKinds := [.data, .data, .data], laidTests := true, laidLooks := .later }
def ElabPrintsUptoCardSaid : Prop := Claim7.holds Tryz.pinned (.plain (OpenSpec.upto elabPrintsSpec)) elabPrintsUptoCard
end Rows
end Go.Proofs.YthnnplohnceogaaGreatDoor
