/-
  DERIVED. GIVEN WITH THE SEED: THE CARDS: each row of YtjhanogfpkbamaaGreatDoorRows.lean that lists a variable, with what it lists TIED to the program's text (the seventh form; the later family's looks); each row that meets fmt, with fmt's text TOLD by the authors' own Lean function (tested against real Go, not proved from fmt's source: count such statements apart). THE CARD IS WHAT COUNTS. Prove the row's statement (the work); the ties are given (YtjhanogfpkbamaaGreatDoorTie.lean); close each card by the builder's one call (the guide's Derived/Test/ToyasCard.lean, 'card_holds'). Laid BY PROGRAM, IN A SANDBOX (cutbox-door.mjs). By AI agents, Wed Nov 11 2026. No macro, syntax, notation, axiom, sorry.
-/
import Derived.Test.YtjhanogfpkbamaaGreatDoorRows
import GoSem.ClaimSeven
namespace Go.Proofs.YtjhanogfpkbamaaGreatDoor
namespace Rows

/-- THE TIED CARD OF 'filigreelaw26.ProofEncodes'. -/
def proofEncodesCard : Claim7 := { stood := { row := proofEncodesRow, standIns := [], harness := (true, "03ed115fd26f8f6bccffc51d52c3b0c1f798a132391a6efaefba12860c5e37f5"), looks := true }, kinds := [], alts := [], laidByText := true, laidKinds := [.data, .data, .data, .sentinel, .sentinel], laidTests := true, laidLooks := .later }
def ProofEncodesCardSaid : Prop := Claim7.holds Tryz.pinned (.plain (OpenSpec.ofChange proofEncodesSpec)) proofEncodesCard

/-- THE TIED CARD OF 'filigreelaw26.ProofParts'. -/
def proofPartsCard : Claim7 := { stood := { row := proofPartsRow, standIns := [], harness := (true, "03ed115fd26f8f6bccffc51d52c3b0c1f798a132391a6efaefba12860c5e37f5"), looks := true }, kinds := [], alts := [], laidByText := true, laidKinds := [.data, .data, .data, .sentinel, .sentinel], laidTests := true, laidLooks := .later }
def ProofPartsCardSaid : Prop := Claim7.holds Tryz.pinned (.plain (OpenSpec.ofChange proofPartsSpec)) proofPartsCard

/-- THE TIED CARD OF 'filigreelaw26.ProofUses'. -/
def proofUsesCard : Claim7 := { stood := { row := proofUsesRow, standIns := [], harness := (true, "03ed115fd26f8f6bccffc51d52c3b0c1f798a132391a6efaefba12860c5e37f5"), looks := true }, kinds := [], alts := [], laidByText := true, laidKinds := [.data, .data, .data, .sentinel, .sentinel], laidTests := true, laidLooks := .later }
def ProofUsesCardSaid : Prop := Claim7.holds Tryz.pinned (.plain (OpenSpec.ofChange proofUsesSpec)) proofUsesCard

/-- THE SECOND FORM's CARD OF 'filigreelaw26.ProofEncodes'. -/
def proofEncodesUptoCard : Claim7 := { stood := { row := proofEncodesUptoRow, standIns := [], harness := (true, "03ed115fd26f8f6bccffc51d52c3b0c1f798a132391a6efaefba12860c5e37f5"), looks := true }, kinds := [], alts := [], laidByText := true, laidKinds := [.data, .data, .data, .sentinel, .sentinel], laidTests := true, laidLooks := .later }
def ProofEncodesUptoCardSaid : Prop := Claim7.holds Tryz.pinned (.plain (OpenSpec.upto proofEncodesSpec)) proofEncodesUptoCard

/-- THE SECOND FORM's CARD OF 'filigreelaw26.ProofParts'. -/
def proofPartsUptoCard : Claim7 := { stood := { row := proofPartsUptoRow, standIns := [], harness := (true, "03ed115fd26f8f6bccffc51d52c3b0c1f798a132391a6efaefba12860c5e37f5"), looks := true }, kinds := [], alts := [], laidByText := true, laidKinds := [.data, .data, .data, .sentinel, .sentinel], laidTests := true, laidLooks := .later }
def ProofPartsUptoCardSaid : Prop := Claim7.holds Tryz.pinned (.plain (OpenSpec.upto proofPartsSpec)) proofPartsUptoCard

/-- THE SECOND FORM's CARD OF 'filigreelaw26.ProofUses'. -/
def proofUsesUptoCard : Claim7 := { stood := { row := proofUsesUptoRow, standIns := [], harness := (true, "03ed115fd26f8f6bccffc51d52c3b0c1f798a132391a6efaefba12860c5e37f5"), looks := true }, kinds := [], alts := [], laidByText := true, laidKinds := [.data, .data, .data, .sentinel, .sentinel], laidTests := true, laidLooks := .later }
def ProofUsesUptoCardSaid : Prop := Claim7.holds Tryz.pinned (.plain (OpenSpec.upto proofUsesSpec)) proofUsesUptoCard
end Rows
end Go.Proofs.YtjhanogfpkbamaaGreatDoor
