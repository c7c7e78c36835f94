/-
  DERIVED. GIVEN WITH THE SEED: THE CARDS: each row of YtghnkppcncbddaaGreatDoorRows.lean that lists a variable, with what it lists TIED to the program's text (the seventh form; the later family's looks); each row that meets fmt, with fmt's text TOLD by the authors' own Lean function (tested against real Go, not proved from fmt's source: count such statements apart). THE CARD IS WHAT COUNTS. Prove the row's statement (the work); the ties are given (YtghnkppcncbddaaGreatDoorTie.lean); close each card by the builder's one call (the guide's Derived/Test/ToyasCard.lean, 'card_holds'). Laid BY PROGRAM, IN A SANDBOX (cutbox-door.mjs). By AI agents, Wed Nov 11 2026. No macro, syntax, notation, axiom, sorry.
-/
import Derived.Test.YtghnkppcncbddaaGreatDoorRows
import GoSem.ClaimSeven
namespace Go.Proofs.YtghnkppcncbddaaGreatDoor
namespace Rows

/-- THE TIED CARD OF 'filigreelaw15.ShowTerms'. -/
def showTermsCard : Claim7 := { stood := { row := showTermsRow, standIns := [], harness := (true, "499cba0d53e2c9e8ad178a27064efb2cd4a7c24cbb7ebcd7d9cf479dab48c694"), looks := false }, kinds := [], alts := [], laidByText := true, laidKinds := [.data, .data, .data], laidTests := true, laidLooks := .later }
def ShowTermsCardSaid : Prop := Claim7.holds Tryz.pinned (.plain (OpenSpec.ofChange showTermsSpec)) showTermsCard

/-- THE TIED CARD OF 'filigreelaw15.ShowBack'. -/
def showBackCard : Claim7 := { stood := { row := showBackRow, standIns := [], harness := (true, "499cba0d53e2c9e8ad178a27064efb2cd4a7c24cbb7ebcd7d9cf479dab48c694"), looks := false }, kinds := [], alts := [], laidByText := true, laidKinds := [.data, .data, .data], laidTests := true, laidLooks := .later }
def ShowBackCardSaid : Prop := Claim7.holds Tryz.pinned (.plain (OpenSpec.ofChange showBackSpec)) showBackCard

/-- THE TIED CARD OF 'filigreelaw15.ShowAgain'. -/
def showAgainCard : Claim7 := { stood := { row := showAgainRow, standIns := [], harness := (true, "499cba0d53e2c9e8ad178a27064efb2cd4a7c24cbb7ebcd7d9cf479dab48c694"), looks := false }, kinds := [], alts := [], laidByText := true, laidKinds := [.data, .data, .data], laidTests := true, laidLooks := .later }
def ShowAgainCardSaid : Prop := Claim7.holds Tryz.pinned (.plain (OpenSpec.ofChange showAgainSpec)) showAgainCard

/-- THE SECOND FORM's CARD OF 'filigreelaw15.ShowTerms'. -/
def showTermsUptoCard : Claim7 := { stood := { row := showTermsUptoRow, standIns := [], harness := (true, "499cba0d53e2c9e8ad178a27064efb2cd4a7c24cbb7ebcd7d9cf479dab48c694"), looks := false }, kinds := [], alts := [], laidByText := true, laidKinds := [.data, .data, .data], laidTests := true, laidLooks := .later }
def ShowTermsUptoCardSaid : Prop := Claim7.holds Tryz.pinned (.plain (OpenSpec.upto showTermsSpec)) showTermsUptoCard

/-- THE SECOND FORM's CARD OF 'filigreelaw15.ShowBack'. -/
def showBackUptoCard : Claim7 := { stood := { row := showBackUptoRow, standIns := [], harness := (true, "499cba0d53e2c9e8ad178a27064efb2cd4a7c24cbb7ebcd7d9cf479dab48c694"), looks := false }, kinds := [], alts := [], laidByText := true, laidKinds := [.data, .data, .data], laidTests := true, laidLooks := .later }
def ShowBackUptoCardSaid : Prop := Claim7.holds Tryz.pinned (.plain (OpenSpec.upto showBackSpec)) showBackUptoCard

/-- THE SECOND FORM's CARD OF 'filigreelaw15.ShowAgain'. -/
def showAgainUptoCard : Claim7 := { stood := { row := showAgainUptoRow, standIns := [], harness := (true, "499cba0d53e2c9e8ad178a27064efb2cd4a7c24cbb7ebcd7d9cf479dab48c694"), looks := false }, kinds := [], alts := [], laidByText := true, laidKinds := [.data, .data, .data], laidTests := true, laidLooks := .later }
def ShowAgainUptoCardSaid : Prop := Claim7.holds Tryz.pinned (.plain (OpenSpec.upto showAgainSpec)) showAgainUptoCard
end Rows
end Go.Proofs.YtghnkppcncbddaaGreatDoor
