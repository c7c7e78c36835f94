/-
  DERIVED. GIVEN WITH THE SEED: THE CARDS: each row of YtdcikhleahfknaaGreatDoorRows.lean that lists a variable, with what it lists TIED to the program's text (the seventh form; the later family's looks); each row that meets fmt, with fmt's text TOLD by the authors' own Lean function (tested against real Go, not proved from fmt's source: count such statements apart). THE CARD IS WHAT COUNTS. Prove the row's statement (the work); the ties are given (YtdcikhleahfknaaGreatDoorTie.lean); close each card by the builder's one call (the guide's Derived/Test/ToyasCard.lean, 'card_holds'). Laid BY PROGRAM, IN A SANDBOX (cutbox-door.mjs). By AI agents, Wed Nov 11 2026. No macro, syntax, notation, axiom, sorry.
-/
import Derived.Test.YtdcikhleahfknaaGreatDoorRows
import GoSem.ClaimSeven
namespace Go.Proofs.YtdcikhleahfknaaGreatDoor
namespace Rows

/-- THE TIED CARD OF 'filigreelaw21.ClosureIns'. -/
def closureInsCard : Claim7 := { stood := { row := closureInsRow, standIns := [], harness := (true, "1aa58fd36eae13b707b5bf0072b7f33b7c8a13acdcbdd1095491556fcc29ae9d"), looks := false }, kinds := [], alts := [], laidByText := true, laidKinds := [.data, .data, .data], laidTests := true, laidLooks := .later }
def ClosureInsCardSaid : Prop := Claim7.holds Tryz.pinned (.plain (OpenSpec.ofChange closureInsSpec)) closureInsCard

/-- THE TIED CARD OF 'filigreelaw21.ClosureParts'. -/
def closurePartsCard : Claim7 := { stood := { row := closurePartsRow, standIns := [], harness := (true, "1aa58fd36eae13b707b5bf0072b7f33b7c8a13acdcbdd1095491556fcc29ae9d"), looks := false }, kinds := [], alts := [], laidByText := true, laidKinds := [.data, .data, .data], laidTests := true, laidLooks := .later }
def ClosurePartsCardSaid : Prop := Claim7.holds Tryz.pinned (.plain (OpenSpec.ofChange closurePartsSpec)) closurePartsCard

/-- THE TIED CARD OF 'filigreelaw21.ClosureDowns'. -/
def closureDownsCard : Claim7 := { stood := { row := closureDownsRow, standIns := [], harness := (true, "1aa58fd36eae13b707b5bf0072b7f33b7c8a13acdcbdd1095491556fcc29ae9d"), looks := false }, kinds := [], alts := [], laidByText := true, laidKinds := [.data, .data, .data], laidTests := true, laidLooks := .later }
def ClosureDownsCardSaid : Prop := Claim7.holds Tryz.pinned (.plain (OpenSpec.ofChange closureDownsSpec)) closureDownsCard

/-- THE SECOND FORM's CARD OF 'filigreelaw21.ClosureIns'. -/
def closureInsUptoCard : Claim7 := { stood := { row := closureInsUptoRow, standIns := [], harness := (true, "1aa58fd36eae13b707b5bf0072b7f33b7c8a13acdcbdd1095491556fcc29ae9d"), looks := false }, kinds := [], alts := [], laidByText := true, laidKinds := [.data, .data, .data], laidTests := true, laidLooks := .later }
def ClosureInsUptoCardSaid : Prop := Claim7.holds Tryz.pinned (.plain (OpenSpec.upto closureInsSpec)) closureInsUptoCard

/-- THE SECOND FORM's CARD OF 'filigreelaw21.ClosureParts'. -/
def closurePartsUptoCard : Claim7 := { stood := { row := closurePartsUptoRow, standIns := [], harness := (true, "1aa58fd36eae13b707b5bf0072b7f33b7c8a13acdcbdd1095491556fcc29ae9d"), looks := false }, kinds := [], alts := [], laidByText := true, laidKinds := [.data, .data, .data], laidTests := true, laidLooks := .later }
def ClosurePartsUptoCardSaid : Prop := Claim7.holds Tryz.pinned (.plain (OpenSpec.upto closurePartsSpec)) closurePartsUptoCard

/-- THE SECOND FORM's CARD OF 'filigreelaw21.ClosureDowns'. -/
def closureDownsUptoCard : Claim7 := { stood := { row := closureDownsUptoRow, standIns := [], harness := (true, "1aa58fd36eae13b707b5bf0072b7f33b7c8a13acdcbdd1095491556fcc29ae9d"), looks := false }, kinds := [], alts := [], laidByText := true, laidKinds := [.data, .data, .data], laidTests := true, laidLooks := .later }
def ClosureDownsUptoCardSaid : Prop := Claim7.holds Tryz.pinned (.plain (OpenSpec.upto closureDownsSpec)) closureDownsUptoCard
end Rows
end Go.Proofs.YtdcikhleahfknaaGreatDoor
