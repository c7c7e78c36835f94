/-
  DERIVED. GIVEN WITH THE SEED: THE CARDS: each row of YtghnkppcncbddaaDoorRows.lean that lists a variable, with what it lists TIED to the program's text (the seventh form; the later family's looks); each row that meets fmt, with fmt's text TOLD by the authors' own Lean function (tested against real Go, not proved from fmt's source: count such statements apart). THE CARD IS WHAT COUNTS. Prove the row's statement (the work); the ties are given (YtghnkppcncbddaaDoorTie.lean); close each card by the builder's one call (the guide's Derived/Test/ToyasCard.lean, 'card_holds'). Laid BY PROGRAM, IN A SANDBOX (cutbox-door.mjs). By AI agents, Wed Nov 11 2026. No macro, syntax, notation, axiom, sorry.
-/
import Derived.Test.YtghnkppcncbddaaDoorRows
import GoSem.ClaimSeven
namespace Go.Proofs.YtghnkppcncbddaaDoor
namespace Rows

/-- THE TIED CARD OF 'filigreelaw15.ShowTrees'. -/
def showTreesCard : Claim7 := { stood := { row := showTreesRow, standIns := [], harness := (true, "c774014da423154f27b411626d776e198c2e70124aece9765449fb1977b24eb0"), looks := false }, kinds := [], alts := [], laidByText := true, laidKinds := [.data, .data, .data], laidTests := true, laidLooks := .later }
def ShowTreesCardSaid : Prop := Claim7.holds Tryd.pinned (.plain (OpenSpec.ofChange showTreesSpec)) showTreesCard

/-- THE TIED CARD OF 'filigreelaw15.ShowItems'. -/
def showItemsCard : Claim7 := { stood := { row := showItemsRow, standIns := [], harness := (true, "c774014da423154f27b411626d776e198c2e70124aece9765449fb1977b24eb0"), looks := false }, kinds := [], alts := [], laidByText := true, laidKinds := [.data, .data, .data], laidTests := true, laidLooks := .later }
def ShowItemsCardSaid : Prop := Claim7.holds Tryd.pinned (.plain (OpenSpec.ofChange showItemsSpec)) showItemsCard

/-- THE SECOND FORM's CARD OF 'filigreelaw15.ShowTrees'. -/
def showTreesUptoCard : Claim7 := { stood := { row := showTreesUptoRow, standIns := [], harness := (true, "c774014da423154f27b411626d776e198c2e70124aece9765449fb1977b24eb0"), looks := false }, kinds := [], alts := [], laidByText := true, laidKinds := [.data, .data, .data], laidTests := true, laidLooks := .later }
def ShowTreesUptoCardSaid : Prop := Claim7.holds Tryd.pinned (.plain (OpenSpec.upto showTreesSpec)) showTreesUptoCard

/-- THE SECOND FORM's CARD OF 'filigreelaw15.ShowItems'. -/
def showItemsUptoCard : Claim7 := { stood := { row := showItemsUptoRow, standIns := [], harness := (true, "c774014da423154f27b411626d776e198c2e70124aece9765449fb1977b24eb0"), looks := false }, kinds := [], alts := [], laidByText := true, laidKinds := [.data, .data, .data], laidTests := true, laidLooks := .later }
def ShowItemsUptoCardSaid : Prop := Claim7.holds Tryd.pinned (.plain (OpenSpec.upto showItemsSpec)) showItemsUptoCard
end Rows
end Go.Proofs.YtghnkppcncbddaaDoor
