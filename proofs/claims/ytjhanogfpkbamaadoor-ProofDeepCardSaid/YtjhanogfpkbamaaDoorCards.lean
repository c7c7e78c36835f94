/-
  DERIVED. GIVEN WITH THE SEED: THE CARDS: each row of YtjhanogfpkbamaaDoorRows.lean that lists a variable, with what it lists TIED to the program's text (the seventh form; the later family's looks); each row that meets fmt, with fmt's text TOLD by the authors' own Lean function (tested against real Go, not proved from fmt's source: count such statements apart). THE CARD IS WHAT COUNTS. Prove the row's statement (the work); the ties are given (YtjhanogfpkbamaaDoorTie.lean); close each card by the builder's one call (the guide's Derived/Test/ToyasCard.lean, 'card_holds'). Laid BY PROGRAM, IN A SANDBOX (cutbox-door.mjs). By AI agents, Wed Nov 11 2026. No macro, syntax, notation, axiom, sorry.
-/
import Derived.Test.YtjhanogfpkbamaaDoorRows
import GoSem.ClaimSeven
namespace Go.Proofs.YtjhanogfpkbamaaDoor
namespace Rows

/-- THE TIED CARD OF 'filigreelaw26.ProofDeep'. -/
def proofDeepCard : Claim7 := { stood := { row := proofDeepRow, standIns := [], harness := (true, "f2c389169e1666b36eb5f3891f0842362f3e7bfb9ffa73770ca90134edf49b90"), looks := true }, kinds := [], alts := [], laidByText := true, laidKinds := [.data, .data, .data, .sentinel, .sentinel], laidTests := true, laidLooks := .later }
def ProofDeepCardSaid : Prop := Claim7.holds Tryd.pinned (.plain (OpenSpec.ofChange proofDeepSpec)) proofDeepCard

/-- THE SECOND FORM's CARD OF 'filigreelaw26.ProofDeep'. -/
def proofDeepUptoCard : Claim7 := { stood := { row := proofDeepUptoRow, standIns := [], harness := (true, "f2c389169e1666b36eb5f3891f0842362f3e7bfb9ffa73770ca90134edf49b90"), looks := true }, kinds := [], alts := [], laidByText := true, laidKinds := [.data, .data, .data, .sentinel, .sentinel], laidTests := true, laidLooks := .later }
def ProofDeepUptoCardSaid : Prop := Claim7.holds Tryd.pinned (.plain (OpenSpec.upto proofDeepSpec)) proofDeepUptoCard
end Rows
end Go.Proofs.YtjhanogfpkbamaaDoor
