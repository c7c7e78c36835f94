/-
  NARROWER THAN 'FOR EVERY INPUT', by the rows' own cells (each row's printed sentence says how): PatternTakes: loops · PatternUses: loops · PatternMakes: loops · RawMakes: loops · RawInfers: loops · RawKeeps: loops · RawParts: loops · RawFroms: loops.
  DERIVED. THE GIVEN ROWS OF THIS SEAT. 9 by the template 'for every input the law returns true; each argument reads behind the call as it read before'; 0 by the template 'total and deterministic' (their statements: YtfbncddnakaaiaaTotals.lean).
  GIVEN WITH THE SEED: the statements are not yours to turn. If you find one false, say at which input.
  Laid BY PROGRAM, IN A SANDBOX (cutbox-rows.mjs): the forced cells as the released guide's own fill.sh prints them over the translation 2e10e121e9ae626e… (all of the seat's roots in one cut). By AI agents, Wed Nov 11 2026. No macro, syntax, notation, axiom, sorry.
-/
import Derived.Test.YtfbncddnakaaiaaChecked
import GoSem.Claim
import GoSem.ClaimJoined
import GoSem.ClaimMapViews
import Derived.JoinedTies
import Derived.KernelRfl
namespace Go.Proofs.Ytfbncddnakaaiaa
/- THE CELL 'sum', in the pinned program and in every row, IS THE sha256 OF THE DUMP (.gsa) THAT YtfbncddnakaaiaaProg.lean LOADS. Nothing in Lean hashes anything: it is a label: what it is worth is what the hold of that sum in a sandbox is worth. -/
noncomputable def Try.pinned : Pinned := { name := "ytfbncddnakaaiaa", sum := "2e10e121e9ae626e23df71d0723d275c1921a6d0831980e7d208abf2054f7c7d", checked := Try.checked }
namespace Rows
def none {H : Type} : Left H := { results := [], args := [] }

/-- 'filigreelaw11.PatternTakes': WHATEVER THE INPUT: true; the input reads as it did. -/
def patternTakesSpec : ChangeSpec := { name := "patternTakes", fn := fun _ => fun
  | [d1, d2, d3] => { results := [.lit (.bool true)], args := [d1, d2, d3] }
  | _ => none }
def patternTakesRow : OpenClaim := { program := "ytfbncddnakaaiaa", sum := "2e10e121e9ae626e23df71d0723d275c1921a6d0831980e7d208abf2054f7c7d", func := "filigree/filigreelaw11.PatternTakes", spec := "patternTakes", unfollowed := true, recurses := true, loops := true, apart := false }
def PatternTakesSaid : Prop := patternTakesRow.holds Try.pinned (OpenSpec.ofChange patternTakesSpec)

/-- ITS FALSE NEIGHBOUR: 'it returns false'. Refute it at one input. -/
def patternTakesWrong : ChangeSpec := { name := "patternTakes", fn := fun _ => fun
  | [d1, d2, d3] => { results := [.lit (.bool false)], args := [d1, d2, d3] }
  | _ => none }
def PatternTakesWrongFalsely : Prop := patternTakesRow.holds Try.pinned (OpenSpec.ofChange patternTakesWrong)

/-- 'filigreelaw11.PatternSame': WHATEVER THE INPUT: true; the input reads as it did. -/
def patternSameSpec : ChangeSpec := { name := "patternSame", fn := fun _ => fun
  | [d1, d2] => { results := [.lit (.bool true)], args := [d1, d2] }
  | _ => none }
def patternSameRow : OpenClaim := { program := "ytfbncddnakaaiaa", sum := "2e10e121e9ae626e23df71d0723d275c1921a6d0831980e7d208abf2054f7c7d", func := "filigree/filigreelaw11.PatternSame", spec := "patternSame", unfollowed := true, recurses := true, apart := false }
def PatternSameSaid : Prop := patternSameRow.holds Try.pinned (OpenSpec.ofChange patternSameSpec)

/-- ITS FALSE NEIGHBOUR: 'it returns false'. Refute it at one input. -/
def patternSameWrong : ChangeSpec := { name := "patternSame", fn := fun _ => fun
  | [d1, d2] => { results := [.lit (.bool false)], args := [d1, d2] }
  | _ => none }
def PatternSameWrongFalsely : Prop := patternSameRow.holds Try.pinned (OpenSpec.ofChange patternSameWrong)

/-- 'filigreelaw11.PatternUses': WHATEVER THE INPUT: true; the input reads as it did. -/
def patternUsesSpec : ChangeSpec := { name := "patternUses", fn := fun _ => fun
  | [d1, d2] => { results := [.lit (.bool true)], args := [d1, d2] }
  | _ => none }
def patternUsesRow : OpenClaim := { program := "ytfbncddnakaaiaa", sum := "2e10e121e9ae626e23df71d0723d275c1921a6d0831980e7d208abf2054f7c7d", func := "filigree/filigreelaw11.PatternUses", spec := "patternUses", unfollowed := true, recurses := true, loops := true, apart := false }
def PatternUsesSaid : Prop := patternUsesRow.holds Try.pinned (OpenSpec.ofChange patternUsesSpec)

/-- ITS FALSE NEIGHBOUR: 'it returns false'. Refute it at one input. -/
def patternUsesWrong : ChangeSpec := { name := "patternUses", fn := fun _ => fun
  | [d1, d2] => { results := [.lit (.bool false)], args := [d1, d2] }
  | _ => none }
def PatternUsesWrongFalsely : Prop := patternUsesRow.holds Try.pinned (OpenSpec.ofChange patternUsesWrong)

/-- 'filigreelaw11.PatternMakes': WHATEVER THE INPUT: true; the input reads as it did. -/
def patternMakesSpec : ChangeSpec := { name := "patternMakes", fn := fun _ => fun
  | [d1, d2, d3] => { results := [.lit (.bool true)], args := [d1, d2, d3] }
  | _ => none }
def patternMakesRow : OpenClaim := { program := "ytfbncddnakaaiaa", sum := "2e10e121e9ae626e23df71d0723d275c1921a6d0831980e7d208abf2054f7c7d", func := "filigree/filigreelaw11.PatternMakes", spec := "patternMakes", unfollowed := true, recurses := true, loops := true, apart := false }
def PatternMakesSaid : Prop := patternMakesRow.holds Try.pinned (OpenSpec.ofChange patternMakesSpec)

/-- ITS FALSE NEIGHBOUR: 'it returns false'. Refute it at one input. -/
def patternMakesWrong : ChangeSpec := { name := "patternMakes", fn := fun _ => fun
  | [d1, d2, d3] => { results := [.lit (.bool false)], args := [d1, d2, d3] }
  | _ => none }
def PatternMakesWrongFalsely : Prop := patternMakesRow.holds Try.pinned (OpenSpec.ofChange patternMakesWrong)

/-- 'filigreelaw07.RawMakes': WHATEVER THE INPUT: true; the input reads as it did. -/
def rawMakesSpec : ChangeSpec := { name := "rawMakes", fn := fun _ => fun
  | [d1, d2, d3, d4, d5] => { results := [.lit (.bool true)], args := [d1, d2, d3, d4, d5] }
  | _ => none }
def rawMakesRow : OpenClaim := { program := "ytfbncddnakaaiaa", sum := "2e10e121e9ae626e23df71d0723d275c1921a6d0831980e7d208abf2054f7c7d", func := "filigree/filigreelaw07.RawMakes", spec := "rawMakes", unfollowed := true, recurses := true, loops := true, apart := false }
def RawMakesSaid : Prop := rawMakesRow.holds Try.pinned (OpenSpec.ofChange rawMakesSpec)

/-- ITS FALSE NEIGHBOUR: 'it returns false'. Refute it at one input. -/
def rawMakesWrong : ChangeSpec := { name := "rawMakes", fn := fun _ => fun
  | [d1, d2, d3, d4, d5] => { results := [.lit (.bool false)], args := [d1, d2, d3, d4, d5] }
  | _ => none }
def RawMakesWrongFalsely : Prop := rawMakesRow.holds Try.pinned (OpenSpec.ofChange rawMakesWrong)

/-- 'filigreelaw07.RawInfers': WHATEVER THE INPUT: true; the input reads as it did. -/
def rawInfersSpec : ChangeSpec := { name := "rawInfers", fn := fun _ => fun
  | [d1, d2, d3] => { results := [.lit (.bool true)], args := [d1, d2, d3] }
  | _ => none }
def rawInfersRow : OpenClaim := { program := "ytfbncddnakaaiaa", sum := "2e10e121e9ae626e23df71d0723d275c1921a6d0831980e7d208abf2054f7c7d", func := "filigree/filigreelaw07.RawInfers", spec := "rawInfers", unfollowed := true, recurses := true, loops := true, apart := false }
def RawInfersSaid : Prop := rawInfersRow.holds Try.pinned (OpenSpec.ofChange rawInfersSpec)

/-- ITS FALSE NEIGHBOUR: 'it returns false'. Refute it at one input. -/
def rawInfersWrong : ChangeSpec := { name := "rawInfers", fn := fun _ => fun
  | [d1, d2, d3] => { results := [.lit (.bool false)], args := [d1, d2, d3] }
  | _ => none }
def RawInfersWrongFalsely : Prop := rawInfersRow.holds Try.pinned (OpenSpec.ofChange rawInfersWrong)

/-- 'filigreelaw07.RawKeeps': WHATEVER THE INPUT: true; the input reads as it did. -/
def rawKeepsSpec : ChangeSpec := { name := "rawKeeps", fn := fun _ => fun
  | [d1, d2, d3] => { results := [.lit (.bool true)], args := [d1, d2, d3] }
  | _ => none }
def rawKeepsRow : OpenClaim := { program := "ytfbncddnakaaiaa", sum := "2e10e121e9ae626e23df71d0723d275c1921a6d0831980e7d208abf2054f7c7d", func := "filigree/filigreelaw07.RawKeeps", spec := "rawKeeps", unfollowed := true, recurses := true, loops := true, apart := false }
def RawKeepsSaid : Prop := rawKeepsRow.holds Try.pinned (OpenSpec.ofChange rawKeepsSpec)

/-- ITS FALSE NEIGHBOUR: 'it returns false'. Refute it at one input. -/
def rawKeepsWrong : ChangeSpec := { name := "rawKeeps", fn := fun _ => fun
  | [d1, d2, d3] => { results := [.lit (.bool false)], args := [d1, d2, d3] }
  | _ => none }
def RawKeepsWrongFalsely : Prop := rawKeepsRow.holds Try.pinned (OpenSpec.ofChange rawKeepsWrong)

/-- 'filigreelaw07.RawParts': WHATEVER THE INPUT: true; the input reads as it did. -/
def rawPartsSpec : ChangeSpec := { name := "rawParts", fn := fun _ => fun
  | [d1, d2] => { results := [.lit (.bool true)], args := [d1, d2] }
  | _ => none }
def rawPartsRow : OpenClaim := { program := "ytfbncddnakaaiaa", sum := "2e10e121e9ae626e23df71d0723d275c1921a6d0831980e7d208abf2054f7c7d", func := "filigree/filigreelaw07.RawParts", spec := "rawParts", unfollowed := true, recurses := true, loops := true, apart := false }
def RawPartsSaid : Prop := rawPartsRow.holds Try.pinned (OpenSpec.ofChange rawPartsSpec)

/-- ITS FALSE NEIGHBOUR: 'it returns false'. Refute it at one input. -/
def rawPartsWrong : ChangeSpec := { name := "rawParts", fn := fun _ => fun
  | [d1, d2] => { results := [.lit (.bool false)], args := [d1, d2] }
  | _ => none }
def RawPartsWrongFalsely : Prop := rawPartsRow.holds Try.pinned (OpenSpec.ofChange rawPartsWrong)

/-- 'filigreelaw07.RawFroms': WHATEVER THE INPUT: true; the input reads as it did. -/
def rawFromsSpec : ChangeSpec := { name := "rawFroms", fn := fun _ => fun
  | [d1, d2, d3] => { results := [.lit (.bool true)], args := [d1, d2, d3] }
  | _ => none }
def rawFromsRow : OpenClaim := { program := "ytfbncddnakaaiaa", sum := "2e10e121e9ae626e23df71d0723d275c1921a6d0831980e7d208abf2054f7c7d", func := "filigree/filigreelaw07.RawFroms", spec := "rawFroms", unfollowed := true, recurses := true, loops := true, apart := false }
def RawFromsSaid : Prop := rawFromsRow.holds Try.pinned (OpenSpec.ofChange rawFromsSpec)

/-- ITS FALSE NEIGHBOUR: 'it returns false'. Refute it at one input. -/
def rawFromsWrong : ChangeSpec := { name := "rawFroms", fn := fun _ => fun
  | [d1, d2, d3] => { results := [.lit (.bool false)], args := [d1, d2, d3] }
  | _ => none }
def RawFromsWrongFalsely : Prop := rawFromsRow.holds Try.pinned (OpenSpec.ofChange rawFromsWrong)

/- THE SECOND FORM. 'bulk': how many values and letters a reading holds, each counted each time it is reached (what is shared counts as often as it is met; a slice's spare places count too). A statement '..UptoSaid' is the law's where the arguments, and the package variables that the reading takes, are together of bulk at most 1048576: NARROWER than '..Said'. Prove '..Said' where nothing that the law and all that it calls make is longer than what came in: it says more and counts as full. Else prove '..UptoSaid'. A law counts once. -/
mutual
def uptoBulk {H : Type} : DataW H → Nat
  | .lit (.string bytes) => bytes.length + 1
  | .lit _ => 1
  | .nil => 1
  | .ptr d => uptoBulk d + 1
  | .slice elems spare => uptoBulkAll elems + uptoBulkAll spare + 1
  | .agg parts => uptoBulkAll parts + 1
  | .iface _ d => uptoBulk d + 1
  | .map entries => uptoBulkEntries entries + 1
  | .held _ => 1
def uptoBulkAll {H : Type} : List (DataW H) → Nat
  | [] => 0
  | d :: r => uptoBulk d + uptoBulkAll r
def uptoBulkEntries {H : Type} : List (Lit × DataW H) → Nat
  | [] => 0
  | x :: r => uptoBulkEntry x + uptoBulkEntries r
def uptoBulkEntry {H : Type} : Lit × DataW H → Nat
  | (.string bytes, d) => bytes.length + uptoBulk d + 1
  | (_, d) => uptoBulk d + 1
 end
def uptoSmall : (H : Type) → List (DataW H) → Bool := fun _ ds => decide (uptoBulkAll ds ≤ 1048576)
def OpenSpec.upto (s : _root_.Go.ChangeSpec) : _root_.Go.OpenSpec := { _root_.Go.OpenSpec.ofChange s with cond := some uptoSmall }

/-- 'filigreelaw11.PatternTakes', WHERE WHAT IT READS IS OF BULK AT MOST 1048576: true; the input reads as it did. -/
def patternTakesUptoRow : OpenClaim := { program := "ytfbncddnakaaiaa", sum := "2e10e121e9ae626e23df71d0723d275c1921a6d0831980e7d208abf2054f7c7d", func := "filigree/filigreelaw11.PatternTakes", spec := "patternTakes", unfollowed := true, recurses := true, loops := true, apart := false, narrowed := true }
def PatternTakesUptoSaid : Prop := patternTakesUptoRow.holds Try.pinned (OpenSpec.upto patternTakesSpec)

/-- 'filigreelaw11.PatternSame', WHERE WHAT IT READS IS OF BULK AT MOST 1048576: true; the input reads as it did. -/
def patternSameUptoRow : OpenClaim := { program := "ytfbncddnakaaiaa", sum := "2e10e121e9ae626e23df71d0723d275c1921a6d0831980e7d208abf2054f7c7d", func := "filigree/filigreelaw11.PatternSame", spec := "patternSame", unfollowed := true, recurses := true, apart := false, narrowed := true }
def PatternSameUptoSaid : Prop := patternSameUptoRow.holds Try.pinned (OpenSpec.upto patternSameSpec)

/-- 'filigreelaw11.PatternUses', WHERE WHAT IT READS IS OF BULK AT MOST 1048576: true; the input reads as it did. -/
def patternUsesUptoRow : OpenClaim := { program := "ytfbncddnakaaiaa", sum := "2e10e121e9ae626e23df71d0723d275c1921a6d0831980e7d208abf2054f7c7d", func := "filigree/filigreelaw11.PatternUses", spec := "patternUses", unfollowed := true, recurses := true, loops := true, apart := false, narrowed := true }
def PatternUsesUptoSaid : Prop := patternUsesUptoRow.holds Try.pinned (OpenSpec.upto patternUsesSpec)

/-- 'filigreelaw11.PatternMakes', WHERE WHAT IT READS IS OF BULK AT MOST 1048576: true; the input reads as it did. -/
def patternMakesUptoRow : OpenClaim := { program := "ytfbncddnakaaiaa", sum := "2e10e121e9ae626e23df71d0723d275c1921a6d0831980e7d208abf2054f7c7d", func := "filigree/filigreelaw11.PatternMakes", spec := "patternMakes", unfollowed := true, recurses := true, loops := true, apart := false, narrowed := true }
def PatternMakesUptoSaid : Prop := patternMakesUptoRow.holds Try.pinned (OpenSpec.upto patternMakesSpec)

/-- 'filigreelaw07.RawMakes', WHERE WHAT IT READS IS OF BULK AT MOST 1048576: true; the input reads as it did. -/
def rawMakesUptoRow : OpenClaim := { program := "ytfbncddnakaaiaa", sum := "2e10e121e9ae626e23df71d0723d275c1921a6d0831980e7d208abf2054f7c7d", func := "filigree/filigreelaw07.RawMakes", spec := "rawMakes", unfollowed := true, recurses := true, loops := true, apart := false, narrowed := true }
def RawMakesUptoSaid : Prop := rawMakesUptoRow.holds Try.pinned (OpenSpec.upto rawMakesSpec)

/-- 'filigreelaw07.RawInfers', WHERE WHAT IT READS IS OF BULK AT MOST 1048576: true; the input reads as it did. -/
def rawInfersUptoRow : OpenClaim := { program := "ytfbncddnakaaiaa", sum := "2e10e121e9ae626e23df71d0723d275c1921a6d0831980e7d208abf2054f7c7d", func := "filigree/filigreelaw07.RawInfers", spec := "rawInfers", unfollowed := true, recurses := true, loops := true, apart := false, narrowed := true }
def RawInfersUptoSaid : Prop := rawInfersUptoRow.holds Try.pinned (OpenSpec.upto rawInfersSpec)

/-- 'filigreelaw07.RawKeeps', WHERE WHAT IT READS IS OF BULK AT MOST 1048576: true; the input reads as it did. -/
def rawKeepsUptoRow : OpenClaim := { program := "ytfbncddnakaaiaa", sum := "2e10e121e9ae626e23df71d0723d275c1921a6d0831980e7d208abf2054f7c7d", func := "filigree/filigreelaw07.RawKeeps", spec := "rawKeeps", unfollowed := true, recurses := true, loops := true, apart := false, narrowed := true }
def RawKeepsUptoSaid : Prop := rawKeepsUptoRow.holds Try.pinned (OpenSpec.upto rawKeepsSpec)

/-- 'filigreelaw07.RawParts', WHERE WHAT IT READS IS OF BULK AT MOST 1048576: true; the input reads as it did. -/
def rawPartsUptoRow : OpenClaim := { program := "ytfbncddnakaaiaa", sum := "2e10e121e9ae626e23df71d0723d275c1921a6d0831980e7d208abf2054f7c7d", func := "filigree/filigreelaw07.RawParts", spec := "rawParts", unfollowed := true, recurses := true, loops := true, apart := false, narrowed := true }
def RawPartsUptoSaid : Prop := rawPartsUptoRow.holds Try.pinned (OpenSpec.upto rawPartsSpec)

/-- 'filigreelaw07.RawFroms', WHERE WHAT IT READS IS OF BULK AT MOST 1048576: true; the input reads as it did. -/
def rawFromsUptoRow : OpenClaim := { program := "ytfbncddnakaaiaa", sum := "2e10e121e9ae626e23df71d0723d275c1921a6d0831980e7d208abf2054f7c7d", func := "filigree/filigreelaw07.RawFroms", spec := "rawFroms", unfollowed := true, recurses := true, loops := true, apart := false, narrowed := true }
def RawFromsUptoSaid : Prop := rawFromsUptoRow.holds Try.pinned (OpenSpec.upto rawFromsSpec)

end Rows
end Go.Proofs.Ytfbncddnakaaiaa
