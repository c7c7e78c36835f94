/- Texts of ours laid together for a claim: VcQ. -/
import Derived.Test.YtjhanogfpkbamaaGreatDoorQ38
namespace Go.Proofs.YtjhanogfpkbamaaGreatDoor
open Go
set_option linter.unusedSimpArgs false
set_option linter.unusedVariables false
variable {P:Program} {w w':World} {F:Nat→Nat→Prop} {η:List Value} {hp:List af}
theorem get_set_other {l:List af} {i j:Nat} {o:af} (h:i≠j):(l.set i o)[j]?=l[j]?:=by simp[ajk,h]
end Go.Proofs.YtjhanogfpkbamaaGreatDoor
