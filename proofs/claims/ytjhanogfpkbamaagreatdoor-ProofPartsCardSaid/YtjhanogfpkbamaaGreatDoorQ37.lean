/- Texts of ours laid together for a claim: VcQ. -/
import Derived.Test.YtjhanogfpkbamaaGreatDoorQ36
namespace Go.Proofs.YtjhanogfpkbamaaGreatDoor
open Go
set_option linter.unusedSimpArgs false
set_option linter.unusedVariables false
variable {P:Program} {w w':World} {F:Nat→Nat→Prop} {η:List Value} {hp:List AObj}
theorem get_set_other {l:List AObj} {i j:Nat} {o:AObj} (h:i≠j):(l.set i o)[j]?=l[j]?:=by simp[List.getElem?_set,h]
end Go.Proofs.YtjhanogfpkbamaaGreatDoor
