/- Texts of ours laid together for a claim: VcI. -/
import Derived.Test.YtjhanogfpkbamaaGreatDoorQ28
namespace Go.Proofs.YtjhanogfpkbamaaGreatDoor
open Go
set_option linter.unusedSimpArgs false
set_option linter.unusedVariables false
variable {P:Program} {f:FuncId} {args:List AV} {hp iM:List af} {R R':AV→List af→Prop}
theorem N9 {w:World} {F:Nat→Nat→Prop} {η:List Value} {hp:List af}:∀{xs ys:List AV} {vs:List Value},fK xs ys→cH w F η hp xs vs→cH w F η hp ys vs
 | [],[],[],_,_=>True.intro
 |_::_,_::_,_::_,h,hr=>⟨h.1 _ _ _ _ _ hr.1,N9 h.2 hr.2⟩
theorem qo:ef (.ah (.slice none 0 0)) (.sl []):=by
 intro w F η hp v hv
 cases hv;exact .pE _
theorem vf (l:List AV):ef (.clip l) (.sl l):=fun _ _ _ _ _ h=>h.qH
theorem cG.Oa {xs ys:List AV} (h:fK xs ys) (hf:cG P f ys hp R):cG P f xs hp R:=
 ⟨hf.1,fun w F η bB bS hv=>hf.2 w F η bB bS (N9 h hv)⟩
theorem cG.res (hf:cG P f args hp R) (h:∀r h',R r h'→∃r2,ef r r2∧R' r2 h'):cG P f args hp R':=
 ⟨hf.1,fun w F η bB bS hv=>(hf.2 w F η bB bS hv).mono fun _ _ ⟨v,r,hp',aU,h1,h2,h3⟩=>by
  obtain⟨r2,g1,g2⟩:=h r hp' h2
  exact⟨v,r2,hp',aU,h1,g2,h3.keeps,h3.ext,h3.heap,h3.cE,g1 _ _ _ _ _ h3.rep⟩⟩
end Go.Proofs.YtjhanogfpkbamaaGreatDoor
