/- Texts of ours laid together for a claim: VcI. -/
import Derived.Test.YtdcikhleahfknaaGreatDoorQ29
namespace Go.Proofs.YtdcikhleahfknaaGreatDoor
open Go
set_option linter.unusedSimpArgs false
set_option linter.unusedVariables false
variable {P:Program} {f:FuncId} {args:List AV} {hp eG:List af} {R R':AV→List af→Prop}
theorem Df {w:World} {F:Nat→Nat→Prop} {η:List Value} {hp:List af}:∀{xs ys:List AV} {vs:List Value},dt xs ys→bF w F η hp xs vs→bF w F η hp ys vs
 | [],[],[],_,_=>True.intro
 |_::_,_::_,_::_,h,hr=>⟨h.1 _ _ _ _ _ hr.1,Df h.2 hr.2⟩
theorem Pure.AD {xs ys:List AV} {R:AV→Prop} (h:dt xs ys) (hp:Pure P f ys R):Pure P f xs R:=
 ⟨hp.1,fun w F aR hF hg hv=>hp.2 w F aR hF hg (Df h hv)⟩
theorem pT:dE (.ae (.slice none 0 0)) (.sl []):=by
 intro w F η hp v hv
 cases hv;exact .jN _
theorem qS (l:List AV):dE (.clip l) (.sl l):=fun _ _ _ _ _ h=>h.nn
theorem bJ.AD {xs ys:List AV} (h:dt xs ys) (hf:bJ P f ys hp R):bJ P f xs hp R:=
 ⟨hf.1,fun w F η aR aI hv=>hf.2 w F η aR aI (Df h hv)⟩
theorem bJ.res (hf:bJ P f args hp R) (h:∀r h',R r h'→∃r2,dE r r2∧R' r2 h'):bJ P f args hp R':=
 ⟨hf.1,fun w F η aR aI hv=>(hf.2 w F η aR aI hv).mono fun _ _ ⟨v,r,hp',aM,h1,h2,h3⟩=>by
  obtain⟨r2,g1,g2⟩:=h r hp' h2
  exact⟨v,r2,hp',aM,h1,g2,h3.keeps,h3.ext,h3.heap,h3.bA,g1 _ _ _ _ _ h3.rep⟩⟩
end Go.Proofs.YtdcikhleahfknaaGreatDoor
