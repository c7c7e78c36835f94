/- Texts of ours laid together for a claim: VcI. -/
import Derived.Test.YtdcikhleahfknaaGreatDoorQ29
namespace Go.Proofs.YtdcikhleahfknaaGreatDoor
open Go
set_option linter.unusedSimpArgs false
set_option linter.unusedVariables false
variable {P:Program} {f:FuncId} {args:List AV} {hp fG:List af} {R R':AV->List af->Prop}
theorem HV {w:World} {F:Nat->Nat->Prop} {η:List Value} {hp:List af}:∀{xs ys:List AV} {vs:List Value},dK xs ys->bZ w F η hp xs vs->bZ w F η hp ys vs
 | [],[],[],_,_=>True.intro
 |_::_,_::_,_::_,h,hr=>⟨h.1 _ _ _ _ _ hr.1,HV h.2 hr.2⟩
theorem Pure.xE {xs ys:List AV} {R:AV->Prop} (h:dK xs ys) (hp:Pure P f ys R):Pure P f xs R:=
 ⟨hp.1,fun w F bb hF hg hv=>hp.2 w F bb hF hg (HV h hv)⟩
theorem ic:dc (.ae (.slice none 0 0)) (.sl []):=by
 intro w F η hp v hv
 cases hv;exact .lL _
theorem pR (l:List AV):dc (.clip l) (.sl l):=fun _ _ _ _ _ h=>h.pF
theorem bH.xE {xs ys:List AV} (h:dK xs ys) (hf:bH P f ys hp R):bH P f xs hp R:=
 ⟨hf.1,fun w F η bb aR hv=>hf.2 w F η bb aR (HV h hv)⟩
theorem bH.res (hf:bH P f args hp R) (h:∀r h',R r h'->∃r2,dc r r2/\R' r2 h'):bH P f args hp R':=
 ⟨hf.1,fun w F η bb aR hv=>(hf.2 w F η bb aR hv).mono fun _ _ ⟨v,r,hp',aN,h1,h2,h3⟩=>by
  obtain⟨r2,g1,g2⟩:=h r hp' h2
  exact⟨v,r2,hp',aN,h1,g2,h3.keeps,h3.ext,h3.heap,h3.bM,g1 _ _ _ _ _ h3.rep⟩⟩
end Go.Proofs.YtdcikhleahfknaaGreatDoor
