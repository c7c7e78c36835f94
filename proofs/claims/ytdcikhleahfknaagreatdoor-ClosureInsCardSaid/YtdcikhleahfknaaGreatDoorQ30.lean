/- Texts of ours laid together for a claim: VcI. -/
import Derived.Test.YtdcikhleahfknaaGreatDoorQ29
namespace Go.Proofs.YtdcikhleahfknaaGreatDoor
open Go
set_option linter.unusedSimpArgs false
set_option linter.unusedVariables false
variable {P:Program} {f:FuncId} {args:List AV} {hp ff:List af} {R R':AV→List af→Prop}
theorem Ez {w:World} {F:Nat→Nat→Prop} {η:List Value} {hp:List af}:∀{xs ys:List AV} {vs:List Value},dH xs ys→bM w F η hp xs vs→bM w F η hp ys vs
 | [],[],[],_,_=>True.intro
 |_::_,_::_,_::_,h,hr=>⟨h.1 _ _ _ _ _ hr.1,Ez h.2 hr.2⟩
theorem Pure.BM {xs ys:List AV} {R:AV→Prop} (h:dH xs ys) (hp:Pure P f ys R):Pure P f xs R:=
 ⟨hp.1,fun w F aU hF hg hv=>hp.2 w F aU hF hg (Ez h hv)⟩
theorem qo:dS (.ae (.slice none 0 0)) (.sl []):=by
 intro w F η hp v hv
 cases hv;exact .ki _
theorem rA (l:List AV):dS (.clip l) (.sl l):=fun _ _ _ _ _ h=>h.nO
theorem bp.BM {xs ys:List AV} (h:dH xs ys) (hf:bp P f ys hp R):bp P f xs hp R:=
 ⟨hf.1,fun w F η aU aJ hv=>hf.2 w F η aU aJ (Ez h hv)⟩
theorem bp.res (hf:bp P f args hp R) (h:∀r h',R r h'→∃r2,dS r r2∧R' r2 h'):bp P f args hp R':=
 ⟨hf.1,fun w F η aU aJ hv=>(hf.2 w F η aU aJ hv).mono fun _ _ ⟨v,r,hp',aH,h1,h2,h3⟩=>by
  obtain⟨r2,g1,g2⟩:=h r hp' h2
  exact⟨v,r2,hp',aH,h1,g2,h3.keeps,h3.ext,h3.heap,h3.bA,g1 _ _ _ _ _ h3.rep⟩⟩
end Go.Proofs.YtdcikhleahfknaaGreatDoor
