/- Texts of ours laid together for a claim: VcI. -/
import Derived.Test.YtnkjkpmbgoehkaaGreatQ29
namespace Go.Proofs.YtnkjkpmbgoehkaaGreat
open Go
set_option linter.unusedSimpArgs false
set_option linter.unusedVariables false
variable {P:Program} {f:FuncId} {args:List AV} {hp iC:List ab} {R R':AV->List ab->Prop}
theorem HF {w:World} {F:Nat->Nat->Prop} {η:List Value} {hp:List ab}:∀{xs ys:List AV} {vs:List Value},dH xs ys->bS w F η hp xs vs->bS w F η hp ys vs
 | [],[],[],_,_=>True.intro
 |_::_,_::_,_::_,h,hr=>⟨h.1 _ _ _ _ _ hr.1,HF h.2 hr.2⟩
theorem Pure.JI {xs ys:List AV} {R:AV->Prop} (h:dH xs ys) (hp:Pure P f ys R):Pure P f xs R:=
 ⟨hp.1,fun w F bg hF hg hv=>hp.2 w F bg hF hg (HF h hv)⟩
theorem bw:aB (.ae (.slice none 0 0)) (.sl []):=by
 intro w F η hp v hv
 cases hv;exact .oc _
theorem fk (l:List AV):aB (.clip l) (.sl l):=fun _ _ _ _ _ h=>h.ng
theorem aG.JI {xs ys:List AV} (h:dH xs ys) (hf:aG P f ys hp R):aG P f xs hp R:=
 ⟨hf.1,fun w F η bg bu hv=>hf.2 w F η bg bu (HF h hv)⟩
theorem aG.res (hf:aG P f args hp R) (h:∀r h',R r h'->∃r2,aB r r2/\R' r2 h'):aG P f args hp R':=
 ⟨hf.1,fun w F η bg bu hv=>(hf.2 w F η bg bu hv).mono fun _ _ ⟨v,r,hp',aO,h1,h2,h3⟩=>by
  obtain⟨r2,g1,g2⟩:=h r hp' h2
  exact⟨v,r2,hp',aO,h1,g2,h3.keeps,h3.ext,h3.heap,h3.bN,g1 _ _ _ _ _ h3.rep⟩⟩
end Go.Proofs.YtnkjkpmbgoehkaaGreat
