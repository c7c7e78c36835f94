/- Lemmas. -/
import Derived.Test.YtnkjkpmbgoehkaaGreatQ29
namespace Go.Proofs.YtnkjkpmbgoehkaaGreat
open Go
set_option linter.unusedSimpArgs false
set_option linter.unusedVariables false
variable {P:Program} {f:FuncId} {args:List AV} {hp jC:List aw} {R R':AV->List aw->Prop}
theorem KC {w:World} {F:Nat->Nat->Prop} {η:List Value} {hp:List aw}:∀{xs ys:List AV} {vs:List Value},er xs ys->cu w F η hp xs vs->cu w F η hp ys vs
 | [],[],[],_,_=>True.intro
 |_::_,_::_,_::_,h,hr=>⟨h.1 _ _ _ _ _ hr.1,KC h.2 hr.2⟩
theorem Pure.ML {xs ys:List AV} {R:AV->Prop} (h:er xs ys) (hp:Pure P f ys R):Pure P f xs R:=
 ⟨hp.1,fun w F bE hF hg hv=>hp.2 w F bE hF hg (KC h hv)⟩
theorem bR:aS (.ax (.slice none 0 0)) (.sl []):=by
 intro w F η hp v hv
 cases hv;exact .qq _
theorem fT (l:List AV):aS (.clip l) (.sl l):=fun _ _ _ _ _ h=>h.oT
theorem aY.ML {xs ys:List AV} (h:er xs ys) (hf:aY P f ys hp R):aY P f xs hp R:=
 ⟨hf.1,fun w F η bE bQ hv=>hf.2 w F η bE bQ (KC h hv)⟩
theorem aY.res (hf:aY P f args hp R) (h:∀r h',R r h'->∃r2,aS r r2/\R' r2 h'):aY P f args hp R':=
 ⟨hf.1,fun w F η bE bQ hv=>(hf.2 w F η bE bQ hv).mono fun _ _ ⟨v,r,hp',bf,h1,h2,h3⟩=>by
  obtain⟨r2,g1,g2⟩:=h r hp' h2
  exact⟨v,r2,hp',bf,h1,g2,h3.keeps,h3.ext,h3.heap,h3.cq,g1 _ _ _ _ _ h3.rep⟩⟩
end Go.Proofs.YtnkjkpmbgoehkaaGreat
