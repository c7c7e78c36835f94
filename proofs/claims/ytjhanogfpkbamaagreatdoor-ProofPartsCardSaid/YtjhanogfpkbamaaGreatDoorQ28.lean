/- Texts of ours laid together for a claim: VcI. -/
import Derived.Test.YtjhanogfpkbamaaGreatDoorQ27
namespace Go.Proofs.YtjhanogfpkbamaaGreatDoor
open Go
set_option linter.unusedSimpArgs false
set_option linter.unusedVariables false
variable {P:Program} {f:FuncId} {args:List AV} {hp hp1:List AObj} {R R':AV→List AObj→Prop}
theorem repL_w {w:World} {F:Nat→Nat→Prop} {η:List Value} {hp:List AObj}:∀{xs ys:List AV} {vs:List Value},RepWL xs ys→RepL w F η hp xs vs→RepL w F η hp ys vs
 | [],[],[],_,_=>True.intro
 |_::_,_::_,_::_,h,hr=>⟨h.1 _ _ _ _ _ hr.1,repL_w h.2 hr.2⟩
theorem repW_nil:RepW (.prim (.slice none 0 0)) (.sl []):=by
 intro w F η hp v hv
 cases hv;exact .sl0 _
theorem repW_clip (l:List AV):RepW (.clip l) (.sl l):=fun _ _ _ _ _ h=>h.of_clip
theorem HFn.argsW {xs ys:List AV} (h:RepWL xs ys) (hf:HFn P f ys hp R):HFn P f xs hp R:=
 ⟨hf.1,fun w F η vals hpre hv=>hf.2 w F η vals hpre (repL_w h hv)⟩
theorem HFn.res (hf:HFn P f args hp R) (h:∀r h',R r h'→∃r2,RepW r r2∧R' r2 h'):HFn P f args hp R':=
 ⟨hf.1,fun w F η vals hpre hv=>(hf.2 w F η vals hpre hv).mono fun _ _ ⟨v,r,hp',η',h1,h2,h3⟩=>by
  obtain⟨r2,g1,g2⟩:=h r hp' h2
  exact⟨v,r2,hp',η',h1,g2,h3.keeps,h3.ext,h3.heap,h3.mine,g1 _ _ _ _ _ h3.rep⟩⟩
end Go.Proofs.YtjhanogfpkbamaaGreatDoor
