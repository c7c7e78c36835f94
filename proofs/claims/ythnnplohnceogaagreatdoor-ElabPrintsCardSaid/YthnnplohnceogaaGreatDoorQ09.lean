/- Lemmas. -/
import Derived.Test.YthnnplohnceogaaGreatDoorQ08
namespace Go.Proofs.YthnnplohnceogaaGreatDoor
open Go
set_option linter.unusedSimpArgs false
set_option linter.unusedVariables false
theorem rb{P:Program}{gf:Nat}{caps:List AV}{prm:List Sh}{γ:Type}(D:γ->TS prm){Ls:List γ}(h:vL P gf (λv=>v::caps) (Ls.map λa=>yG [] prm (D a)) false):kR P gf caps prm (Ls.map D):=by unfold kR;rw[List.map_map];exact h
theorem fK.rf{τ α:Type}{y0:τ}{S:List α->Prop}{round:α->τ->(τ->Prop)->Prop}{after:τ->Prop}{β γ:Type}(E:β->τ)(D:γ->α)(Ls:List γ)(hS:S (Ls.map D))(I:List γ->β->Prop)(b0:β)(h0:y0=E b0)(hI:I Ls b0)(h:∀g rest b,I (g::rest) b->∀again:τ->Prop,(∀b',I rest b'->again (E b'))->round (D g) (E b) again)(hd:∀b,I [] b->after (E b)):fK τ α y0 S round after:=by refine⟨Ls.map D,λrest y=>∃b r,rest=r.map D/\y=E b/\I r b,hS,⟨b0,Ls,rfl,h0,hI⟩,λe rest y ⟨b,r,hr,hy,hb⟩=>?_,λy ⟨b,r,hr,hy,hb⟩=>?_⟩;(cases r with|nil=>cases hr|cons g r=>simp only[auR,List.cons.injEq]at hr;obtain⟨rfl,rfl⟩:=hr;exact hy▸h g r b hb _ λb' h'=>⟨b',r,rfl,rfl,h'⟩);cases r with|nil=>exact hy▸hd b hb|cons g r=>cases hr
end Go.Proofs.YthnnplohnceogaaGreatDoor
