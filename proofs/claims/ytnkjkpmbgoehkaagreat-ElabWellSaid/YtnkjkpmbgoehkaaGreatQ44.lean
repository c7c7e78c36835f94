/- Lemmas. -/
import Derived.Test.YtnkjkpmbgoehkaaGreatQ43
namespace Go.Proofs.YtnkjkpmbgoehkaaGreat
open Go Go.ChangeShapes Go.WideShapes Go.ChangeAt Go.RowKit
set_option linter.unusedSimpArgs false
set_option linter.unusedVariables false
variable {H:Type} {enc:TypeId×Value->H} {P:Program} {W:World}
def Old (W:World) (b _o:Nat):Prop:=b<W.heap.size
structure WW (W:World) (xs:List AV) (cs:List Value):Prop where
 len:cs.length=xs.length
 rep:∀(j:Nat) (x:AV) (v:Value),xs[j]?=some x->cs[j]?=some v->bB W (Old W) [] [] x v
 one:∀v:Value,v∈cs->v.oneCell'=true
theorem QA {x:AV} {v:Value} (h:bB W (Old W) [] [] x v) (h1:v.oneCell'=true):WW W [x] [v]:=by
 refine⟨rfl,fun j y u hy hu=>?_,fun u hu=>by rw[aqJ.1 hu];exact h1⟩
 cases j with
 |zero=>simp at hy hu;subst hy;subst hu;exact h
 |succ j=>simp at hy
variable {base:Nat} {v:Value} {d:DataW H} {p:List MemPlace} {t:TypeId}
theorem WX {xs:AV} (h:WW W [xs] v.cells.toList) (hv:v.cells=#[v]):bB W (Old W) [] [] xs v:=by
 rw[hv] at h;exact h.rep 0 _ _ rfl rfl
end Go.Proofs.YtnkjkpmbgoehkaaGreat
