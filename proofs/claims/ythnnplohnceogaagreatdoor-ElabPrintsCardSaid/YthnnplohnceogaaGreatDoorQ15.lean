/- Lemmas. -/
import Derived.Test.YthnnplohnceogaaGreatDoorQ14
namespace Go.Proofs.YthnnplohnceogaaGreatDoor
open Go Go.ChangeShapes Go.WideShapes Go.ChangeAt Go.RowKit
set_option linter.unusedSimpArgs false
set_option linter.unusedVariables false
variable {H:Type} {enc:TypeId×Value->H} {P:Program} {W:World}
def Old(W:World)(b _o:Nat):Prop:=b<W.heap.size
structure Py(W:World)(xs:List AV)(cs:List Value):Prop where
 len:cs.length=xs.length
 rep:∀(j:Nat)(x:AV)(v:Value),xs[j]?=some x->cs[j]?=some v->bq W (Old W) [] [] x v
 one:∀v:Value,v∈cs->v.oneCell'=true
abbrev aj7(enc:TypeId×Value->H)(P:Program)(W:World):Nat->TypeId->List Value->Option (DataW H×List MemPlace):=DataW.trod enc P W 0 (λ_=>true) true
theorem DL{x:AV}{v:Value}(h:bq W (Old W) [] [] x v)(h1:v.oneCell'=true):Py W [x] [v]:=by refine⟨rfl,λj y u hy hu=>?_,λu hu=>by rw[auD.1 hu];exact h1⟩;cases j with|zero=>simp at hy hu;subst hy;subst hu;exact h|succ j=>simp at hy
theorem Xc{t:TypeId}(ht:P.underlying t=some (.int .i64)){fuel:Nat}{cs:List Value}{x:DataW H×List MemPlace}(h:aj7 enc P W fuel t cs=some x): ∃n:Int,jo n/\Py W [nI n] cs:=by obtain⟨n,rfl,_,hw⟩:=DataW.trod_int ht h;refine⟨n,?_,DL (.ay _) rfl⟩;simp[Lit.wf,IntKind.min,IntKind.max,IntKind.signed,IntKind.bits]at hw;unfold jo;omega
variable {base:Nat} {v:Value} {d:DataW H} {p:List MemPlace} {t:TypeId}
theorem Jr{xs:AV}(h:Py W [xs] v.cells.toList)(hv:v.cells=#[v]):bq W (Old W) [] [] xs v:=by rw[hv]at h;exact h.rep 0 _ _ rfl rfl
end Go.Proofs.YthnnplohnceogaaGreatDoor
