/- Texts of ours laid together for a claim: J03. -/
import Derived.Test.YtjhanogfpkbamaaDoorQ42
namespace Go.Proofs.YtjhanogfpkbamaaDoor
open Go Go.ChangeShapes Go.WideShapes Go.ChangeAt Go.RowKit
set_option linter.unusedSimpArgs false
set_option linter.unusedVariables false
variable {H:Type} {enc:TypeId×Value→H} {P:Program} {W:World}
def Old (W:World) (b _o:Nat):Prop:=b<W.heap.size
structure ReadC (W:World) (xs:List AV) (cs:List Value):Prop where
 len:cs.length=xs.length
 rep:∀(j:Nat) (x:AV) (v:Value),xs[j]?=some x→cs[j]?=some v→Rep W (Old W) [] [] x v
 one:∀v:Value,v∈cs→v.oneCell'=true
abbrev trodF (enc:TypeId×Value→H) (P:Program) (W:World):Nat→TypeId→List Value→Option (DataW H×List MemPlace):=DataW.trod enc P W 0 (fun _=>true) true
theorem readC_one {x:AV} {v:Value} (h:Rep W (Old W) [] [] x v) (h1:v.oneCell'=true):ReadC W [x] [v]:=by
 refine⟨rfl,fun j y u hy hu=>?_,fun u hu=>by rw[List.mem_singleton.1 hu];exact h1⟩
 cases j with
 |zero=>simp at hy hu;subst hy;subst hu;exact h
 |succ j=>simp at hy
theorem read_int {t:TypeId} (ht:P.underlying t=some (.int .i64)) {fuel:Nat} {cs:List Value} {x:DataW H×List MemPlace} (h:trodF enc P W fuel t cs=some x):
  ∃n:Int,I64 n∧ReadC W [nI n] cs:=by
 obtain⟨n,rfl,_,hw⟩:=DataW.trod_int ht h
 refine⟨n,?_,readC_one (.prim _) rfl⟩
 simp[Lit.wf,IntKind.min,IntKind.max,IntKind.signed,IntKind.bits] at hw
 unfold I64;omega
variable {base:Nat} {v:Value} {d:DataW H} {p:List MemPlace} {t:TypeId}
theorem arg_cell {xs:AV} (h:ReadC W [xs] v.cells.toList) (hv:v.cells=#[v]):Rep W (Old W) [] [] xs v:=by
 rw[hv] at h
 exact h.rep 0 _ _ rfl rfl
end Go.Proofs.YtjhanogfpkbamaaDoor
