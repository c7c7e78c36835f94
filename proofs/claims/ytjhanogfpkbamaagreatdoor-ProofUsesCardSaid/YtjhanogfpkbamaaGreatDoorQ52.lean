/- Texts of ours laid together for a claim: J26. -/
import Derived.Test.YtjhanogfpkbamaaGreatDoorQ51
namespace Go.Proofs.YtjhanogfpkbamaaGreatDoor
open Go Go.ChangeShapes Go.WideShapes Go.ChangeAt Go.RowKit
set_option linter.unusedSimpArgs false
set_option linter.unusedVariables false
theorem arg_num {H:Type} {enc:TypeId×Value→H} {P:Program} {W:World} {base:Nat} {v:Value} {d:DataW H} {p:List MemPlace} (h3:P.underlying 3=some (.int .i64)) (hv:Value.okWide P W .any base 3 v)
  (h:DataW.Trod enc P W 0 (fun _=>true) true 3 v d p):∃n:Int,ke n∧bw W (Old W) [] [] (nI n) v:=by
 obtain⟨fuel,hf⟩:=h
 obtain⟨n,h1,h2⟩:=lE h3 hf
 obtain⟨k,rfl⟩:=okWide_int h3 hv
 exact⟨n,h1,FY h2 rfl⟩
def zG:DataW Unit→Array Value
 | .agg l=>(l.map fun x=>match x with | .lit (.int k z)=>Value.int k z | .lit (.string s)=>Value.string ⟨s.toArray⟩|_=>undef).toArray
 |_=>#[]
noncomputable def zH (l:List (String×DataW Unit)) (os:Os):World:=
 let w0:=World.holding Tryz.prog os ⟨#[],#[],[]⟩
 { w0 with heap:=l.foldl (fun h x=>match Tryz.prog.globalNamed x.1 with
   |some g=>(match x.2 with
    | .iface _ (.ptr d)=>(h.push (.cells (zG d) 276)).modify g fun o=>(match o with | .cells _ t z=>.cells #[.iface 274 (.pointer (some ⟨h.size,0,none⟩))] t z|o=>o)
    |d=>h.modify g fun o=>(match o with | .cells _ t z=>.cells (zG d) t z|o=>o))
   |none=>h) w0.heap }
end Go.Proofs.YtjhanogfpkbamaaGreatDoor
