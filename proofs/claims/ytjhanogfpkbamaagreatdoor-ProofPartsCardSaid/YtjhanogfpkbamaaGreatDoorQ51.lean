/- Texts of ours laid together for a claim: J26. -/
import Derived.Test.YtjhanogfpkbamaaGreatDoorQ50
namespace Go.Proofs.YtjhanogfpkbamaaGreatDoor
open Go Go.ChangeShapes Go.WideShapes Go.ChangeAt Go.RowKit
set_option linter.unusedSimpArgs false
set_option linter.unusedVariables false
def laidCells2:DataW Unit→Array Value
 | .agg l=>(l.map fun x=>match x with | .lit (.int k z)=>Value.int k z | .lit (.string s)=>Value.string ⟨s.toArray⟩|_=>undef).toArray
 |_=>#[]
noncomputable def laidWorld2 (l:List (String×DataW Unit)) (os:Os):World:=
 let w0:=World.holding Tryz.prog os ⟨#[],#[],[]⟩
 { w0 with heap:=l.foldl (fun h x=>match Tryz.prog.globalNamed x.1 with
   |some g=>(match x.2 with
    | .iface _ (.ptr d)=>(h.push (.cells (laidCells2 d) 276)).modify g fun o=>(match o with | .cells _ t z=>.cells #[.iface 274 (.pointer (some ⟨h.size,0,none⟩))] t z|o=>o)
    |d=>h.modify g fun o=>(match o with | .cells _ t z=>.cells (laidCells2 d) t z|o=>o))
   |none=>h) w0.heap }
end Go.Proofs.YtjhanogfpkbamaaGreatDoor
