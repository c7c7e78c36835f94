/- Texts of ours laid together for a claim: J26. -/
import Derived.Test.YtdcikhleahfknaaGreatDoorQ50
namespace Go.Proofs.YtdcikhleahfknaaGreatDoor
open Go Go.ChangeShapes Go.WideShapes Go.ChangeAt Go.RowKit
set_option linter.unusedSimpArgs false
set_option linter.unusedVariables false
theorem arg_num {H:Type} {enc:TypeId×Value→H} {P:Program} {W:World} {base:Nat} {v:Value} {d:DataW H} {p:List MemPlace} (h3:P.underlying 3=some (.int .i64)) (hv:Value.okWide P W .any base 3 v)
  (h:DataW.Trod enc P W 0 (fun _=>true) true 3 v d p):∃n:Int,jr n∧aV W (Old W) [] [] (nI n) v:=by
 obtain⟨fuel,hf⟩:=h
 obtain⟨n,h1,h2⟩:=p9 h3 hf
 obtain⟨k,rfl⟩:=okWide_int h3 hv
 exact⟨n,h1,Bt h2 rfl⟩
end Go.Proofs.YtdcikhleahfknaaGreatDoor
