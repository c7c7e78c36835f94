/- Lemmas. -/
import Derived.Test.YthnnplohnceogaaGreatDoorQ17
namespace Go.Proofs.YthnnplohnceogaaGreatDoor
open Go Go.ChangeShapes Go.WideShapes Go.ChangeAt Go.RowKit
set_option linter.unusedSimpArgs false
set_option linter.unusedVariables false
variable {H:Type} {enc:TypeId×Value->H} {P:Program} {W:World}
structure MN(P:Program):Prop where
 akc:P.underlying 3=some (.int .i64)
 asq:P.cellsOf 3=1
 asr:P.underlying 28=some (.slice 88)
 ass:P.underlying 88=some (.array 2 3)
 ast:P.cellsOf 88=2
 akd:P.underlying 9=some .string
theorem Xs:MN Tryz.prog:=⟨by kernel_rfl,by kernel_rfl,by kernel_rfl,by kernel_rfl,by kernel_rfl,by kernel_rfl⟩
variable {base:Nat} {v:Value} {d:DataW H} {p:List MemPlace}
theorem afq(Q:MN P)(hv:Value.okWide P W .any base 3 v)(h:DataW.Trod enc P W 0 (λ_=>true) true 3 v d p):∃n:Int,jo n/\bq W (Old W) [] [] (nI n) v:=by obtain⟨fuel,hf⟩:=h;obtain⟨n,h1,h2⟩:=Xc Q.akc hf;obtain⟨k,rfl⟩:=okWide_int Q.akc hv;exact⟨n,h1,Jr h2 rfl⟩
theorem afr(Q:MN P)(hv:Value.okWide P W .any base 9 v)(h:DataW.Trod enc P W 0 (λ_=>true) true 9 v d p):∃s:aw,True/\bq W (Old W) [] [] (nS s) v:=by (obtain⟨fuel,hf⟩:=h;obtain⟨s,e,_,hw⟩:=DataW.trod_string Q.akd hf;have h2:Py W [nS s] v.cells.toList:=by rw[e];exact DL (.ay _) rfl);obtain⟨k,rfl⟩:=okWide_string Q.akd hv;exact⟨s,True.intro,Jr h2 rfl⟩
end Go.Proofs.YthnnplohnceogaaGreatDoor
