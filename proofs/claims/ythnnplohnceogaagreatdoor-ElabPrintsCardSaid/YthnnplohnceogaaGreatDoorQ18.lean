/- Lemmas. -/
import Derived.Test.YthnnplohnceogaaGreatDoorQ17
namespace Go.Proofs.YthnnplohnceogaaGreatDoor
open Go Go.ChangeShapes Go.WideShapes Go.ChangeAt Go.RowKit
set_option linter.unusedSimpArgs false
set_option linter.unusedVariables false
variable {H:Type} {enc:TypeId×Value->H} {P:Program} {W:World}
structure MV(P:Program):Prop where
 akb:P.underlying 3=some (.int .i64)
 asr:P.cellsOf 3=1
 ass:P.underlying 28=some (.slice 88)
 ast:P.underlying 88=some (.array 2 3)
 asu:P.cellsOf 88=2
 akc:P.underlying 9=some .string
theorem Xu:MV Tryz.prog:=⟨by kernel_rfl,by kernel_rfl,by kernel_rfl,by kernel_rfl,by kernel_rfl,by kernel_rfl⟩
variable {base:Nat} {v:Value} {d:DataW H} {p:List MemPlace}
theorem afx(Q:MV P)(hv:Value.okWide P W .any base 3 v)(h:DataW.Trod enc P W 0 (λ_=>true) true 3 v d p):∃n:Int,jt n/\bo W (Old W) [] [] (nI n) v:=by obtain⟨fuel,hf⟩:=h;obtain⟨n,h1,h2⟩:=Xe Q.akb hf;obtain⟨k,rfl⟩:=okWide_int Q.akb hv;exact⟨n,h1,Jt h2 rfl⟩
theorem afy(Q:MV P)(hv:Value.okWide P W .any base 9 v)(h:DataW.Trod enc P W 0 (λ_=>true) true 9 v d p):∃s:aw,True/\bo W (Old W) [] [] (nS s) v:=by (obtain⟨fuel,hf⟩:=h;obtain⟨s,e,_,hw⟩:=DataW.trod_string Q.akc hf;have h2:PD W [nS s] v.cells.toList:=by rw[e];exact DL (.ay _) rfl);obtain⟨k,rfl⟩:=okWide_string Q.akc hv;exact⟨s,True.intro,Jt h2 rfl⟩
end Go.Proofs.YthnnplohnceogaaGreatDoor
