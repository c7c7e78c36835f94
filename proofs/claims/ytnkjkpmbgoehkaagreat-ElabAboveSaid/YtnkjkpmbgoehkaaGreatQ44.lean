/- Texts of ours laid together for a claim: J37. -/
import Derived.Test.YtnkjkpmbgoehkaaGreatQ43
namespace Go.Proofs.YtnkjkpmbgoehkaaGreat
open Go Go.ChangeShapes Go.WideShapes Go.ChangeAt Go.RowKit
set_option linter.unusedSimpArgs false
set_option linter.unusedVariables false
variable {H:Type} {enc:TypeId×Value->H} {P:Program} {W:World}
structure CT (P:Program):Prop where
 VX:P.underlying 3=some (.int .i64)
 aha:P.cellsOf 3=1
 adM:P.underlying 28=some (.slice 130)
 ahb:P.underlying 130=some (.array 2 3)
 adN:P.cellsOf 130=2
 akF:P.underlying 9=some .string
theorem IP:CT Tryz.prog:=⟨by kernel_rfl,by kernel_rfl,by kernel_rfl,by kernel_rfl,by kernel_rfl,by kernel_rfl⟩
theorem SL (Q:CT P) {fuel:Nat} {cs:List Value} {x:DataW H×List MemPlace} (h:Gx enc P W fuel 130 cs=some x):∃p:Int×Int,pT W [nI p.1,nI p.2] cs:=by
 obtain⟨xs,m,_,_,hlen,hl,hf⟩:=DataW.trod_array Q.ahb h;rw[Q.adN] at hlen;obtain⟨c0,c1,rfl⟩:∃a b,cs=[a,b]:=by
  match cs,hlen with
  | [a,b],_=>exact⟨a,b,rfl⟩
 have h0:=hf 0 (by decide);have h1:=hf 1 (by decide);rw[Q.aha] at h0 h1;rw[alo (by omega)] at h0 h1;obtain⟨i,_,r0⟩:=y6 Q.VX h0;obtain⟨j,_,r1⟩:=y6 Q.VX h1;exact⟨(i,j),r0.append r1⟩
theorem SM:∀{l:List AV},(∀y∈l,∃p:Int×Int,y=.agg [nI p.1,nI p.2])->∃m:List (Int×Int),l=aD m
 | [],_=>⟨[],rfl⟩
 |y::l,h=>by
  obtain⟨p,rfl⟩:=h y alD;obtain⟨m,rfl⟩:=SM fun z hz=>h z (alK _ hz);exact⟨p::m,rfl⟩
variable {base:Nat} {v:Value} {d:DataW H} {p:List MemPlace}
theorem VY (Q:CT P) (hv:Value.okWide P W .any base 28 v) (h:DataW.Trod enc P W 0 (fun _=>true) true 28 v d p):∃l:List (Int×Int),True/\ba W (Old W) [] [] (.sl (aD l)) v:=by
 obtain⟨fuel,hf⟩:=h;obtain⟨els,_,hq,hr⟩:=IM Q.adM (by rw[Q.adN];decide) (fun y=>∃p:Int×Int,y=.agg [nI p.1,nI p.2]) hf fun n cs y _ hy=>by
  obtain⟨p,hp⟩:=SL Q hy;exact⟨.agg [nI p.1,nI p.2],⟨p,rfl⟩,hp⟩
 obtain⟨m,rfl⟩:=SM hq;exact⟨m,True.intro,Gy hr (Mx Q.adM hv)⟩
theorem SN (Q:CT P) (hv:Value.okWide P W .any base 3 v) (h:DataW.Trod enc P W 0 (fun _=>true) true 3 v d p):∃n:Int,lk n/\ba W (Old W) [] [] (nI n) v:=by
 obtain⟨fuel,hf⟩:=h;obtain⟨n,h1,h2⟩:=y6 Q.VX hf;obtain⟨k,rfl⟩:=okWide_int Q.VX hv;exact⟨n,h1,Gy h2 rfl⟩
end Go.Proofs.YtnkjkpmbgoehkaaGreat
