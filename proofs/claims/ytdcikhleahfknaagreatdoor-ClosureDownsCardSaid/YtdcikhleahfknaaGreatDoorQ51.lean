/- Texts of ours laid together for a claim: J35. -/
import Derived.Test.YtdcikhleahfknaaGreatDoorQ50
namespace Go.Proofs.YtdcikhleahfknaaGreatDoor
open Go Go.ChangeShapes Go.WideShapes Go.ChangeAt Go.RowKit
set_option linter.unusedSimpArgs false
set_option linter.unusedVariables false
variable {H:Type} {enc:TypeId×Value->H} {P:Program} {W:World} {base:Nat} {v:Value} {d:DataW H} {p:List MemPlace}
structure RM (P:Program):Prop where
 adB:P.cellsOf 63=3
 adC:(match P.underlying 63 with|some (.struct fs)=>fs.toList.map (fun f=>(f.type,f.offset,P.cellsOf f.type))|_=>[])=[(3,0,1),(26,1,1),(26,2,1)]
 adD:(match P.underlying 63 with|some (.struct _)=>true|_=>false)=true
theorem ZG:RM Tryz.prog:=⟨by kernel_rfl,by kernel_rfl,by kernel_rfl⟩
theorem IJ (S:qD P) (R:RM P) (hv:Value.okWide P W .any base 63 v) (h:DataW.Trod enc P W 0 (fun _=>true) true 63 v d p):∃q:Int×List Ty×List Ty,bm W (Old W) [] [] (.agg [nI q.1,.sl (q.2.1.map Ty.enc),.sl (q.2.2.map Ty.enc)]) v:=by
 obtain⟨fuel,hf⟩:=h;obtain⟨n,hn,hlen,hg⟩:=fp R.adC (by simp) hf;obtain⟨cs,rfl⟩:=q8 R.adD hv;rw[R.adB] at hlen;obtain⟨y0,MZ⟩:=hg (3,0,1) (by simp);obtain⟨y1,Wz⟩:=hg (26,1,1) (by simp);obtain⟨y2,Y4⟩:=hg (26,2,1) (by simp);obtain⟨b,_,hb⟩:=ij S.Cv MZ;obtain⟨c,_,hc⟩:=lq S Wz;obtain⟨m,_,hm⟩:=lq S Y4;exact⟨(b,c,m),Cw (eC.IE (a:=1) (b:=1) (c:=1) (m:=2) hlen rfl hb hc hm)⟩
end Go.Proofs.YtdcikhleahfknaaGreatDoor
