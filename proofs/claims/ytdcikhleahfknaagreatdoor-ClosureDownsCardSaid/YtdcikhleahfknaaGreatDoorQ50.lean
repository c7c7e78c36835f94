/- Texts of ours laid together for a claim: J32. -/
import Derived.OpenShut
import Derived.Test.YtdcikhleahfknaaGreatDoorQ49
namespace Go.Proofs.YtdcikhleahfknaaGreatDoor
open Go Go.ChangeShapes Go.WideShapes Go.ChangeAt Go.RowKit
set_option linter.unusedSimpArgs false
set_option linter.unusedVariables false
variable {H:Type} {enc:TypeId×Value->H} {P:Program} {W:World}
theorem Ty.nD:∀{l:List Ty},(∀t∈l,t.kP)->Ty.im l
 | [],_=>True.intro
 |t::l,h=>⟨h t alS,Ty.nD fun u hu=>h u (alR _ hu)⟩
theorem Tm.nD:∀{l:List Tm},(∀t∈l,t.kP)->Tm.im l
 | [],_=>True.intro
 |t::l,h=>⟨h t alS,Tm.nD fun u hu=>h u (alR _ hu)⟩
theorem eC.IE {xs ys zs:List AV} {cs:List Value} {a b c m:Nat} (hl:cs.length=a+b+c) (hm:m=a+b) (h:eC W xs ((cs.drop 0).take a)) (k:eC W ys ((cs.drop a).take b)) (q:eC W zs ((cs.drop m).take c)):eC W (xs++ys++zs) cs:=by
 subst hm;have e:((cs.drop 0).take a++(cs.drop a).take b)++(cs.drop (a+b)).take c=cs:=by
  rw[List.drop_zero,alI (show (cs.drop (a+b)).length<=c by rw[amN];omega),<-List.take_add,amk]
 have:=(h.append k).append q
 rwa [e] at this
theorem IF (S:qD P):∀(fuel:Nat) (cs:List Value) (x:DataW H×List MemPlace),n6 enc P W fuel 116 cs=some x->∃t:Ty,t.kP/\eC W t.enc.cells cs:=by
 intro fuel
 induction fuel using Nat.strongRecOn with
 |ind fuel ih=>
  intro cs x h;obtain⟨n,hn,hlen,hf⟩:=fp S.adj (by simp) h;rw[S.Ru] at hlen;obtain⟨c0,c1,rfl⟩:=Il hlen;obtain⟨y0,MZ⟩:=hf (26,0,1) (by simp);obtain⟨y1,Wz⟩:=hf (3,1,1) (by simp);obtain⟨els,_,h1,h2⟩:=ku S.XK (by rw[S.Ru];omega) (fun y=>∃t:Ty,t.kP/\y=t.enc) MZ fun m cs y hm hy=>by
   obtain⟨t,hk,ht⟩:=ih m (by omega) cs y hy;exact⟨t.enc,⟨t,hk,rfl⟩,ht⟩
  obtain⟨l,hl,rfl⟩:=nw h1;obtain⟨i,hi,h3⟩:=ij S.Cv Wz;refine⟨.mk l i,⟨hi,Ty.nD hl⟩,?_⟩;rw[Ty.dD];exact h2.append h3
theorem lq (S:qD P) {fuel:Nat} {cs:List Value} {x:DataW H×List MemPlace} (h:n6 enc P W fuel 26 cs=some x):∃l:List Ty,(∀t∈l,t.kP)/\eC W [.sl (l.map Ty.enc)] cs:=by
 obtain⟨els,_,h1,h2⟩:=ku S.XK (by rw[S.Ru];omega) (fun y=>∃t:Ty,t.kP/\y=t.enc) h fun n cs y _ hy=>by
  obtain⟨t,hk,ht⟩:=IF S n cs y hy;exact⟨t.enc,⟨t,hk,rfl⟩,ht⟩
 obtain⟨l,h3,rfl⟩:=nw h1;exact⟨l,h3,h2⟩
theorem yi (S:qD P):∀(fuel:Nat) (cs:List Value) (x:DataW H×List MemPlace),n6 enc P W fuel 31 cs=some x->∃t:Tm,t.kP/\eC W t.enc.cells cs:=by
 intro fuel
 induction fuel using Nat.strongRecOn with
 |ind fuel ih=>
  intro cs x h;obtain⟨n,hn,hlen,hf⟩:=fp S.adl (by simp) h;rw[S.XL] at hlen;obtain⟨c0,c1,c2,c3,rfl⟩:=Zx hlen;obtain⟨y0,MZ⟩:=hf (26,0,1) (by simp);obtain⟨y1,Wz⟩:=hf (28,1,2) (by simp);obtain⟨y2,Y4⟩:=hf (29,3,1) (by simp);obtain⟨b,hbo,hb⟩:=lq S MZ;obtain⟨m,_,_,hg⟩:=fp S.adk (by simp) Wz;obtain⟨z0,MQ⟩:=hg (3,0,1) (by simp);obtain⟨z1,N0⟩:=hg (3,1,1) (by simp);obtain⟨k,hk,JA⟩:=ij S.Cv MQ;obtain⟨i,hi,hir⟩:=ij S.Cv N0;obtain⟨els,_,h1,h2⟩:=ku S.adi (by rw[S.XL];omega) (fun y=>∃t:Tm,t.kP/\y=t.enc) Y4 fun m cs y hm hy=>by
   obtain⟨t,ht,hr⟩:=ih m (by omega) cs y hy;exact⟨t.enc,⟨t,ht,rfl⟩,hr⟩
  obtain⟨l,hl,rfl⟩:=nw h1;refine⟨.mk b k i l,⟨Ty.nD hbo,hk,hi,Tm.nD hl⟩,?_⟩;rw[Tm.dD];exact hb.append (JA.append (hir.append h2))
structure uh (P:Program):Prop where
 ahn:P.underlying 22=some (.slice 90)
 aho:P.underlying 90=some (.array 2 3)
 ahp:P.underlying 23=some (.slice 80)
 adz:P.cellsOf 90=2
 adA:P.cellsOf 80=2
 ahq:P.cellsOf 25=3
 ahr:P.cellsOf 33=9
 ahs:(match P.underlying 80 with|some (.struct fs)=>fs.toList.map (fun f=>(f.type,f.offset,P.cellsOf f.type))|_=>[])=[(3,0,1),(3,1,1)]
 aht:(match P.underlying 25 with|some (.struct fs)=>fs.toList.map (fun f=>(f.type,f.offset,P.cellsOf f.type))|_=>[])=[(3,0,1),(22,1,1),(23,2,1)]
 ahu:(match P.underlying 33 with|some (.struct fs)=>fs.toList.map (fun f=>(f.type,f.offset,P.cellsOf f.type))|_=>[])=[(31,0,4),(31,4,4),(26,8,1)]
 ahv:(match P.underlying 25 with|some (.struct _)=>true|_=>false)=true
 ahw:(match P.underlying 33 with|some (.struct _)=>true|_=>false)=true
theorem IG:uh Tryz.prog:=⟨by kernel_rfl,by kernel_rfl,by kernel_rfl,by kernel_rfl,by kernel_rfl,by kernel_rfl,by kernel_rfl,by kernel_rfl,by kernel_rfl,by kernel_rfl,by kernel_rfl,by kernel_rfl⟩
theorem IH (S:qD P) (Q:uh P) {fuel:Nat} {cs:List Value} {x:DataW H×List MemPlace} (h:n6 enc P W fuel 90 cs=some x):∃p:Int×Int,eC W [nI p.1,nI p.2] cs:=by
 obtain⟨xs,m,_,_,hlen,hl,hf⟩:=DataW.trod_array Q.aho h;rw[Q.adz] at hlen;obtain⟨c0,c1,rfl⟩:=Il hlen;have h0:=hf 0 (by decide);have h1:=hf 1 (by decide);rw[S.ahd] at h0 h1;rw[aly (by omega)] at h0 h1;obtain⟨i,_,r0⟩:=ij S.Cv h0;obtain⟨j,_,r1⟩:=ij S.Cv h1;exact⟨(i,j),r0.append r1⟩
theorem Ml (S:qD P) (Q:uh P) {fuel:Nat} {cs:List Value} {x:DataW H×List MemPlace} (h:n6 enc P W fuel 80 cs=some x):∃p:Int×Int,eC W [nI p.1,nI p.2] cs:=by
 obtain⟨n,hn,hlen,hf⟩:=fp Q.ahs (by simp) h;rw[Q.adA] at hlen;obtain⟨c0,c1,rfl⟩:=Il hlen;obtain⟨y0,MZ⟩:=hf (3,0,1) (by simp);obtain⟨y1,Wz⟩:=hf (3,1,1) (by simp);obtain⟨i,_,r0⟩:=ij S.Cv MZ;obtain⟨j,_,r1⟩:=ij S.Cv Wz;exact⟨(i,j),r0.append r1⟩
theorem yj:∀{l:List AV},(∀y∈l,∃p:Int×Int,True/\y=.agg [nI p.1,nI p.2])->∃m:List (Int×Int),l=aB m
 | [],_=>⟨[],rfl⟩
 |y::l,h=>by
  obtain⟨p,_,rfl⟩:=h y alS;obtain⟨m,rfl⟩:=yj fun z hz=>h z (alR _ hz);exact⟨p::m,rfl⟩
variable {base:Nat} {v:Value} {d:DataW H} {p:List MemPlace}
theorem RL (S:qD P) (Q:uh P) (hv:Value.okWide P W .any base 25 v) (h:DataW.Trod enc P W 0 (fun _=>true) true 25 v d p):
  ∃x:Int×List (Int×Int)×List (Int×Int),bm W (Old W) [] [] (.agg [nI x.1,.sl (aB x.2.1),.sl (aB x.2.2)]) v:=by
 obtain⟨fuel,hf⟩:=h;obtain⟨cs,rfl⟩:=q8 Q.ahv hv;obtain⟨n,hn,hlen,hg⟩:=fp Q.aht (by simp) hf;rw[Q.ahq] at hlen;obtain⟨y0,MZ⟩:=hg (3,0,1) (by simp);obtain⟨y1,Wz⟩:=hg (22,1,1) (by simp);obtain⟨y2,Y4⟩:=hg (23,2,1) (by simp);obtain⟨i,_,r0⟩:=ij S.Cv MZ;obtain⟨els,_,g1,r1⟩:=ku Q.ahn (by rw[Q.adz];omega) (fun y=>∃p:Int×Int,True/\y=.agg [nI p.1,nI p.2]) Wz fun m cs y _ hy=>by
  obtain⟨p,hp⟩:=IH S Q hy;exact⟨.agg [nI p.1,nI p.2],⟨p,True.intro,rfl⟩,hp⟩
 obtain⟨aD,_,g2,r2⟩:=ku Q.ahp (by rw[Q.adA];omega) (fun y=>∃p:Int×Int,True/\y=.agg [nI p.1,nI p.2]) Y4 fun m cs y _ hy=>by
  obtain⟨p,hp⟩:=Ml S Q hy;exact⟨.agg [nI p.1,nI p.2],⟨p,True.intro,rfl⟩,hp⟩
 obtain⟨m1,rfl⟩:=yj g1;obtain⟨m2,rfl⟩:=yj g2;exact⟨(i,m1,m2),Cw (eC.IE (a:=1) (b:=1) (c:=1) (m:=2) hlen rfl r0 r1 r2)⟩
theorem II (S:qD P) (Q:uh P) {fuel:Nat} {cs:List Value} {x:DataW H×List MemPlace} (h:n6 enc P W fuel 33 cs=some x):∃(l r:Tm) (ms:List Ty),(l.kP/\r.kP/\Ty.im ms)/\
  eC W [.sl (l.binds.map Ty.enc),nI l.kind,nI l.index,.sl (l.args.map Tm.enc),.sl (r.binds.map Ty.enc),nI r.kind,nI r.index,.sl (r.args.map Tm.enc),.sl (ms.map Ty.enc)] cs:=by
 obtain⟨n,hn,hlen,hg⟩:=fp Q.ahu (by simp) h;rw[Q.ahr] at hlen;obtain⟨z0,MQ⟩:=hg (31,0,4) (by simp);obtain⟨z1,N0⟩:=hg (31,4,4) (by simp);obtain⟨z2,hz2⟩:=hg (26,8,1) (by simp);obtain⟨t,ht,r0⟩:=yi S _ _ _ MQ;obtain⟨u,hu,r1⟩:=yi S _ _ _ N0;obtain⟨m,hm,r2⟩:=lq S hz2;rw[Tm.aC] at r0 r1;exact⟨t,u,m,⟨ht,hu,Ty.nD hm⟩,eC.IE (a:=4) (b:=4) (c:=1) (m:=8) hlen rfl r0 r1 r2⟩
theorem Gb (S:qD P) (Q:uh P) (hv:Value.okWide P W .any base 33 v) (h:DataW.Trod enc P W 0 (fun _=>true) true 33 v d p):∃x:Tm×Tm×List Ty,(x.1.kP/\x.2.1.kP/\Ty.im x.2.2)/\
  bm W (Old W) [] [] (.agg [.sl (x.1.binds.map Ty.enc),nI x.1.kind,nI x.1.index,.sl (x.1.args.map Tm.enc),.sl (x.2.1.binds.map Ty.enc),nI x.2.1.kind,nI x.2.1.index,.sl (x.2.1.args.map Tm.enc),.sl (x.2.2.map Ty.enc)]) v:=by
 obtain⟨fuel,hf⟩:=h;obtain⟨l,r,ms,hn,hr⟩:=II S Q hf;obtain⟨cs,rfl⟩:=q8 Q.ahw hv;exact⟨(l,r,ms),hn,Cw hr⟩
end Go.Proofs.YtdcikhleahfknaaGreatDoor
