/- Texts of ours laid together for a claim: J32. -/
import Derived.OpenShut
import Derived.Test.YtdcikhleahfknaaGreatDoorQ48
namespace Go.Proofs.YtdcikhleahfknaaGreatDoor
open Go Go.ChangeShapes Go.WideShapes Go.ChangeAt Go.RowKit
set_option linter.unusedSimpArgs false
set_option linter.unusedVariables false
variable {H:Type} {enc:TypeId×Value→H} {P:Program} {W:World}
theorem Ty.l8:∀{l:List Ty},(∀t∈l,t.kj)→Ty.il l
 | [],_=>True.intro
 |t::l,h=>⟨h t List.mem_cons_self,Ty.l8 fun u hu=>h u (List.mem_cons_of_mem _ hu)⟩
theorem Tm.l8:∀{l:List Tm},(∀t∈l,t.kj)→Tm.il l
 | [],_=>True.intro
 |t::l,h=>⟨h t List.mem_cons_self,Tm.l8 fun u hu=>h u (List.mem_cons_of_mem _ hu)⟩
theorem ei.Mu {xs ys zs:List AV} {cs:List Value} {a b c m:Nat} (hl:cs.length=a+b+c) (hm:m=a+b) (h:ei W xs ((cs.drop 0).take a)) (k:ei W ys ((cs.drop a).take b)) (q:ei W zs ((cs.drop m).take c)):ei W (xs++ys++zs) cs:=by
 subst hm
 have e:((cs.drop 0).take a++(cs.drop a).take b)++(cs.drop (a+b)).take c=cs:=by
  rw[List.drop_zero,List.take_of_length_le (show (cs.drop (a+b)).length≤c by rw[List.length_drop];omega),←List.take_add,List.take_append_drop]
 have:=(h.append k).append q
 rwa [e] at this
theorem E7 (S:oP P):∀(fuel:Nat) (cs:List Value) (x:DataW H×List MemPlace),mC enc P W fuel 116 cs=some x→∃t:Ty,t.kj∧ei W t.enc.cells cs:=by
 intro fuel
 induction fuel using Nat.strongRecOn with
 |ind fuel ih=>
  intro cs x h
  obtain⟨n,hn,hlen,hf⟩:=fG S.WH (by simp) h
  rw[S.Mg] at hlen
  obtain⟨c0,c1,rfl⟩:=EU hlen
  obtain⟨y0,M9⟩:=hf (26,0,1) (by simp)
  obtain⟨y1,Tj⟩:=hf (3,1,1) (by simp)
  obtain⟨els,_,h1,h2⟩:=jr S.Ri (by rw[S.Mg];omega) (fun y=>∃t:Ty,t.kj∧y=t.enc) M9 fun m cs y hm hy=>by
   obtain⟨t,hk,ht⟩:=ih m (by omega) cs y hy
   exact⟨t.enc,⟨t,hk,rfl⟩,ht⟩
  obtain⟨l,hl,rfl⟩:=lY h1
  obtain⟨i,hi,h3⟩:=ic S.CE Tj
  refine⟨.mk l i,⟨hi,Ty.l8 hl⟩,?_⟩
  rw[Ty.iz]
  exact h2.append h3
theorem sC (S:oP P) {fuel:Nat} {cs:List Value} {x:DataW H×List MemPlace} (h:mC enc P W fuel 26 cs=some x):∃l:List Ty,(∀t∈l,t.kj)∧ei W [.sl (l.map Ty.enc)] cs:=by
 obtain⟨els,_,h1,h2⟩:=jr S.Ri (by rw[S.Mg];omega) (fun y=>∃t:Ty,t.kj∧y=t.enc) h fun n cs y _ hy=>by
  obtain⟨t,hk,ht⟩:=E7 S n cs y hy
  exact⟨t.enc,⟨t,hk,rfl⟩,ht⟩
 obtain⟨l,h3,rfl⟩:=lY h1
 exact⟨l,h3,h2⟩
theorem pw (S:oP P):∀(fuel:Nat) (cs:List Value) (x:DataW H×List MemPlace),mC enc P W fuel 31 cs=some x→∃t:Tm,t.kj∧ei W t.enc.cells cs:=by
 intro fuel
 induction fuel using Nat.strongRecOn with
 |ind fuel ih=>
  intro cs x h
  obtain⟨n,hn,hlen,hf⟩:=fG S.WJ (by simp) h
  rw[S.Rj] at hlen
  obtain⟨c0,c1,c2,c3,rfl⟩:=S8 hlen
  obtain⟨y0,M9⟩:=hf (26,0,1) (by simp)
  obtain⟨y1,Tj⟩:=hf (28,1,2) (by simp)
  obtain⟨y2,UJ⟩:=hf (29,3,1) (by simp)
  obtain⟨b,hbo,hb⟩:=sC S M9
  obtain⟨m,_,_,hg⟩:=fG S.WI (by simp) Tj
  obtain⟨z0,IG⟩:=hg (3,0,1) (by simp)
  obtain⟨z1,JO⟩:=hg (3,1,1) (by simp)
  obtain⟨k,hk,FD⟩:=ic S.CE IG
  obtain⟨i,hi,hir⟩:=ic S.CE JO
  obtain⟨els,_,h1,h2⟩:=jr S.WG (by rw[S.Rj];omega) (fun y=>∃t:Tm,t.kj∧y=t.enc) UJ fun m cs y hm hy=>by
   obtain⟨t,ht,hr⟩:=ih m (by omega) cs y hy
   exact⟨t.enc,⟨t,ht,rfl⟩,hr⟩
  obtain⟨l,hl,rfl⟩:=lY h1
  refine⟨.mk b k i l,⟨Ty.l8 hbo,hk,hi,Tm.l8 hl⟩,?_⟩
  rw[Tm.iz]
  exact hb.append (FD.append (hir.append h2))
structure rI (P:Program):Prop where
 aaq:P.underlying 22=some (.slice 90)
 aar:P.underlying 90=some (.array 2 3)
 aas:P.underlying 23=some (.slice 80)
 WZ:P.cellsOf 90=2
 W0:P.cellsOf 80=2
 aat:P.cellsOf 25=3
 aau:P.cellsOf 33=9
 aav:(match P.underlying 80 with|some (.struct fs)=>fs.toList.map (fun f=>(f.type,f.offset,P.cellsOf f.type))|_=>[])=[(3,0,1),(3,1,1)]
 aaw:(match P.underlying 25 with|some (.struct fs)=>fs.toList.map (fun f=>(f.type,f.offset,P.cellsOf f.type))|_=>[])=[(3,0,1),(22,1,1),(23,2,1)]
 aax:(match P.underlying 33 with|some (.struct fs)=>fs.toList.map (fun f=>(f.type,f.offset,P.cellsOf f.type))|_=>[])=[(31,0,4),(31,4,4),(26,8,1)]
 aay:(match P.underlying 25 with|some (.struct _)=>true|_=>false)=true
 aaz:(match P.underlying 33 with|some (.struct _)=>true|_=>false)=true
theorem Mw:rI Tryz.prog:=⟨by kernel_rfl,by kernel_rfl,by kernel_rfl,by kernel_rfl,by kernel_rfl,by kernel_rfl,by kernel_rfl,by kernel_rfl,by kernel_rfl,by kernel_rfl,by kernel_rfl,by kernel_rfl⟩
theorem E8 (S:oP P) (Q:rI P) {fuel:Nat} {cs:List Value} {x:DataW H×List MemPlace} (h:mC enc P W fuel 90 cs=some x):∃p:Int×Int,ei W [nI p.1,nI p.2] cs:=by
 obtain⟨xs,m,_,_,hlen,hl,hf⟩:=DataW.trod_array Q.aar h
 rw[Q.WZ] at hlen
 obtain⟨c0,c1,rfl⟩:=EU hlen
 have h0:=hf 0 (by decide)
 have h1:=hf 1 (by decide)
 rw[S.aae] at h0 h1
 rw[List.getElem?_eq_getElem (by omega)] at h0 h1
 obtain⟨i,_,r0⟩:=ic S.CE h0
 obtain⟨j,_,r1⟩:=ic S.CE h1
 exact⟨(i,j),r0.append r1⟩
theorem Ii (S:oP P) (Q:rI P) {fuel:Nat} {cs:List Value} {x:DataW H×List MemPlace} (h:mC enc P W fuel 80 cs=some x):∃p:Int×Int,ei W [nI p.1,nI p.2] cs:=by
 obtain⟨n,hn,hlen,hf⟩:=fG Q.aav (by simp) h
 rw[Q.W0] at hlen
 obtain⟨c0,c1,rfl⟩:=EU hlen
 obtain⟨y0,M9⟩:=hf (3,0,1) (by simp)
 obtain⟨y1,Tj⟩:=hf (3,1,1) (by simp)
 obtain⟨i,_,r0⟩:=ic S.CE M9
 obtain⟨j,_,r1⟩:=ic S.CE Tj
 exact⟨(i,j),r0.append r1⟩
theorem vB:∀{l:List AV},(∀y∈l,∃p:Int×Int,True∧y=.agg [nI p.1,nI p.2])→∃m:List (Int×Int),l=au m
 | [],_=>⟨[],rfl⟩
 |y::l,h=>by
  obtain⟨p,_,rfl⟩:=h y List.mem_cons_self
  obtain⟨m,rfl⟩:=vB fun z hz=>h z (List.mem_cons_of_mem _ hz)
  exact⟨p::m,rfl⟩
variable {base:Nat} {v:Value} {d:DataW H} {p:List MemPlace}
theorem Mx (S:oP P) (Q:rI P) (hv:Value.okWide P W .any base 25 v) (h:DataW.Trod enc P W 0 (fun _=>true) true 25 v d p):
  ∃x:Int×List (Int×Int)×List (Int×Int),aY W (Old W) [] [] (.agg [nI x.1,.sl (au x.2.1),.sl (au x.2.2)]) v:=by
 obtain⟨fuel,hf⟩:=h
 obtain⟨cs,rfl⟩:=pk Q.aay hv
 obtain⟨n,hn,hlen,hg⟩:=fG Q.aaw (by simp) hf
 rw[Q.aat] at hlen
 obtain⟨y0,M9⟩:=hg (3,0,1) (by simp)
 obtain⟨y1,Tj⟩:=hg (22,1,1) (by simp)
 obtain⟨y2,UJ⟩:=hg (23,2,1) (by simp)
 obtain⟨i,_,r0⟩:=ic S.CE M9
 obtain⟨els,_,g1,r1⟩:=jr Q.aaq (by rw[Q.WZ];omega) (fun y=>∃p:Int×Int,True∧y=.agg [nI p.1,nI p.2]) Tj fun m cs y _ hy=>by
  obtain⟨p,hp⟩:=E8 S Q hy
  exact⟨.agg [nI p.1,nI p.2],⟨p,True.intro,rfl⟩,hp⟩
 obtain⟨av,_,g2,r2⟩:=jr Q.aas (by rw[Q.W0];omega) (fun y=>∃p:Int×Int,True∧y=.agg [nI p.1,nI p.2]) UJ fun m cs y _ hy=>by
  obtain⟨p,hp⟩:=Ii S Q hy
  exact⟨.agg [nI p.1,nI p.2],⟨p,True.intro,rfl⟩,hp⟩
 obtain⟨m1,rfl⟩:=vB g1
 obtain⟨m2,rfl⟩:=vB g2
 exact⟨(i,m1,m2),zy (ei.Mu (a:=1) (b:=1) (c:=1) (m:=2) hlen rfl r0 r1 r2)⟩
theorem E9 (S:oP P) (Q:rI P) {fuel:Nat} {cs:List Value} {x:DataW H×List MemPlace} (h:mC enc P W fuel 33 cs=some x):∃(l r:Tm) (ms:List Ty),(l.kj∧r.kj∧Ty.il ms)∧
  ei W [.sl (l.binds.map Ty.enc),nI l.kind,nI l.index,.sl (l.args.map Tm.enc),.sl (r.binds.map Ty.enc),nI r.kind,nI r.index,.sl (r.args.map Tm.enc),.sl (ms.map Ty.enc)] cs:=by
 obtain⟨n,hn,hlen,hg⟩:=fG Q.aax (by simp) h
 rw[Q.aau] at hlen
 obtain⟨z0,IG⟩:=hg (31,0,4) (by simp)
 obtain⟨z1,JO⟩:=hg (31,4,4) (by simp)
 obtain⟨z2,Uf⟩:=hg (26,8,1) (by simp)
 obtain⟨t,ht,r0⟩:=pw S _ _ _ IG
 obtain⟨u,hu,r1⟩:=pw S _ _ _ JO
 obtain⟨m,hm,r2⟩:=sC S Uf
 rw[Tm.aP] at r0 r1
 exact⟨t,u,m,⟨ht,hu,Ty.l8 hm⟩,ei.Mu (a:=4) (b:=4) (c:=1) (m:=8) hlen rfl r0 r1 r2⟩
theorem My (S:oP P) (Q:rI P) (hv:Value.okWide P W .any base 33 v) (h:DataW.Trod enc P W 0 (fun _=>true) true 33 v d p):∃x:Tm×Tm×List Ty,(x.1.kj∧x.2.1.kj∧Ty.il x.2.2)∧
  aY W (Old W) [] [] (.agg [.sl (x.1.binds.map Ty.enc),nI x.1.kind,nI x.1.index,.sl (x.1.args.map Tm.enc),.sl (x.2.1.binds.map Ty.enc),nI x.2.1.kind,nI x.2.1.index,.sl (x.2.1.args.map Tm.enc),.sl (x.2.2.map Ty.enc)]) v:=by
 obtain⟨fuel,hf⟩:=h
 obtain⟨l,r,ms,hn,hr⟩:=E9 S Q hf
 obtain⟨cs,rfl⟩:=pk Q.aaz hv
 exact⟨(l,r,ms),hn,zy hr⟩
theorem Ij (S:oP P) (hv:Value.okWide P W .any base 31 v) (h:DataW.Trod enc P W 0 (fun _=>true) true 31 v d p):∃t:Tm,t.kj∧aY W (Old W) [] [] (.agg [.sl (t.binds.map Ty.enc),nI t.kind,nI t.index,.sl (t.args.map Tm.enc)]) v:=by
 obtain⟨fuel,hf⟩:=h
 obtain⟨t,h1,h2⟩:=pw S fuel _ _ hf
 obtain⟨cs,rfl⟩:=pk S.WK hv
 rw[Tm.aP] at h2
 exact⟨t,h1,zy h2⟩
end Go.Proofs.YtdcikhleahfknaaGreatDoor
