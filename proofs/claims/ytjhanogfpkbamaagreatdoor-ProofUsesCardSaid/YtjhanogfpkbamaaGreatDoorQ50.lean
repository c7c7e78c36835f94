/- Texts of ours laid together for a claim: J28. -/
import Derived.Test.YtjhanogfpkbamaaGreatDoorQ49
namespace Go.Proofs.YtjhanogfpkbamaaGreatDoor
open Go Go.ChangeShapes Go.WideShapes Go.ChangeAt Go.RowKit
set_option linter.unusedSimpArgs false
set_option linter.unusedVariables false
variable {H:Type} {enc:TypeId×Value→H} {P:Program} {W:World}
theorem Ty.Ds:∀{l:List Ty},(∀t∈l,t.Ok)→Ty.FX l
 | [],_=>True.intro
 |t::l,h=>⟨h t aia,Ty.Ds fun u hu=>h u (aip _ hu)⟩
theorem Tm.Bo:∀{l:List Tm},(∀t∈l,t.Full)→Tm.rV l
 | [],_=>True.intro
 |t::l,h=>⟨h t aia,Tm.Bo fun u hu=>h u (aip _ hu)⟩
theorem eg.two {xs ys:List AV} {cs:List Value} {a b:Nat} (hl:cs.length=a+b) (h:eg W xs ((cs.drop 0).take a)) (k:eg W ys ((cs.drop a).take b)):eg W (xs++ys) cs:=by
 have e:(cs.drop 0).take a++(cs.drop a).take b=cs:=by
  rw[ajj,ah9 (show (cs.drop a).length≤b by rw[aix];omega),aiq]
 have:=h.append k
 rwa [e] at this
theorem eg.three {xs ys zs:List AV} {cs:List Value} {a b c m:Nat} (hl:cs.length=a+b+c) (hm:m=a+b) (h:eg W xs ((cs.drop 0).take a)) (k:eg W ys ((cs.drop a).take b)) (q:eg W zs ((cs.drop m).take c)):eg W (xs++ys++zs) cs:=by
 subst hm
 have e:((cs.drop 0).take a++(cs.drop a).take b)++(cs.drop (a+b)).take c=cs:=by
  rw[ajj,ah9 (show (cs.drop (a+b)).length≤c by rw[aix];omega),←List.take_add,aiq]
 have:=(h.append k).append q
 rwa [e] at this
theorem IB (S:uk P):∀(fuel:Nat) (cs:List Value) (x:DataW H×List MemPlace),nx enc P W fuel 163 cs=some x→∃t:Ty,t.Ok∧eg W t.enc.cells cs:=by
 intro fuel
 induction fuel using Nat.strongRecOn with
 |ind fuel ih=>
  intro cs x h
  obtain⟨n,hn,hlen,hf⟩:=gq S.aaa (by simp) h
  rw[S.PN] at hlen
  obtain⟨c0,c1,rfl⟩:=WZ hlen
  obtain⟨y0,UB⟩:=hf (54,0,1) (by simp)
  obtain⟨y1,UC⟩:=hf (3,1,1) (by simp)
  obtain⟨els,_,h1,h2⟩:=ir S.Vs (by rw[S.PN];omega) (fun y=>∃t:Ty,t.Ok∧y=t.enc) UB fun m cs y hm hy=>by
   obtain⟨t,hk,ht⟩:=ih m (by omega) cs y hy
   exact⟨t.enc,⟨t,hk,rfl⟩,ht⟩
  obtain⟨l,hl,rfl⟩:=gu h1
  obtain⟨i,hi,h3⟩:=lE S.LB UC
  refine⟨.mk l i,⟨hi,Ty.Ds hl⟩,?_⟩
  rw[Ty.oA]
  exact h2.append h3
theorem wA (S:uk P) {fuel:Nat} {cs:List Value} {x:DataW H×List MemPlace} (h:nx enc P W fuel 54 cs=some x):∃l:List Ty,(∀t∈l,t.Ok)∧eg W [.sl (l.map Ty.enc)] cs:=by
 obtain⟨els,_,h1,h2⟩:=ir S.Vs (by rw[S.PN];omega) (fun y=>∃t:Ty,t.Ok∧y=t.enc) h fun n cs y _ hy=>by
  obtain⟨t,hk,ht⟩:=IB S n cs y hy
  exact⟨t.enc,⟨t,hk,rfl⟩,ht⟩
 obtain⟨l,h3,rfl⟩:=gu h1
 exact⟨l,h3,h2⟩
theorem sS (S:uk P):∀(fuel:Nat) (cs:List Value) (x:DataW H×List MemPlace),nx enc P W fuel 58 cs=some x→∃t:Tm,t.Full∧eg W t.enc.cells cs:=by
 intro fuel
 induction fuel using Nat.strongRecOn with
 |ind fuel ih=>
  intro cs x h
  obtain⟨n,hn,hlen,hf⟩:=gq S.aac (by simp) h
  rw[S.Vt] at hlen
  obtain⟨c0,c1,c2,c3,rfl⟩:=PM hlen
  obtain⟨y0,UB⟩:=hf (54,0,1) (by simp)
  obtain⟨y1,UC⟩:=hf (55,1,2) (by simp)
  obtain⟨y2,Yw⟩:=hf (56,3,1) (by simp)
  obtain⟨b,hbo,hb⟩:=wA S UB
  obtain⟨m,_,_,hg⟩:=gq S.aab (by simp) UC
  obtain⟨z0,Mc⟩:=hg (3,0,1) (by simp)
  obtain⟨z1,Rd⟩:=hg (3,1,1) (by simp)
  obtain⟨k,hk,Q1⟩:=lE S.LB Mc
  obtain⟨i,hi,hir⟩:=lE S.LB Rd
  obtain⟨els,_,h1,h2⟩:=ir S.Z9 (by rw[S.Vt];omega) (fun y=>∃t:Tm,t.Full∧y=t.enc) Yw fun m cs y hm hy=>by
   obtain⟨t,ht,hr⟩:=ih m (by omega) cs y hy
   exact⟨t.enc,⟨t,ht,rfl⟩,hr⟩
  obtain⟨l,hl,rfl⟩:=gu h1
  refine⟨.mk b k i l,⟨Ty.Ds hbo,hk,hi,Tm.Bo hl⟩,?_⟩
  rw[Tm.oA]
  exact hb.append (Q1.append (hir.append h2))
structure zF (P:Program):Prop where
 aeg:P.underlying 4=some .bool
 aaG:P.underlying 22=some (.slice 63)
 aeh:P.underlying 61=some (.slice 121)
 aei:P.underlying 119=some (.slice 124)
 aaH:P.cellsOf 63=10
 aaI:P.cellsOf 121=4
 aaJ:P.cellsOf 124=5
 aej:P.cellsOf 60=9
 aek:(match P.underlying 63 with|some (.struct fs)=>fs.toList.map (fun f=>(f.type,f.offset,P.cellsOf f.type))|_=>[])=[(60,0,9),(61,9,1)]
 ael:(match P.underlying 60 with|some (.struct fs)=>fs.toList.map (fun f=>(f.type,f.offset,P.cellsOf f.type))|_=>[])=[(58,0,4),(58,4,4),(54,8,1)]
 aem:(match P.underlying 121 with|some (.struct fs)=>fs.toList.map (fun f=>(f.type,f.offset,P.cellsOf f.type))|_=>[])=[(3,0,1),(4,1,1),(42,2,1),(119,3,1)]
 aen:(match P.underlying 124 with|some (.struct fs)=>fs.toList.map (fun f=>(f.type,f.offset,P.cellsOf f.type))|_=>[])=[(3,0,1),(58,1,4)]
theorem Xj:zF Tryz.prog:=⟨by kernel_rfl,by kernel_rfl,by kernel_rfl,by kernel_rfl,by kernel_rfl,by kernel_rfl,by kernel_rfl,by kernel_rfl,by kernel_rfl,by kernel_rfl,by kernel_rfl,by kernel_rfl⟩
theorem UD (S:uk P) (Q:zF P) {fuel:Nat} {cs:List Value} {x:DataW H×List MemPlace} (h:nx enc P W fuel 124 cs=some x):∃p:Int×Tm,(ke p.1∧p.2.Full)∧eg W (bp p).cells cs:=by
 obtain⟨n,hn,hlen,hf⟩:=gq Q.aen (by simp) h
 rw[Q.aaJ] at hlen
 obtain⟨y0,UB⟩:=hf (3,0,1) (by simp)
 obtain⟨y1,UC⟩:=hf (58,1,4) (by simp)
 obtain⟨i,hi,h0⟩:=lE S.LB UB
 obtain⟨t,ht,h1⟩:=sS S _ _ _ UC
 rw[Tm.aF] at h1
 exact⟨(i,t),⟨hi,ht⟩,eg.two (a:=1) (b:=4) hlen h0 h1⟩
theorem Ql (S:uk P) (N:zo P) (Q:zF P) {fuel:Nat} {cs:List Value} {x:DataW H×List MemPlace} (h:nx enc P W fuel 121 cs=some x):∃s:bF,s.QM∧eg W s.enc.cells cs:=by
 obtain⟨n,hn,hlen,hf⟩:=gq Q.aem (by simp) h
 rw[Q.aaI] at hlen
 obtain⟨c0,c1,c2,c3,rfl⟩:=PM hlen
 obtain⟨y0,UB⟩:=hf (3,0,1) (by simp)
 obtain⟨y1,UC⟩:=hf (4,1,1) (by simp)
 obtain⟨y2,Yw⟩:=hf (42,2,1) (by simp)
 obtain⟨y3,hy3⟩:=hf (119,3,1) (by simp)
 obtain⟨i,hi,h0⟩:=lE S.LB UB
 obtain⟨b,hb,_⟩:=DataW.trod_bool Q.aeg UC
 obtain⟨l,hl,h2⟩:=LC S N Yw
 obtain⟨els,_,h3,h4⟩:=ir Q.aei (by rw[Q.aaJ];omega) (fun y=>∃p:Int×Tm,(ke p.1∧p.2.Full)∧y=bp p) hy3 fun m cs y hm hy=>by
  obtain⟨p,hp,hr⟩:=UD S Q hy
  exact⟨bp p,⟨p,hp,rfl⟩,hr⟩
 obtain⟨q,hq,rfl⟩:=gu h3
 have h1:eg W [nB b] [c1]:=by
  have:[c1]=[Value.bool b]:=hb
  rw[this]
  exact ny (.ah _) rfl
 exact⟨⟨i,b,l,q⟩,⟨hi,hl,hq⟩,h0.append (h1.append (h2.append h4))⟩
theorem Qm (S:uk P) (N:zo P) (Q:zF P) {fuel:Nat} {cs:List Value} {x:DataW H×List MemPlace} (h:nx enc P W fuel 63 cs=some x):∃l:aP,l.QM∧eg W l.enc.cells cs:=by
 obtain⟨n,hn,hlen,hf⟩:=gq Q.aek (by simp) h
 rw[Q.aaH] at hlen
 obtain⟨y0,UB⟩:=hf (60,0,9) (by simp)
 obtain⟨y1,UC⟩:=hf (61,9,1) (by simp)
 obtain⟨n',_,oS,hg⟩:=gq Q.ael (by simp) UB
 rw[Q.aej] at oS
 obtain⟨z0,Mc⟩:=hg (58,0,4) (by simp)
 obtain⟨z1,Rd⟩:=hg (58,4,4) (by simp)
 obtain⟨z2,V3⟩:=hg (54,8,1) (by simp)
 obtain⟨t,ht,r0⟩:=sS S _ _ _ Mc
 obtain⟨u,hu,r1⟩:=sS S _ _ _ Rd
 obtain⟨m,hm,r2⟩:=wA S V3
 obtain⟨els,_,h3,h4⟩:=ir Q.aeh (by rw[Q.aaI];omega) (fun y=>∃s:bF,s.QM∧y=s.enc) UC fun m cs y hm hy=>by
  obtain⟨s,hs,hr⟩:=Ql S N Q hy
  exact⟨s.enc,⟨s,hs,rfl⟩,hr⟩
 obtain⟨q,hq,rfl⟩:=gu h3
 rw[Tm.aF] at r0 r1
 have hp:=eg.three (a:=4) (b:=4) (c:=1) (m:=8) oS rfl r0 r1 r2
 exact⟨⟨t,u,m,q⟩,⟨ht,hu,hm,hq⟩,eg.two (a:=9) (b:=1) hlen hp h4⟩
variable {base:Nat} {v:Value} {d:DataW H} {p:List MemPlace}
theorem IC (S:uk P) (N:zo P) (Q:zF P) (hv:Value.okWide P W .any base 22 v) (h:DataW.Trod enc P W 0 (fun _=>true) true 22 v d p):∃l:List aP,(∀x∈l,x.QM)∧bw W (Old W) [] [] (.sl (l.map aP.enc)) v:=by
 obtain⟨fuel,hf⟩:=h
 obtain⟨els,_,h1,h2⟩:=ir Q.aaG (by rw[Q.aaH];omega) (fun y=>∃l:aP,l.QM∧y=l.enc) hf fun n cs y _ hy=>by
  obtain⟨l,hl,hr⟩:=Qm S N Q hy
  exact⟨l.enc,⟨l,hl,rfl⟩,hr⟩
 obtain⟨l,h3,rfl⟩:=gu h1
 exact⟨l,h3,FY h2 (LD Q.aaG hv)⟩
end Go.Proofs.YtjhanogfpkbamaaGreatDoor
