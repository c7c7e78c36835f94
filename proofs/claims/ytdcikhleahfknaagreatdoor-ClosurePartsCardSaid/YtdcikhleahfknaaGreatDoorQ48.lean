/- Texts of ours laid together for a claim: J32. -/
import Derived.OpenShut
import Derived.Test.YtdcikhleahfknaaGreatDoorQ47
namespace Go.Proofs.YtdcikhleahfknaaGreatDoor
open Go Go.ChangeShapes Go.WideShapes Go.ChangeAt Go.RowKit
set_option linter.unusedSimpArgs false
set_option linter.unusedVariables false
variable {H:Type} {enc:TypeId×Value→H} {P:Program} {W:World}
theorem Ty.lC:∀{l:List Ty},(∀t∈l,t.jJ)→Ty.fR l
 | [],_=>True.intro
 |t::l,h=>⟨h t List.mem_cons_self,Ty.lC fun u hu=>h u (List.mem_cons_of_mem _ hu)⟩
theorem Tm.lC:∀{l:List Tm},(∀t∈l,t.jJ)→Tm.fR l
 | [],_=>True.intro
 |t::l,h=>⟨h t List.mem_cons_self,Tm.lC fun u hu=>h u (List.mem_cons_of_mem _ hu)⟩
theorem ek.Ry {xs ys zs:List AV} {cs:List Value} {a b c m:Nat} (hl:cs.length=a+b+c) (hm:m=a+b) (h:ek W xs ((cs.drop 0).take a)) (k:ek W ys ((cs.drop a).take b)) (q:ek W zs ((cs.drop m).take c)):ek W (xs++ys++zs) cs:=by
 subst hm
 have e:((cs.drop 0).take a++(cs.drop a).take b)++(cs.drop (a+b)).take c=cs:=by
  rw[List.drop_zero,List.take_of_length_le (show (cs.drop (a+b)).length≤c by rw[List.length_drop];omega),←List.take_add,List.take_append_drop]
 have:=(h.append k).append q
 rwa [e] at this
theorem DR (S:uA P):∀(fuel:Nat) (cs:List Value) (x:DataW H×List MemPlace),ot enc P W fuel 116 cs=some x→∃t:Ty,t.jJ∧ek W t.enc.cells cs:=by
 intro fuel
 induction fuel using Nat.strongRecOn with
 |ind fuel ih=>
  intro cs x h
  obtain⟨n,hn,hlen,hf⟩:=jt S.U7 (by simp) h
  rw[S.KM] at hlen
  obtain⟨c0,c1,rfl⟩:=Rj hlen
  obtain⟨y0,RK⟩:=hf (26,0,1) (by simp)
  obtain⟨y1,YQ⟩:=hf (3,1,1) (by simp)
  obtain⟨els,_,h1,h2⟩:=ly S.PD (by rw[S.KM];omega) (fun y=>∃t:Ty,t.jJ∧y=t.enc) RK fun m cs y hm hy=>by
   obtain⟨t,hk,ht⟩:=ih m (by omega) cs y hy
   exact⟨t.enc,⟨t,hk,rfl⟩,ht⟩
  obtain⟨l,hl,rfl⟩:=iN h1
  obtain⟨i,hi,h3⟩:=p9 S.Rm YQ
  refine⟨.mk l i,⟨hi,Ty.lC hl⟩,?_⟩
  rw[Ty.fJ]
  exact h2.append h3
theorem rX (S:uA P) {fuel:Nat} {cs:List Value} {x:DataW H×List MemPlace} (h:ot enc P W fuel 26 cs=some x):∃l:List Ty,(∀t∈l,t.jJ)∧ek W [.sl (l.map Ty.enc)] cs:=by
 obtain⟨els,_,h1,h2⟩:=ly S.PD (by rw[S.KM];omega) (fun y=>∃t:Ty,t.jJ∧y=t.enc) h fun n cs y _ hy=>by
  obtain⟨t,hk,ht⟩:=DR S n cs y hy
  exact⟨t.enc,⟨t,hk,rfl⟩,ht⟩
 obtain⟨l,h3,rfl⟩:=iN h1
 exact⟨l,h3,h2⟩
theorem oT (S:uA P):∀(fuel:Nat) (cs:List Value) (x:DataW H×List MemPlace),ot enc P W fuel 31 cs=some x→∃t:Tm,t.jJ∧ek W t.enc.cells cs:=by
 intro fuel
 induction fuel using Nat.strongRecOn with
 |ind fuel ih=>
  intro cs x h
  obtain⟨n,hn,hlen,hf⟩:=jt S.U9 (by simp) h
  rw[S.KN] at hlen
  obtain⟨c0,c1,c2,c3,rfl⟩:=Rl hlen
  obtain⟨y0,RK⟩:=hf (26,0,1) (by simp)
  obtain⟨y1,YQ⟩:=hf (28,1,2) (by simp)
  obtain⟨y2,W8⟩:=hf (29,3,1) (by simp)
  obtain⟨b,hbo,hb⟩:=rX S RK
  obtain⟨m,_,_,hg⟩:=jt S.U8 (by simp) YQ
  obtain⟨z0,Hc⟩:=hg (3,0,1) (by simp)
  obtain⟨z1,Ij⟩:=hg (3,1,1) (by simp)
  obtain⟨k,hk,Eo⟩:=p9 S.Rm Hc
  obtain⟨i,hi,hir⟩:=p9 S.Rm Ij
  obtain⟨els,_,h1,h2⟩:=ly S.KL (by rw[S.KN];omega) (fun y=>∃t:Tm,t.jJ∧y=t.enc) W8 fun m cs y hm hy=>by
   obtain⟨t,ht,hr⟩:=ih m (by omega) cs y hy
   exact⟨t.enc,⟨t,ht,rfl⟩,hr⟩
  obtain⟨l,hl,rfl⟩:=iN h1
  refine⟨.mk b k i l,⟨Ty.lC hbo,hk,hi,Tm.lC hl⟩,?_⟩
  rw[Tm.fJ]
  exact hb.append (Eo.append (hir.append h2))
structure DS (P:Program):Prop where
 abw:P.underlying 22=some (.slice 90)
 abx:P.underlying 90=some (.array 2 3)
 aby:P.underlying 23=some (.slice 80)
 abz:P.cellsOf 90=2
 abA:P.cellsOf 80=2
 abB:P.cellsOf 25=3
 YS:P.cellsOf 33=9
 abC:(match P.underlying 80 with|some (.struct fs)=>fs.toList.map (fun f=>(f.type,f.offset,P.cellsOf f.type))|_=>[])=[(3,0,1),(3,1,1)]
 abD:(match P.underlying 25 with|some (.struct fs)=>fs.toList.map (fun f=>(f.type,f.offset,P.cellsOf f.type))|_=>[])=[(3,0,1),(22,1,1),(23,2,1)]
 YT:(match P.underlying 33 with|some (.struct fs)=>fs.toList.map (fun f=>(f.type,f.offset,P.cellsOf f.type))|_=>[])=[(31,0,4),(31,4,4),(26,8,1)]
 abE:(match P.underlying 25 with|some (.struct _)=>true|_=>false)=true
 YU:(match P.underlying 33 with|some (.struct _)=>true|_=>false)=true
theorem Rz:DS Tryz.prog:=⟨by kernel_rfl,by kernel_rfl,by kernel_rfl,by kernel_rfl,by kernel_rfl,by kernel_rfl,by kernel_rfl,by kernel_rfl,by kernel_rfl,by kernel_rfl,by kernel_rfl,by kernel_rfl⟩
variable {base:Nat} {v:Value} {d:DataW H} {p:List MemPlace}
theorem DT (S:uA P) (Q:DS P) {fuel:Nat} {cs:List Value} {x:DataW H×List MemPlace} (h:ot enc P W fuel 33 cs=some x):∃(l r:Tm) (ms:List Ty),(l.jJ∧r.jJ∧Ty.fR ms)∧
  ek W [.sl (l.binds.map Ty.enc),nI l.kind,nI l.index,.sl (l.args.map Tm.enc),.sl (r.binds.map Ty.enc),nI r.kind,nI r.index,.sl (r.args.map Tm.enc),.sl (ms.map Ty.enc)] cs:=by
 obtain⟨n,hn,hlen,hg⟩:=jt Q.YT (by simp) h
 rw[Q.YS] at hlen
 obtain⟨z0,Hc⟩:=hg (31,0,4) (by simp)
 obtain⟨z1,Ij⟩:=hg (31,4,4) (by simp)
 obtain⟨z2,Sw⟩:=hg (26,8,1) (by simp)
 obtain⟨t,ht,r0⟩:=oT S _ _ _ Hc
 obtain⟨u,hu,r1⟩:=oT S _ _ _ Ij
 obtain⟨m,hm,r2⟩:=rX S Sw
 rw[Tm.aE] at r0 r1
 exact⟨t,u,m,⟨ht,hu,Ty.lC hm⟩,ek.Ry (a:=4) (b:=4) (c:=1) (m:=8) hlen rfl r0 r1 r2⟩
theorem K5 (S:uA P) (Q:DS P) (hv:Value.okWide P W .any base 33 v) (h:DataW.Trod enc P W 0 (fun _=>true) true 33 v d p):∃x:Tm×Tm×List Ty,(x.1.jJ∧x.2.1.jJ∧Ty.fR x.2.2)∧
  aV W (Old W) [] [] (.agg [.sl (x.1.binds.map Ty.enc),nI x.1.kind,nI x.1.index,.sl (x.1.args.map Tm.enc),.sl (x.2.1.binds.map Ty.enc),nI x.2.1.kind,nI x.2.1.index,.sl (x.2.1.args.map Tm.enc),.sl (x.2.2.map Ty.enc)]) v:=by
 obtain⟨fuel,hf⟩:=h
 obtain⟨l,r,ms,hn,hr⟩:=DT S Q hf
 obtain⟨cs,rfl⟩:=Dz Q.YU hv
 exact⟨(l,r,ms),hn,Ov hr⟩
theorem uO (S:uA P) (hv:Value.okWide P W .any base 29 v) (h:DataW.Trod enc P W 0 (fun _=>true) true 29 v d p):∃l:List Tm,(∀x∈l,x.jJ)∧aV W (Old W) [] [] (.sl (l.map Tm.enc)) v:=by
 obtain⟨fuel,hf⟩:=h
 obtain⟨els,_,h1,h2⟩:=ly S.KL (by rw[S.KN];omega) (fun y=>∃t:Tm,t.jJ∧y=t.enc) hf fun n cs y _ hy=>by
  obtain⟨t,ht,hr⟩:=oT S n cs y hy
  exact⟨t.enc,⟨t,ht,rfl⟩,hr⟩
 obtain⟨l,h3,rfl⟩:=iN h1
 exact⟨l,h3,Bt h2 (Gx S.KL hv)⟩
end Go.Proofs.YtdcikhleahfknaaGreatDoor
