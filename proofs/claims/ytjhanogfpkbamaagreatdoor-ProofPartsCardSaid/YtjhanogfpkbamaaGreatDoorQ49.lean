/- Texts of ours laid together for a claim: J28. -/
import Derived.Test.YtjhanogfpkbamaaGreatDoorQ48
namespace Go.Proofs.YtjhanogfpkbamaaGreatDoor
open Go Go.ChangeShapes Go.WideShapes Go.ChangeAt Go.RowKit
set_option linter.unusedSimpArgs false
set_option linter.unusedVariables false
variable {H:Type} {enc:TypeId×Value→H} {P:Program} {W:World}
theorem Ty.oks_all:∀{l:List Ty},(∀t∈l,t.Ok)→Ty.Oks l
 | [],_=>True.intro
 |t::l,h=>⟨h t List.mem_cons_self,Ty.oks_all fun u hu=>h u (List.mem_cons_of_mem _ hu)⟩
theorem Tm.fulls_all:∀{l:List Tm},(∀t∈l,t.Full)→Tm.Fulls l
 | [],_=>True.intro
 |t::l,h=>⟨h t List.mem_cons_self,Tm.fulls_all fun u hu=>h u (List.mem_cons_of_mem _ hu)⟩
theorem ReadC.two {xs ys:List AV} {cs:List Value} {a b:Nat} (hl:cs.length=a+b) (h:ReadC W xs ((cs.drop 0).take a)) (k:ReadC W ys ((cs.drop a).take b)):ReadC W (xs++ys) cs:=by
 have e:(cs.drop 0).take a++(cs.drop a).take b=cs:=by
  rw[List.drop_zero,List.take_of_length_le (show (cs.drop a).length≤b by rw[List.length_drop];omega),List.take_append_drop]
 have:=h.append k
 rwa [e] at this
theorem ReadC.three {xs ys zs:List AV} {cs:List Value} {a b c m:Nat} (hl:cs.length=a+b+c) (hm:m=a+b) (h:ReadC W xs ((cs.drop 0).take a)) (k:ReadC W ys ((cs.drop a).take b)) (q:ReadC W zs ((cs.drop m).take c)):ReadC W (xs++ys++zs) cs:=by
 subst hm
 have e:((cs.drop 0).take a++(cs.drop a).take b)++(cs.drop (a+b)).take c=cs:=by
  rw[List.drop_zero,List.take_of_length_le (show (cs.drop (a+b)).length≤c by rw[List.length_drop];omega),←List.take_add,List.take_append_drop]
 have:=(h.append k).append q
 rwa [e] at this
theorem read_typeO (S:Sorts P):∀(fuel:Nat) (cs:List Value) (x:DataW H×List MemPlace),trodF enc P W fuel 163 cs=some x→∃t:Ty,t.Ok∧ReadC W t.enc.cells cs:=by
 intro fuel
 induction fuel using Nat.strongRecOn with
 |ind fuel ih=>
  intro cs x h
  obtain⟨n,hn,hlen,hf⟩:=read_struct S.fld72 (by simp) h
  rw[S.cel72] at hlen
  obtain⟨c0,c1,rfl⟩:=split2 hlen
  obtain⟨y0,hy0⟩:=hf (54,0,1) (by simp)
  obtain⟨y1,hy1⟩:=hf (3,1,1) (by simp)
  obtain⟨els,_,h1,h2⟩:=read_slice S.und22 (by rw[S.cel72];omega) (fun y=>∃t:Ty,t.Ok∧y=t.enc) hy0 fun m cs y hm hy=>by
   obtain⟨t,hk,ht⟩:=ih m (by omega) cs y hy
   exact⟨t.enc,⟨t,hk,rfl⟩,ht⟩
  obtain⟨l,hl,rfl⟩:=typed_list h1
  obtain⟨i,hi,h3⟩:=read_int S.und3 hy1
  refine⟨.mk l i,⟨hi,Ty.oks_all hl⟩,?_⟩
  rw[Ty.enc_mk]
  exact h2.append h3
theorem read_typesO (S:Sorts P) {fuel:Nat} {cs:List Value} {x:DataW H×List MemPlace} (h:trodF enc P W fuel 54 cs=some x):∃l:List Ty,(∀t∈l,t.Ok)∧ReadC W [.sl (l.map Ty.enc)] cs:=by
 obtain⟨els,_,h1,h2⟩:=read_slice S.und22 (by rw[S.cel72];omega) (fun y=>∃t:Ty,t.Ok∧y=t.enc) h fun n cs y _ hy=>by
  obtain⟨t,hk,ht⟩:=read_typeO S n cs y hy
  exact⟨t.enc,⟨t,hk,rfl⟩,ht⟩
 obtain⟨l,h3,rfl⟩:=typed_list h1
 exact⟨l,h3,h2⟩
theorem read_termF (S:Sorts P):∀(fuel:Nat) (cs:List Value) (x:DataW H×List MemPlace),trodF enc P W fuel 58 cs=some x→∃t:Tm,t.Full∧ReadC W t.enc.cells cs:=by
 intro fuel
 induction fuel using Nat.strongRecOn with
 |ind fuel ih=>
  intro cs x h
  obtain⟨n,hn,hlen,hf⟩:=read_struct S.fld27 (by simp) h
  rw[S.cel27] at hlen
  obtain⟨c0,c1,c2,c3,rfl⟩:=split4 hlen
  obtain⟨y0,hy0⟩:=hf (54,0,1) (by simp)
  obtain⟨y1,hy1⟩:=hf (55,1,2) (by simp)
  obtain⟨y2,hy2⟩:=hf (56,3,1) (by simp)
  obtain⟨b,hbo,hb⟩:=read_typesO S hy0
  obtain⟨m,_,_,hg⟩:=read_struct S.fld24 (by simp) hy1
  obtain⟨z0,hz0⟩:=hg (3,0,1) (by simp)
  obtain⟨z1,hz1⟩:=hg (3,1,1) (by simp)
  obtain⟨k,hk,hkr⟩:=read_int S.und3 hz0
  obtain⟨i,hi,hir⟩:=read_int S.und3 hz1
  obtain⟨els,_,h1,h2⟩:=read_slice S.und25 (by rw[S.cel27];omega) (fun y=>∃t:Tm,t.Full∧y=t.enc) hy2 fun m cs y hm hy=>by
   obtain⟨t,ht,hr⟩:=ih m (by omega) cs y hy
   exact⟨t.enc,⟨t,ht,rfl⟩,hr⟩
  obtain⟨l,hl,rfl⟩:=typed_list h1
  refine⟨.mk b k i l,⟨Ty.oks_all hbo,hk,hi,Tm.fulls_all hl⟩,?_⟩
  rw[Tm.enc_mk]
  exact hb.append (hkr.append (hir.append h2))
structure SortsL (P:Program):Prop where
 undB:P.underlying 4=some .bool
 undL:P.underlying 22=some (.slice 63)
 undS:P.underlying 61=some (.slice 121)
 undP:P.underlying 119=some (.slice 124)
 celL:P.cellsOf 63=10
 celS:P.cellsOf 121=4
 celP:P.cellsOf 124=5
 celQ:P.cellsOf 60=9
 fldL:(match P.underlying 63 with|some (.struct fs)=>fs.toList.map (fun f=>(f.type,f.offset,P.cellsOf f.type))|_=>[])=[(60,0,9),(61,9,1)]
 fldQ:(match P.underlying 60 with|some (.struct fs)=>fs.toList.map (fun f=>(f.type,f.offset,P.cellsOf f.type))|_=>[])=[(58,0,4),(58,4,4),(54,8,1)]
 fldS:(match P.underlying 121 with|some (.struct fs)=>fs.toList.map (fun f=>(f.type,f.offset,P.cellsOf f.type))|_=>[])=[(3,0,1),(4,1,1),(42,2,1),(119,3,1)]
 fldP:(match P.underlying 124 with|some (.struct fs)=>fs.toList.map (fun f=>(f.type,f.offset,P.cellsOf f.type))|_=>[])=[(3,0,1),(58,1,4)]
theorem sortsL:SortsL Tryz.prog:=⟨by kernel_rfl,by kernel_rfl,by kernel_rfl,by kernel_rfl,by kernel_rfl,by kernel_rfl,by kernel_rfl,by kernel_rfl,by kernel_rfl,by kernel_rfl,by kernel_rfl,by kernel_rfl⟩
theorem read_sp (S:Sorts P) (Q:SortsL P) {fuel:Nat} {cs:List Value} {x:DataW H×List MemPlace} (h:trodF enc P W fuel 124 cs=some x):∃p:Int×Tm,(I64 p.1∧p.2.Full)∧ReadC W (spEnc p).cells cs:=by
 obtain⟨n,hn,hlen,hf⟩:=read_struct Q.fldP (by simp) h
 rw[Q.celP] at hlen
 obtain⟨y0,hy0⟩:=hf (3,0,1) (by simp)
 obtain⟨y1,hy1⟩:=hf (58,1,4) (by simp)
 obtain⟨i,hi,h0⟩:=read_int S.und3 hy0
 obtain⟨t,ht,h1⟩:=read_termF S _ _ _ hy1
 rw[Tm.enc_eq] at h1
 exact⟨(i,t),⟨hi,ht⟩,ReadC.two (a:=1) (b:=4) hlen h0 h1⟩
theorem read_stp (S:Sorts P) (N:SortsN P) (Q:SortsL P) {fuel:Nat} {cs:List Value} {x:DataW H×List MemPlace} (h:trodF enc P W fuel 121 cs=some x):∃s:Stp,s.Num∧ReadC W s.enc.cells cs:=by
 obtain⟨n,hn,hlen,hf⟩:=read_struct Q.fldS (by simp) h
 rw[Q.celS] at hlen
 obtain⟨c0,c1,c2,c3,rfl⟩:=split4 hlen
 obtain⟨y0,hy0⟩:=hf (3,0,1) (by simp)
 obtain⟨y1,hy1⟩:=hf (4,1,1) (by simp)
 obtain⟨y2,hy2⟩:=hf (42,2,1) (by simp)
 obtain⟨y3,hy3⟩:=hf (119,3,1) (by simp)
 obtain⟨i,hi,h0⟩:=read_int S.und3 hy0
 obtain⟨b,hb,_⟩:=DataW.trod_bool Q.undB hy1
 obtain⟨l,hl,h2⟩:=read_nums S N hy2
 obtain⟨els,_,h3,h4⟩:=read_slice Q.undP (by rw[Q.celP];omega) (fun y=>∃p:Int×Tm,(I64 p.1∧p.2.Full)∧y=spEnc p) hy3 fun m cs y hm hy=>by
  obtain⟨p,hp,hr⟩:=read_sp S Q hy
  exact⟨spEnc p,⟨p,hp,rfl⟩,hr⟩
 obtain⟨q,hq,rfl⟩:=typed_list h3
 have h1:ReadC W [nB b] [c1]:=by
  have:[c1]=[Value.bool b]:=hb
  rw[this]
  exact readC_one (.prim _) rfl
 exact⟨⟨i,b,l,q⟩,⟨hi,hl,hq⟩,h0.append (h1.append (h2.append h4))⟩
theorem read_lem (S:Sorts P) (N:SortsN P) (Q:SortsL P) {fuel:Nat} {cs:List Value} {x:DataW H×List MemPlace} (h:trodF enc P W fuel 63 cs=some x):∃l:Lem,l.Num∧ReadC W l.enc.cells cs:=by
 obtain⟨n,hn,hlen,hf⟩:=read_struct Q.fldL (by simp) h
 rw[Q.celL] at hlen
 obtain⟨y0,hy0⟩:=hf (60,0,9) (by simp)
 obtain⟨y1,hy1⟩:=hf (61,9,1) (by simp)
 obtain⟨n',_,hlen',hg⟩:=read_struct Q.fldQ (by simp) hy0
 rw[Q.celQ] at hlen'
 obtain⟨z0,hz0⟩:=hg (58,0,4) (by simp)
 obtain⟨z1,hz1⟩:=hg (58,4,4) (by simp)
 obtain⟨z2,hz2⟩:=hg (54,8,1) (by simp)
 obtain⟨t,ht,r0⟩:=read_termF S _ _ _ hz0
 obtain⟨u,hu,r1⟩:=read_termF S _ _ _ hz1
 obtain⟨m,hm,r2⟩:=read_typesO S hz2
 obtain⟨els,_,h3,h4⟩:=read_slice Q.undS (by rw[Q.celS];omega) (fun y=>∃s:Stp,s.Num∧y=s.enc) hy1 fun m cs y hm hy=>by
  obtain⟨s,hs,hr⟩:=read_stp S N Q hy
  exact⟨s.enc,⟨s,hs,rfl⟩,hr⟩
 obtain⟨q,hq,rfl⟩:=typed_list h3
 rw[Tm.enc_eq] at r0 r1
 have hp:=ReadC.three (a:=4) (b:=4) (c:=1) (m:=8) hlen' rfl r0 r1 r2
 exact⟨⟨t,u,m,q⟩,⟨ht,hu,hm,hq⟩,ReadC.two (a:=9) (b:=1) hlen hp h4⟩
variable {base:Nat} {v:Value} {d:DataW H} {p:List MemPlace}
theorem arg_lemmas (S:Sorts P) (N:SortsN P) (Q:SortsL P) (hv:Value.okWide P W .any base 22 v) (h:DataW.Trod enc P W 0 (fun _=>true) true 22 v d p):∃l:List Lem,(∀x∈l,x.Num)∧Rep W (Old W) [] [] (.sl (l.map Lem.enc)) v:=by
 obtain⟨fuel,hf⟩:=h
 obtain⟨els,_,h1,h2⟩:=read_slice Q.undL (by rw[Q.celL];omega) (fun y=>∃l:Lem,l.Num∧y=l.enc) hf fun n cs y _ hy=>by
  obtain⟨l,hl,hr⟩:=read_lem S N Q hy
  exact⟨l.enc,⟨l,hl,rfl⟩,hr⟩
 obtain⟨l,h3,rfl⟩:=typed_list h1
 exact⟨l,h3,arg_cell h2 (arg_slice Q.undL hv)⟩
end Go.Proofs.YtjhanogfpkbamaaGreatDoor
