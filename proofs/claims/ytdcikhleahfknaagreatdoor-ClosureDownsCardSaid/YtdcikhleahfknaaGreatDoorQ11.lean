/- Texts of ours laid together for a claim: FilW. -/
import Derived.Test.YtdcikhleahfknaaGreatDoorQ10
namespace Go.Proofs.YtdcikhleahfknaaGreatDoor
open Go
set_option linter.unusedSimpArgs false
set_option linter.unusedVariables false
variable {G:Type} {Γ:Env G} {s s':AS G} {a:Act} {w w':World} {η aN:List Value} {hp hp':List af} {P:Program} {ops:Array Oper}
def qy (Γ:Env G) (ops:Array Oper) (o:Oper) (s:AS G) (r:AV) (hp':List af):Prop:=
 ∀rR:Env G,rR.Ok->rR.P=Γ.P->rR.nt=Γ.nt->rR.zH=Γ.zH->fA rR o (s.only (o.looksAt ops)) r hp'
theorem qy.run (ax:Γ.Ok) {o:Oper} {r:AV} (h:qy Γ ops o s r hp'):fA Γ o s r hp':=by
 intro a w η hr
 let DS:Env G:={ P:=Γ.P,w0:=w,F0:=bk Γ w η s.hp,X:=Γ.X,Y:=aG η s.hp,Inv:=Γ.Inv,nt:=Γ.nt,zH:=Γ.zH,yY:=η,jR:=s.hp,m0:=Γ.m0,Z:=Γ.Z }
 have bN:=hr.keeps.size;have MW:∀b,aG η s.hp b->b<w.heap.size:=fun b ⟨q,o,v,g1,g2,g3,g4⟩=>hr.heap.block g1 g2 g3 g4;have Nz:DS.Ok:=⟨hr.heap.len,fun b hb=>al8 (ax.x b hb) bN,MW,ax.ou,fun b o hb=>al8 (ax.z b o hb) bN,hr.gL ax,fun b hb h=>h.elim (fun h=>ax.gx b hb (.inl h)) (hr.gx ax hb)⟩;have NA:∀b o,bk Γ w η s.hp b o->bk DS w η s.hp b o:=fun b o h=>⟨.inl h,h.2.1,h.2.2.1,h.2.2.2⟩;have Yh:∀{yY:List Value} {jR:List af},Ext w (bk Γ w η s.hp) yY jR w (bk DS w η s.hp) yY jR:=⟨fun _ _ _ _ h=>h,fun _ _ _ _ h=>h,NA,fun _ _ h=>h,fun _ _ h=>h,fun _ _ _ h=>h⟩;have NB:Rel DS (s.only (o.looksAt ops)) a w η:=
  ⟨hr.nt,fun t=>((hr.only _).tmps t).ext Yh,⟨hr.heap.len,fun q o v h1 h2=>(hr.heap.obj q o v h1 h2).ext Yh (alA _) fun _ _ _=>rfl,hr.heap.sep⟩,
   fun q o v b h1 h2 h3 h4=>⟨.inr ⟨q,o,v,h1,h2,h3,h4⟩,(hr.bM q o v b h1 h2 h3 h4).2⟩,bE.refl _ w,hr.inv,hr.marks,Yh⟩
 obtain⟨v,w',aN,h1,h2,h3⟩:=h DS Nz rfl rfl rfl a w η NB;have zb:∀b o,bk DS w' aN hp' b o->bk Γ w' aN hp' b o:=by
  intro b o hf;refine⟨?_,hf.2.1,hf.2.2.1,hf.2.2.2⟩;rcases hf.1 with g|g|⟨q,o1,v1,g1,g2,g3,g4⟩
  ·exact g.1
  ·exact .inr (.inl (amf bN g))
  ·exact .inr (hr.bM q o1 v1 b g1 g2 g3 g4).1
 have hex:∀{jP:List Value} {fG:List af},Ext w' (bk DS w' aN hp') jP fG w' (bk Γ w' aN hp') jP fG:=
  ⟨fun _ _ _ _ h=>h,fun _ _ _ _ h=>h,zb,fun _ _ h=>h,fun _ _ h=>h,fun _ _ _ h=>h⟩
 have Yi:Ext w (bk Γ w η s.hp) η s.hp w' (bk Γ w' aN hp') aN hp':=Ext.trans h2.ext hex;refine⟨v,w',aN,h1,?_,h3.ext hex⟩;refine⟨hr.nt,fun t=>(hr.tmps t).ext Yi,⟨h2.heap.len,fun q o v g1 g2=>(h2.heap.obj q o v g1 g2).ext hex (alA _) fun _ _ _=>rfl,h2.heap.sep⟩,fun q o v b g1 g2 g3 g4=>?_,?_,h2.inv,h2.marks,hr.ext.trans Yi⟩
 ·have:=h2.bM q o v b g1 g2 g3 g4;refine⟨?_,this.2⟩;rcases this.1 with g|⟨q,o1,v1,g1,g2,g3,g4⟩
  ·exact .inl (amf bN g)
  ·exact(hr.bM q o1 v1 b g1 g2 g3 g4).1
 ·refine hr.keeps.trans h2.keeps fun b hb hl=>?_;rcases hl with hl|⟨q,o1,v1,g1,g2,g3,g4⟩
  ·exact .inl hl
  ·rcases (hr.bM q o1 v1 b g1 g2 g3 g4).1 with h|h
   ·omega
   ·exact .inr h
def mh (K:List Nat) (hp hp':List af):Prop:=hp.length<=hp'.length/\∀(q:Nat) (o:af),q∉K->hp[q]?=some o->hp'[q]?=some o
theorem mh.refl {K:List Nat}:mh K hp hp:=⟨alA _,fun _ _ _ h=>h⟩
theorem mh.trans {K:List Nat} {fG mO hp3:List af} (h:mh K fG mO) (h':mh K mO hp3):mh K fG hp3:=⟨amf h.1 h'.1,fun q o hq ho=>h'.2 q o hq (h.2 q o hq ho)⟩
theorem mh.mono {K K':List Nat} (h:mh K hp hp') (hk:∀q∈K,q∈K'):mh K' hp hp':=⟨h.1,fun q o hq ho=>h.2 q o (fun h=>hq (hk q h)) ho⟩
def kb (C:List (Option (List Nat))) (j:Nat) (hp hp':List af):Prop:=
 match C.getD j none with
 |none=>True
 |some l=>mh l hp hp'
def fP:Op->Bool
 | .move _ | .assign _ | .nilCheck _ | .pick .. | .binOp .. | .unOp .. | .extract .. | .build .. | .field .. | .makeFunc .. | .fieldAddr .. | .convert ..=>true
 |_=>false
def pL (M:List (Option (List Nat))) (k:Nat) (op:Op) (hp hp':List af):Prop:=
 if fP op=true then True else match M.getD k none with
 |none=>hp'=hp
 |some K=>mh K hp hp'
theorem pL.trans {M:List (Option (List Nat))} {k:Nat} {op:Op} {fG mO hp3:List af} (h:pL M k op fG mO) (h':pL M k op mO hp3):pL M k op fG hp3:=by
 unfold pL at *;split
 ·trivial
 ·rename_i hh;rw[if_neg hh] at h h'
  split<;>rename_i hm<;>rw[hm] at h h'
  ·exact h'.trans h
  ·exact h.trans h'
theorem pL.refl {M:List (Option (List Nat))} {k:Nat} {op:Op}:pL M k op hp hp:=by
 unfold pL;split
 ·trivial
 ·split
  ·rfl
  ·exact mh.refl
def jH (Γ:Env G) (ops:Array Oper) (o:Oper) (s:AS G) (x:AV) (R:List af->List af->Prop):Prop:=
 cR Γ.nt o.dst/\((aO ops s o=some true/\∀s':AS G,(∀t,t∈o.looksAt ops->s'.tmps t=s.tmps t)->R s.hp s'.hp->lA Γ o (s'.only (o.looksAt ops)) x)\/(aO ops s o=some false/\x=.ae (.tuple #[])))
theorem jH.ND (ax:Γ.Ok) {o:Oper} {x:AV} {R:List af->List af->Prop} (hR:R s.hp s.hp) (h:jH Γ ops o s x R):Yields Γ ops o s x:=
 ⟨h.1,h.2.imp (fun g=>⟨g.1,g.2 s (fun _ _=>rfl) hR Γ ax rfl rfl rfl⟩) id⟩
def qM (Γ:Env G) (ops:Array Oper) (C:List (Option (List Nat))) (i:Nat) (K:AS G->Prop) (s:AS G):Prop:=
 match ops[i]? with
 |none=>K s
 |some o=>if cj o.op=true then cR Γ.nt o.dst/\o.guard=none/\∃r hp',qy Γ ops o s r hp'/\kb C i s.hp hp'/\K (AS.put { s with hp:=hp' } o.dst r)
  else ∃x,jH Γ ops o s x (fun hp hp'=>hp'=hp)/\K (s.put o.dst x)
def mi (Γ:Env G) (ops:Array Oper) (C:List (Option (List Nat))) (Q:AS G->Prop):Nat->Array Bool->AS G->Prop
 |0,listed,s=>Region.ready .any ops listed=[]/\Q s
 |fuel+1,listed,s=>(Region.ready .any ops listed=[]->Q s)/\∀i∈Region.ready .any ops listed,qM Γ ops C i (mi Γ ops C Q fuel (listed.setIfInBounds i true)) s
theorem mi.any (ax:Γ.Ok) {C:List (Option (List Nat))} {Q:AS G->Prop}:∀(fuel:Nat) (listed:Array Bool) (s:AS G),mi Γ ops C Q fuel listed s->qn Γ ops Q fuel listed s:=by
 intro fuel
 induction fuel with
 |zero=>intro listed s h;exact h
 |succ fuel ih=>
  intro listed s h;refine⟨h.1,fun i hi=>?_⟩;have h1:=h.2 i hi;unfold qM at h1;unfold qx;split at h1
  ·rename_i ho;rw[ho];exact ih _ _ h1
  ·rename_i o ho;rw[ho];simp only;split at h1
   ·rename_i he;rw[if_pos he];obtain⟨g1,g2,r,hp',g3,_,g4⟩:=h1;exact⟨g1,g2,r,hp',g3.run ax,ih _ _ g4⟩
   ·rename_i he;rw[if_neg he];obtain⟨x,g1,g2⟩:=h1;exact⟨x,jH.ND (R:=fun hp hp'=>hp'=hp) ax rfl g1,ih _ _ g2⟩
theorem jH.put {o:Oper} {x y:AV} {d:Option Nat} {R:List af->List af->Prop} (h:∀t,d=some t->t∉o.looksAt ops) (hy:jH Γ ops o s y R):jH Γ ops o (s.put d x) y R:=by
 have Br:(s.put d x).hp=s.hp:=by cases d<;>rfl
 have htm:∀t,t∈o.looksAt ops->(s.put d x).tmps t=s.tmps t:=by
  intro t ht
  cases d with
  |none=>rfl
  |some d=>
   show yZ s.tmps d x t=_;rw[fc,if_neg];intro e;subst e;exact h t rfl ht
 refine⟨hy.1,?_⟩;rw[gS h];refine hy.2.imp (fun g=>⟨g.1,fun s' h1 h2=>g.2 s' (fun t ht=>?_) (by rw[Br] at h2;exact h2)⟩) id;rw[h1 t ht,htm t ht]
theorem jH.oG {o:Oper} {x y:AV} {d:Option Nat} {R:List af->List af->Prop} (h:∀t,d=some t->t∉o.looksAt ops) (hy:jH Γ ops o (s.put d x) y R):jH Γ ops o s y R:=by
 have Br:(s.put d x).hp=s.hp:=by cases d<;>rfl
 have htm:∀t,t∈o.looksAt ops->(s.put d x).tmps t=s.tmps t:=by
  intro t ht
  cases d with
  |none=>rfl
  |some d=>
   show yZ s.tmps d x t=_;rw[fc,if_neg];intro e;subst e;exact h t rfl ht
 refine⟨hy.1,?_⟩;have h2:=hy.2;rw[gS h] at h2;refine h2.imp (fun g=>⟨g.1,fun s' h1 h3=>g.2 s' (fun t ht=>?_) (by rw[Br];exact h3)⟩) id;rw[h1 t ht,htm t ht]
theorem jH.heap {o:Oper} {y:AV} {R:List af->List af->Prop} (ZT:∀fG mO hp3,R fG mO->R mO hp3->R fG hp3) (h:R s.hp hp') (hy:jH Γ ops o s y R):jH Γ ops o { s with hp:=hp' } y R:=by
 refine⟨hy.1,?_⟩;have:aO ops { s with hp:=hp' } o=aO ops s o:=rfl;rw[this];exact hy.2.imp (fun g=>⟨g.1,fun s' h1 h2=>g.2 s' h1 (ZT _ _ _ h h2)⟩) id
theorem qy.oG {o:Oper} {x r:AV} {d:Option Nat} (h:∀t,d=some t->t∉o.looksAt ops) (hy:qy Γ ops o (s.put d x) r hp'):qy Γ ops o s r hp':=by
 unfold qy at *;rw[w4 h] at hy;exact hy
theorem mi.first {C:List (Option (List Nat))} {Q:AS G->Prop} {i:Nat} {oi:Oper} {x:AV} {R:List af->List af->Prop} (ZT:∀fG mO hp3,R fG mO->R mO hp3->R fG hp3) (hrf:∀hp,R hp hp) (hi:ops[i]?=some oi) (bu:cj oi.op=false):
  ∀(fuel:Nat) (listed:Array Bool) (s:AS G),oF ops listed->
  (∀(j:Nat) oj,ops[j]?=some oj->j≠i->listed.getD j true=false->Reach ops i j\/(oi.apart ops oj=true/\(cj oj.op=false\/∀hp hp',kb C j hp hp'->R hp hp')))->
  i∈Region.ready .any ops listed->jH Γ ops oi s x R->mi Γ ops C Q fuel (listed.setIfInBounds i true) (s.put oi.dst x)->mi Γ ops C Q (fuel+1) listed s:=by
 have own:∀{K:AS G->Prop} {s:AS G},jH Γ ops oi s x R->K (s.put oi.dst x)->qM Γ ops C i K s:=by
  intro K s hy hK;unfold qM;rw[hi];simp only[bu,alQ,if_false];exact⟨x,⟨hy.1,hy.2.imp (fun g=>⟨g.1,fun s' h1 h2=>g.2 s' h1 (by rw[h2];exact hrf _)⟩) id⟩,hK⟩
 intro fuel
 induction fuel with
 |zero=>
  intro listed s _ _ hr hy H;refine⟨fun h=>(by rw[h] at hr;cases hr),fun j hj=>?_⟩
  by_cases gJ:j=i
  ·subst gJ;exact own hy H
  ·have:=ready_mono hj gJ;rw[H.1] at this;cases this
 |succ fuel ih=>
  intro listed s cM cG hr hy H;refine⟨fun h=>(by rw[h] at hr;cases hr),fun j hj=>?_⟩
  by_cases gJ:j=i
  ·subst gJ;exact own hy H
  ·have h1:=H.2 j (ready_mono hj gJ);obtain⟨mY,oj,iM,jo⟩:=mem_ready.1 hj;rcases cG j oj iM gJ mY with h2|⟨Yb,lZ⟩
   ·exact(gz cM hr hj h2).elim
   obtain⟨p1,p2,p3⟩:=Oper.apart_spec Yb;have bS:∀k ok,ops[k]?=some ok->k≠i->(listed.setIfInBounds j true).getD k true=false->Reach ops i k\/(oi.apart ops ok=true/\(cj ok.op=false\/∀hp hp',kb C k hp hp'->R hp hp')):=by
    intro k ok hk G0 jF;refine cG k ok hk G0 ?_
    by_cases jL:j=k
    ·subst jL;exact mY
    ·rw[getD_set_ne true jL] at jF;exact jF
   unfold qM at h1 ⊢;rw[iM] at h1 ⊢;simp only at h1 ⊢;split at h1
   ·rename_i JD;rw[if_pos JD];obtain⟨g1,g2,r,hp',g3,g4,g5⟩:=h1;have Br:(s.put oi.dst x).hp=s.hp:=by cases oi.dst<;>rfl
    rw[Br] at g4;have hR:=(lZ.resolve_left (by rw[JD];simp)) _ _ g4;refine⟨g1,g2,r,hp',g3.oG p1,g4,ih (listed.setIfInBounds j true) _ (cu cM hj) bS (ready_mono hr (am5 gJ)) ((hy.heap ZT hR).put p3) ?_⟩;rw[amF _ _ gJ];have e:(AS.put { s with hp:=hp' } oj.dst r).put oi.dst x=AS.put { s.put oi.dst x with hp:=hp' } oj.dst r:=by
     rw[<-put_comm p2]
     congr 1
     cases oi.dst<;>rfl
    rw[e];exact g5
   ·rename_i JD;rw[if_neg JD];obtain⟨y,Yc,hK⟩:=h1;refine⟨y,Yc.oG p1,ih (listed.setIfInBounds j true) (s.put oj.dst y) (cu cM hj) bS (ready_mono hr (am5 gJ)) (hy.put p3) ?_⟩;rw[amF _ _ gJ,<-put_comm p2];exact hK
theorem mi.gU {C:List (Option (List Nat))} {Q:AS G->Prop} {i:Nat} {fuel:Nat} {listed:Array Bool} (cM:oF ops listed) (cG:∀(j:Nat) oj,ops[j]?=some oj->j≠i->listed.getD j true=false->Reach ops i j)
  (hr:i∈Region.ready .any ops listed) (H:qM Γ ops C i (mi Γ ops C Q fuel (listed.setIfInBounds i true)) s):mi Γ ops C Q (fuel+1) listed s:=by
 refine⟨fun h=>(by rw[h] at hr;cases hr),fun j hj=>?_⟩
 by_cases gJ:j=i
 ·subst gJ;exact H
 ·obtain⟨mY,oj,iM,_⟩:=mem_ready.1 hj;exact(gz cM hr hj (cG j oj iM gJ mY)).elim
def NF (l k:List Nat):Bool:=l.all fun q=>k.contains q
def gV (C M:List (Option (List Nat))) (k j:Nat) (op:Op):Bool:=
 fP op||(match C.getD j none,M.getD k none with
  |some l,some K=>NF l K
  |_,_=>false)
theorem iO {C M:List (Option (List Nat))} {k j:Nat} {op:Op} (h:gV C M k j op=true) (hc:kb C j hp hp'):pL M k op hp hp':=by
 unfold gV at h;unfold pL;split
 ·trivial
 ·rename_i hh;rw[amo] at h;rcases h with h|h
  ·exact(hh h).elim
  ·split at h
   ·rename_i l K hl hk;unfold kb at hc;rw[hl] at hc;rw[hk];refine hc.mono fun q hq=>?_;simp only[NF,alK] at h;simpa using h q hq
   ·cases h
def vZ (C M:List (Option (List Nat))) (l:List Oper):Bool:=
 let m:=l9 l []
 (List.range l.length).all fun k=>match l[k]? with
  |none=>false
  |some ok=>ok.after.toList.all (fun e=>!Region.binds .any e||decide (e.on<k)) &&
    (List.range l.length).all fun j=>decide (j<=k)||(m.getD j 0).testBit k||match l[j]? with
     |none=>true
     |some oj=>!cj ok.op&&ok.apart l.toArray oj&&(!cj oj.op||gV C M k j ok.op)
def nV (Γ:Env G) (ops:Array Oper) (C M:List (Option (List Nat))) (K:AS G->Prop):Nat->List Oper->AS G->Prop
 |_,[],s=>K s
 |k,o::rest,s=>if cj o.op=true then cR Γ.nt o.dst/\o.guard=none/\∃r hp',qy Γ ops o s r hp'/\kb C k s.hp hp'/\nV Γ ops C M K (k+1) rest (AS.put { s with hp:=hp' } o.dst r)
  else ∃x,jH Γ ops o s x (pL M k o.op)/\nV Γ ops C M K (k+1) rest (s.put o.dst x)
theorem nV.any {C M:List (Option (List Nat))} {Q:AS G->Prop} {l0:List Oper} (hd:vZ C M l0=true):∀(l:List Oper) (k:Nat) (listed:Array Bool) (s:AS G),(∀(j:Nat),l[j]?=l0[k+j]?)->listed.size=l0.length->(∀(j:Nat),j<l0.length->listed.getD j true=decide (j<k))->k+l.length=l0.length->
  nV Γ l0.toArray C M Q k l s->mi Γ l0.toArray C Q l.length listed s:=by
 intro l
 induction l with
 |nil=>
  intro k listed s _ bN ef hk h;refine⟨?_,h⟩;apply amV.2;intro j hj;obtain⟨h1,o,ho,_⟩:=mem_ready.1 hj;have ak:j<l0.length:=by have:=(alY.1 ho).1;simpa using this
  rw[ef j ak] at h1;simp at h1;simp at hk;omega
 |cons o l ih=>
  intro k listed s hl bN ef hk h;have ax:l0[k]?=some o:=by have:=hl 0;simpa using this.symm
  have Dg:l0.toArray[k]?=some o:=by simpa using ax
  have tO:k<l0.length:=(alu.1 ax).1;have dv:=hd;simp only[vZ,alK,amR] at dv;have nR:=dv k tO;rw[ax] at nR;simp only[alB,alK,amR] at nR;obtain⟨JF,vJ⟩:=nR;have Hp:listed.getD k true=false:=by rw[ef k tO];simp
  have j6:∀j,j<l0.length->listed.getD j false=decide (j<k):=by
   intro j hj;have:=ef j hj;simp only[al9,alX (show j<listed.size by omega),amt] at this ⊢;exact this
  have zO:k∈Region.ready .any l0.toArray listed:=by
   refine mem_ready.2 ⟨Hp,o,Dg,fun e he hb=>?_⟩;have:=JF e (by simpa using he);rw[hb] at this;simp at this;rw[j6 e.on (by omega)];simp;exact this
  have cM:oF l0.toArray listed:=by
   intro q oq hq Nr e he hb;have Bq:q<l0.length:=by have:=(alY.1 Nr).1;simpa using this
   rw[j6 q Bq] at hq;have Hq:q<k:=by simpa using hq
   have h2:=dv q Bq;have Hr:l0[q]?=some oq:=by simpa using Nr
   rw[Hr] at h2;simp only[alB,alK] at h2;have h3:=h2.1 e (by simpa using he);rw[hb] at h3;simp at h3;rw[j6 e.on (by omega)];simp;omega
  have mZ:∀(j:Nat),(List.getD (l9 l0 []) j 0).testBit k=true->Reach l0.toArray k j:=by
   intro j hj
   cases hm:(l9 l0 [])[j]? with
   |none=>simp[List.getD,hm] at hj
   |some m=>
    simp only[List.getD,hm,amt] at hj;exact ma (ops:=l0.toArray) l0 [] (fun j=>by simp) (fun j m i hj=>by simp at hj) j m k hm hj
  have mc:∀(j:Nat) oj,l0.toArray[j]?=some oj->j≠k->listed.getD j true=false->Reach l0.toArray k j\/(cj o.op=false/\o.apart l0.toArray oj=true/\(cj oj.op=false\/gV C M k j o.op=true)):=by
   intro j oj iM jL jF;have qm:j<l0.length:=by have:=(alY.1 iM).1;simpa using this
   rw[ef j qm] at jF;have Hs:l0[j]?=some oj:=by simpa using iM
   have h2:=vJ j qm;rw[Hs] at h2;simp only[amo,decide_eq_true_eq,alB,ame] at h2;rcases h2 with(h2|h2)|h2
   ·simp at jF;omega
   ·exact .inl (mZ j h2)
   ·exact .inr ⟨h2.1.1,h2.1.2,h2.2⟩
  have bS:∀s',nV Γ l0.toArray C M Q (k+1) l s'->mi Γ l0.toArray C Q l.length (listed.setIfInBounds k true) s':=by
   intro s' h';refine ih (k+1) _ s' (fun j=>by have:=hl (j+1);simp only[al5] at this;rw[this];congr 1;omega) (by simpa using bN) (fun j hj=>?_) (by simp at hk;omega) h'
   by_cases jL:j=k
   ·subst jL;have:j<listed.size:=by omega
    simp[this]
   ·rw[getD_set_ne true (am5 jL),ef j hj];simp;omega
  simp only[nV] at h;split at h
  ·rename_i he;obtain⟨h1,h2,r,hp',h3,h4,h5⟩:=h;refine mi.gU cM (fun j oj iM jL jF=>?_) zO ?_
   ·rcases mc j oj iM jL jF with h5|h5
    ·exact h5
    ·rw[he] at h5;cases h5.1
   ·unfold qM;rw[Dg];simp only[he,if_true];exact⟨h1,h2,r,hp',h3,h4,bS _ h5⟩
  ·rename_i he;obtain⟨x,h1,h2⟩:=h;exact mi.first (R:=pL M k o.op) (fun _ _ _=>pL.trans) (fun _=>pL.refl) Dg (by simpa using he) l.length listed s cM
    (fun j oj iM jL jF=>(mc j oj iM jL jF).imp id fun h=>⟨h.2.1,h.2.2.imp id fun hm hp hp' hc=>iO hm hc⟩) zO h1 (bS _ h2)
end Go.Proofs.YtdcikhleahfknaaGreatDoor
