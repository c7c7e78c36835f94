/- Texts of ours laid together for a claim: FilW. -/
import Derived.Test.YtnkjkpmbgoehkaaGreatQ10
namespace Go.Proofs.YtnkjkpmbgoehkaaGreat
open Go
set_option linter.unusedSimpArgs false
set_option linter.unusedVariables false
variable {G:Type} {Γ:Env G} {s s':AS G} {a:Act} {w w':World} {η aO:List Value} {hp hp':List ab} {P:Program} {ops:Array Oper}
def qI (Γ:Env G) (ops:Array Oper) (o:Oper) (s:AS G) (r:AV) (hp':List ab):Prop:=
 ∀r6:Env G,r6.Ok->r6.P=Γ.P->r6.nt=Γ.nt->r6.A1=Γ.A1->fS r6 o (s.only (o.looksAt ops)) r hp'
theorem qI.run (al:Γ.Ok) {o:Oper} {r:AV} (h:qI Γ ops o s r hp'):fS Γ o s r hp':=by
 intro a w η hr
 let Dt:Env G:={ P:=Γ.P,w0:=w,F0:=aW Γ w η s.hp,X:=Γ.X,Y:=aI η s.hp,Inv:=Γ.Inv,nt:=Γ.nt,A1:=Γ.A1,zg:=η,lx:=s.hp,m0:=Γ.m0,Z:=Γ.Z }
 have bO:=hr.keeps.size;have hlb:∀b,aI η s.hp b->b<w.heap.size:=fun b ⟨q,o,v,g1,g2,g3,g4⟩=>hr.heap.block g1 g2 g3 g4;have Nx:Dt.Ok:=⟨hr.heap.len,fun b hb=>alJ (al.x b hb) bO,hlb,al.oC,fun b o hb=>alJ (al.z b o hb) bO,hr.ju al,fun b hb h=>h.elim (fun h=>al.gx b hb (.inl h)) (hr.gx al hb)⟩;have Ny:∀b o,aW Γ w η s.hp b o->aW Dt w η s.hp b o:=fun b o h=>⟨.inl h,h.2.1,h.2.2.1,h.2.2.2⟩;have Xn:∀{zg:List Value} {lx:List ab},Ext w (aW Γ w η s.hp) zg lx w (aW Dt w η s.hp) zg lx:=⟨fun _ _ _ _ h=>h,fun _ _ _ _ h=>h,Ny,fun _ _ h=>h,fun _ _ h=>h,fun _ _ _ h=>h⟩;have Nz:Rel Dt (s.only (o.looksAt ops)) a w η:=
  ⟨hr.nt,fun t=>((hr.only _).tmps t).ext Xn,⟨hr.heap.len,fun q o v h1 h2=>(hr.heap.obj q o v h1 h2).ext Xn (alp _) fun _ _ _=>rfl,hr.heap.sep⟩,
   fun q o v b h1 h2 h3 h4=>⟨.inr ⟨q,o,v,h1,h2,h3,h4⟩,(hr.bN q o v b h1 h2 h3 h4).2⟩,bZ.refl _ w,hr.inv,hr.marks,Xn⟩
 obtain⟨v,w',aO,h1,h2,h3⟩:=h Dt Nx rfl rfl rfl a w η Nz;have zp:∀b o,aW Dt w' aO hp' b o->aW Γ w' aO hp' b o:=by
  intro b o hf;refine⟨?_,hf.2.1,hf.2.2.1,hf.2.2.2⟩;rcases hf.1 with g|g|⟨q,o1,v1,g1,g2,g3,g4⟩
  ·exact g.1
  ·exact .inr (.inl (alT bO g))
  ·exact .inr (hr.bN q o1 v1 b g1 g2 g3 g4).1
 have hex:∀{nc:List Value} {iC:List ab},Ext w' (aW Dt w' aO hp') nc iC w' (aW Γ w' aO hp') nc iC:=
  ⟨fun _ _ _ _ h=>h,fun _ _ _ _ h=>h,zp,fun _ _ h=>h,fun _ _ h=>h,fun _ _ _ h=>h⟩
 have GB:Ext w (aW Γ w η s.hp) η s.hp w' (aW Γ w' aO hp') aO hp':=Ext.trans h2.ext hex;refine⟨v,w',aO,h1,?_,h3.ext hex⟩;refine⟨hr.nt,fun t=>(hr.tmps t).ext GB,⟨h2.heap.len,fun q o v g1 g2=>(h2.heap.obj q o v g1 g2).ext hex (alp _) fun _ _ _=>rfl,h2.heap.sep⟩,fun q o v b g1 g2 g3 g4=>?_,?_,h2.inv,h2.marks,hr.ext.trans GB⟩
 ·have:=h2.bN q o v b g1 g2 g3 g4;refine⟨?_,this.2⟩;rcases this.1 with g|⟨q,o1,v1,g1,g2,g3,g4⟩
  ·exact .inl (alT bO g)
  ·exact(hr.bN q o1 v1 b g1 g2 g3 g4).1
 ·refine hr.keeps.trans h2.keeps fun b hb hl=>?_;rcases hl with hl|⟨q,o1,v1,g1,g2,g3,g4⟩
  ·exact .inl hl
  ·rcases (hr.bN q o1 v1 b g1 g2 g3 g4).1 with h|h
   ·omega
   ·exact .inr h
def mD (K:List Nat) (hp hp':List ab):Prop:=hp.length<=hp'.length/\∀(q:Nat) (o:ab),q∉K->hp[q]?=some o->hp'[q]?=some o
theorem mD.refl {K:List Nat}:mD K hp hp:=⟨alp _,fun _ _ _ h=>h⟩
theorem mD.trans {K:List Nat} {iC zj hp3:List ab} (h:mD K iC zj) (h':mD K zj hp3):mD K iC hp3:=⟨alT h.1 h'.1,fun q o hq ho=>h'.2 q o hq (h.2 q o hq ho)⟩
theorem mD.mono {K K':List Nat} (h:mD K hp hp') (hk:∀q∈K,q∈K'):mD K' hp hp':=⟨h.1,fun q o hq ho=>h.2 q o (fun h=>hq (hk q h)) ho⟩
def kJ (C:List (Option (List Nat))) (j:Nat) (hp hp':List ab):Prop:=
 match C.getD j none with
 |none=>True
 |some l=>mD l hp hp'
def gb:Op->Bool
 | .move _ | .assign _ | .nilCheck _ | .pick .. | .binOp .. | .unOp .. | .extract .. | .build .. | .field .. | .makeFunc .. | .fieldAddr .. | .convert ..=>true
 |_=>false
def pY (M:List (Option (List Nat))) (k:Nat) (op:Op) (hp hp':List ab):Prop:=
 if gb op=true then True else match M.getD k none with
 |none=>hp'=hp
 |some K=>mD K hp hp'
theorem pY.trans {M:List (Option (List Nat))} {k:Nat} {op:Op} {iC zj hp3:List ab} (h:pY M k op iC zj) (h':pY M k op zj hp3):pY M k op iC hp3:=by
 unfold pY at *;split
 ·trivial
 ·rename_i hh;rw[if_neg hh] at h h'
  split<;>rename_i hm<;>rw[hm] at h h'
  ·exact h'.trans h
  ·exact h.trans h'
theorem pY.refl {M:List (Option (List Nat))} {k:Nat} {op:Op}:pY M k op hp hp:=by
 unfold pY;split
 ·trivial
 ·split
  ·rfl
  ·exact mD.refl
def jQ (Γ:Env G) (ops:Array Oper) (o:Oper) (s:AS G) (x:AV) (R:List ab->List ab->Prop):Prop:=
 cP Γ.nt o.dst/\((aC ops s o=some true/\∀s':AS G,(∀t,t∈o.looksAt ops->s'.tmps t=s.tmps t)->R s.hp s'.hp->lN Γ o (s'.only (o.looksAt ops)) x)\/(aC ops s o=some false/\x=.ae (.tuple #[])))
theorem jQ.NC (al:Γ.Ok) {o:Oper} {x:AV} {R:List ab->List ab->Prop} (hR:R s.hp s.hp) (h:jQ Γ ops o s x R):Yields Γ ops o s x:=
 ⟨h.1,h.2.imp (fun g=>⟨g.1,g.2 s (fun _ _=>rfl) hR Γ al rfl rfl rfl⟩) id⟩
def qZ (Γ:Env G) (ops:Array Oper) (C:List (Option (List Nat))) (i:Nat) (K:AS G->Prop) (s:AS G):Prop:=
 match ops[i]? with
 |none=>K s
 |some o=>if cf o.op=true then cP Γ.nt o.dst/\o.guard=none/\∃r hp',qI Γ ops o s r hp'/\kJ C i s.hp hp'/\K (AS.put { s with hp:=hp' } o.dst r)
  else ∃x,jQ Γ ops o s x (fun hp hp'=>hp'=hp)/\K (s.put o.dst x)
def mE (Γ:Env G) (ops:Array Oper) (C:List (Option (List Nat))) (Q:AS G->Prop):Nat->Array Bool->AS G->Prop
 |0,listed,s=>Region.ready .any ops listed=[]/\Q s
 |fuel+1,listed,s=>(Region.ready .any ops listed=[]->Q s)/\∀i∈Region.ready .any ops listed,qZ Γ ops C i (mE Γ ops C Q fuel (listed.setIfInBounds i true)) s
theorem mE.any (al:Γ.Ok) {C:List (Option (List Nat))} {Q:AS G->Prop}:∀(fuel:Nat) (listed:Array Bool) (s:AS G),mE Γ ops C Q fuel listed s->qu Γ ops Q fuel listed s:=by
 intro fuel
 induction fuel with
 |zero=>intro listed s h;exact h
 |succ fuel ih=>
  intro listed s h;refine⟨h.1,fun i hi=>?_⟩;have h1:=h.2 i hi;unfold qZ at h1;unfold qH;split at h1
  ·rename_i ho;rw[ho];exact ih _ _ h1
  ·rename_i o ho;rw[ho];simp only;split at h1
   ·rename_i he;rw[if_pos he];obtain⟨g1,g2,r,hp',g3,_,g4⟩:=h1;exact⟨g1,g2,r,hp',g3.run al,ih _ _ g4⟩
   ·rename_i he;rw[if_neg he];obtain⟨x,g1,g2⟩:=h1;exact⟨x,jQ.NC (R:=fun hp hp'=>hp'=hp) al rfl g1,ih _ _ g2⟩
theorem jQ.put {o:Oper} {x y:AV} {d:Option Nat} {R:List ab->List ab->Prop} (h:∀t,d=some t->t∉o.looksAt ops) (hy:jQ Γ ops o s y R):jQ Γ ops o (s.put d x) y R:=by
 have Bj:(s.put d x).hp=s.hp:=by cases d<;>rfl
 have htm:∀t,t∈o.looksAt ops->(s.put d x).tmps t=s.tmps t:=by
  intro t ht
  cases d with
  |none=>rfl
  |some d=>
   show zb s.tmps d x t=_;rw[fX,if_neg];intro e;subst e;exact h t rfl ht
 refine⟨hy.1,?_⟩;rw[gU h];refine hy.2.imp (fun g=>⟨g.1,fun s' h1 h2=>g.2 s' (fun t ht=>?_) (by rw[Bj] at h2;exact h2)⟩) id;rw[h1 t ht,htm t ht]
theorem jQ.oQ {o:Oper} {x y:AV} {d:Option Nat} {R:List ab->List ab->Prop} (h:∀t,d=some t->t∉o.looksAt ops) (hy:jQ Γ ops o (s.put d x) y R):jQ Γ ops o s y R:=by
 have Bj:(s.put d x).hp=s.hp:=by cases d<;>rfl
 have htm:∀t,t∈o.looksAt ops->(s.put d x).tmps t=s.tmps t:=by
  intro t ht
  cases d with
  |none=>rfl
  |some d=>
   show zb s.tmps d x t=_;rw[fX,if_neg];intro e;subst e;exact h t rfl ht
 refine⟨hy.1,?_⟩;have h2:=hy.2;rw[gU h] at h2;refine h2.imp (fun g=>⟨g.1,fun s' h1 h3=>g.2 s' (fun t ht=>?_) (by rw[Bj];exact h3)⟩) id;rw[h1 t ht,htm t ht]
theorem jQ.heap {o:Oper} {y:AV} {R:List ab->List ab->Prop} (YK:∀iC zj hp3,R iC zj->R zj hp3->R iC hp3) (h:R s.hp hp') (hy:jQ Γ ops o s y R):jQ Γ ops o { s with hp:=hp' } y R:=by
 refine⟨hy.1,?_⟩;have:aC ops { s with hp:=hp' } o=aC ops s o:=rfl;rw[this];exact hy.2.imp (fun g=>⟨g.1,fun s' h1 h2=>g.2 s' h1 (YK _ _ _ h h2)⟩) id
theorem qI.oQ {o:Oper} {x r:AV} {d:Option Nat} (h:∀t,d=some t->t∉o.looksAt ops) (hy:qI Γ ops o (s.put d x) r hp'):qI Γ ops o s r hp':=by
 unfold qI at *;rw[wV h] at hy;exact hy
theorem mE.first {C:List (Option (List Nat))} {Q:AS G->Prop} {i:Nat} {oi:Oper} {x:AV} {R:List ab->List ab->Prop} (YK:∀iC zj hp3,R iC zj->R zj hp3->R iC hp3) (Zj:∀hp,R hp hp) (hi:ops[i]?=some oi) (bL:cf oi.op=false):
  ∀(fuel:Nat) (listed:Array Bool) (s:AS G),oP ops listed->
  (∀(j:Nat) oj,ops[j]?=some oj->j≠i->listed.getD j true=false->Reach ops i j\/(oi.apart ops oj=true/\(cf oj.op=false\/∀hp hp',kJ C j hp hp'->R hp hp')))->
  i∈Region.ready .any ops listed->jQ Γ ops oi s x R->mE Γ ops C Q fuel (listed.setIfInBounds i true) (s.put oi.dst x)->mE Γ ops C Q (fuel+1) listed s:=by
 have own:∀{K:AS G->Prop} {s:AS G},jQ Γ ops oi s x R->K (s.put oi.dst x)->qZ Γ ops C i K s:=by
  intro K s hy hK;unfold qZ;rw[hi];simp only[bL,alx,if_false];exact⟨x,⟨hy.1,hy.2.imp (fun g=>⟨g.1,fun s' h1 h2=>g.2 s' h1 (by rw[h2];exact Zj _)⟩) id⟩,hK⟩
 intro fuel
 induction fuel with
 |zero=>
  intro listed s _ _ hr hy H;refine⟨fun h=>(by rw[h] at hr;cases hr),fun j hj=>?_⟩
  by_cases gM:j=i
  ·subst gM;exact own hy H
  ·have:=ready_mono hj gM;rw[H.1] at this;cases this
 |succ fuel ih=>
  intro listed s cC cQ hr hy H;refine⟨fun h=>(by rw[h] at hr;cases hr),fun j hj=>?_⟩
  by_cases gM:j=i
  ·subst gM;exact own hy H
  ·have h1:=H.2 j (ready_mono hj gM);obtain⟨np,oj,iV,G3⟩:=mem_ready.1 hj;rcases cQ j oj iV gM np with h2|⟨Nj,mu⟩
   ·exact(gB cC hr hj h2).elim
   obtain⟨p1,p2,p3⟩:=Oper.apart_spec Nj;have bV:∀k ok,ops[k]?=some ok->k≠i->(listed.setIfInBounds j true).getD k true=false->Reach ops i k\/(oi.apart ops ok=true/\(cf ok.op=false\/∀hp hp',kJ C k hp hp'->R hp hp')):=by
    intro k ok hk SS jE;refine cQ k ok hk SS ?_
    by_cases km:j=k
    ·subst km;exact np
    ·rw[getD_set_ne true km] at jE;exact jE
   unfold qZ at h1 ⊢;rw[iV] at h1 ⊢;simp only at h1 ⊢;split at h1
   ·rename_i I6;rw[if_pos I6];obtain⟨g1,g2,r,hp',g3,g4,g5⟩:=h1;have Bj:(s.put oi.dst x).hp=s.hp:=by cases oi.dst<;>rfl
    rw[Bj] at g4;have hR:=(mu.resolve_left (by rw[I6];simp)) _ _ g4;refine⟨g1,g2,r,hp',g3.oQ p1,g4,ih (listed.setIfInBounds j true) _ (cg cC hj) bV (ready_mono hr (amK gM)) ((hy.heap YK hR).put p3) ?_⟩;rw[amm _ _ gM];have e:(AS.put { s with hp:=hp' } oj.dst r).put oi.dst x=AS.put { s.put oi.dst x with hp:=hp' } oj.dst r:=by
     rw[<-put_comm p2]
     congr 1
     cases oi.dst<;>rfl
    rw[e];exact g5
   ·rename_i I6;rw[if_neg I6];obtain⟨y,Xg,hK⟩:=h1;refine⟨y,Xg.oQ p1,ih (listed.setIfInBounds j true) (s.put oj.dst y) (cg cC hj) bV (ready_mono hr (amK gM)) (hy.put p3) ?_⟩;rw[amm _ _ gM,<-put_comm p2];exact hK
theorem mE.gV {C:List (Option (List Nat))} {Q:AS G->Prop} {i:Nat} {fuel:Nat} {listed:Array Bool} (cC:oP ops listed) (cQ:∀(j:Nat) oj,ops[j]?=some oj->j≠i->listed.getD j true=false->Reach ops i j)
  (hr:i∈Region.ready .any ops listed) (H:qZ Γ ops C i (mE Γ ops C Q fuel (listed.setIfInBounds i true)) s):mE Γ ops C Q (fuel+1) listed s:=by
 refine⟨fun h=>(by rw[h] at hr;cases hr),fun j hj=>?_⟩
 by_cases gM:j=i
 ·subst gM;exact H
 ·obtain⟨np,oj,iV,_⟩:=mem_ready.1 hj;exact(gB cC hr hj (cQ j oj iV gM np)).elim
def ND (l k:List Nat):Bool:=l.all fun q=>k.contains q
def gW (C M:List (Option (List Nat))) (k j:Nat) (op:Op):Bool:=
 gb op||(match C.getD j none,M.getD k none with
  |some l,some K=>ND l K
  |_,_=>false)
theorem iX {C M:List (Option (List Nat))} {k j:Nat} {op:Op} (h:gW C M k j op=true) (hc:kJ C j hp hp'):pY M k op hp hp':=by
 unfold gW at h;unfold pY;split
 ·trivial
 ·rename_i hh;rw[al7] at h;rcases h with h|h
  ·exact(hh h).elim
  ·split at h
   ·rename_i l K hl hk;unfold kJ at hc;rw[hl] at hc;rw[hk];refine hc.mono fun q hq=>?_;simp only[ND,alv] at h;simpa using h q hq
   ·cases h
def vZ (C M:List (Option (List Nat))) (l:List Oper):Bool:=
 let m:=mz l []
 (List.range l.length).all fun k=>match l[k]? with
  |none=>false
  |some ok=>ok.after.toList.all (fun e=>!Region.binds .any e||decide (e.on<k)) &&
    (List.range l.length).all fun j=>decide (j<=k)||(m.getD j 0).testBit k||match l[j]? with
     |none=>true
     |some oj=>!cf ok.op&&ok.apart l.toArray oj&&(!cf oj.op||gW C M k j ok.op)
def om (Γ:Env G) (ops:Array Oper) (C M:List (Option (List Nat))) (K:AS G->Prop):Nat->List Oper->AS G->Prop
 |_,[],s=>K s
 |k,o::rest,s=>if cf o.op=true then cP Γ.nt o.dst/\o.guard=none/\∃r hp',qI Γ ops o s r hp'/\kJ C k s.hp hp'/\om Γ ops C M K (k+1) rest (AS.put { s with hp:=hp' } o.dst r)
  else ∃x,jQ Γ ops o s x (pY M k o.op)/\om Γ ops C M K (k+1) rest (s.put o.dst x)
theorem om.any {C M:List (Option (List Nat))} {Q:AS G->Prop} {l0:List Oper} (hd:vZ C M l0=true):∀(l:List Oper) (k:Nat) (listed:Array Bool) (s:AS G),(∀(j:Nat),l[j]?=l0[k+j]?)->listed.size=l0.length->(∀(j:Nat),j<l0.length->listed.getD j true=decide (j<k))->k+l.length=l0.length->
  om Γ l0.toArray C M Q k l s->mE Γ l0.toArray C Q l.length listed s:=by
 intro l
 induction l with
 |nil=>
  intro k listed s _ bO eC hk h;refine⟨?_,h⟩;apply amB.2;intro j hj;obtain⟨h1,o,ho,_⟩:=mem_ready.1 hj;have aq:j<l0.length:=by have:=(alE.1 ho).1;simpa using this
  rw[eC j aq] at h1;simp at h1;simp at hk;omega
 |cons o l ih=>
  intro k listed s hl bO eC hk h;have al:l0[k]?=some o:=by have:=hl 0;simpa using this.symm
  have Dm:l0.toArray[k]?=some o:=by simpa using al
  have Nk:k<l0.length:=(ali.1 al).1;have dy:=hd;simp only[vZ,alv,amD] at dy;have ma:=dy k Nk;rw[al] at ma;simp only[aln,alv,amD] at ma;obtain⟨MH,KZ⟩:=ma;have G5:listed.getD k true=false:=by rw[eC k Nk];simp
  have kH:∀j,j<l0.length->listed.getD j false=decide (j<k):=by
   intro j hj;have:=eC j hj;simp only[alR,al4 (show j<listed.size by omega),al1] at this ⊢;exact this
  have z7:k∈Region.ready .any l0.toArray listed:=by
   refine mem_ready.2 ⟨G5,o,Dm,fun e he hb=>?_⟩;have:=MH e (by simpa using he);rw[hb] at this;simp at this;rw[kH e.on (by omega)];simp;exact this
  have cC:oP l0.toArray listed:=by
   intro q oq hq Nl e he hb;have I8:q<l0.length:=by have:=(alE.1 Nl).1;simpa using this
   rw[kH q I8] at hq;have Nn:q<k:=by simpa using hq
   have h2:=dy q I8;have G6:l0[q]?=some oq:=by simpa using Nl
   rw[G6] at h2;simp only[aln,alv] at h2;have h3:=h2.1 e (by simpa using he);rw[hb] at h3;simp at h3;rw[kH e.on (by omega)];simp;omega
  have nq:∀(j:Nat),(List.getD (mz l0 []) j 0).testBit k=true->Reach l0.toArray k j:=by
   intro j hj
   cases hm:(mz l0 [])[j]? with
   |none=>simp[List.getD,hm] at hj
   |some m=>
    simp only[List.getD,hm,al1] at hj;exact mA (ops:=l0.toArray) l0 [] (fun j=>by simp) (fun j m i hj=>by simp at hj) j m k hm hj
  have mB:∀(j:Nat) oj,l0.toArray[j]?=some oj->j≠k->listed.getD j true=false->Reach l0.toArray k j\/(cf o.op=false/\o.apart l0.toArray oj=true/\(cf oj.op=false\/gW C M k j o.op=true)):=by
   intro j oj iV km jE;have uG:j<l0.length:=by have:=(alE.1 iV).1;simpa using this
   rw[eC j uG] at jE;have G7:l0[j]?=some oj:=by simpa using iV
   have h2:=KZ j uG;rw[G7] at h2;simp only[al7,decide_eq_true_eq,aln,al0] at h2;rcases h2 with(h2|h2)|h2
   ·simp at jE;omega
   ·exact .inl (nq j h2)
   ·exact .inr ⟨h2.1.1,h2.1.2,h2.2⟩
  have bV:∀s',om Γ l0.toArray C M Q (k+1) l s'->mE Γ l0.toArray C Q l.length (listed.setIfInBounds k true) s':=by
   intro s' h';refine ih (k+1) _ s' (fun j=>by have:=hl (j+1);simp only[alP] at this;rw[this];congr 1;omega) (by simpa using bO) (fun j hj=>?_) (by simp at hk;omega) h'
   by_cases km:j=k
   ·subst km;have:j<listed.size:=by omega
    simp[this]
   ·rw[getD_set_ne true (amK km),eC j hj];simp;omega
  simp only[om] at h;split at h
  ·rename_i he;obtain⟨h1,h2,r,hp',h3,h4,h5⟩:=h;refine mE.gV cC (fun j oj iV km jE=>?_) z7 ?_
   ·rcases mB j oj iV km jE with h5|h5
    ·exact h5
    ·rw[he] at h5;cases h5.1
   ·unfold qZ;rw[Dm];simp only[he,if_true];exact⟨h1,h2,r,hp',h3,h4,bV _ h5⟩
  ·rename_i he;obtain⟨x,h1,h2⟩:=h;exact mE.first (R:=pY M k o.op) (fun _ _ _=>pY.trans) (fun _=>pY.refl) Dm (by simpa using he) l.length listed s cC
    (fun j oj iV km jE=>(mB j oj iV km jE).imp id fun h=>⟨h.2.1,h.2.2.imp id fun hm hp hp' hc=>iX hm hc⟩) z7 h1 (bV _ h2)
end Go.Proofs.YtnkjkpmbgoehkaaGreat
