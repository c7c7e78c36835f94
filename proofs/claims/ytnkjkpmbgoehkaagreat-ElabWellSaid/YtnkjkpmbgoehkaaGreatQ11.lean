/- Lemmas. -/
import Derived.Test.YtnkjkpmbgoehkaaGreatQ10
namespace Go.Proofs.YtnkjkpmbgoehkaaGreat
open Go
set_option linter.unusedSimpArgs false
set_option linter.unusedVariables false
variable {G:Type} {Γ:Env G} {s s':AS G} {a:Act} {w w':World} {η bf:List Value} {hp hp':List aw} {P:Program} {ops:Array Oper}
def sI (Γ:Env G) (ops:Array Oper) (o:Oper) (s:AS G) (r:AV) (hp':List aw):Prop:=
 ∀ue:Env G,ue.Ok->ue.P=Γ.P->ue.nt=Γ.nt->ue.Dw=Γ.Dw->gL ue o (s.only (o.looksAt ops)) r hp'
theorem sI.run (aE:Γ.Ok) {o:Oper} {r:AV} (h:sI Γ ops o s r hp'):gL Γ o s r hp':=by
 intro a w η hr
 let Ga:Env G:={ P:=Γ.P,w0:=w,F0:=bt Γ w η s.hp,X:=Γ.X,Y:=bb η s.hp,Inv:=Γ.Inv,nt:=Γ.nt,Dw:=Γ.Dw,BF:=η,mU:=s.hp,m0:=Γ.m0,Z:=Γ.Z }
 have cx:=hr.keeps.size;have hlb:∀b,bb η s.hp b->b<w.heap.size:=fun b ⟨q,o,v,g1,g2,g3,g4⟩=>hr.heap.block g1 g2 g3 g4;have Rk:Ga.Ok:=⟨hr.heap.len,fun b hb=>aqX (aE.x b hb) cx,hlb,aE.qv,fun b o hb=>aqX (aE.z b o hb) cx,hr.kN aE,fun b hb h=>h.elim (fun h=>aE.gx b hb (.inl h)) (hr.gx aE hb)⟩;have Rl:∀b o,bt Γ w η s.hp b o->bt Ga w η s.hp b o:=fun b o h=>⟨.inl h,h.2.1,h.2.2.1,h.2.2.2⟩;have abS:∀{BF:List Value} {mU:List aw},Ext w (bt Γ w η s.hp) BF mU w (bt Ga w η s.hp) BF mU:=⟨fun _ _ _ _ h=>h,fun _ _ _ _ h=>h,Rl,fun _ _ h=>h,fun _ _ h=>h,fun _ _ _ h=>h⟩;have Rm:Rel Ga (s.only (o.looksAt ops)) a w η:=
  ⟨hr.nt,fun t=>((hr.only _).tmps t).ext abS,⟨hr.heap.len,fun q o v h1 h2=>(hr.heap.obj q o v h1 h2).ext abS (aqw _) fun _ _ _=>rfl,hr.heap.sep⟩,
   fun q o v b h1 h2 h3 h4=>⟨.inr ⟨q,o,v,h1,h2,h3,h4⟩,(hr.cq q o v b h1 h2 h3 h4).2⟩,cG.refl _ w,hr.inv,hr.marks,abS⟩
 obtain⟨v,w',bf,h1,h2,h3⟩:=h Ga Rk rfl rfl rfl a w η Rm;have BO:∀b o,bt Ga w' bf hp' b o->bt Γ w' bf hp' b o:=by
  intro b o hf;refine⟨?_,hf.2.1,hf.2.2.1,hf.2.2.2⟩;rcases hf.1 with g|g|⟨q,o1,v1,g1,g2,g3,g4⟩
  ·exact g.1
  ·exact .inr (.inl (aqU cx g))
  ·exact .inr (hr.cq q o1 v1 b g1 g2 g3 g4).1
 have hex:∀{oR:List Value} {jC:List aw},Ext w' (bt Ga w' bf hp') oR jC w' (bt Γ w' bf hp') oR jC:=
  ⟨fun _ _ _ _ h=>h,fun _ _ _ _ h=>h,BO,fun _ _ h=>h,fun _ _ h=>h,fun _ _ _ h=>h⟩
 have Jz:Ext w (bt Γ w η s.hp) η s.hp w' (bt Γ w' bf hp') bf hp':=Ext.trans h2.ext hex;refine⟨v,w',bf,h1,?_,h3.ext hex⟩;refine⟨hr.nt,fun t=>(hr.tmps t).ext Jz,⟨h2.heap.len,fun q o v g1 g2=>(h2.heap.obj q o v g1 g2).ext hex (aqw _) fun _ _ _=>rfl,h2.heap.sep⟩,fun q o v b g1 g2 g3 g4=>?_,?_,h2.inv,h2.marks,hr.ext.trans Jz⟩
 ·have:=h2.cq q o v b g1 g2 g3 g4;refine⟨?_,this.2⟩;rcases this.1 with g|⟨q,o1,v1,g1,g2,g3,g4⟩
  ·exact .inl (aqU cx g)
  ·exact(hr.cq q o1 v1 b g1 g2 g3 g4).1
 ·refine hr.keeps.trans h2.keeps fun b hb hl=>?_;rcases hl with hl|⟨q,o1,v1,g1,g2,g3,g4⟩
  ·exact .inl hl
  ·rcases (hr.cq q o1 v1 b g1 g2 g3 g4).1 with h|h
   ·omega
   ·exact .inr h
def nZ (K:List Nat) (hp hp':List aw):Prop:=hp.length<=hp'.length/\∀(q:Nat) (o:aw),q∉K->hp[q]?=some o->hp'[q]?=some o
theorem nZ.refl {K:List Nat}:nZ K hp hp:=⟨aqw _,fun _ _ _ h=>h⟩
theorem nZ.trans {K:List Nat} {jC BI hp3:List aw} (h:nZ K jC BI) (h':nZ K BI hp3):nZ K jC hp3:=⟨aqU h.1 h'.1,fun q o hq ho=>h'.2 q o hq (h.2 q o hq ho)⟩
theorem nZ.mono {K K':List Nat} (h:nZ K hp hp') (hk:∀q∈K,q∈K'):nZ K' hp hp':=⟨h.1,fun q o hq ho=>h.2 q o (fun h=>hq (hk q h)) ho⟩
def mc (C:List (Option (List Nat))) (j:Nat) (hp hp':List aw):Prop:=
 match C.getD j none with
 |none=>True
 |some l=>nZ l hp hp'
def ic:Op->Bool
 | .move _ | .assign _ | .nilCheck _ | .pick .. | .binOp .. | .unOp .. | .extract .. | .build .. | .field .. | .makeFunc .. | .fieldAddr .. | .convert ..=>true
 |_=>false
def rW (M:List (Option (List Nat))) (k:Nat) (op:Op) (hp hp':List aw):Prop:=
 if ic op=true then True else match M.getD k none with
 |none=>hp'=hp
 |some K=>nZ K hp hp'
theorem rW.trans {M:List (Option (List Nat))} {k:Nat} {op:Op} {jC BI hp3:List aw} (h:rW M k op jC BI) (h':rW M k op BI hp3):rW M k op jC hp3:=by
 unfold rW at *;split
 ·trivial
 ·rename_i hh;rw[if_neg hh] at h h'
  split<;>rename_i hm<;>rw[hm] at h h'
  ·exact h'.trans h
  ·exact h.trans h'
theorem rW.refl {M:List (Option (List Nat))} {k:Nat} {op:Op}:rW M k op hp hp:=by
 unfold rW;split
 ·trivial
 ·split
  ·rfl
  ·exact nZ.refl
def lh (Γ:Env G) (ops:Array Oper) (o:Oper) (s:AS G) (x:AV) (R:List aw->List aw->Prop):Prop:=
 dC Γ.nt o.dst/\((aV ops s o=some true/\∀s':AS G,(∀t,t∈o.looksAt ops->s'.tmps t=s.tmps t)->R s.hp s'.hp->nu Γ o (s'.only (o.looksAt ops)) x)\/(aV ops s o=some false/\x=.ax (.tuple #[])))
theorem lh.Rp (aE:Γ.Ok) {o:Oper} {x:AV} {R:List aw->List aw->Prop} (hR:R s.hp s.hp) (h:lh Γ ops o s x R):Yields Γ ops o s x:=
 ⟨h.1,h.2.imp (fun g=>⟨g.1,g.2 s (fun _ _=>rfl) hR Γ aE rfl rfl rfl⟩) id⟩
def sX (Γ:Env G) (ops:Array Oper) (C:List (Option (List Nat))) (i:Nat) (K:AS G->Prop) (s:AS G):Prop:=
 match ops[i]? with
 |none=>K s
 |some o=>if cI o.op=true then dC Γ.nt o.dst/\o.guard=none/\∃r hp',sI Γ ops o s r hp'/\mc C i s.hp hp'/\K (AS.put { s with hp:=hp' } o.dst r)
  else ∃x,lh Γ ops o s x (fun hp hp'=>hp'=hp)/\K (s.put o.dst x)
def oa (Γ:Env G) (ops:Array Oper) (C:List (Option (List Nat))) (Q:AS G->Prop):Nat->Array Bool->AS G->Prop
 |0,listed,s=>Region.ready .any ops listed=[]/\Q s
 |fuel+1,listed,s=>(Region.ready .any ops listed=[]->Q s)/\∀i∈Region.ready .any ops listed,sX Γ ops C i (oa Γ ops C Q fuel (listed.setIfInBounds i true)) s
theorem oa.any (aE:Γ.Ok) {C:List (Option (List Nat))} {Q:AS G->Prop}:∀(fuel:Nat) (listed:Array Bool) (s:AS G),oa Γ ops C Q fuel listed s->sw Γ ops Q fuel listed s:=by
 intro fuel
 induction fuel with
 |zero=>intro listed s h;exact h
 |succ fuel ih=>
  intro listed s h;refine⟨h.1,fun i hi=>?_⟩;have h1:=h.2 i hi;unfold sX at h1;unfold sH;split at h1
  ·rename_i ho;rw[ho];exact ih _ _ h1
  ·rename_i o ho;rw[ho];simp only;split at h1
   ·rename_i he;rw[if_pos he];obtain⟨g1,g2,r,hp',g3,_,g4⟩:=h1;exact⟨g1,g2,r,hp',g3.run aE,ih _ _ g4⟩
   ·rename_i he;rw[if_neg he];obtain⟨x,g1,g2⟩:=h1;exact⟨x,lh.Rp (R:=fun hp hp'=>hp'=hp) aE rfl g1,ih _ _ g2⟩
theorem lh.put {o:Oper} {x y:AV} {d:Option Nat} {R:List aw->List aw->Prop} (h:∀t,d=some t->t∉o.looksAt ops) (hy:lh Γ ops o s y R):lh Γ ops o (s.put d x) y R:=by
 have DQ:(s.put d x).hp=s.hp:=by cases d<;>rfl
 have htm:∀t,t∈o.looksAt ops->(s.put d x).tmps t=s.tmps t:=by
  intro t ht
  cases d with
  |none=>rfl
  |some d=>
   show Bz s.tmps d x t=_;rw[gV,if_neg];intro e;subst e;exact h t rfl ht
 refine⟨hy.1,?_⟩;rw[ja h];refine hy.2.imp (fun g=>⟨g.1,fun s' h1 h2=>g.2 s' (fun t ht=>?_) (by rw[DQ] at h2;exact h2)⟩) id;rw[h1 t ht,htm t ht]
theorem lh.qI {o:Oper} {x y:AV} {d:Option Nat} {R:List aw->List aw->Prop} (h:∀t,d=some t->t∉o.looksAt ops) (hy:lh Γ ops o (s.put d x) y R):lh Γ ops o s y R:=by
 have DQ:(s.put d x).hp=s.hp:=by cases d<;>rfl
 have htm:∀t,t∈o.looksAt ops->(s.put d x).tmps t=s.tmps t:=by
  intro t ht
  cases d with
  |none=>rfl
  |some d=>
   show Bz s.tmps d x t=_;rw[gV,if_neg];intro e;subst e;exact h t rfl ht
 refine⟨hy.1,?_⟩;have h2:=hy.2;rw[ja h] at h2;refine h2.imp (fun g=>⟨g.1,fun s' h1 h3=>g.2 s' (fun t ht=>?_) (by rw[DQ];exact h3)⟩) id;rw[h1 t ht,htm t ht]
theorem lh.heap {o:Oper} {y:AV} {R:List aw->List aw->Prop} (htr:∀jC BI hp3,R jC BI->R BI hp3->R jC hp3) (h:R s.hp hp') (hy:lh Γ ops o s y R):lh Γ ops o { s with hp:=hp' } y R:=by
 refine⟨hy.1,?_⟩;have:aV ops { s with hp:=hp' } o=aV ops s o:=rfl;rw[this];exact hy.2.imp (fun g=>⟨g.1,fun s' h1 h2=>g.2 s' h1 (htr _ _ _ h h2)⟩) id
theorem sI.qI {o:Oper} {x r:AV} {d:Option Nat} (h:∀t,d=some t->t∉o.looksAt ops) (hy:sI Γ ops o (s.put d x) r hp'):sI Γ ops o s r hp':=by
 unfold sI at *;rw[ze h] at hy;exact hy
theorem oa.first {C:List (Option (List Nat))} {Q:AS G->Prop} {i:Nat} {oi:Oper} {x:AV} {R:List aw->List aw->Prop} (htr:∀jC BI hp3,R jC BI->R BI hp3->R jC hp3) (hrf:∀hp,R hp hp) (hi:ops[i]?=some oi) (cg:cI oi.op=false):
  ∀(fuel:Nat) (listed:Array Bool) (s:AS G),qH ops listed->
  (∀(j:Nat) oj,ops[j]?=some oj->j≠i->listed.getD j true=false->Reach ops i j\/(oi.apart ops oj=true/\(cI oj.op=false\/∀hp hp',mc C j hp hp'->R hp hp')))->
  i∈Region.ready .any ops listed->lh Γ ops oi s x R->oa Γ ops C Q fuel (listed.setIfInBounds i true) (s.put oi.dst x)->oa Γ ops C Q (fuel+1) listed s:=by
 have own:∀{K:AS G->Prop} {s:AS G},lh Γ ops oi s x R->K (s.put oi.dst x)->sX Γ ops C i K s:=by
  intro K s hy hK;unfold sX;rw[hi];simp only[cg,aqH,if_false];exact⟨x,⟨hy.1,hy.2.imp (fun g=>⟨g.1,fun s' h1 h2=>g.2 s' h1 (by rw[h2];exact hrf _)⟩) id⟩,hK⟩
 intro fuel
 induction fuel with
 |zero=>
  intro listed s _ _ hr hy H;refine⟨fun h=>(by rw[h] at hr;cases hr),fun j hj=>?_⟩
  by_cases iT:j=i
  ·subst iT;exact own hy H
  ·have:=ready_mono hj iT;rw[H.1] at this;cases this
 |succ fuel ih=>
  intro listed s dn dD hr hy H;refine⟨fun h=>(by rw[h] at hr;cases hr),fun j hj=>?_⟩
  by_cases iT:j=i
  ·subst iT;exact own hy H
  ·have h1:=H.2 j (ready_mono hj iT);obtain⟨pb,oj,kg,DO⟩:=mem_ready.1 hj;rcases dD j oj kg iT pb with h2|⟨Q8,nT⟩
   ·exact(iI dn hr hj h2).elim
   obtain⟨p1,p2,p3⟩:=Oper.apart_spec Q8;have cB:∀k ok,ops[k]?=some ok->k≠i->(listed.setIfInBounds j true).getD k true=false->Reach ops i k\/(oi.apart ops ok=true/\(cI ok.op=false\/∀hp hp',mc C k hp hp'->R hp hp')):=by
    intro k ok hk W3 jA;refine dD k ok hk W3 ?_
    by_cases lI:j=k
    ·subst lI;exact pb
    ·rw[getD_set_ne true lI] at jA;exact jA
   unfold sX at h1 ⊢;rw[kg] at h1 ⊢;simp only at h1 ⊢;split at h1
   ·rename_i L2;rw[if_pos L2];obtain⟨g1,g2,r,hp',g3,g4,g5⟩:=h1;have DQ:(s.put oi.dst x).hp=s.hp:=by cases oi.dst<;>rfl
    rw[DQ] at g4;have hR:=(nT.resolve_left (by rw[L2];simp)) _ _ g4;refine⟨g1,g2,r,hp',g3.qI p1,g4,ih (listed.setIfInBounds j true) _ (cN dn hj) cB (ready_mono hr (ar1 iT)) ((hy.heap htr hR).put p3) ?_⟩;rw[arE _ _ iT];have e:(AS.put { s with hp:=hp' } oj.dst r).put oi.dst x=AS.put { s.put oi.dst x with hp:=hp' } oj.dst r:=by
     rw[<-put_comm p2]
     congr 1
     cases oi.dst<;>rfl
    rw[e];exact g5
   ·rename_i L2;rw[if_neg L2];obtain⟨y,hyj,hK⟩:=h1;refine⟨y,hyj.qI p1,ih (listed.setIfInBounds j true) (s.put oj.dst y) (cN dn hj) cB (ready_mono hr (ar1 iT)) (hy.put p3) ?_⟩;rw[arE _ _ iT,<-put_comm p2];exact hK
theorem oa.jb {C:List (Option (List Nat))} {Q:AS G->Prop} {i:Nat} {fuel:Nat} {listed:Array Bool} (dn:qH ops listed) (dD:∀(j:Nat) oj,ops[j]?=some oj->j≠i->listed.getD j true=false->Reach ops i j)
  (hr:i∈Region.ready .any ops listed) (H:sX Γ ops C i (oa Γ ops C Q fuel (listed.setIfInBounds i true)) s):oa Γ ops C Q (fuel+1) listed s:=by
 refine⟨fun h=>(by rw[h] at hr;cases hr),fun j hj=>?_⟩
 by_cases iT:j=i
 ·subst iT;exact H
 ·obtain⟨pb,oj,kg,_⟩:=mem_ready.1 hj;exact(iI dn hr hj (dD j oj kg iT pb)).elim
def Rq (l k:List Nat):Bool:=l.all fun q=>k.contains q
def jc (C M:List (Option (List Nat))) (k j:Nat) (op:Op):Bool:=
 ic op||(match C.getD j none,M.getD k none with
  |some l,some K=>Rq l K
  |_,_=>false)
theorem ki {C M:List (Option (List Nat))} {k j:Nat} {op:Op} (h:jc C M k j op=true) (hc:mc C j hp hp'):rW M k op hp hp':=by
 unfold jc at h;unfold rW;split
 ·trivial
 ·rename_i hh;rw[arh] at h;rcases h with h|h
  ·exact(hh h).elim
  ·split at h
   ·rename_i l K hl hk;unfold mc at hc;rw[hl] at hc;rw[hk];refine hc.mono fun q hq=>?_;simp only[Rq,aqF] at h;simpa using h q hq
   ·cases h
def yk (C M:List (Option (List Nat))) (l:List Oper):Bool:=
 let m:=nV l []
 (List.range l.length).all fun k=>match l[k]? with
  |none=>false
  |some ok=>ok.after.toList.all (fun e=>!Region.binds .any e||decide (e.on<k)) &&
    (List.range l.length).all fun j=>decide (j<=k)||(m.getD j 0).testBit k||match l[j]? with
     |none=>true
     |some oj=>!cI ok.op&&ok.apart l.toArray oj&&(!cI oj.op||jc C M k j ok.op)
def qe (Γ:Env G) (ops:Array Oper) (C M:List (Option (List Nat))) (K:AS G->Prop):Nat->List Oper->AS G->Prop
 |_,[],s=>K s
 |k,o::rest,s=>if cI o.op=true then dC Γ.nt o.dst/\o.guard=none/\∃r hp',sI Γ ops o s r hp'/\mc C k s.hp hp'/\qe Γ ops C M K (k+1) rest (AS.put { s with hp:=hp' } o.dst r)
  else ∃x,lh Γ ops o s x (rW M k o.op)/\qe Γ ops C M K (k+1) rest (s.put o.dst x)
theorem qe.any {C M:List (Option (List Nat))} {Q:AS G->Prop} {l0:List Oper} (hd:yk C M l0=true):∀(l:List Oper) (k:Nat) (listed:Array Bool) (s:AS G),(∀(j:Nat),l[j]?=l0[k+j]?)->listed.size=l0.length->(∀(j:Nat),j<l0.length->listed.getD j true=decide (j<k))->k+l.length=l0.length->
  qe Γ l0.toArray C M Q k l s->oa Γ l0.toArray C Q l.length listed s:=by
 intro l
 induction l with
 |nil=>
  intro k listed s _ cx fk hk h;refine⟨?_,h⟩;apply arP.2;intro j hj;obtain⟨h1,o,ho,_⟩:=mem_ready.1 hj;have aH:j<l0.length:=by have:=(aqO.1 ho).1;simpa using this
  rw[fk j aH] at h1;simp at h1;simp at hk;omega
 |cons o l ih=>
  intro k listed s hl cx fk hk h;have aE:l0[k]?=some o:=by have:=hl 0;simpa using this.symm
  have FZ:l0.toArray[k]?=some o:=by simpa using aE
  have Q9:k<l0.length:=(aqr.1 aE).1;have ef:=hd;simp only[yk,aqF,arS] at ef;have mN:=ef k Q9;rw[aE] at mN;simp only[aqv,aqF,arS] at mN;obtain⟨QI,OV⟩:=mN;have J1:listed.getD k true=false:=by rw[fk k Q9];simp
  have lZ:∀j,j<l0.length->listed.getD j false=decide (j<k):=by
   intro j hj;have:=fk j hj;simp only[aq3,arf (show j<listed.size by omega),aq9] at this ⊢;exact this
  have Cr:k∈Region.ready .any l0.toArray listed:=by
   refine mem_ready.2 ⟨J1,o,FZ,fun e he hb=>?_⟩;have:=QI e (by simpa using he);rw[hb] at this;simp at this;rw[lZ e.on (by omega)];simp;exact this
  have dn:qH l0.toArray listed:=by
   intro q oq hq Ra e he hb;have L4:q<l0.length:=by have:=(aqO.1 Ra).1;simpa using this
   rw[lZ q L4] at hq;have Rb:q<k:=by simpa using hq
   have h2:=ef q L4;have J2:l0[q]?=some oq:=by simpa using Ra
   rw[J2] at h2;simp only[aqv,aqF] at h2;have h3:=h2.1 e (by simpa using he);rw[hb] at h3;simp at h3;rw[lZ e.on (by omega)];simp;omega
  have pc:∀(j:Nat),(List.getD (nV l0 []) j 0).testBit k=true->Reach l0.toArray k j:=by
   intro j hj
   cases hm:(nV l0 [])[j]? with
   |none=>simp[List.getD,hm] at hj
   |some m=>
    simp only[List.getD,hm,aq9] at hj;exact nW (ops:=l0.toArray) l0 [] (fun j=>by simp) (fun j m i hj=>by simp at hj) j m k hm hj
  have nX:∀(j:Nat) oj,l0.toArray[j]?=some oj->j≠k->listed.getD j true=false->Reach l0.toArray k j\/(cI o.op=false/\o.apart l0.toArray oj=true/\(cI oj.op=false\/jc C M k j o.op=true)):=by
   intro j oj kg lI jA;have za:j<l0.length:=by have:=(aqO.1 kg).1;simpa using this
   rw[fk j za] at jA;have J3:l0[j]?=some oj:=by simpa using kg
   have h2:=OV j za;rw[J3] at h2;simp only[arh,decide_eq_true_eq,aqv,arc] at h2;rcases h2 with(h2|h2)|h2
   ·simp at jA;omega
   ·exact .inl (pc j h2)
   ·exact .inr ⟨h2.1.1,h2.1.2,h2.2⟩
  have cB:∀s',qe Γ l0.toArray C M Q (k+1) l s'->oa Γ l0.toArray C Q l.length (listed.setIfInBounds k true) s':=by
   intro s' h';refine ih (k+1) _ s' (fun j=>by have:=hl (j+1);simp only[aq2] at this;rw[this];congr 1;omega) (by simpa using cx) (fun j hj=>?_) (by simp at hk;omega) h'
   by_cases lI:j=k
   ·subst lI;have:j<listed.size:=by omega
    simp[this]
   ·rw[getD_set_ne true (ar1 lI),fk j hj];simp;omega
  simp only[qe] at h;split at h
  ·rename_i he;obtain⟨h1,h2,r,hp',h3,h4,h5⟩:=h;refine oa.jb dn (fun j oj kg lI jA=>?_) Cr ?_
   ·rcases nX j oj kg lI jA with h5|h5
    ·exact h5
    ·rw[he] at h5;cases h5.1
   ·unfold sX;rw[FZ];simp only[he,if_true];exact⟨h1,h2,r,hp',h3,h4,cB _ h5⟩
  ·rename_i he;obtain⟨x,h1,h2⟩:=h;exact oa.first (R:=rW M k o.op) (fun _ _ _=>rW.trans) (fun _=>rW.refl) FZ (by simpa using he) l.length listed s dn
    (fun j oj kg lI jA=>(nX j oj kg lI jA).imp id fun h=>⟨h.2.1,h.2.2.imp id fun hm hp hp' hc=>ki hm hc⟩) Cr h1 (cB _ h2)
end Go.Proofs.YtnkjkpmbgoehkaaGreat
