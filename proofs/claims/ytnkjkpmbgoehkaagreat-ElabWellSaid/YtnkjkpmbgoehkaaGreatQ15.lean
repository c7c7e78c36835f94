/- Lemmas. -/
import Derived.Test.YtnkjkpmbgoehkaaGreatQ14
namespace Go.Proofs.YtnkjkpmbgoehkaaGreat
open Go
open _root_.True renaming intro->ai
set_option linter.unusedSimpArgs false
set_option linter.unusedVariables false
variable {P:Program} {w w':World} {F F':Nat->Nat->Prop} {η bf:List Value} {hp hp' more:List aw}
theorem sZ {α:Type} {l m:List α} {r:Nat} (h:r<l.length):(l++m)[r]?=l[r]?:=aqD h
theorem s5 {α:Type} {l m:List α} {r:Nat} (h:l.length<=r):(l++m)[r]?=m[r-l.length]?:=aq5 h
theorem wS {n:Nat}:∀{xs:List AV} {vs:List Value},xs.all (AV.closed n)=true->cu w F η hp xs vs->cu w F (η.take n) (hp.take n) xs vs
 | [],[],_,_=>ai
 |x::xs,v::vs,hc,h=>by
  simp only[arQ,aqv] at hc;exact⟨pf hc.1 h.1,wS hc.2 h.2⟩
 | [],_::_,_,h=>h.elim
 |_::_,[],_,h=>h.elim
theorem aY.mono {f:FuncId} {args:List AV} {R R':AV->List aw->Prop} (h:aY P f args hp R) (hR:∀r h',R r h'->R' r h'):aY P f args hp R':=
 ⟨h.1,fun w F η bE bQ hv=>(h.2 w F η bE bQ hv).mono fun _ _ ⟨v,r,hp',bf,h1,h2,h3⟩=>⟨v,r,hp',bf,h1,hR r hp' h2,h3⟩⟩
theorem Pure.of_nil {f:FuncId} {rest:List AV} {e size:Nat} {R:AV->List aw->Prop} (hs:0<size) (h:aY P f (.own 0 0::rest) [.row e size []] R) (oe:rest.all (AV.closed 0)=true):
  Pure P f (.ax (.slice none 0 0)::rest) (fun x=>∃r hp',R r hp'/\x=r.bK hp'):=by
 refine⟨h.1,fun w F bE hF hg hv=>?_⟩
 cases bE with
 |nil=>exact hv.elim
 |cons v bE=>
  have h0:=hv.1.aC;subst h0;have bQ:F6 w F [.slice none 0 0] [.row e size []]:=by
   refine⟨fun b o hb=>⟨hF b o hb,fun r u hr wH=>?_⟩,⟨rfl,fun r o u h1 h2=>?_,fun r r' o o' u u' b cg h1 h2=>?_⟩,fun b ⟨r,o,u,h1,h2,h3,h4⟩=>?_,hg,fun b _ ⟨r,o,u,h1,h2,h3,h4⟩=>?_⟩
   ·cases r with
    |zero=>simp at hr;subst hr;simp[dO] at wH
    |succ r=>simp at hr
   ·cases r with
    |zero=>
     simp at h1 h2;subst h1;subst h2;exact⟨hs,[],⟨by simp,.inl ⟨rfl,.inl rfl⟩⟩,fun i el hi=>by simp at hi⟩
    |succ r=>simp at h1
   ·have q1:r<1:=by have:=(aqr.1 h1).1;simpa using this
    have q2:r' < 1:=by have:=(aqr.1 h2).1;simpa using this
    omega
   ·cases r with
    |zero=>simp at h3;subst h3;simp[dO] at h4
    |succ r=>simp at h1
   ·cases r with
    |zero=>simp at h3;subst h3;simp[dO] at h4
    |succ r=>simp at h1
  have hrl:∀(xs:List AV) (us:List Value),xs.all (AV.closed 0)=true->cu w F [] [] xs us->cu w F [.slice none 0 0] [.row e size []] xs us:=fun xs us _ hx=>
   hx.ext ⟨fun _ _ _ _ h=>h,fun _ _ _ _ h=>h,fun _ _ h=>h,fun _ _ h=>by simp at h,fun _ _ h=>by simp at h,fun _ _ _ h=>by simp[bl] at h⟩
  have hv1:cu w F [.slice none 0 0] [.row e size []] (.own 0 0::rest) (.slice none 0 0::bE):=
   ⟨.own 0 0 _ rfl (by unfold bl;exact⟨aqw _,fun _=>rfl⟩),hrl rest bE oe hv.2⟩
  refine(h.2 w F _ _ bQ hv1).mono fun en w' ⟨u,r,hp',bf,he,hR,bD⟩=>?_;refine⟨u,_,he,⟨r,hp',hR,rfl⟩,bD.keeps.same fun b _ ⟨q,o,z,g1,g2,g3,g4⟩=>?_,?_⟩
  ·cases q with
   |zero=>simp at g3;subst g3;simp[dO] at g4
   |succ q=>simp at g1
  ·let Γ:Env Unit:={ P:=P,w0:=w,F0:=F,X:=fun _=>False,Y:=bb [.slice none 0 0] [.row e size []],Inv:=fun _ _=>True,nt:=0,Dw:=none,m0:=fun r=>w.heap.size<=r,Z:=fun _ _=>False,BF:=[.slice none 0 0],mU:=[.row e size []] }
   have BO:∀b o,gj F w [.slice none 0 0] [.row e size []] w' bf hp' b o->bt Γ w' bf hp' b o:=fun b o hb=>⟨hb.1,hb.2.1,fun hx=>hx.elim (fun h=>h) fun h=>h,hb.2.2⟩;have hex:∀{oR:List Value} {jC:List aw},Ext w' (gj F w [.slice none 0 0] [.row e size []] w' bf hp') oR jC w' (bt Γ w' bf hp') oR jC:=
    ⟨fun _ _ _ _ h=>h,fun _ _ _ _ h=>h,BO,fun _ _ h=>h,fun _ _ h=>h,fun _ _ _ h=>h⟩
   have kX:eu w' (bt Γ w' bf hp') bf hp':=⟨bD.heap.len,fun r o v h1 h2=>(bD.heap.obj r o v h1 h2).ext hex (aqw _) fun _ _ _=>rfl,bD.heap.sep⟩;have Gg:xL Γ bf hp':=fun r o v b h1 hl h2 hb=>by
    rcases bD.cq b ⟨r,o,v,h1,hl,h2,hb⟩ with h5|h5
    ·exact⟨.inl h5,fun o hx=>hx.elim (fun h=>h) fun h=>h⟩
    ·exact⟨.inr h5,fun o hx=>hx.elim (fun h=>h) fun h=>h⟩
   refine(gA kX Gg (bD.rep.ext hex)).bI fun b o hf=>?_;rcases hf.1 with h3|h3|⟨q,o1,z,g1,g2,g3,g4⟩
   ·exact .inl h3
   ·exact .inr ⟨h3,hf.2.1⟩
   ·cases q with
    |zero=>simp at g3;subst g3;simp[dO] at g4
    |succ q=>simp at g1
theorem aY.frame {f:FuncId} {args:List AV} {R:AV->List aw->Prop} (h:aY P f args hp R) (hR:∀r h',R r h'->h'.length=hp.length) (aN:args.all (AV.closed hp.length)=true) (dK:hp.all (aw.closed hp.length)=true):
  aY P f args (hp++more) (fun r hp'=>∃h',hp'=h'++more/\R r h'):=by
 refine⟨h.1,fun w F η bE bQ hv=>?_⟩;have hlen:η.length=(hp++more).length:=bQ.heap.len;have hn:hp.length<=η.length:=by rw[hlen];simp
 have fF:η.take hp.length++η.drop hp.length=η:=ars _ _;have QD:(η.take hp.length).length=hp.length:=by simp;omega
 have BQ:∀{r:Nat},r<hp.length->(η.take hp.length)[r]?=η[r]?:=fun hr=>by rw[aqM,if_pos hr]
 have gh:∀{r:Nat},r<hp.length->(hp++more)[r]?=hp[r]?:=fun hr=>sZ hr;have qa:(hp++more).take hp.length=hp:=aso;have Rx:∀b o,lS η (hp++more) b o->lS (η.take hp.length) hp b o:=by
  intro b o hf r v hr hb;have aH:r<hp.length:=by have:=(aqr.1 hr).1;rw[QD] at this;exact this
  have:=hf r v (by rw[<-BQ aH];exact hr) hb
  rwa [gh aH] at this
 have qO:∀b,bb (η.take hp.length) hp b->bb η (hp++more) b:=by
  intro b ⟨r,o,v,h1,h2,h3,h4⟩;have aH:r<hp.length:=(aqr.1 h1).1;exact⟨r,o,v,by rw[gh aH];exact h1,h2,by rw[<-BQ aH];exact h3,h4⟩
 have Ry:F6 w F (η.take hp.length) hp:=by
  refine⟨fun b o hb=>⟨(bQ.bI b o hb).1,Rx b o (bQ.bI b o hb).2⟩,⟨QD,fun r o v h1 h2=>?_,fun r r' o o' v v' b cg h1 h2 l1 l2 e1 e2 hb=>?_⟩,fun b hb=>bQ.live b (qO b hb),bQ.kN,fun b hb hl=>bQ.gx b hb (qO b hl)⟩
  ·have aH:r<hp.length:=(aqr.1 h1).1;have eX:=bQ.heap.obj r o v (by rw[gh aH];exact h1) (by rw[<-BQ aH];exact h2);have hco:aw.closed hp.length o=true:=aqF.1 dK o (aqA h1)
   cases o with
   |dead=>exact ai
   |box cs=>
    obtain⟨b,vs,T,e1,e2,e3,e4⟩:=eX;refine⟨b,vs,T,e1,e2,e3,fun j x u hx hu=>?_⟩;have h5:=e4 j x u hx hu;have hcx:x.aX hp.length=true:=aqF.1 hco x (aqA hx);have h6:=eI (n:=hp.length) hcx h5.1;rw[qa] at h6;exact⟨h6,h5.2⟩
   |row e size els=>exact eX
   |cE es=>exact eX
   |jy q k=>
    obtain⟨b,vs,e1,e2,e3,e4,u,e5,e6⟩:=eX;have h6:=eI (n:=hp.length) (x:=.own q k) (by simpa [AV.aX,aw.closed] using hco) e6;rw[qa] at h6;exact⟨b,vs,e1,e2,e3,e4,u,e5,h6⟩
   |bj e size els=>exact eX
   |fz e m ns=>exact eX
  ·have q1:r<hp.length:=(aqr.1 h1).1;have q2:r' < hp.length:=(aqr.1 h2).1;exact bQ.heap.sep r r' o o' v v' b cg (by rw[gh q1];exact h1) (by rw[gh q2];exact h2) l1 l2 (by rw[<-BQ q1];exact e1) (by rw[<-BQ q2];exact e2) hb
 have hv1:cu w F (η.take hp.length) hp args bE:=by
  have:=wS (n:=hp.length) aN hv
  rwa [qa] at this
 refine(h.2 w F (η.take hp.length) bE Ry hv1).mono fun e w' ⟨v,r,h',oR,he,hRr,bD⟩=>?_;have wK:=hR r h' hRr;have aeg:oR.length=hp.length:=by rw[bD.heap.len];exact wK
 refine⟨v,r,h'++more,oR++η.drop hp.length,he,⟨h',rfl,hRr⟩,?_⟩;have uh:∀{r:Nat},hp.length<=r->(oR++η.drop hp.length)[r]?=η[r]?:=fun {r} hr=>by
  rw[s5 (by omega),arB,aeg];congr 1;omega
 have zo:∀{r:Nat},hp.length<=r->(h'++more)[r]?=(hp++more)[r]?:=fun {r} hr=>by
  rw[s5 (by omega),s5 hr,wK]
 have QL:∀{r:Nat},r<hp.length->(oR++η.drop hp.length)[r]?=oR[r]?:=fun hr=>sZ (by omega);have lt2:∀{r:Nat},r<hp.length->(h'++more)[r]?=h'[r]?:=fun hr=>sZ (by omega);have apart:∀{r:Nat} {o:aw} {u:Value} {b:Nat},hp.length<=r->(hp++more)[r]?=some o->o.live->η[r]?=some u->dO u=some b->b<w.heap.size/\¬bb (η.take hp.length) hp b:=by
  intro r o u b hr h1 h2 h3 h4;refine⟨bQ.live b ⟨r,o,u,h1,h2,h3,h4⟩,fun⟨r1,o1,v1,g1,g2,g3,g4⟩=>?_⟩;have aH:r1<hp.length:=(aqr.1 g1).1;exact bQ.heap.sep r1 r o1 o v1 u b (by omega) (by rw[gh aH];exact g1) h1 g2 h2 (by rw[<-BQ aH];exact g3) h3 g4 h4
 have Gi:∀b o,gj F w (η.take hp.length) hp w' oR h' b o->gj F w η (hp++more) w' (oR++η.drop hp.length) (h'++more) b o:=by
  intro b o ⟨h1,h2,h3⟩;refine⟨h1.imp id (Or.imp id (qO b)),h2,fun r u hr hb=>?_⟩
  by_cases aH:r<hp.length
  ·rw[QL aH] at hr;rw[lt2 aH];exact h3 r u hr hb
  ·have jM:hp.length<=r:=by omega
   rw[uh jM] at hr;rw[zo jM];have rV:r<(hp++more).length:=by rw[<-hlen];exact(aqr.1 hr).1
   have ho:(hp++more)[r]?=some (hp++more)[r]:=by simp[rV]
   have key:(hp++more)[r].live->F b o:=by
    intro hl;have ha:=apart jM ho hl hr hb;rcases h1 with h1|h1|h1
    ·exact h1
    ·omega
    ·exact(ha.2 h1).elim
   rw[ho]
   cases hk:(hp++more)[r] with
   |dead=>exact ai
   |_=>
    rw[hk] at key ho;have:=(bQ.bI b o (key ai)).2 r u hr hb;rw[ho] at this;exact this
 have aaC:Ext w' (gj F w (η.take hp.length) hp w' oR h') oR h' w' (gj F w η (hp++more) w' (oR++η.drop hp.length) (h'++more)) (oR++η.drop hp.length) (h'++more):=by
  refine⟨fun _ _ _ _ h=>h,fun _ _ _ _ h=>h,Gi,fun r a hr=>?_,fun r a hr=>?_,fun r k u ho=>?_⟩
  ·rw[QL (by have:=(aqr.1 hr).1;omega)];exact hr
  ·rw[QL (by have:=(aqr.1 hr).1;omega)];exact hr
  ·unfold bl at ho ⊢
   by_cases aH:r<hp.length
   ·rw[QL aH,lt2 aH];exact ho
   ·rw[aq6 (by omega)] at ho;exact ho.elim
 have gu:Ext w F η (hp++more) w' (gj F w η (hp++more) w' (oR++η.drop hp.length) (h'++more)) (oR++η.drop hp.length) (h'++more):=by
  refine⟨fun b o u hf hc=>bD.ext.cell b o u hf hc,fun b es c hf hc=>bD.ext.kM b es c hf hc,fun b o hf=>Gi b o (bD.ext.bI b o hf),fun r a hr=>?_,fun r a hr=>?_,fun r k u ho=>?_⟩
  ·by_cases aH:r<hp.length
   ·rw[QL aH];exact bD.ext.ptr r a (by rw[BQ aH];exact hr)
   ·rw[uh (by omega)];exact hr
  ·by_cases aH:r<hp.length
   ·rw[QL aH];exact bD.ext.mp r a (by rw[BQ aH];exact hr)
   ·rw[uh (by omega)];exact hr
  ·by_cases aH:r<hp.length
   ·have h1:bl (η.take hp.length) hp r k u:=by
     unfold bl at ho ⊢;rw[BQ aH];rwa [gh aH] at ho
    have:=bD.ext.own r k u h1;unfold bl at this ⊢;rw[QL aH,lt2 aH];exact this
   ·unfold bl at ho ⊢;rw[uh (by omega),zo (by omega)];exact ho
 refine⟨?_,gu,⟨by simp[aeg,wK,hlen],fun r o u h1 h2=>?_,fun r r' o o' v1 v2 b cg h1 h2 l1 l2 e1 e2 hb=>?_⟩,fun b ⟨r,o,u,h1,h2,h3,h4⟩=>?_,bD.rep.ext aaC⟩
 ·exact⟨bD.keeps.os,bD.keeps.tape,bD.keeps.output,bD.keeps.size,fun k hk hx=>bD.keeps.block k hk fun hl=>hx (qO k hl)⟩
 ·by_cases aH:r<hp.length
  ·rw[lt2 aH] at h1;rw[QL aH] at h2;exact(bD.heap.obj r o u h1 h2).ext aaC (aqw _) fun _ _ _=>rfl
  ·have jM:hp.length<=r:=by omega
   rw[zo jM] at h1;rw[uh jM] at h2
   by_cases hl:o.live
   ·exact(bQ.heap.obj r o u h1 h2).ext gu bD.keeps.size fun b hb vQ=>bD.keeps.block b vQ (apart jM h1 hl h2 hb).2
   ·cases o<;>first|exact ai|exact(hl ai).elim
 ·have Gj:∀{r r':Nat} {o o':aw} {v1 v2:Value} {b:Nat},r<hp.length->hp.length<=r'->h'[r]?=some o->(hp++more)[r']?=some o'->o.live->o'.live->oR[r]?=some v1->η[r']?=some v2->dO v1=some b->dO v2=some b->False:=by
   intro r r' o o' v1 v2 b _ gy h1 h2 l1 l2 e1 e2 hb gz;have ha:=apart gy h2 l2 e2 gz;rcases bD.cq b ⟨r,o,v1,h1,l1,e1,hb⟩ with h5|h5
   ·omega
   ·exact ha.2 h5
  by_cases q1:r<hp.length
  ·rw[lt2 q1] at h1;rw[QL q1] at e1
   by_cases q2:r' < hp.length
   ·rw[lt2 q2] at h2;rw[QL q2] at e2;exact bD.heap.sep r r' o o' v1 v2 b cg h1 h2 l1 l2 e1 e2 hb
   ·have XC:hp.length<=r':=by omega
    rw[zo XC] at h2;rw[uh XC] at e2;exact fun gz=>Gj q1 XC h1 h2 l1 l2 e1 e2 hb gz
  ·have q1':hp.length<=r:=by omega
   rw[zo q1'] at h1;rw[uh q1'] at e1
   by_cases q2:r' < hp.length
   ·rw[lt2 q2] at h2;rw[QL q2] at e2;exact fun gz=>Gj q2 q1' h2 h1 l2 l1 e2 e1 gz hb
   ·have XC:hp.length<=r':=by omega
    rw[zo XC] at h2;rw[uh XC] at e2;exact bQ.heap.sep r r' o o' v1 v2 b cg h1 h2 l1 l2 e1 e2 hb
 ·by_cases aH:r<hp.length
  ·rw[lt2 aH] at h1;rw[QL aH] at h3;rcases bD.cq b ⟨r,o,u,h1,h2,h3,h4⟩ with h5|h5
   ·exact .inl h5
   ·exact .inr (qO b h5)
  ·have jM:hp.length<=r:=by omega
   rw[zo jM] at h1;rw[uh jM] at h3;exact .inr ⟨r,o,u,h1,h2,h3,h4⟩
section
variable {G:Type} {Γ:Env G} {s:AS G} {a:Act}
theorem bO.aaD (aE:Γ.Ok) {o:Oper} {c:Call} (ho:o.op=.call c) {f:FuncId} {R:AV->List aw->Prop} {na:List AV} (hP:aY Γ.P f na s.hp R)
  (abT:∀(a:Act) (w:World) (η:List Value),Rel Γ s a w η->∃us:List Value,(execOp a.eval o).run Γ.P w=.ok (.enter f us.toArray) w/\cu w (bt Γ w η s.hp) η s.hp na us)
  (hd:dC Γ.nt o.dst) {K:AS G->Prop} (hK:∀r hp',R r hp'->K (AS.put { s with hp:=hp' } o.dst r)):bO Γ o s K:=by
 intro a w η Kc Qc hk hr;obtain⟨us,abT,iH⟩:=abT a w η hr;refine⟨fun _ _=>trivial,?_⟩;have cg:∀c',o.op ≠ .defer c':=by intro c' h;rw[ho] at h;cases h
 rw[Oper.semAt_eq _ _ _ cg,abT];refine⟨fun h=>(by cases h),?_⟩;have fB:∀b,bb η s.hp b->b<w.heap.size/\(Γ.w0.heap.size<=b\/Γ.Y b)/\∀o,¬Γ.No b o:=fun b ⟨r,o,v,g1,g2,g3,g4⟩=>⟨hr.heap.block g1 g2 g3 g4,hr.cq r o v b g1 g2 g3 g4⟩;have fP:=hP.2 w (bt Γ w η s.hp) η _ ⟨fun b o hf=>⟨hf.2.1,hf.2.2.2⟩,hr.heap,fun b hb=>(fB b hb).1,hr.kN aE,fun b hb hl=>hr.gx aE hb hl⟩ iH;refine CallsIn.mono (F:=Γ.fj) (R:=fun e w'=>∃v r hp' bf,e=.returned v/\R r hp'/\zi w (bt Γ w η s.hp) η s.hp w' bf hp' r v) ?_ fun e w' ⟨u,r,hp',bf,he,hR,bD⟩=>?_
 ·exact fP
 ·subst he;have BO:∀b o,gj (bt Γ w η s.hp) w η s.hp w' bf hp' b o->bt Γ w' bf hp' b o:=by
   intro b o ⟨h1,h2,h3⟩;refine⟨?_,h2,?_,h3⟩
   ·rcases h1 with h1|h1|h1
    ·exact h1.1
    ·exact .inr (.inl (aqU hr.keeps.size h1))
    ·exact .inr (fB b h1).2.1
   ·rcases h1 with h1|h1|h1
    ·exact h1.2.2.1
    ·intro hx;have:=aE.no hx;have:=hr.keeps.size;omega
    ·exact(fB b h1).2.2 _
  have hex:∀{oR:List Value} {jC:List aw},Ext w' (gj (bt Γ w η s.hp) w η s.hp w' bf hp') oR jC w' (bt Γ w' bf hp') oR jC:=
   ⟨fun _ _ _ _ h=>h,fun _ _ _ _ h=>h,BO,fun _ _ h=>h,fun _ _ h=>h,fun _ _ _ h=>h⟩
  have Jz:=bD.ext.trans hex;have hrel:Rel Γ { s with hp:=hp' } a w' bf:=by
   refine⟨hr.nt,fun t=>(hr.tmps t).ext Jz,⟨bD.heap.len,fun r o v h1 h2=>(bD.heap.obj r o v h1 h2).ext hex (aqw _) fun _ _ _=>rfl,bD.heap.sep⟩,fun r o v b h1 h2 h3 h4=>?_,?_,?_,?_,hr.ext.trans Jz⟩
   ·rcases bD.cq b ⟨r,o,v,h1,h2,h3,h4⟩ with h5|h5
    ·exact⟨.inl (aqU hr.keeps.size h5),fun o hx=>by have:=aE.no hx;have:=hr.keeps.size;omega⟩
    ·exact(fB b h5).2
   ·refine hr.keeps.trans bD.keeps fun b hb hl=>?_;rcases (fB b hl).2.1 with h1|h1
    ·omega
    ·exact .inr h1
   ·exact aE.qv _ _ _ (fun b hb=>bD.keeps.block b (aqX (aE.x b hb) hr.keeps.size) fun hl=>(fB b hl).2.2 0 (.inl hb)) bD.keeps.size hr.inv
   ·refine bD.keeps.marks hr.marks fun b hl=>.inr fun d hd=>?_;obtain⟨r,o,v,g1,g2,g3,g4⟩:=hl;have eX:=hr.heap.obj r o v g1 g3
    cases o with
    |dead=>exact g2.elim
    |box cs=>obtain⟨b',vs,T,rfl,q1,_⟩:=eX;simp only[dO,aqq] at g4;subst g4;rw[hd] at q1;cases q1
    |row e size els=>obtain⟨_,xs,q1,_⟩:=eX;obtain⟨cur,q2⟩:=q1.lt g4;rw[hd] at q2;cases q2
    |cE es=>obtain⟨b',en,c,rfl,q1,_⟩:=eX;simp only[dO,aqq] at g4;subst g4;rw[hd] at q1;cases q1
    |jy q k=>obtain⟨b',vs,rfl,q1,_⟩:=eX;simp only[dO,aqq] at g4;subst g4;rw[hd] at q1;cases q1
    |bj e size els=>obtain⟨_,xs,q1,_⟩:=eX;obtain⟨cur,q2⟩:=q1.lt g4;rw[hd] at q2;cases q2
    |fz e m ns=>obtain⟨cur,q2⟩:=gv.lt eX g4;rw[hd] at q2;cases q2
  exact hk _ _ _ _ (hK r hp' hR) (hrel.put (cy hd) (bD.rep.ext hex))
theorem bO.Rz (aE:Γ.Ok) {o:Oper} {c:Call} {x:Operand} (ho:o.op=.call c) (hc:c.callee=.value x) {f:FuncId} {caps:List AV} (hx:s.ev x=.bz f caps) {R:AV->List aw->Prop}
  {na:List AV} (hP:aY Γ.P f na s.hp R) (ph:∀(a:Act) (w:World) (η:List Value) (us:List Value),Rel Γ s a w η->cu w (bt Γ w η s.hp) η s.hp (c.args.toList.map s.ev++caps) us->cu w (bt Γ w η s.hp) η s.hp na us) (hd:dC Γ.nt o.dst) {K:AS G->Prop} (hK:∀r hp',R r hp'->K (AS.put { s with hp:=hp' } o.dst r)):bO Γ o s K:=by
 refine bO.aaD aE ho hP (fun a w η hr=>?_) hd hK;have eP:=hr.ev x;rw[hx] at eP;generalize hv:a.eval x=v at eP
 cases eP with
 |bz _ _ vs hl eR=>
  have aN:(c.args.map a.eval++vs)=(c.args.toList.map a.eval++vs.toList).toArray:=by apply arL;simp
  exact⟨_,by rw[gM ho hc hP.1 hv,aN],ph a w η _ hr (eH _ _ (iA hr c.args.toList) (dL (by simpa using hl) fun j y u hy hu=>eR j y u hy (by simpa using hu)))⟩
theorem bO.aei (aE:Γ.Ok) {o:Oper} {c:Call} {x:Operand} (ho:o.op=.call c) (hc:c.callee=.value x) {f:FuncId} {fst:List AV} (hx:s.ev x=.dm f fst) {R:AV->List aw->Prop}
  {na:List AV} (hP:aY Γ.P f na s.hp R) (ph:∀(a:Act) (w:World) (η:List Value) (us:List Value),Rel Γ s a w η->cu w (bt Γ w η s.hp) η s.hp (fst++c.args.toList.map s.ev) us->cu w (bt Γ w η s.hp) η s.hp na us) (hd:dC Γ.nt o.dst) {K:AS G->Prop} (hK:∀r hp',R r hp'->K (AS.put { s with hp:=hp' } o.dst r)):bO Γ o s K:=by
 refine bO.aaD aE ho hP (fun a w η hr=>?_) hd hK;have eP:=hr.ev x;rw[hx] at eP;generalize hv:a.eval x=v at eP
 cases eP with
 |dm _ _ vs hl eR=>
  have aN:(vs++c.args.map a.eval)=(vs.toList++c.args.toList.map a.eval).toArray:=by apply arL;simp
  refine⟨_,?_,ph a w η _ hr (eH fst vs.toList (dL (by rw[ara];exact hl) fun j y u hy hu=>eR j y u hy (by simpa using hu)) (iA hr c.args.toList))⟩;rw[<-aN];simp[execOp,ho,resolve,hc,hv,Deferred.ofValue,invoke,oZ hP.1]
theorem bO.aej (aE:Γ.Ok) {o:Oper} {c:Call} {x:Operand} (ho:o.op=.call c) (hc:c.callee=.value x) {f:FuncId} {caps:List AV} (hx:s.ev x=.bz f caps) {R:AV->Prop}
  {na:List AV} (hP:Pure Γ.P f na R) (ph:∀(a:Act) (w:World) (η:List Value) (us:List Value),Rel Γ s a w η->cu w (bt Γ w η s.hp) η s.hp (c.args.toList.map s.ev++caps) us->cu w (bt Γ w η s.hp) [] [] na us) (hd:dC Γ.nt o.dst) {K:AS G->Prop} (hK:∀r,R r->K (s.put o.dst r)):bO Γ o s K:=by
 intro a w η Kc Qc hk hr;have eP:=hr.ev x;rw[hx] at eP;generalize hv:a.eval x=v at eP
 cases eP with
 |bz _ _ vs hl eR=>
  refine⟨fun _ _=>trivial,?_⟩;have cg:∀c',o.op ≠ .defer c':=by intro c' h;rw[ho] at h;cases h
  rw[Oper.semAt_eq _ _ _ cg,gM ho hc hP.1 hv];have aN:(c.args.map a.eval++vs)=(c.args.toList.map a.eval++vs.toList).toArray:=by apply arL;simp
  have dK:cu w (bt Γ w η s.hp) η s.hp caps vs.toList:=dL (by simpa using hl) fun j y u hy hu=>eR j y u hy (by simpa using hu);have iH:=ph a w η _ hr (eH _ _ (iA hr c.args.toList) dK);refine⟨fun h=>(by cases h),?_⟩;rw[aN];have fP:=hP.2 w (bt Γ w η s.hp) _ (fun _ _=>fh) (hr.kN aE) iH;refine CallsIn.mono (F:=Γ.fj) ?_ (R:=fun e w'=>∃v r,e=.returned v/\R r/\bV w w'/\bB w' (JX (bt Γ w η s.hp) w w') [] [] r v) fun e w' ⟨u,r,he,hR,hs,hru⟩=>?_
  ·exact fP
  ·subst he;exact hk _ _ _ _ (hK r hR) ((hr.same aE hs).put (cy hd) ((hru.bI fun b o h=>zd aE hr hs h).lift))
def AV.s6 (n:Nat) (hp:List aw) (x:AV):AV:=if x.closed n=true then x else x.bK hp
theorem Gk (hr:Rel Γ s a w η) (n:Nat):∀(xs:List AV) (vs:List Value),cu w (bt Γ w η s.hp) η s.hp xs vs->cu w (bt Γ w η s.hp) η s.hp (xs.map (AV.s6 n s.hp)) vs
 | [],[],_=>ai
 |x::xs,v::vs,h=>⟨by
   unfold AV.s6;split
   ·exact h.1
   ·exact(gA hr.heap hr.cq h.1).lift,Gk hr n xs vs h.2⟩
 | [],_::_,h=>h.elim
 |_::_,[],h=>h.elim
theorem og (hr:Rel Γ s a w η):∀(xs:List AV) (vs:List Value),cu w (bt Γ w η s.hp) η s.hp xs vs->cu w (bt Γ w η s.hp) [] [] (xs.map (AV.s6 0 s.hp)) vs
 | [],[],_=>ai
 |x::xs,v::vs,h=>⟨by
   unfold AV.s6;split
   ·rename_i hc;have:=pf (n:=0) hc h.1;simpa using this
   ·exact gA hr.heap hr.cq h.1,og hr xs vs h.2⟩
 | [],_::_,h=>h.elim
 |_::_,[],h=>h.elim
end
end Go.Proofs.YtnkjkpmbgoehkaaGreat
