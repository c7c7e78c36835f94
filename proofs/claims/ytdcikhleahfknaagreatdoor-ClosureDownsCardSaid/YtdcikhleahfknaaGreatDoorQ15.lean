/- Texts of ours laid together for a claim: VcF. -/
import Derived.Test.YtdcikhleahfknaaGreatDoorQ14
namespace Go.Proofs.YtdcikhleahfknaaGreatDoor
open Go
set_option linter.unusedSimpArgs false
set_option linter.unusedVariables false
variable {P:Program} {w w':World} {F F':Nat->Nat->Prop} {η aN:List Value} {hp hp' more:List af}
theorem qO {α:Type} {l m:List α} {r:Nat} (h:r<l.length):(l++m)[r]?=l[r]?:=alH h
theorem qP {α:Type} {l m:List α} {r:Nat} (h:l.length<=r):(l++m)[r]?=m[r-l.length]?:=amb h
theorem uJ {n:Nat}:∀{xs:List AV} {vs:List Value},xs.all (AV.closed n)=true->bZ w F η hp xs vs->bZ w F (η.take n) (hp.take n) xs vs
 | [],[],_,_=>True.intro
 |x::xs,v::vs,hc,h=>by
  simp only[amj,alB] at hc;exact⟨nb hc.1 h.1,uJ hc.2 h.2⟩
 | [],_::_,_,h=>h.elim
 |_::_,[],_,h=>h.elim
theorem bH.mono {f:FuncId} {args:List AV} {R R':AV->List af->Prop} (h:bH P f args hp R) (hR:∀r h',R r h'->R' r h'):bH P f args hp R':=
 ⟨h.1,fun w F η bb aR hv=>(h.2 w F η bb aR hv).mono fun _ _ ⟨v,r,hp',aN,h1,h2,h3⟩=>⟨v,r,hp',aN,h1,hR r hp' h2,h3⟩⟩
theorem Pure.of_nil {f:FuncId} {rest:List AV} {e size:Nat} {R:AV->List af->Prop} (hs:0<size) (h:bH P f (.own 0 0::rest) [.row e size []] R) (mn:rest.all (AV.closed 0)=true):
  Pure P f (.ae (.slice none 0 0)::rest) (fun x=>∃r hp',R r hp'/\x=r.bB hp'):=by
 refine⟨h.1,fun w F bb hF hg hv=>?_⟩
 cases bb with
 |nil=>exact hv.elim
 |cons v bb=>
  have h0:=hv.1.ay;subst h0;have aR:kE w F [.slice none 0 0] [.row e size []]:=by
   refine⟨fun b o hb=>⟨hF b o hb,fun r u hr pG=>?_⟩,⟨rfl,fun r o u h1 h2=>?_,fun r r' o o' u u' b bu h1 h2=>?_⟩,fun b ⟨r,o,u,h1,h2,h3,h4⟩=>?_,hg,fun b _ ⟨r,o,u,h1,h2,h3,h4⟩=>?_⟩
   ·cases r with
    |zero=>simp at hr;subst hr;simp[ct] at pG
    |succ r=>simp at hr
   ·cases r with
    |zero=>
     simp at h1 h2;subst h1;subst h2;exact⟨hs,[],⟨by simp,.inl ⟨rfl,.inl rfl⟩⟩,fun i el hi=>by simp at hi⟩
    |succ r=>simp at h1
   ·have q1:r<1:=by have:=(alu.1 h1).1;simpa using this
    have q2:r' < 1:=by have:=(alu.1 h2).1;simpa using this
    omega
   ·cases r with
    |zero=>simp at h3;subst h3;simp[ct] at h4
    |succ r=>simp at h1
   ·cases r with
    |zero=>simp at h3;subst h3;simp[ct] at h4
    |succ r=>simp at h1
  have hrl:∀(xs:List AV) (us:List Value),xs.all (AV.closed 0)=true->bZ w F [] [] xs us->bZ w F [.slice none 0 0] [.row e size []] xs us:=fun xs us _ hx=>
   hx.ext ⟨fun _ _ _ _ h=>h,fun _ _ _ _ h=>h,fun _ _ h=>h,fun _ _ h=>by simp at h,fun _ _ h=>by simp at h,fun _ _ _ h=>by simp[aT] at h⟩
  have hv1:bZ w F [.slice none 0 0] [.row e size []] (.own 0 0::rest) (.slice none 0 0::bb):=
   ⟨.own 0 0 _ rfl (by unfold aT;exact⟨alA _,fun _=>rfl⟩),hrl rest bb mn hv.2⟩
  refine(h.2 w F _ _ aR hv1).mono fun en w' ⟨u,r,hp',aN,he,hR,bf⟩=>?_;refine⟨u,_,he,⟨r,hp',hR,rfl⟩,bf.keeps.same fun b _ ⟨q,o,z,g1,g2,g3,g4⟩=>?_,?_⟩
  ·cases q with
   |zero=>simp at g3;subst g3;simp[ct] at g4
   |succ q=>simp at g1
  ·let Γ:Env Unit:={ P:=P,w0:=w,F0:=F,X:=fun _=>False,Y:=aG [.slice none 0 0] [.row e size []],Inv:=fun _ _=>True,nt:=0,zH:=none,m0:=fun r=>w.heap.size<=r,Z:=fun _ _=>False,yY:=[.slice none 0 0],jR:=[.row e size []] }
   have zb:∀b o,bO F w [.slice none 0 0] [.row e size []] w' aN hp' b o->bk Γ w' aN hp' b o:=fun b o hb=>⟨hb.1,hb.2.1,fun hx=>hx.elim (fun h=>h) fun h=>h,hb.2.2⟩;have hex:∀{jP:List Value} {fG:List af},Ext w' (bO F w [.slice none 0 0] [.row e size []] w' aN hp') jP fG w' (bk Γ w' aN hp') jP fG:=
    ⟨fun _ _ _ _ h=>h,fun _ _ _ _ h=>h,zb,fun _ _ h=>h,fun _ _ h=>h,fun _ _ _ h=>h⟩
   have jw:dC w' (bk Γ w' aN hp') aN hp':=⟨bf.heap.len,fun r o v h1 h2=>(bf.heap.obj r o v h1 h2).ext hex (alA _) fun _ _ _=>rfl,bf.heap.sep⟩;have DY:vB Γ aN hp':=fun r o v b h1 hl h2 hb=>by
    rcases bf.bM b ⟨r,o,v,h1,hl,h2,hb⟩ with h5|h5
    ·exact⟨.inl h5,fun o hx=>hx.elim (fun h=>h) fun h=>h⟩
    ·exact⟨.inr h5,fun o hx=>hx.elim (fun h=>h) fun h=>h⟩
   refine(ff jw DY (bf.rep.ext hex)).bg fun b o hf=>?_;rcases hf.1 with h3|h3|⟨q,o1,z,g1,g2,g3,g4⟩
   ·exact .inl h3
   ·exact .inr ⟨h3,hf.2.1⟩
   ·cases q with
    |zero=>simp at g3;subst g3;simp[ct] at g4
    |succ q=>simp at g1
theorem bH.frame {f:FuncId} {args:List AV} {R:AV->List af->Prop} (h:bH P f args hp R) (hR:∀r h',R r h'->h'.length=hp.length) (aF:args.all (AV.closed hp.length)=true) (dx:hp.all (af.closed hp.length)=true):
  bH P f args (hp++more) (fun r hp'=>∃h',hp'=h'++more/\R r h'):=by
 refine⟨h.1,fun w F η bb aR hv=>?_⟩;have hlen:η.length=(hp++more).length:=aR.heap.len;have hn:hp.length<=η.length:=by rw[hlen];simp
 have dR:η.take hp.length++η.drop hp.length=η:=amk _ _;have A7:(η.take hp.length).length=hp.length:=by simp;omega
 have ze:∀{r:Nat},r<hp.length->(η.take hp.length)[r]?=η[r]?:=fun hr=>by rw[alO,if_pos hr]
 have gh:∀{r:Nat},r<hp.length->(hp++more)[r]?=hp[r]?:=fun hr=>qO hr;have kR:(hp++more).take hp.length=hp:=anw;have NI:∀b o,iR η (hp++more) b o->iR (η.take hp.length) hp b o:=by
  intro b o hf r v hr hb;have ak:r<hp.length:=by have:=(alu.1 hr).1;rw[A7] at this;exact this
  have:=hf r v (by rw[<-ze ak];exact hr) hb
  rwa [gh ak] at this
 have oL:∀b,aG (η.take hp.length) hp b->aG η (hp++more) b:=by
  intro b ⟨r,o,v,h1,h2,h3,h4⟩;have ak:r<hp.length:=(alu.1 h1).1;exact⟨r,o,v,by rw[gh ak];exact h1,h2,by rw[<-ze ak];exact h3,h4⟩
 have NJ:kE w F (η.take hp.length) hp:=by
  refine⟨fun b o hb=>⟨(aR.bg b o hb).1,NI b o (aR.bg b o hb).2⟩,⟨A7,fun r o v h1 h2=>?_,fun r r' o o' v v' b bu h1 h2 l1 l2 e1 e2 hb=>?_⟩,fun b hb=>aR.live b (oL b hb),aR.gL,fun b hb hl=>aR.gx b hb (oL b hl)⟩
  ·have ak:r<hp.length:=(alu.1 h1).1;have dB:=aR.heap.obj r o v (by rw[gh ak];exact h1) (by rw[<-ze ak];exact h2);have hco:af.closed hp.length o=true:=alK.1 dx o (alF h1)
   cases o with
   |dead=>exact True.intro
   |box cs=>
    obtain⟨b,vs,T,e1,e2,e3,e4⟩:=dB;refine⟨b,vs,T,e1,e2,e3,fun j x u hx hu=>?_⟩;have h5:=e4 j x u hx hu;have hcx:x.aW hp.length=true:=alK.1 hco x (alF hx);have h6:=dJ (n:=hp.length) hcx h5.1;rw[kR] at h6;exact⟨h6,h5.2⟩
   |row e size els=>exact dB
   |aJ es=>exact dB
   |cU q k=>
    obtain⟨b,vs,e1,e2,e3,e4,u,e5,e6⟩:=dB;have h6:=dJ (n:=hp.length) (x:=.own q k) (by simpa [AV.aW,af.closed] using hco) e6;rw[kR] at h6;exact⟨b,vs,e1,e2,e3,e4,u,e5,h6⟩
   |aQ e size els=>exact dB
   |dN e m ns=>exact dB
  ·have q1:r<hp.length:=(alu.1 h1).1;have q2:r' < hp.length:=(alu.1 h2).1;exact aR.heap.sep r r' o o' v v' b bu (by rw[gh q1];exact h1) (by rw[gh q2];exact h2) l1 l2 (by rw[<-ze q1];exact e1) (by rw[<-ze q2];exact e2) hb
 have hv1:bZ w F (η.take hp.length) hp args bb:=by
  have:=uJ (n:=hp.length) aF hv
  rwa [kR] at this
 refine(h.2 w F (η.take hp.length) bb NJ hv1).mono fun e w' ⟨v,r,h',jP,he,hRr,bf⟩=>?_;have rJ:=hR r h' hRr;have aat:jP.length=hp.length:=by rw[bf.heap.len];exact rJ
 refine⟨v,r,h'++more,jP++η.drop hp.length,he,⟨h',rfl,hRr⟩,?_⟩;have rV:∀{r:Nat},hp.length<=r->(jP++η.drop hp.length)[r]?=η[r]?:=fun {r} hr=>by
  rw[qP (by omega),amx,aat];congr 1;omega
 have xd:∀{r:Nat},hp.length<=r->(h'++more)[r]?=(hp++more)[r]?:=fun {r} hr=>by
  rw[qP (by omega),qP hr,rJ]
 have MX:∀{r:Nat},r<hp.length->(jP++η.drop hp.length)[r]?=jP[r]?:=fun hr=>qO (by omega);have W6:∀{r:Nat},r<hp.length->(h'++more)[r]?=h'[r]?:=fun hr=>qO (by omega);have apart:∀{r:Nat} {o:af} {u:Value} {b:Nat},hp.length<=r->(hp++more)[r]?=some o->o.live->η[r]?=some u->ct u=some b->b<w.heap.size/\¬aG (η.take hp.length) hp b:=by
  intro r o u b hr h1 h2 h3 h4;refine⟨aR.live b ⟨r,o,u,h1,h2,h3,h4⟩,fun⟨r1,o1,v1,g1,g2,g3,g4⟩=>?_⟩;have ak:r1<hp.length:=(alu.1 g1).1;exact aR.heap.sep r1 r o1 o v1 u b (by omega) (by rw[gh ak];exact g1) h1 g2 h2 (by rw[<-ze ak];exact g3) h3 g4 h4
 have DZ:∀b o,bO F w (η.take hp.length) hp w' jP h' b o->bO F w η (hp++more) w' (jP++η.drop hp.length) (h'++more) b o:=by
  intro b o ⟨h1,h2,h3⟩;refine⟨h1.imp id (Or.imp id (oL b)),h2,fun r u hr hb=>?_⟩
  by_cases ak:r<hp.length
  ·rw[MX ak] at hr;rw[W6 ak];exact h3 r u hr hb
  ·have tB:hp.length<=r:=by omega
   rw[rV tB] at hr;rw[xd tB];have mP:r<(hp++more).length:=by rw[<-hlen];exact(alu.1 hr).1
   have ho:(hp++more)[r]?=some (hp++more)[r]:=by simp[mP]
   have key:(hp++more)[r].live->F b o:=by
    intro hl;have ha:=apart tB ho hl hr hb;rcases h1 with h1|h1|h1
    ·exact h1
    ·omega
    ·exact(ha.2 h1).elim
   rw[ho]
   cases hk:(hp++more)[r] with
   |dead=>exact True.intro
   |_=>
    rw[hk] at key ho;have:=(aR.bg b o (key True.intro)).2 r u hr hb;rw[ho] at this;exact this
 have W7:Ext w' (bO F w (η.take hp.length) hp w' jP h') jP h' w' (bO F w η (hp++more) w' (jP++η.drop hp.length) (h'++more)) (jP++η.drop hp.length) (h'++more):=by
  refine⟨fun _ _ _ _ h=>h,fun _ _ _ _ h=>h,DZ,fun r a hr=>?_,fun r a hr=>?_,fun r k u ho=>?_⟩
  ·rw[MX (by have:=(alu.1 hr).1;omega)];exact hr
  ·rw[MX (by have:=(alu.1 hr).1;omega)];exact hr
  ·unfold aT at ho ⊢
   by_cases ak:r<hp.length
   ·rw[MX ak,W6 ak];exact ho
   ·rw[al0 (by omega)] at ho;exact ho.elim
 have cA:Ext w F η (hp++more) w' (bO F w η (hp++more) w' (jP++η.drop hp.length) (h'++more)) (jP++η.drop hp.length) (h'++more):=by
  refine⟨fun b o u hf hc=>bf.ext.cell b o u hf hc,fun b es c hf hc=>bf.ext.ir b es c hf hc,fun b o hf=>DZ b o (bf.ext.bg b o hf),fun r a hr=>?_,fun r a hr=>?_,fun r k u ho=>?_⟩
  ·by_cases ak:r<hp.length
   ·rw[MX ak];exact bf.ext.ptr r a (by rw[ze ak];exact hr)
   ·rw[rV (by omega)];exact hr
  ·by_cases ak:r<hp.length
   ·rw[MX ak];exact bf.ext.mp r a (by rw[ze ak];exact hr)
   ·rw[rV (by omega)];exact hr
  ·by_cases ak:r<hp.length
   ·have h1:aT (η.take hp.length) hp r k u:=by
     unfold aT at ho ⊢;rw[ze ak];rwa [gh ak] at ho
    have:=bf.ext.own r k u h1;unfold aT at this ⊢;rw[MX ak,W6 ak];exact this
   ·unfold aT at ho ⊢;rw[rV (by omega),xd (by omega)];exact ho
 refine⟨?_,cA,⟨by simp[aat,rJ,hlen],fun r o u h1 h2=>?_,fun r r' o o' v1 v2 b bu h1 h2 l1 l2 e1 e2 hb=>?_⟩,fun b ⟨r,o,u,h1,h2,h3,h4⟩=>?_,bf.rep.ext W7⟩
 ·exact⟨bf.keeps.os,bf.keeps.tape,bf.keeps.output,bf.keeps.size,fun k hk hx=>bf.keeps.block k hk fun hl=>hx (oL k hl)⟩
 ·by_cases ak:r<hp.length
  ·rw[W6 ak] at h1;rw[MX ak] at h2;exact(bf.heap.obj r o u h1 h2).ext W7 (alA _) fun _ _ _=>rfl
  ·have tB:hp.length<=r:=by omega
   rw[xd tB] at h1;rw[rV tB] at h2
   by_cases hl:o.live
   ·exact(aR.heap.obj r o u h1 h2).ext cA bf.keeps.size fun b hb Yk=>bf.keeps.block b Yk (apart tB h1 hl h2 hb).2
   ·cases o<;>first|exact True.intro|exact(hl True.intro).elim
 ·have D3:∀{r r':Nat} {o o':af} {v1 v2:Value} {b:Nat},r<hp.length->hp.length<=r'->h'[r]?=some o->(hp++more)[r']?=some o'->o.live->o'.live->jP[r]?=some v1->η[r']?=some v2->ct v1=some b->ct v2=some b->False:=by
   intro r r' o o' v1 v2 b _ eH h1 h2 l1 l2 e1 e2 hb eF;have ha:=apart eH h2 l2 e2 eF;rcases bf.bM b ⟨r,o,v1,h1,l1,e1,hb⟩ with h5|h5
   ·omega
   ·exact ha.2 h5
  by_cases q1:r<hp.length
  ·rw[W6 q1] at h1;rw[MX q1] at e1
   by_cases q2:r' < hp.length
   ·rw[W6 q2] at h2;rw[MX q2] at e2;exact bf.heap.sep r r' o o' v1 v2 b bu h1 h2 l1 l2 e1 e2 hb
   ·have Tb:hp.length<=r':=by omega
    rw[xd Tb] at h2;rw[rV Tb] at e2;exact fun eF=>D3 q1 Tb h1 h2 l1 l2 e1 e2 hb eF
  ·have q1':hp.length<=r:=by omega
   rw[xd q1'] at h1;rw[rV q1'] at e1
   by_cases q2:r' < hp.length
   ·rw[W6 q2] at h2;rw[MX q2] at e2;exact fun eF=>D3 q2 q1' h2 h1 l2 l1 e2 e1 eF hb
   ·have Tb:hp.length<=r':=by omega
    rw[xd Tb] at h2;rw[rV Tb] at e2;exact aR.heap.sep r r' o o' v1 v2 b bu h1 h2 l1 l2 e1 e2 hb
 ·by_cases ak:r<hp.length
  ·rw[W6 ak] at h1;rw[MX ak] at h3;rcases bf.bM b ⟨r,o,u,h1,h2,h3,h4⟩ with h5|h5
   ·exact .inl h5
   ·exact .inr (oL b h5)
  ·have tB:hp.length<=r:=by omega
   rw[xd tB] at h1;rw[rV tB] at h3;exact .inr ⟨r,o,u,h1,h2,h3,h4⟩
section
variable {G:Type} {Γ:Env G} {s:AS G} {a:Act}
theorem bD.W8 (ax:Γ.Ok) {o:Oper} {c:Call} (ho:o.op=.call c) {f:FuncId} {R:AV->List af->Prop} {oM:List AV} (hP:bH Γ.P f oM s.hp R)
  (Yl:∀(a:Act) (w:World) (η:List Value),Rel Γ s a w η->∃us:List Value,(execOp a.eval o).run Γ.P w=.ok (.enter f us.toArray) w/\bZ w (bk Γ w η s.hp) η s.hp oM us)
  (hd:cR Γ.nt o.dst) {K:AS G->Prop} (hK:∀r hp',R r hp'->K (AS.put { s with hp:=hp' } o.dst r)):bD Γ o s K:=by
 intro a w η Kc Qc hk hr;obtain⟨us,Yl,gy⟩:=Yl a w η hr;refine⟨fun _ _=>trivial,?_⟩;have bu:∀c',o.op ≠ .defer c':=by intro c' h;rw[ho] at h;cases h
 rw[Oper.semAt_eq _ _ _ bu,Yl];refine⟨fun h=>(by cases h),?_⟩;have da:∀b,aG η s.hp b->b<w.heap.size/\(Γ.w0.heap.size<=b\/Γ.Y b)/\∀o,¬Γ.No b o:=fun b ⟨r,o,v,g1,g2,g3,g4⟩=>⟨hr.heap.block g1 g2 g3 g4,hr.bM r o v b g1 g2 g3 g4⟩;have jZ:=hP.2 w (bk Γ w η s.hp) η _ ⟨fun b o hf=>⟨hf.2.1,hf.2.2.2⟩,hr.heap,fun b hb=>(da b hb).1,hr.gL ax,fun b hb hl=>hr.gx ax hb hl⟩ gy;refine CallsIn.mono (F:=Γ.ec) (R:=fun e w'=>∃v r hp' aN,e=.returned v/\R r hp'/\dU w (bk Γ w η s.hp) η s.hp w' aN hp' r v) ?_ fun e w' ⟨u,r,hp',aN,he,hR,bf⟩=>?_
 ·exact jZ
 ·subst he;have zb:∀b o,bO (bk Γ w η s.hp) w η s.hp w' aN hp' b o->bk Γ w' aN hp' b o:=by
   intro b o ⟨h1,h2,h3⟩;refine⟨?_,h2,?_,h3⟩
   ·rcases h1 with h1|h1|h1
    ·exact h1.1
    ·exact .inr (.inl (amf hr.keeps.size h1))
    ·exact .inr (da b h1).2.1
   ·rcases h1 with h1|h1|h1
    ·exact h1.2.2.1
    ·intro hx;have:=ax.no hx;have:=hr.keeps.size;omega
    ·exact(da b h1).2.2 _
  have hex:∀{jP:List Value} {fG:List af},Ext w' (bO (bk Γ w η s.hp) w η s.hp w' aN hp') jP fG w' (bk Γ w' aN hp') jP fG:=
   ⟨fun _ _ _ _ h=>h,fun _ _ _ _ h=>h,zb,fun _ _ h=>h,fun _ _ h=>h,fun _ _ _ h=>h⟩
  have Yi:=bf.ext.trans hex;have hrel:Rel Γ { s with hp:=hp' } a w' aN:=by
   refine⟨hr.nt,fun t=>(hr.tmps t).ext Yi,⟨bf.heap.len,fun r o v h1 h2=>(bf.heap.obj r o v h1 h2).ext hex (alA _) fun _ _ _=>rfl,bf.heap.sep⟩,fun r o v b h1 h2 h3 h4=>?_,?_,?_,?_,hr.ext.trans Yi⟩
   ·rcases bf.bM b ⟨r,o,v,h1,h2,h3,h4⟩ with h5|h5
    ·exact⟨.inl (amf hr.keeps.size h5),fun o hx=>by have:=ax.no hx;have:=hr.keeps.size;omega⟩
    ·exact(da b h5).2
   ·refine hr.keeps.trans bf.keeps fun b hb hl=>?_;rcases (da b hl).2.1 with h1|h1
    ·omega
    ·exact .inr h1
   ·exact ax.ou _ _ _ (fun b hb=>bf.keeps.block b (al8 (ax.x b hb) hr.keeps.size) fun hl=>(da b hl).2.2 0 (.inl hb)) bf.keeps.size hr.inv
   ·refine bf.keeps.marks hr.marks fun b hl=>.inr fun d hd=>?_;obtain⟨r,o,v,g1,g2,g3,g4⟩:=hl;have dB:=hr.heap.obj r o v g1 g3
    cases o with
    |dead=>exact g2.elim
    |box cs=>obtain⟨b',vs,T,rfl,q1,_⟩:=dB;simp only[ct,als] at g4;subst g4;rw[hd] at q1;cases q1
    |row e size els=>obtain⟨_,xs,q1,_⟩:=dB;obtain⟨cur,q2⟩:=q1.lt g4;rw[hd] at q2;cases q2
    |aJ es=>obtain⟨b',en,c,rfl,q1,_⟩:=dB;simp only[ct,als] at g4;subst g4;rw[hd] at q1;cases q1
    |cU q k=>obtain⟨b',vs,rfl,q1,_⟩:=dB;simp only[ct,als] at g4;subst g4;rw[hd] at q1;cases q1
    |aQ e size els=>obtain⟨_,xs,q1,_⟩:=dB;obtain⟨cur,q2⟩:=q1.lt g4;rw[hd] at q2;cases q2
    |dN e m ns=>obtain⟨cur,q2⟩:=eS.lt dB g4;rw[hd] at q2;cases q2
  exact hk _ _ _ _ (hK r hp' hR) (hrel.put (cd hd) (bf.rep.ext hex))
theorem bD.NK (ax:Γ.Ok) {o:Oper} {c:Call} {x:Operand} (ho:o.op=.call c) (hc:c.callee=.value x) {f:FuncId} {caps:List AV} (hx:s.ev x=.aY f caps) {R:AV->List af->Prop}
  {oM:List AV} (hP:bH Γ.P f oM s.hp R) (nf:∀(a:Act) (w:World) (η:List Value) (us:List Value),Rel Γ s a w η->bZ w (bk Γ w η s.hp) η s.hp (c.args.toList.map s.ev++caps) us->bZ w (bk Γ w η s.hp) η s.hp oM us) (hd:cR Γ.nt o.dst) {K:AS G->Prop} (hK:∀r hp',R r hp'->K (AS.put { s with hp:=hp' } o.dst r)):bD Γ o s K:=by
 refine bD.W8 ax ho hP (fun a w η hr=>?_) hd hK;have dO:=hr.ev x;rw[hx] at dO;generalize hv:a.eval x=v at dO
 cases dO with
 |aY _ _ vs hl cX=>
  have aF:(c.args.map a.eval++vs)=(c.args.toList.map a.eval++vs.toList).toArray:=by apply amT;simp
  exact⟨_,by rw[fB ho hc hP.1 hv,aF],nf a w η _ hr (dI _ _ (gk hr c.args.toList) (cF (by simpa using hl) fun j y u hy hu=>cX j y u hy (by simpa using hu)))⟩
theorem bD.aau (ax:Γ.Ok) {o:Oper} {c:Call} {x:Operand} (ho:o.op=.call c) (hc:c.callee=.value x) {f:FuncId} {fst:List AV} (hx:s.ev x=.dm f fst) {R:AV->List af->Prop}
  {oM:List AV} (hP:bH Γ.P f oM s.hp R) (nf:∀(a:Act) (w:World) (η:List Value) (us:List Value),Rel Γ s a w η->bZ w (bk Γ w η s.hp) η s.hp (fst++c.args.toList.map s.ev) us->bZ w (bk Γ w η s.hp) η s.hp oM us) (hd:cR Γ.nt o.dst) {K:AS G->Prop} (hK:∀r hp',R r hp'->K (AS.put { s with hp:=hp' } o.dst r)):bD Γ o s K:=by
 refine bD.W8 ax ho hP (fun a w η hr=>?_) hd hK;have dO:=hr.ev x;rw[hx] at dO;generalize hv:a.eval x=v at dO
 cases dO with
 |dm _ _ vs hl cX=>
  have aF:(vs++c.args.map a.eval)=(vs.toList++c.args.toList.map a.eval).toArray:=by apply amT;simp
  refine⟨_,?_,nf a w η _ hr (dI fst vs.toList (cF (by rw[amg];exact hl) fun j y u hy hu=>cX j y u hy (by simpa using hu)) (gk hr c.args.toList))⟩;rw[<-aF];simp[execOp,ho,resolve,hc,hv,Deferred.ofValue,invoke,jE hP.1]
theorem bD.aav (ax:Γ.Ok) {o:Oper} {c:Call} {x:Operand} (ho:o.op=.call c) (hc:c.callee=.value x) {f:FuncId} {caps:List AV} (hx:s.ev x=.aY f caps) {R:AV->Prop}
  {oM:List AV} (hP:Pure Γ.P f oM R) (nf:∀(a:Act) (w:World) (η:List Value) (us:List Value),Rel Γ s a w η->bZ w (bk Γ w η s.hp) η s.hp (c.args.toList.map s.ev++caps) us->bZ w (bk Γ w η s.hp) [] [] oM us) (hd:cR Γ.nt o.dst) {K:AS G->Prop} (hK:∀r,R r->K (s.put o.dst r)):bD Γ o s K:=by
 intro a w η Kc Qc hk hr;have dO:=hr.ev x;rw[hx] at dO;generalize hv:a.eval x=v at dO
 cases dO with
 |aY _ _ vs hl cX=>
  refine⟨fun _ _=>trivial,?_⟩;have bu:∀c',o.op ≠ .defer c':=by intro c' h;rw[ho] at h;cases h
  rw[Oper.semAt_eq _ _ _ bu,fB ho hc hP.1 hv];have aF:(c.args.map a.eval++vs)=(c.args.toList.map a.eval++vs.toList).toArray:=by apply amT;simp
  have dx:bZ w (bk Γ w η s.hp) η s.hp caps vs.toList:=cF (by simpa using hl) fun j y u hy hu=>cX j y u hy (by simpa using hu);have gy:=nf a w η _ hr (dI _ _ (gk hr c.args.toList) dx);refine⟨fun h=>(by cases h),?_⟩;rw[aF];have jZ:=hP.2 w (bk Γ w η s.hp) _ (fun _ _=>dZ) (hr.gL ax) gy;refine CallsIn.mono (F:=Γ.ec) ?_ (R:=fun e w'=>∃v r,e=.returned v/\R r/\bI w w'/\bm w' (Onto (bk Γ w η s.hp) w w') [] [] r v) fun e w' ⟨u,r,he,hR,hs,hru⟩=>?_
  ·exact jZ
  ·subst he;exact hk _ _ _ _ (hK r hR) ((hr.same ax hs).put (cd hd) ((hru.bg fun b o h=>wZ ax hr hs h).lift))
def AV.qQ (n:Nat) (hp:List af) (x:AV):AV:=if x.closed n=true then x else x.bB hp
theorem D4 (hr:Rel Γ s a w η) (n:Nat):∀(xs:List AV) (vs:List Value),bZ w (bk Γ w η s.hp) η s.hp xs vs->bZ w (bk Γ w η s.hp) η s.hp (xs.map (AV.qQ n s.hp)) vs
 | [],[],_=>True.intro
 |x::xs,v::vs,h=>⟨by
   unfold AV.qQ;split
   ·exact h.1
   ·exact(ff hr.heap hr.bM h.1).lift,D4 hr n xs vs h.2⟩
 | [],_::_,h=>h.elim
 |_::_,[],h=>h.elim
theorem mo (hr:Rel Γ s a w η):∀(xs:List AV) (vs:List Value),bZ w (bk Γ w η s.hp) η s.hp xs vs->bZ w (bk Γ w η s.hp) [] [] (xs.map (AV.qQ 0 s.hp)) vs
 | [],[],_=>True.intro
 |x::xs,v::vs,h=>⟨by
   unfold AV.qQ;split
   ·rename_i hc;have:=nb (n:=0) hc h.1;simpa using this
   ·exact ff hr.heap hr.bM h.1,mo hr xs vs h.2⟩
 | [],_::_,h=>h.elim
 |_::_,[],h=>h.elim
end
end Go.Proofs.YtdcikhleahfknaaGreatDoor
