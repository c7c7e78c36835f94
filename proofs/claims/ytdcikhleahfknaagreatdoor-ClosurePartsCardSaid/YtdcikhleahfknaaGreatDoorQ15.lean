/- Texts of ours laid together for a claim: VcF. -/
import Derived.Test.YtdcikhleahfknaaGreatDoorQ14
namespace Go.Proofs.YtdcikhleahfknaaGreatDoor
open Go
set_option linter.unusedSimpArgs false
set_option linter.unusedVariables false
variable {P:Program} {w w':World} {F F':Nat→Nat→Prop} {η aM:List Value} {hp hp' more:List af}
theorem oD {α:Type} {l m:List α} {r:Nat} (h:r<l.length):(l++m)[r]?=l[r]?:=List.getElem?_append_left h
theorem oE {α:Type} {l m:List α} {r:Nat} (h:l.length≤r):(l++m)[r]?=m[r-l.length]?:=List.getElem?_append_right h
theorem ry {n:Nat}:∀{xs:List AV} {vs:List Value},xs.all (AV.closed n)=true→bF w F η hp xs vs→bF w F (η.take n) (hp.take n) xs vs
 | [],[],_,_=>True.intro
 |x::xs,v::vs,hc,h=>by
  simp only[List.all_cons,Bool.and_eq_true] at hc
  exact⟨k8 hc.1 h.1,ry hc.2 h.2⟩
 | [],_::_,_,h=>h.elim
 |_::_,[],_,h=>h.elim
theorem bJ.mono {f:FuncId} {args:List AV} {R R':AV→List af→Prop} (h:bJ P f args hp R) (hR:∀r h',R r h'→R' r h'):bJ P f args hp R':=
 ⟨h.1,fun w F η aR aI hv=>(h.2 w F η aR aI hv).mono fun _ _ ⟨v,r,hp',aM,h1,h2,h3⟩=>⟨v,r,hp',aM,h1,hR r hp' h2,h3⟩⟩
theorem Pure.of_nil {f:FuncId} {rest:List AV} {e size:Nat} {R:AV→List af→Prop} (hs:0<size) (h:bJ P f (.own 0 0::rest) [.row e size []] R) (kx:rest.all (AV.closed 0)=true):
  Pure P f (.ae (.slice none 0 0)::rest) (fun x=>∃r hp',R r hp'∧x=r.bh hp'):=by
 refine⟨h.1,fun w F aR hF hg hv=>?_⟩
 cases aR with
 |nil=>exact hv.elim
 |cons v aR=>
  have h0:=hv.1.ao
  subst h0
  have aI:nW w F [.slice none 0 0] [.row e size []]:=by
   refine⟨fun b o hb=>⟨hF b o hb,fun r u hr np=>?_⟩,⟨rfl,fun r o u h1 h2=>?_,fun r r' o o' u u' b bj h1 h2=>?_⟩,fun b ⟨r,o,u,h1,h2,h3,h4⟩=>?_,hg,fun b _ ⟨r,o,u,h1,h2,h3,h4⟩=>?_⟩
   ·cases r with
    |zero=>simp at hr;subst hr;simp[bT] at np
    |succ r=>simp at hr
   ·cases r with
    |zero=>
     simp at h1 h2
     subst h1;subst h2
     exact⟨hs,[],⟨by simp,.inl ⟨rfl,.inl rfl⟩⟩,fun i el hi=>by simp at hi⟩
    |succ r=>simp at h1
   ·have q1:r<1:=by have:=(List.getElem?_eq_some_iff.1 h1).1;simpa using this
    have q2:r' < 1:=by have:=(List.getElem?_eq_some_iff.1 h2).1;simpa using this
    omega
   ·cases r with
    |zero=>simp at h3;subst h3;simp[bT] at h4
    |succ r=>simp at h1
   ·cases r with
    |zero=>simp at h3;subst h3;simp[bT] at h4
    |succ r=>simp at h1
  have hrl:∀(xs:List AV) (us:List Value),xs.all (AV.closed 0)=true→bF w F [] [] xs us→bF w F [.slice none 0 0] [.row e size []] xs us:=fun xs us _ hx=>
   hx.ext ⟨fun _ _ _ _ h=>h,fun _ _ _ _ h=>h,fun _ _ h=>h,fun _ _ h=>by simp at h,fun _ _ h=>by simp at h,fun _ _ _ h=>by simp[aQ] at h⟩
  have Sp:bF w F [.slice none 0 0] [.row e size []] (.own 0 0::rest) (.slice none 0 0::aR):=
   ⟨.own 0 0 _ rfl (by unfold aQ;exact⟨Nat.le_refl _,fun _=>rfl⟩),hrl rest aR kx hv.2⟩
  refine(h.2 w F _ _ aI Sp).mono fun en w' ⟨u,r,hp',aM,he,hR,aZ⟩=>?_
  refine⟨u,_,he,⟨r,hp',hR,rfl⟩,aZ.keeps.same fun b _ ⟨q,o,z,g1,g2,g3,g4⟩=>?_,?_⟩
  ·cases q with
   |zero=>simp at g3;subst g3;simp[bT] at g4
   |succ q=>simp at g1
  ·let Γ:Env Unit:={ P:=P,w0:=w,F0:=F,X:=fun _=>False,Y:=aC [.slice none 0 0] [.row e size []],Inv:=fun _ _=>True,nt:=0,vQ:=none,m0:=fun r=>w.heap.size≤r,Z:=fun _ _=>False,vh:=[.slice none 0 0],ir:=[.row e size []] }
   have vo:∀b o,bQ F w [.slice none 0 0] [.row e size []] w' aM hp' b o→aU Γ w' aM hp' b o:=fun b o hb=>⟨hb.1,hb.2.1,fun hx=>hx.elim (fun h=>h) fun h=>h,hb.2.2⟩
   have hex:∀{iq:List Value} {eG:List af},Ext w' (bQ F w [.slice none 0 0] [.row e size []] w' aM hp') iq eG w' (aU Γ w' aM hp') iq eG:=
    ⟨fun _ _ _ _ h=>h,fun _ _ _ _ h=>h,vo,fun _ _ h=>h,fun _ _ h=>h,fun _ _ _ h=>h⟩
   have gS:cT w' (aU Γ w' aM hp') aM hp':=⟨aZ.heap.len,fun r o v h1 h2=>(aZ.heap.obj r o v h1 h2).ext hex (Nat.le_refl _) fun _ _ _=>rfl,aZ.heap.sep⟩
   have zQ:se Γ aM hp':=fun r o v b h1 hl h2 hb=>by
    rcases aZ.bA b ⟨r,o,v,h1,hl,h2,hb⟩ with h5|h5
    ·exact⟨.inl h5,fun o hx=>hx.elim (fun h=>h) fun h=>h⟩
    ·exact⟨.inr h5,fun o hx=>hx.elim (fun h=>h) fun h=>h⟩
   refine(eV gS zQ (aZ.rep.ext hex)).aY fun b o hf=>?_
   rcases hf.1 with h3|h3|⟨q,o1,z,g1,g2,g3,g4⟩
   ·exact .inl h3
   ·exact .inr ⟨h3,hf.2.1⟩
   ·cases q with
    |zero=>simp at g3;subst g3;simp[bT] at g4
    |succ q=>simp at g1
theorem bJ.frame {f:FuncId} {args:List AV} {R:AV→List af→Prop} (h:bJ P f args hp R) (hR:∀r h',R r h'→h'.length=hp.length) (ax:args.all (AV.closed hp.length)=true) (cS:hp.all (af.closed hp.length)=true):
  bJ P f args (hp++more) (fun r hp'=>∃h',hp'=h'++more∧R r h'):=by
 refine⟨h.1,fun w F η aR aI hv=>?_⟩
 have hlen:η.length=(hp++more).length:=aI.heap.len
 have hn:hp.length≤η.length:=by rw[hlen];simp
 have dn:η.take hp.length++η.drop hp.length=η:=List.take_append_drop _ _
 have zh:(η.take hp.length).length=hp.length:=by simp;omega
 have vq:∀{r:Nat},r<hp.length→(η.take hp.length)[r]?=η[r]?:=fun hr=>by rw[List.getElem?_take,if_pos hr]
 have gh:∀{r:Nat},r<hp.length→(hp++more)[r]?=hp[r]?:=fun hr=>oD hr
 have jg:(hp++more).take hp.length=hp:=List.take_left
 have HW:∀b o,gW η (hp++more) b o→gW (η.take hp.length) hp b o:=by
  intro b o hf r v hr hb
  have al:r<hp.length:=by have:=(List.getElem?_eq_some_iff.1 hr).1;rw[zh] at this;exact this
  have:=hf r v (by rw[←vq al];exact hr) hb
  rwa [gh al] at this
 have mr:∀b,aC (η.take hp.length) hp b→aC η (hp++more) b:=by
  intro b ⟨r,o,v,h1,h2,h3,h4⟩
  have al:r<hp.length:=(List.getElem?_eq_some_iff.1 h1).1
  exact⟨r,o,v,by rw[gh al];exact h1,h2,by rw[←vq al];exact h3,h4⟩
 have HX:nW w F (η.take hp.length) hp:=by
  refine⟨fun b o hb=>⟨(aI.aY b o hb).1,HW b o (aI.aY b o hb).2⟩,⟨zh,fun r o v h1 h2=>?_,fun r r' o o' v v' b bj h1 h2 l1 l2 e1 e2 hb=>?_⟩,fun b hb=>aI.live b (mr b hb),aI.fX,fun b hb hl=>aI.gx b hb (mr b hl)⟩
  ·have al:r<hp.length:=(List.getElem?_eq_some_iff.1 h1).1
   have cR:=aI.heap.obj r o v (by rw[gh al];exact h1) (by rw[←vq al];exact h2)
   have Zc:af.closed hp.length o=true:=List.all_eq_true.1 cS o (List.mem_of_getElem? h1)
   cases o with
   |dead=>exact True.intro
   |box cs=>
    obtain⟨b,vs,T,e1,e2,e3,e4⟩:=cR
    refine⟨b,vs,T,e1,e2,e3,fun j x u hx hu=>?_⟩
    have h5:=e4 j x u hx hu
    have hcx:x.aJ hp.length=true:=List.all_eq_true.1 Zc x (List.mem_of_getElem? hx)
    have h6:=cZ (n:=hp.length) hcx h5.1
    rw[jg] at h6
    exact⟨h6,h5.2⟩
   |row e size els=>exact cR
   |aP es=>exact cR
   |cA q k=>
    obtain⟨b,vs,e1,e2,e3,e4,u,e5,e6⟩:=cR
    have h6:=cZ (n:=hp.length) (x:=.own q k) (by simpa [AV.aJ,af.closed] using Zc) e6
    rw[jg] at h6
    exact⟨b,vs,e1,e2,e3,e4,u,e5,h6⟩
   |aF e size els=>exact cR
   |dh e m ns=>exact cR
  ·have q1:r<hp.length:=(List.getElem?_eq_some_iff.1 h1).1
   have q2:r' < hp.length:=(List.getElem?_eq_some_iff.1 h2).1
   exact aI.heap.sep r r' o o' v v' b bj (by rw[gh q1];exact h1) (by rw[gh q2];exact h2) l1 l2 (by rw[←vq q1];exact e1) (by rw[←vq q2];exact e2) hb
 have Sp:bF w F (η.take hp.length) hp args aR:=by
  have:=ry (n:=hp.length) ax hv
  rwa [jg] at this
 refine(h.2 w F (η.take hp.length) aR HX Sp).mono fun e w' ⟨v,r,h',iq,he,Sq,aZ⟩=>?_
 have pf:=hR r h' Sq
 have Sr:iq.length=hp.length:=by rw[aZ.heap.len];exact pf
 refine⟨v,r,h'++more,iq++η.drop hp.length,he,⟨h',rfl,Sq⟩,?_⟩
 have px:∀{r:Nat},hp.length≤r→(iq++η.drop hp.length)[r]?=η[r]?:=fun {r} hr=>by
  rw[oE (by omega),List.getElem?_drop,Sr];congr 1;omega
 have tO:∀{r:Nat},hp.length≤r→(h'++more)[r]?=(hp++more)[r]?:=fun {r} hr=>by
  rw[oE (by omega),oE hr,pf]
 have Hk:∀{r:Nat},r<hp.length→(iq++η.drop hp.length)[r]?=iq[r]?:=fun hr=>oD (by omega)
 have O7:∀{r:Nat},r<hp.length→(h'++more)[r]?=h'[r]?:=fun hr=>oD (by omega)
 have apart:∀{r:Nat} {o:af} {u:Value} {b:Nat},hp.length≤r→(hp++more)[r]?=some o→o.live→η[r]?=some u→bT u=some b→b<w.heap.size∧¬aC (η.take hp.length) hp b:=by
  intro r o u b hr h1 h2 h3 h4
  refine⟨aI.live b ⟨r,o,u,h1,h2,h3,h4⟩,fun⟨r1,o1,v1,g1,g2,g3,g4⟩=>?_⟩
  have al:r1<hp.length:=(List.getElem?_eq_some_iff.1 g1).1
  exact aI.heap.sep r1 r o1 o v1 u b (by omega) (by rw[gh al];exact g1) h1 g2 h2 (by rw[←vq al];exact g3) h3 g4 h4
 have zR:∀b o,bQ F w (η.take hp.length) hp w' iq h' b o→bQ F w η (hp++more) w' (iq++η.drop hp.length) (h'++more) b o:=by
  intro b o ⟨h1,h2,h3⟩
  refine⟨h1.imp id (Or.imp id (mr b)),h2,fun r u hr hb=>?_⟩
  by_cases al:r<hp.length
  ·rw[Hk al] at hr
   rw[O7 al]
   exact h3 r u hr hb
  ·have te:hp.length≤r:=by omega
   rw[px te] at hr
   rw[tO te]
   have kO:r<(hp++more).length:=by rw[←hlen];exact(List.getElem?_eq_some_iff.1 hr).1
   have ho:(hp++more)[r]?=some (hp++more)[r]:=by simp[kO]
   have key:(hp++more)[r].live→F b o:=by
    intro hl
    have ha:=apart te ho hl hr hb
    rcases h1 with h1|h1|h1
    ·exact h1
    ·omega
    ·exact(ha.2 h1).elim
   rw[ho]
   cases hk:(hp++more)[r] with
   |dead=>exact True.intro
   |_=>
    rw[hk] at key ho
    have:=(aI.aY b o (key True.intro)).2 r u hr hb
    rw[ho] at this
    exact this
 have O8:Ext w' (bQ F w (η.take hp.length) hp w' iq h') iq h' w' (bQ F w η (hp++more) w' (iq++η.drop hp.length) (h'++more)) (iq++η.drop hp.length) (h'++more):=by
  refine⟨fun _ _ _ _ h=>h,fun _ _ _ _ h=>h,zR,fun r a hr=>?_,fun r a hr=>?_,fun r k u ho=>?_⟩
  ·rw[Hk (by have:=(List.getElem?_eq_some_iff.1 hr).1;omega)];exact hr
  ·rw[Hk (by have:=(List.getElem?_eq_some_iff.1 hr).1;omega)];exact hr
  ·unfold aQ at ho ⊢
   by_cases al:r<hp.length
   ·rw[Hk al,O7 al];exact ho
   ·rw[List.getElem?_eq_none (by omega)] at ho;exact ho.elim
 have bY:Ext w F η (hp++more) w' (bQ F w η (hp++more) w' (iq++η.drop hp.length) (h'++more)) (iq++η.drop hp.length) (h'++more):=by
  refine⟨fun b o u hf hc=>aZ.ext.cell b o u hf hc,fun b es c hf hc=>aZ.ext.fQ b es c hf hc,fun b o hf=>zR b o (aZ.ext.aY b o hf),fun r a hr=>?_,fun r a hr=>?_,fun r k u ho=>?_⟩
  ·by_cases al:r<hp.length
   ·rw[Hk al];exact aZ.ext.ptr r a (by rw[vq al];exact hr)
   ·rw[px (by omega)];exact hr
  ·by_cases al:r<hp.length
   ·rw[Hk al];exact aZ.ext.mp r a (by rw[vq al];exact hr)
   ·rw[px (by omega)];exact hr
  ·by_cases al:r<hp.length
   ·have h1:aQ (η.take hp.length) hp r k u:=by
     unfold aQ at ho ⊢
     rw[vq al];rwa [gh al] at ho
    have:=aZ.ext.own r k u h1
    unfold aQ at this ⊢
    rw[Hk al,O7 al];exact this
   ·unfold aQ at ho ⊢
    rw[px (by omega),tO (by omega)];exact ho
 refine⟨?_,bY,⟨by simp[Sr,pf,hlen],fun r o u h1 h2=>?_,fun r r' o o' v1 v2 b bj h1 h2 l1 l2 e1 e2 hb=>?_⟩,fun b ⟨r,o,u,h1,h2,h3,h4⟩=>?_,aZ.rep.ext O8⟩
 ·exact⟨aZ.keeps.os,aZ.keeps.tape,aZ.keeps.output,aZ.keeps.size,fun k hk hx=>aZ.keeps.block k hk fun hl=>hx (mr k hl)⟩
 ·by_cases al:r<hp.length
  ·rw[O7 al] at h1
   rw[Hk al] at h2
   exact(aZ.heap.obj r o u h1 h2).ext O8 (Nat.le_refl _) fun _ _ _=>rfl
  ·have te:hp.length≤r:=by omega
   rw[tO te] at h1
   rw[px te] at h2
   by_cases hl:o.live
   ·exact(aI.heap.obj r o u h1 h2).ext bY aZ.keeps.size fun b hb Qe=>aZ.keeps.block b Qe (apart te h1 hl h2 hb).2
   ·cases o<;>first|exact True.intro|exact(hl True.intro).elim
 ·have zS:∀{r r':Nat} {o o':af} {v1 v2:Value} {b:Nat},r<hp.length→hp.length≤r'→h'[r]?=some o→(hp++more)[r']?=some o'→o.live→o'.live→iq[r]?=some v1→η[r']?=some v2→bT v1=some b→bT v2=some b→False:=by
   intro r r' o o' v1 v2 b _ dM h1 h2 l1 l2 e1 e2 hb ec
   have ha:=apart dM h2 l2 e2 ec
   rcases aZ.bA b ⟨r,o,v1,h1,l1,e1,hb⟩ with h5|h5
   ·omega
   ·exact ha.2 h5
  by_cases q1:r<hp.length
  ·rw[O7 q1] at h1
   rw[Hk q1] at e1
   by_cases q2:r' < hp.length
   ·rw[O7 q2] at h2
    rw[Hk q2] at e2
    exact aZ.heap.sep r r' o o' v1 v2 b bj h1 h2 l1 l2 e1 e2 hb
   ·have L6:hp.length≤r':=by omega
    rw[tO L6] at h2
    rw[px L6] at e2
    exact fun ec=>zS q1 L6 h1 h2 l1 l2 e1 e2 hb ec
  ·have Ww:hp.length≤r:=by omega
   rw[tO Ww] at h1
   rw[px Ww] at e1
   by_cases q2:r' < hp.length
   ·rw[O7 q2] at h2
    rw[Hk q2] at e2
    exact fun ec=>zS q2 Ww h2 h1 l2 l1 e2 e1 ec hb
   ·have L6:hp.length≤r':=by omega
    rw[tO L6] at h2
    rw[px L6] at e2
    exact aI.heap.sep r r' o o' v1 v2 b bj h1 h2 l1 l2 e1 e2 hb
 ·by_cases al:r<hp.length
  ·rw[O7 al] at h1
   rw[Hk al] at h3
   rcases aZ.bA b ⟨r,o,u,h1,h2,h3,h4⟩ with h5|h5
   ·exact .inl h5
   ·exact .inr (mr b h5)
  ·have te:hp.length≤r:=by omega
   rw[tO te] at h1
   rw[px te] at h3
   exact .inr ⟨r,o,u,h1,h2,h3,h4⟩
section
variable {G:Type} {Γ:Env G} {s:AS G} {a:Act}
theorem bn.O9 (aq:Γ.Ok) {o:Oper} {c:Call} (ho:o.op=.call c) {f:FuncId} {R:AV→List af→Prop} {mu:List AV} (hP:bJ Γ.P f mu s.hp R)
  (Qf:∀(a:Act) (w:World) (η:List Value),Rel Γ s a w η→∃us:List Value,(execOp a.eval o).run Γ.P w=.ok (.enter f us.toArray) w∧bF w (aU Γ w η s.hp) η s.hp mu us)
  (hd:cw Γ.nt o.dst) {K:AS G→Prop} (hK:∀r hp',R r hp'→K (AS.put { s with hp:=hp' } o.dst r)):bn Γ o s K:=by
 intro a w η Kc Qc hk hr
 obtain⟨us,Qf,eZ⟩:=Qf a w η hr
 refine⟨fun _ _=>trivial,?_⟩
 have bj:∀c',o.op ≠ .defer c':=by intro c' h;rw[ho] at h;cases h
 rw[Oper.semAt_eq _ _ _ bj,Qf]
 refine⟨fun h=>(by cases h),?_⟩
 have cX:∀b,aC η s.hp b→b<w.heap.size∧(Γ.w0.heap.size≤b∨Γ.Y b)∧∀o,¬Γ.No b o:=fun b ⟨r,o,v,g1,g2,g3,g4⟩=>⟨hr.heap.block g1 g2 g3 g4,hr.bA r o v b g1 g2 g3 g4⟩
 have iB:=hP.2 w (aU Γ w η s.hp) η _ ⟨fun b o hf=>⟨hf.2.1,hf.2.2.2⟩,hr.heap,fun b hb=>(cX b hb).1,hr.fX aq,fun b hb hl=>hr.gx aq hb hl⟩ eZ
 refine CallsIn.mono (F:=Γ.dA) (R:=fun e w'=>∃v r hp' aM,e=.returned v∧R r hp'∧fS w (aU Γ w η s.hp) η s.hp w' aM hp' r v) ?_ fun e w' ⟨u,r,hp',aM,he,hR,aZ⟩=>?_
 ·exact iB
 ·subst he
  have vo:∀b o,bQ (aU Γ w η s.hp) w η s.hp w' aM hp' b o→aU Γ w' aM hp' b o:=by
   intro b o ⟨h1,h2,h3⟩
   refine⟨?_,h2,?_,h3⟩
   ·rcases h1 with h1|h1|h1
    ·exact h1.1
    ·exact .inr (.inl (Nat.le_trans hr.keeps.size h1))
    ·exact .inr (cX b h1).2.1
   ·rcases h1 with h1|h1|h1
    ·exact h1.2.2.1
    ·intro hx;have:=aq.no hx;have:=hr.keeps.size;omega
    ·exact(cX b h1).2.2 _
  have hex:∀{iq:List Value} {eG:List af},Ext w' (bQ (aU Γ w η s.hp) w η s.hp w' aM hp') iq eG w' (aU Γ w' aM hp') iq eG:=
   ⟨fun _ _ _ _ h=>h,fun _ _ _ _ h=>h,vo,fun _ _ h=>h,fun _ _ h=>h,fun _ _ _ h=>h⟩
  have Qd:=aZ.ext.trans hex
  have hrel:Rel Γ { s with hp:=hp' } a w' aM:=by
   refine⟨hr.nt,fun t=>(hr.tmps t).ext Qd,⟨aZ.heap.len,fun r o v h1 h2=>(aZ.heap.obj r o v h1 h2).ext hex (Nat.le_refl _) fun _ _ _=>rfl,aZ.heap.sep⟩,fun r o v b h1 h2 h3 h4=>?_,?_,?_,?_,hr.ext.trans Qd⟩
   ·rcases aZ.bA b ⟨r,o,v,h1,h2,h3,h4⟩ with h5|h5
    ·exact⟨.inl (Nat.le_trans hr.keeps.size h5),fun o hx=>by have:=aq.no hx;have:=hr.keeps.size;omega⟩
    ·exact(cX b h5).2
   ·refine hr.keeps.trans aZ.keeps fun b hb hl=>?_
    rcases (cX b hl).2.1 with h1|h1
    ·omega
    ·exact .inr h1
   ·exact aq.l8 _ _ _ (fun b hb=>aZ.keeps.block b (Nat.lt_of_lt_of_le (aq.x b hb) hr.keeps.size) fun hl=>(cX b hl).2.2 0 (.inl hb)) aZ.keeps.size hr.inv
   ·refine aZ.keeps.marks hr.marks fun b hl=>.inr fun d hd=>?_
    obtain⟨r,o,v,g1,g2,g3,g4⟩:=hl
    have cR:=hr.heap.obj r o v g1 g3
    cases o with
    |dead=>exact g2.elim
    |box cs=>obtain⟨b',vs,T,rfl,q1,_⟩:=cR;simp only[bT,Option.some.injEq] at g4;subst g4;rw[hd] at q1;cases q1
    |row e size els=>obtain⟨_,xs,q1,_⟩:=cR;obtain⟨cur,q2⟩:=q1.lt g4;rw[hd] at q2;cases q2
    |aP es=>obtain⟨b',en,c,rfl,q1,_⟩:=cR;simp only[bT,Option.some.injEq] at g4;subst g4;rw[hd] at q1;cases q1
    |cA q k=>obtain⟨b',vs,rfl,q1,_⟩:=cR;simp only[bT,Option.some.injEq] at g4;subst g4;rw[hd] at q1;cases q1
    |aF e size els=>obtain⟨_,xs,q1,_⟩:=cR;obtain⟨cur,q2⟩:=q1.lt g4;rw[hd] at q2;cases q2
    |dh e m ns=>obtain⟨cur,q2⟩:=dT.lt cR g4;rw[hd] at q2;cases q2
  exact hk _ _ _ _ (hK r hp' hR) (hrel.put (bG hd) (aZ.rep.ext hex))
theorem bn.HY (aq:Γ.Ok) {o:Oper} {c:Call} {x:Operand} (ho:o.op=.call c) (hc:c.callee=.value x) {f:FuncId} {caps:List AV} (hx:s.ev x=.aS f caps) {R:AV→List af→Prop}
  {mu:List AV} (hP:bJ Γ.P f mu s.hp R) (ld:∀(a:Act) (w:World) (η:List Value) (us:List Value),Rel Γ s a w η→bF w (aU Γ w η s.hp) η s.hp (c.args.toList.map s.ev++caps) us→bF w (aU Γ w η s.hp) η s.hp mu us) (hd:cw Γ.nt o.dst) {K:AS G→Prop} (hK:∀r hp',R r hp'→K (AS.put { s with hp:=hp' } o.dst r)):bn Γ o s K:=by
 refine bn.O9 aq ho hP (fun a w η hr=>?_) hd hK
 have di:=hr.ev x
 rw[hx] at di
 generalize hv:a.eval x=v at di
 cases di with
 |aS _ _ vs hl cD=>
  have ax:(c.args.map a.eval++vs)=(c.args.toList.map a.eval++vs.toList).toArray:=by apply Array.ext';simp
  exact⟨_,by rw[eB ho hc hP.1 hv,ax],ld a w η _ hr (cY _ _ (eU hr c.args.toList) (cd (by simpa using hl) fun j y u hy hu=>cD j y u hy (by simpa using hu)))⟩
theorem bn.Ss (aq:Γ.Ok) {o:Oper} {c:Call} {x:Operand} (ho:o.op=.call c) (hc:c.callee=.value x) {f:FuncId} {fst:List AV} (hx:s.ev x=.cH f fst) {R:AV→List af→Prop}
  {mu:List AV} (hP:bJ Γ.P f mu s.hp R) (ld:∀(a:Act) (w:World) (η:List Value) (us:List Value),Rel Γ s a w η→bF w (aU Γ w η s.hp) η s.hp (fst++c.args.toList.map s.ev) us→bF w (aU Γ w η s.hp) η s.hp mu us) (hd:cw Γ.nt o.dst) {K:AS G→Prop} (hK:∀r hp',R r hp'→K (AS.put { s with hp:=hp' } o.dst r)):bn Γ o s K:=by
 refine bn.O9 aq ho hP (fun a w η hr=>?_) hd hK
 have di:=hr.ev x
 rw[hx] at di
 generalize hv:a.eval x=v at di
 cases di with
 |cH _ _ vs hl cD=>
  have ax:(vs++c.args.map a.eval)=(vs.toList++c.args.toList.map a.eval).toArray:=by apply Array.ext';simp
  refine⟨_,?_,ld a w η _ hr (cY fst vs.toList (cd (by rw[Array.length_toList];exact hl) fun j y u hy hu=>cD j y u hy (by simpa using hu)) (eU hr c.args.toList))⟩
  rw[←ax]
  simp[execOp,ho,resolve,hc,hv,Deferred.ofValue,invoke,gY hP.1]
theorem bn.St (aq:Γ.Ok) {o:Oper} {c:Call} {x:Operand} (ho:o.op=.call c) (hc:c.callee=.value x) {f:FuncId} {caps:List AV} (hx:s.ev x=.aS f caps) {R:AV→Prop}
  {mu:List AV} (hP:Pure Γ.P f mu R) (ld:∀(a:Act) (w:World) (η:List Value) (us:List Value),Rel Γ s a w η→bF w (aU Γ w η s.hp) η s.hp (c.args.toList.map s.ev++caps) us→bF w (aU Γ w η s.hp) [] [] mu us) (hd:cw Γ.nt o.dst) {K:AS G→Prop} (hK:∀r,R r→K (s.put o.dst r)):bn Γ o s K:=by
 intro a w η Kc Qc hk hr
 have di:=hr.ev x
 rw[hx] at di
 generalize hv:a.eval x=v at di
 cases di with
 |aS _ _ vs hl cD=>
  refine⟨fun _ _=>trivial,?_⟩
  have bj:∀c',o.op ≠ .defer c':=by intro c' h;rw[ho] at h;cases h
  rw[Oper.semAt_eq _ _ _ bj,eB ho hc hP.1 hv]
  have ax:(c.args.map a.eval++vs)=(c.args.toList.map a.eval++vs.toList).toArray:=by apply Array.ext';simp
  have cS:bF w (aU Γ w η s.hp) η s.hp caps vs.toList:=cd (by simpa using hl) fun j y u hy hu=>cD j y u hy (by simpa using hu)
  have eZ:=ld a w η _ hr (cY _ _ (eU hr c.args.toList) cS)
  refine⟨fun h=>(by cases h),?_⟩
  rw[ax]
  have iB:=hP.2 w (aU Γ w η s.hp) _ (fun _ _=>dy) (hr.fX aq) eZ
  refine CallsIn.mono (F:=Γ.dA) ?_ (R:=fun e w'=>∃v r,e=.returned v∧R r∧bt w w'∧aV w' (Onto (aU Γ w η s.hp) w w') [] [] r v) fun e w' ⟨u,r,he,hR,hs,R8⟩=>?_
  ·exact iB
  ·subst he
   exact hk _ _ _ _ (hK r hR) ((hr.same aq hs).put (bG hd) ((R8.aY fun b o h=>tE aq hr hs h).lift))
def AV.oF (n:Nat) (hp:List af) (x:AV):AV:=if x.closed n=true then x else x.bh hp
theorem zT (hr:Rel Γ s a w η) (n:Nat):∀(xs:List AV) (vs:List Value),bF w (aU Γ w η s.hp) η s.hp xs vs→bF w (aU Γ w η s.hp) η s.hp (xs.map (AV.oF n s.hp)) vs
 | [],[],_=>True.intro
 |x::xs,v::vs,h=>⟨by
   unfold AV.oF
   split
   ·exact h.1
   ·exact(eV hr.heap hr.bA h.1).lift,zT hr n xs vs h.2⟩
 | [],_::_,h=>h.elim
 |_::_,[],h=>h.elim
theorem ky (hr:Rel Γ s a w η):∀(xs:List AV) (vs:List Value),bF w (aU Γ w η s.hp) η s.hp xs vs→bF w (aU Γ w η s.hp) [] [] (xs.map (AV.oF 0 s.hp)) vs
 | [],[],_=>True.intro
 |x::xs,v::vs,h=>⟨by
   unfold AV.oF
   split
   ·rename_i hc
    have:=k8 (n:=0) hc h.1
    simpa using this
   ·exact eV hr.heap hr.bA h.1,ky hr xs vs h.2⟩
 | [],_::_,h=>h.elim
 |_::_,[],h=>h.elim
end
end Go.Proofs.YtdcikhleahfknaaGreatDoor
