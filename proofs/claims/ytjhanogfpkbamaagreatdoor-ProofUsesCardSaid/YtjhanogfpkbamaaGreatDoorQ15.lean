/- Texts of ours laid together for a claim: VcF. -/
import Derived.Test.YtjhanogfpkbamaaGreatDoorQ14
namespace Go.Proofs.YtjhanogfpkbamaaGreatDoor
open Go
set_option linter.unusedSimpArgs false
set_option linter.unusedVariables false
variable {P:Program} {w w':World} {F F':Nat→Nat→Prop} {η aU:List Value} {hp hp' more:List af}
theorem sj {α:Type} {l m:List α} {r:Nat} (h:r<l.length):(l++m)[r]?=l[r]?:=aib h
theorem sk {α:Type} {l m:List α} {r:Nat} (h:l.length≤r):(l++m)[r]?=m[r-l.length]?:=aiz h
theorem vK {n:Nat}:∀{xs:List AV} {vs:List Value},xs.all (AV.closed n)=true→cH w F η hp xs vs→cH w F (η.take n) (hp.take n) xs vs
 | [],[],_,_=>True.intro
 |x::xs,v::vs,hc,h=>by
  simp only[ai5,ahZ] at hc
  exact⟨nT hc.1 h.1,vK hc.2 h.2⟩
 | [],_::_,_,h=>h.elim
 |_::_,[],_,h=>h.elim
theorem cG.mono {f:FuncId} {args:List AV} {R R':AV→List af→Prop} (h:cG P f args hp R) (hR:∀r h',R r h'→R' r h'):cG P f args hp R':=
 ⟨h.1,fun w F η bB bS hv=>(h.2 w F η bB bS hv).mono fun _ _ ⟨v,r,hp',aU,h1,h2,h3⟩=>⟨v,r,hp',aU,h1,hR r hp' h2,h3⟩⟩
theorem cG.frame {f:FuncId} {args:List AV} {R:AV→List af→Prop} (h:cG P f args hp R) (hR:∀r h',R r h'→h'.length=hp.length) (aI:args.all (AV.closed hp.length)=true) (eu:hp.all (af.closed hp.length)=true):
  cG P f args (hp++more) (fun r hp'=>∃h',hp'=h'++more∧R r h'):=by
 refine⟨h.1,fun w F η bB bS hv=>?_⟩
 have hlen:η.length=(hp++more).length:=bS.heap.len
 have hn:hp.length≤η.length:=by rw[hlen];simp
 have eS:η.take hp.length++η.drop hp.length=η:=aiq _ _
 have DA:(η.take hp.length).length=hp.length:=by simp;omega
 have Mi:∀{r:Nat},r<hp.length→(η.take hp.length)[r]?=η[r]?:=fun hr=>by rw[aik,if_pos hr]
 have gh:∀{r:Nat},r<hp.length→(hp++more)[r]?=hp[r]?:=fun hr=>sj hr
 have lU:(hp++more).take hp.length=hp:=ajD
 have Na:∀b o,mB η (hp++more) b o→mB (η.take hp.length) hp b o:=by
  intro b o hf r v hr hb
  have ay:r<hp.length:=by have:=(ahY.1 hr).1;rw[DA] at this;exact this
  have:=hf r v (by rw[←Mi ay];exact hr) hb
  rwa [gh ay] at this
 have p9:∀b,aQ (η.take hp.length) hp b→aQ η (hp++more) b:=by
  intro b ⟨r,o,v,h1,h2,h3,h4⟩
  have ay:r<hp.length:=(ahY.1 h1).1
  exact⟨r,o,v,by rw[gh ay];exact h1,h2,by rw[←Mi ay];exact h3,h4⟩
 have Nb:Eb w F (η.take hp.length) hp:=by
  refine⟨fun b o hb=>⟨(bS.bD b o hb).1,Na b o (bS.bD b o hb).2⟩,⟨DA,fun r o v h1 h2=>?_,fun r r' o o' v v' b bK h1 h2 l1 l2 e1 e2 hb=>?_⟩,fun b hb=>bS.live b (p9 b hb),bS.kg,fun b hb hl=>bS.gx b hb (p9 b hl)⟩
  ·have ay:r<hp.length:=(ahY.1 h1).1
   have eP:=bS.heap.obj r o v (by rw[gh ay];exact h1) (by rw[←Mi ay];exact h2)
   have hco:af.closed hp.length o=true:=ah4.1 eu o (aic h1)
   cases o with
   |dead=>exact True.intro
   |box cs=>
    obtain⟨b,vs,T,e1,e2,e3,e4⟩:=eP
    refine⟨b,vs,T,e1,e2,e3,fun j x u hx hu=>?_⟩
    have h5:=e4 j x u hx hu
    have hcx:x.aR hp.length=true:=ah4.1 hco x (aic hx)
    have h6:=eE (n:=hp.length) hcx h5.1
    rw[lU] at h6
    exact⟨h6,h5.2⟩
   |row e size els=>exact eP
   |cQ es=>exact eP
   |dD q k=>
    obtain⟨b,vs,e1,e2,e3,e4,u,e5,e6⟩:=eP
    have h6:=eE (n:=hp.length) (x:=.own q k) (by simpa [AV.aR,af.closed] using hco) e6
    rw[lU] at h6
    exact⟨b,vs,e1,e2,e3,e4,u,e5,h6⟩
   |bM e size els=>exact eP
   |eH e m ns=>exact eP
  ·have q1:r<hp.length:=(ahY.1 h1).1
   have q2:r' < hp.length:=(ahY.1 h2).1
   exact bS.heap.sep r r' o o' v v' b bK (by rw[gh q1];exact h1) (by rw[gh q2];exact h2) l1 l2 (by rw[←Mi q1];exact e1) (by rw[←Mi q2];exact e2) hb
 have hv1:cH w F (η.take hp.length) hp args bB:=by
  have:=vK (n:=hp.length) aI hv
  rwa [lU] at this
 refine(h.2 w F (η.take hp.length) bB Nb hv1).mono fun e w' ⟨v,r,h',pL,he,XY,cj⟩=>?_
 have oS:=hR r h' XY
 have XZ:pL.length=hp.length:=by rw[cj.heap.len];exact oS
 refine⟨v,r,h'++more,pL++η.drop hp.length,he,⟨h',rfl,XY⟩,?_⟩
 have tw:∀{r:Nat},hp.length≤r→(pL++η.drop hp.length)[r]?=η[r]?:=fun {r} hr=>by
  rw[sk (by omega),ajc,XZ];congr 1;omega
 have yI:∀{r:Nat},hp.length≤r→(h'++more)[r]?=(hp++more)[r]?:=fun {r} hr=>by
  rw[sk (by omega),sk hr,oS]
 have Mj:∀{r:Nat},r<hp.length→(pL++η.drop hp.length)[r]?=pL[r]?:=fun hr=>sj (by omega)
 have UU:∀{r:Nat},r<hp.length→(h'++more)[r]?=h'[r]?:=fun hr=>sj (by omega)
 have apart:∀{r:Nat} {o:af} {u:Value} {b:Nat},hp.length≤r→(hp++more)[r]?=some o→o.live→η[r]?=some u→dK u=some b→b<w.heap.size∧¬aQ (η.take hp.length) hp b:=by
  intro r o u b hr h1 h2 h3 h4
  refine⟨bS.live b ⟨r,o,u,h1,h2,h3,h4⟩,fun⟨r1,o1,v1,g1,g2,g3,g4⟩=>?_⟩
  have ay:r1<hp.length:=(ahY.1 g1).1
  exact bS.heap.sep r1 r o1 o v1 u b (by omega) (by rw[gh ay];exact g1) h1 g2 h2 (by rw[←Mi ay];exact g3) h3 g4 h4
 have En:∀b o,gJ F w (η.take hp.length) hp w' pL h' b o→gJ F w η (hp++more) w' (pL++η.drop hp.length) (h'++more) b o:=by
  intro b o ⟨h1,h2,h3⟩
  refine⟨h1.imp id (Or.imp id (p9 b)),h2,fun r u hr hb=>?_⟩
  by_cases ay:r<hp.length
  ·rw[Mj ay] at hr
   rw[UU ay]
   exact h3 r u hr hb
  ·have gQ:hp.length≤r:=by omega
   rw[tw gQ] at hr
   rw[yI gQ]
   have nH:r<(hp++more).length:=by rw[←hlen];exact(ahY.1 hr).1
   have ho:(hp++more)[r]?=some (hp++more)[r]:=by simp[nH]
   have key:(hp++more)[r].live→F b o:=by
    intro hl
    have ha:=apart gQ ho hl hr hb
    rcases h1 with h1|h1|h1
    ·exact h1
    ·omega
    ·exact(ha.2 h1).elim
   rw[ho]
   cases hk:(hp++more)[r] with
   |dead=>exact True.intro
   |_=>
    rw[hk] at key ho
    have:=(bS.bD b o (key True.intro)).2 r u hr hb
    rw[ho] at this
    exact this
 have UW:Ext w' (gJ F w (η.take hp.length) hp w' pL h') pL h' w' (gJ F w η (hp++more) w' (pL++η.drop hp.length) (h'++more)) (pL++η.drop hp.length) (h'++more):=by
  refine⟨fun _ _ _ _ h=>h,fun _ _ _ _ h=>h,En,fun r a hr=>?_,fun r a hr=>?_,fun r k u ho=>?_⟩
  ·rw[Mj (by have:=(ahY.1 hr).1;omega)];exact hr
  ·rw[Mj (by have:=(ahY.1 hr).1;omega)];exact hr
  ·unfold aY at ho ⊢
   by_cases ay:r<hp.length
   ·rw[Mj ay,UU ay];exact ho
   ·rw[aiG (by omega)] at ho;exact ho.elim
 have fI:Ext w F η (hp++more) w' (gJ F w η (hp++more) w' (pL++η.drop hp.length) (h'++more)) (pL++η.drop hp.length) (h'++more):=by
  refine⟨fun b o u hf hc=>cj.ext.cell b o u hf hc,fun b es c hf hc=>cj.ext.kJ b es c hf hc,fun b o hf=>En b o (cj.ext.bD b o hf),fun r a hr=>?_,fun r a hr=>?_,fun r k u ho=>?_⟩
  ·by_cases ay:r<hp.length
   ·rw[Mj ay];exact cj.ext.ptr r a (by rw[Mi ay];exact hr)
   ·rw[tw (by omega)];exact hr
  ·by_cases ay:r<hp.length
   ·rw[Mj ay];exact cj.ext.mp r a (by rw[Mi ay];exact hr)
   ·rw[tw (by omega)];exact hr
  ·by_cases ay:r<hp.length
   ·have h1:aY (η.take hp.length) hp r k u:=by
     unfold aY at ho ⊢
     rw[Mi ay];rwa [gh ay] at ho
    have:=cj.ext.own r k u h1
    unfold aY at this ⊢
    rw[Mj ay,UU ay];exact this
   ·unfold aY at ho ⊢
    rw[tw (by omega),yI (by omega)];exact ho
 refine⟨?_,fI,⟨by simp[XZ,oS,hlen],fun r o u h1 h2=>?_,fun r r' o o' v1 v2 b bK h1 h2 l1 l2 e1 e2 hb=>?_⟩,fun b ⟨r,o,u,h1,h2,h3,h4⟩=>?_,cj.rep.ext UW⟩
 ·exact⟨cj.keeps.os,cj.keeps.tape,cj.keeps.output,cj.keeps.size,fun k hk hx=>cj.keeps.block k hk fun hl=>hx (p9 k hl)⟩
 ·by_cases ay:r<hp.length
  ·rw[UU ay] at h1
   rw[Mj ay] at h2
   exact(cj.heap.obj r o u h1 h2).ext UW (ah5 _) fun _ _ _=>rfl
  ·have gQ:hp.length≤r:=by omega
   rw[yI gQ] at h1
   rw[tw gQ] at h2
   by_cases hl:o.live
   ·exact(bS.heap.obj r o u h1 h2).ext fI cj.keeps.size fun b hb uX=>cj.keeps.block b uX (apart gQ h1 hl h2 hb).2
   ·cases o<;>first|exact True.intro|exact(hl True.intro).elim
 ·have Eo:∀{r r':Nat} {o o':af} {v1 v2:Value} {b:Nat},r<hp.length→hp.length≤r'→h'[r]?=some o→(hp++more)[r']?=some o'→o.live→o'.live→pL[r]?=some v1→η[r']?=some v2→dK v1=some b→dK v2=some b→False:=by
   intro r r' o o' v1 v2 b _ fZ h1 h2 l1 l2 e1 e2 hb gb
   have ha:=apart fZ h2 l2 e2 gb
   rcases cj.cE b ⟨r,o,v1,h1,l1,e1,hb⟩ with h5|h5
   ·omega
   ·exact ha.2 h5
  by_cases q1:r<hp.length
  ·rw[UU q1] at h1
   rw[Mj q1] at e1
   by_cases q2:r' < hp.length
   ·rw[UU q2] at h2
    rw[Mj q2] at e2
    exact cj.heap.sep r r' o o' v1 v2 b bK h1 h2 l1 l2 e1 e2 hb
   ·have Q9:hp.length≤r':=by omega
    rw[yI Q9] at h2
    rw[tw Q9] at e2
    exact fun gb=>Eo q1 Q9 h1 h2 l1 l2 e1 e2 hb gb
  ·have q1':hp.length≤r:=by omega
   rw[yI q1'] at h1
   rw[tw q1'] at e1
   by_cases q2:r' < hp.length
   ·rw[UU q2] at h2
    rw[Mj q2] at e2
    exact fun gb=>Eo q2 q1' h2 h1 l2 l1 e2 e1 gb hb
   ·have Q9:hp.length≤r':=by omega
    rw[yI Q9] at h2
    rw[tw Q9] at e2
    exact bS.heap.sep r r' o o' v1 v2 b bK h1 h2 l1 l2 e1 e2 hb
 ·by_cases ay:r<hp.length
  ·rw[UU ay] at h1
   rw[Mj ay] at h3
   rcases cj.cE b ⟨r,o,u,h1,h2,h3,h4⟩ with h5|h5
   ·exact .inl h5
   ·exact .inr (p9 b h5)
  ·have gQ:hp.length≤r:=by omega
   rw[yI gQ] at h1
   rw[tw gQ] at h3
   exact .inr ⟨r,o,u,h1,h2,h3,h4⟩
section
variable {G:Type} {Γ:Env G} {s:AS G} {a:Act}
theorem bR.UX (aD:Γ.Ok) {o:Oper} {c:Call} (ho:o.op=.call c) {f:FuncId} {R:AV→List af→Prop} {qa:List AV} (hP:cG Γ.P f qa s.hp R)
  (VX:∀(a:Act) (w:World) (η:List Value),Rel Γ s a w η→∃us:List Value,(execOp a.eval o).run Γ.P w=.ok (.enter f us.toArray) w∧cH w (bn Γ w η s.hp) η s.hp qa us)
  (hd:dB Γ.nt o.dst) {K:AS G→Prop} (hK:∀r hp',R r hp'→K (AS.put { s with hp:=hp' } o.dst r)):bR Γ o s K:=by
 intro a w η Kc Qc hk hr
 obtain⟨us,VX,iC⟩:=VX a w η hr
 refine⟨fun _ _=>trivial,?_⟩
 have bK:∀c',o.op ≠ .defer c':=by intro c' h;rw[ho] at h;cases h
 rw[Oper.semAt_eq _ _ _ bK,VX]
 refine⟨fun h=>(by cases h),?_⟩
 have fo:∀b,aQ η s.hp b→b<w.heap.size∧(Γ.w0.heap.size≤b∨Γ.Y b)∧∀o,¬Γ.No b o:=fun b ⟨r,o,v,g1,g2,g3,g4⟩=>⟨hr.heap.block g1 g2 g3 g4,hr.cE r o v b g1 g2 g3 g4⟩
 have mR:=hP.2 w (bn Γ w η s.hp) η _ ⟨fun b o hf=>⟨hf.2.1,hf.2.2.2⟩,hr.heap,fun b hb=>(fo b hb).1,hr.kg aD,fun b hb hl=>hr.gx aD hb hl⟩ iC
 refine CallsIn.mono (F:=Γ.eV) (R:=fun e w'=>∃v r hp' aU,e=.returned v∧R r hp'∧yC w (bn Γ w η s.hp) η s.hp w' aU hp' r v) ?_ fun e w' ⟨u,r,hp',aU,he,hR,cj⟩=>?_
 ·exact mR
 ·subst he
  have Eh:∀b o,gJ (bn Γ w η s.hp) w η s.hp w' aU hp' b o→bn Γ w' aU hp' b o:=by
   intro b o ⟨h1,h2,h3⟩
   refine⟨?_,h2,?_,h3⟩
   ·rcases h1 with h1|h1|h1
    ·exact h1.1
    ·exact .inr (.inl (aiy hr.keeps.size h1))
    ·exact .inr (fo b h1).2.1
   ·rcases h1 with h1|h1|h1
    ·exact h1.2.2.1
    ·intro hx;have:=aD.no hx;have:=hr.keeps.size;omega
    ·exact(fo b h1).2.2 _
  have hex:∀{pL:List Value} {iM:List af},Ext w' (gJ (bn Γ w η s.hp) w η s.hp w' aU hp') pL iM w' (bn Γ w' aU hp') pL iM:=
   ⟨fun _ _ _ _ h=>h,fun _ _ _ _ h=>h,Eh,fun _ _ h=>h,fun _ _ h=>h,fun _ _ _ h=>h⟩
  have XT:=cj.ext.trans hex
  have fQ:Rel Γ { s with hp:=hp' } a w' aU:=by
   refine⟨hr.nt,fun t=>(hr.tmps t).ext XT,⟨cj.heap.len,fun r o v h1 h2=>(cj.heap.obj r o v h1 h2).ext hex (ah5 _) fun _ _ _=>rfl,cj.heap.sep⟩,fun r o v b h1 h2 h3 h4=>?_,?_,?_,?_,hr.ext.trans XT⟩
   ·rcases cj.cE b ⟨r,o,v,h1,h2,h3,h4⟩ with h5|h5
    ·exact⟨.inl (aiy hr.keeps.size h5),fun o hx=>by have:=aD.no hx;have:=hr.keeps.size;omega⟩
    ·exact(fo b h5).2
   ·refine hr.keeps.trans cj.keeps fun b hb hl=>?_
    rcases (fo b hl).2.1 with h1|h1
    ·omega
    ·exact .inr h1
   ·exact aD.pO _ _ _ (fun b hb=>cj.keeps.block b (aiD (aD.x b hb) hr.keeps.size) fun hl=>(fo b hl).2.2 0 (.inl hb)) cj.keeps.size hr.inv
   ·refine cj.keeps.marks hr.marks fun b hl=>.inr fun d hd=>?_
    obtain⟨r,o,v,g1,g2,g3,g4⟩:=hl
    have eP:=hr.heap.obj r o v g1 g3
    cases o with
    |dead=>exact g2.elim
    |box cs=>obtain⟨b',vs,T,rfl,q1,_⟩:=eP;simp only[dK,Option.some.injEq] at g4;subst g4;rw[hd] at q1;cases q1
    |row e size els=>obtain⟨_,xs,q1,_⟩:=eP;obtain⟨cur,q2⟩:=q1.lt g4;rw[hd] at q2;cases q2
    |cQ es=>obtain⟨b',en,c,rfl,q1,_⟩:=eP;simp only[dK,Option.some.injEq] at g4;subst g4;rw[hd] at q1;cases q1
    |dD q k=>obtain⟨b',vs,rfl,q1,_⟩:=eP;simp only[dK,Option.some.injEq] at g4;subst g4;rw[hd] at q1;cases q1
    |bM e size els=>obtain⟨_,xs,q1,_⟩:=eP;obtain⟨cur,q2⟩:=q1.lt g4;rw[hd] at q2;cases q2
    |eH e m ns=>obtain⟨cur,q2⟩:=ga.lt eP g4;rw[hd] at q2;cases q2
  exact hk _ _ _ _ (hK r hp' hR) (fQ.put (cA hd) (cj.rep.ext hex))
theorem bR.Nc (aD:Γ.Ok) {o:Oper} {c:Call} {x:Operand} (ho:o.op=.call c) (hc:c.callee=.value x) {f:FuncId} {caps:List AV} (hx:s.ev x=.ck f caps) {R:AV→List af→Prop}
  {qa:List AV} (hP:cG Γ.P f qa s.hp R) (nV:∀(a:Act) (w:World) (η:List Value) (us:List Value),Rel Γ s a w η→cH w (bn Γ w η s.hp) η s.hp (c.args.toList.map s.ev++caps) us→cH w (bn Γ w η s.hp) η s.hp qa us) (hd:dB Γ.nt o.dst) {K:AS G→Prop} (hK:∀r hp',R r hp'→K (AS.put { s with hp:=hp' } o.dst r)):bR Γ o s K:=by
 refine bR.UX aD ho hP (fun a w η hr=>?_) hd hK
 have eU:=hr.ev x
 rw[hx] at eU
 generalize hv:a.eval x=v at eU
 cases eU with
 |ck _ _ vs hl ec=>
  have aI:(c.args.map a.eval++vs)=(c.args.toList.map a.eval++vs.toList).toArray:=by apply ajm;simp
  exact⟨_,by rw[gC ho hc hP.1 hv,aI],nV a w η _ hr (eD _ _ (hO hr c.args.toList) (dF (by simpa using hl) fun j y u hy hu=>ec j y u hy (by simpa using hu)))⟩
theorem bR.X0 (aD:Γ.Ok) {o:Oper} {c:Call} {x:Operand} (ho:o.op=.call c) (hc:c.callee=.value x) {f:FuncId} {fst:List AV} (hx:s.ev x=.cX f fst) {R:AV→List af→Prop}
  {qa:List AV} (hP:cG Γ.P f qa s.hp R) (nV:∀(a:Act) (w:World) (η:List Value) (us:List Value),Rel Γ s a w η→cH w (bn Γ w η s.hp) η s.hp (fst++c.args.toList.map s.ev) us→cH w (bn Γ w η s.hp) η s.hp qa us) (hd:dB Γ.nt o.dst) {K:AS G→Prop} (hK:∀r hp',R r hp'→K (AS.put { s with hp:=hp' } o.dst r)):bR Γ o s K:=by
 refine bR.UX aD ho hP (fun a w η hr=>?_) hd hK
 have eU:=hr.ev x
 rw[hx] at eU
 generalize hv:a.eval x=v at eU
 cases eU with
 |cX _ _ vs hl ec=>
  have aI:(vs++c.args.map a.eval)=(vs.toList++c.args.toList.map a.eval).toArray:=by apply ajm;simp
  refine⟨_,?_,nV a w η _ hr (eD fst vs.toList (dF (by rw[aiL];exact hl) fun j y u hy hu=>ec j y u hy (by simpa using hu)) (hO hr c.args.toList))⟩
  rw[←aI]
  simp[execOp,ho,resolve,hc,hv,Deferred.ofValue,invoke,nN hP.1]
theorem bR.X1 (aD:Γ.Ok) {o:Oper} {c:Call} {x:Operand} (ho:o.op=.call c) (hc:c.callee=.value x) {f:FuncId} {caps:List AV} (hx:s.ev x=.ck f caps) {R:AV→Prop}
  {qa:List AV} (hP:Pure Γ.P f qa R) (nV:∀(a:Act) (w:World) (η:List Value) (us:List Value),Rel Γ s a w η→cH w (bn Γ w η s.hp) η s.hp (c.args.toList.map s.ev++caps) us→cH w (bn Γ w η s.hp) [] [] qa us) (hd:dB Γ.nt o.dst) {K:AS G→Prop} (hK:∀r,R r→K (s.put o.dst r)):bR Γ o s K:=by
 intro a w η Kc Qc hk hr
 have eU:=hr.ev x
 rw[hx] at eU
 generalize hv:a.eval x=v at eU
 cases eU with
 |ck _ _ vs hl ec=>
  refine⟨fun _ _=>trivial,?_⟩
  have bK:∀c',o.op ≠ .defer c':=by intro c' h;rw[ho] at h;cases h
  rw[Oper.semAt_eq _ _ _ bK,gC ho hc hP.1 hv]
  have aI:(c.args.map a.eval++vs)=(c.args.toList.map a.eval++vs.toList).toArray:=by apply ajm;simp
  have eu:cH w (bn Γ w η s.hp) η s.hp caps vs.toList:=dF (by simpa using hl) fun j y u hy hu=>ec j y u hy (by simpa using hu)
  have iC:=nV a w η _ hr (eD _ _ (hO hr c.args.toList) eu)
  refine⟨fun h=>(by cases h),?_⟩
  rw[aI]
  have mR:=hP.2 w (bn Γ w η s.hp) _ (fun _ _=>fz) (hr.kg aD) iC
  refine CallsIn.mono (F:=Γ.eV) ?_ (R:=fun e w'=>∃v r,e=.returned v∧R r∧bX w w'∧bw w' (Ho (bn Γ w η s.hp) w w') [] [] r v) fun e w' ⟨u,r,he,hR,hs,XL⟩=>?_
  ·exact mR
  ·subst he
   exact hk _ _ _ _ (hK r hR) ((hr.same aD hs).put (cA hd) ((XL.bD fun b o h=>yx aD hr hs h).lift))
def AV.sn (n:Nat) (hp:List af) (x:AV):AV:=if x.closed n=true then x else x.cm hp
theorem Ep (hr:Rel Γ s a w η) (n:Nat):∀(xs:List AV) (vs:List Value),cH w (bn Γ w η s.hp) η s.hp xs vs→cH w (bn Γ w η s.hp) η s.hp (xs.map (AV.sn n s.hp)) vs
 | [],[],_=>True.intro
 |x::xs,v::vs,h=>⟨by
   unfold AV.sn
   split
   ·exact h.1
   ·exact(jx hr.heap hr.cE h.1).lift,Ep hr n xs vs h.2⟩
 | [],_::_,h=>h.elim
 |_::_,[],h=>h.elim
theorem nh (hr:Rel Γ s a w η):∀(xs:List AV) (vs:List Value),cH w (bn Γ w η s.hp) η s.hp xs vs→cH w (bn Γ w η s.hp) [] [] (xs.map (AV.sn 0 s.hp)) vs
 | [],[],_=>True.intro
 |x::xs,v::vs,h=>⟨by
   unfold AV.sn
   split
   ·rename_i hc
    have:=nT (n:=0) hc h.1
    simpa using this
   ·exact jx hr.heap hr.cE h.1,nh hr xs vs h.2⟩
 | [],_::_,h=>h.elim
 |_::_,[],h=>h.elim
end
end Go.Proofs.YtjhanogfpkbamaaGreatDoor
