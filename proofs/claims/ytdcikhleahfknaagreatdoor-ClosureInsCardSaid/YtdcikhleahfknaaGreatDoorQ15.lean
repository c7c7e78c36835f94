/- Texts of ours laid together for a claim: VcF. -/
import Derived.Test.YtdcikhleahfknaaGreatDoorQ14
namespace Go.Proofs.YtdcikhleahfknaaGreatDoor
open Go
set_option linter.unusedSimpArgs false
set_option linter.unusedVariables false
variable {P:Program} {w w':World} {F F':Nat→Nat→Prop} {η aH:List Value} {hp hp' more:List af}
theorem oX {α:Type} {l m:List α} {r:Nat} (h:r<l.length):(l++m)[r]?=l[r]?:=List.getElem?_append_left h
theorem oY {α:Type} {l m:List α} {r:Nat} (h:l.length≤r):(l++m)[r]?=m[r-l.length]?:=List.getElem?_append_right h
theorem r3 {n:Nat}:∀{xs:List AV} {vs:List Value},xs.all (AV.closed n)=true→bM w F η hp xs vs→bM w F (η.take n) (hp.take n) xs vs
 | [],[],_,_=>True.intro
 |x::xs,v::vs,hc,h=>by
  simp only[List.all_cons,Bool.and_eq_true] at hc
  exact⟨lH hc.1 h.1,r3 hc.2 h.2⟩
 | [],_::_,_,h=>h.elim
 |_::_,[],_,h=>h.elim
theorem bp.mono {f:FuncId} {args:List AV} {R R':AV→List af→Prop} (h:bp P f args hp R) (hR:∀r h',R r h'→R' r h'):bp P f args hp R':=
 ⟨h.1,fun w F η aU aJ hv=>(h.2 w F η aU aJ hv).mono fun _ _ ⟨v,r,hp',aH,h1,h2,h3⟩=>⟨v,r,hp',aH,h1,hR r hp' h2,h3⟩⟩
theorem Pure.of_nil {f:FuncId} {rest:List AV} {e size:Nat} {R:AV→List af→Prop} (hs:0<size) (h:bp P f (.own 0 0::rest) [.row e size []] R) (kW:rest.all (AV.closed 0)=true):
  Pure P f (.ae (.slice none 0 0)::rest) (fun x=>∃r hp',R r hp'∧x=r.bj hp'):=by
 refine⟨h.1,fun w F aU hF hg hv=>?_⟩
 cases aU with
 |nil=>exact hv.elim
 |cons v aU=>
  have h0:=hv.1.al
  subst h0
  have aJ:oB w F [.slice none 0 0] [.row e size []]:=by
   refine⟨fun b o hb=>⟨hF b o hb,fun r u hr nP=>?_⟩,⟨rfl,fun r o u h1 h2=>?_,fun r r' o o' u u' b bh h1 h2=>?_⟩,fun b ⟨r,o,u,h1,h2,h3,h4⟩=>?_,hg,fun b _ ⟨r,o,u,h1,h2,h3,h4⟩=>?_⟩
   ·cases r with
    |zero=>simp at hr;subst hr;simp[bU] at nP
    |succ r=>simp at hr
   ·cases r with
    |zero=>
     simp at h1 h2
     subst h1;subst h2
     exact⟨hs,[],⟨by simp,.inl ⟨rfl,.inl rfl⟩⟩,fun i el hi=>by simp at hi⟩
    |succ r=>simp at h1
   ·have q1:r<1:=by have:=(List.getElem?_eq_some_iff.1 h1).1;simpa using this
    have q2:r' < 1:=by have:=(List.getElem?_eq_some_iff.1 h2).1;simpa using this
    omega
   ·cases r with
    |zero=>simp at h3;subst h3;simp[bU] at h4
    |succ r=>simp at h1
   ·cases r with
    |zero=>simp at h3;subst h3;simp[bU] at h4
    |succ r=>simp at h1
  have hrl:∀(xs:List AV) (us:List Value),xs.all (AV.closed 0)=true→bM w F [] [] xs us→bM w F [.slice none 0 0] [.row e size []] xs us:=fun xs us _ hx=>
   hx.ext ⟨fun _ _ _ _ h=>h,fun _ _ _ _ h=>h,fun _ _ h=>h,fun _ _ h=>by simp at h,fun _ _ h=>by simp at h,fun _ _ _ h=>by simp[aT] at h⟩
  have T8:bM w F [.slice none 0 0] [.row e size []] (.own 0 0::rest) (.slice none 0 0::aU):=
   ⟨.own 0 0 _ rfl (by unfold aT;exact⟨Nat.le_refl _,fun _=>rfl⟩),hrl rest aU kW hv.2⟩
  refine(h.2 w F _ _ aJ T8).mono fun en w' ⟨u,r,hp',aH,he,hR,bc⟩=>?_
  refine⟨u,_,he,⟨r,hp',hR,rfl⟩,bc.keeps.same fun b _ ⟨q,o,z,g1,g2,g3,g4⟩=>?_,?_⟩
  ·cases q with
   |zero=>simp at g3;subst g3;simp[bU] at g4
   |succ q=>simp at g1
  ·let Γ:Env Unit:={ P:=P,w0:=w,F0:=F,X:=fun _=>False,Y:=aE [.slice none 0 0] [.row e size []],Inv:=fun _ _=>True,nt:=0,wP:=none,m0:=fun r=>w.heap.size≤r,Z:=fun _ _=>False,vZ:=[.slice none 0 0],iV:=[.row e size []] }
   have wg:∀b o,bG F w [.slice none 0 0] [.row e size []] w' aH hp' b o→aW Γ w' aH hp' b o:=fun b o hb=>⟨hb.1,hb.2.1,fun hx=>hx.elim (fun h=>h) fun h=>h,hb.2.2⟩
   have hex:∀{iU:List Value} {ff:List af},Ext w' (bG F w [.slice none 0 0] [.row e size []] w' aH hp') iU ff w' (aW Γ w' aH hp') iU ff:=
    ⟨fun _ _ _ _ h=>h,fun _ _ _ _ h=>h,wg,fun _ _ h=>h,fun _ _ h=>h,fun _ _ _ h=>h⟩
   have iC:cX w' (aW Γ w' aH hp') aH hp':=⟨bc.heap.len,fun r o v h1 h2=>(bc.heap.obj r o v h1 h2).ext hex (Nat.le_refl _) fun _ _ _=>rfl,bc.heap.sep⟩
   have A8:sU Γ aH hp':=fun r o v b h1 hl h2 hb=>by
    rcases bc.bA b ⟨r,o,v,h1,hl,h2,hb⟩ with h5|h5
    ·exact⟨.inl h5,fun o hx=>hx.elim (fun h=>h) fun h=>h⟩
    ·exact⟨.inr h5,fun o hx=>hx.elim (fun h=>h) fun h=>h⟩
   refine(fu iC A8 (bc.rep.ext hex)).bb fun b o hf=>?_
   rcases hf.1 with h3|h3|⟨q,o1,z,g1,g2,g3,g4⟩
   ·exact .inl h3
   ·exact .inr ⟨h3,hf.2.1⟩
   ·cases q with
    |zero=>simp at g3;subst g3;simp[bU] at g4
    |succ q=>simp at g1
theorem bp.frame {f:FuncId} {args:List AV} {R:AV→List af→Prop} (h:bp P f args hp R) (hR:∀r h',R r h'→h'.length=hp.length) (aw:args.all (AV.closed hp.length)=true) (cS:hp.all (af.closed hp.length)=true):
  bp P f args (hp++more) (fun r hp'=>∃h',hp'=h'++more∧R r h'):=by
 refine⟨h.1,fun w F η aU aJ hv=>?_⟩
 have hlen:η.length=(hp++more).length:=aJ.heap.len
 have hn:hp.length≤η.length:=by rw[hlen];simp
 have dE:η.take hp.length++η.drop hp.length=η:=List.take_append_drop _ _
 have As:(η.take hp.length).length=hp.length:=by simp;omega
 have wi:∀{r:Nat},r<hp.length→(η.take hp.length)[r]?=η[r]?:=fun hr=>by rw[List.getElem?_take,if_pos hr]
 have gh:∀{r:Nat},r<hp.length→(hp++more)[r]?=hp[r]?:=fun hr=>oX hr
 have jH:(hp++more).take hp.length=hp:=List.take_left
 have Jy:∀b o,gO η (hp++more) b o→gO (η.take hp.length) hp b o:=by
  intro b o hf r v hr hb
  have ak:r<hp.length:=by have:=(List.getElem?_eq_some_iff.1 hr).1;rw[As] at this;exact this
  have:=hf r v (by rw[←wi ak];exact hr) hb
  rwa [gh ak] at this
 have mZ:∀b,aE (η.take hp.length) hp b→aE η (hp++more) b:=by
  intro b ⟨r,o,v,h1,h2,h3,h4⟩
  have ak:r<hp.length:=(List.getElem?_eq_some_iff.1 h1).1
  exact⟨r,o,v,by rw[gh ak];exact h1,h2,by rw[←wi ak];exact h3,h4⟩
 have Jz:oB w F (η.take hp.length) hp:=by
  refine⟨fun b o hb=>⟨(aJ.bb b o hb).1,Jy b o (aJ.bb b o hb).2⟩,⟨As,fun r o v h1 h2=>?_,fun r r' o o' v v' b bh h1 h2 l1 l2 e1 e2 hb=>?_⟩,fun b hb=>aJ.live b (mZ b hb),aJ.gz,fun b hb hl=>aJ.gx b hb (mZ b hl)⟩
  ·have ak:r<hp.length:=(List.getElem?_eq_some_iff.1 h1).1
   have cW:=aJ.heap.obj r o v (by rw[gh ak];exact h1) (by rw[←wi ak];exact h2)
   have hco:af.closed hp.length o=true:=List.all_eq_true.1 cS o (List.mem_of_getElem? h1)
   cases o with
   |dead=>exact True.intro
   |box cs=>
    obtain⟨b,vs,T,e1,e2,e3,e4⟩:=cW
    refine⟨b,vs,T,e1,e2,e3,fun j x u hx hu=>?_⟩
    have h5:=e4 j x u hx hu
    have hcx:x.aM hp.length=true:=List.all_eq_true.1 hco x (List.mem_of_getElem? hx)
    have h6:=dy (n:=hp.length) hcx h5.1
    rw[jH] at h6
    exact⟨h6,h5.2⟩
   |row e size els=>exact cW
   |aB es=>exact cW
   |cA q k=>
    obtain⟨b,vs,e1,e2,e3,e4,u,e5,e6⟩:=cW
    have h6:=dy (n:=hp.length) (x:=.own q k) (by simpa [AV.aM,af.closed] using hco) e6
    rw[jH] at h6
    exact⟨b,vs,e1,e2,e3,e4,u,e5,h6⟩
   |aI e size els=>exact cW
   |dB e m ns=>exact cW
  ·have q1:r<hp.length:=(List.getElem?_eq_some_iff.1 h1).1
   have q2:r' < hp.length:=(List.getElem?_eq_some_iff.1 h2).1
   exact aJ.heap.sep r r' o o' v v' b bh (by rw[gh q1];exact h1) (by rw[gh q2];exact h2) l1 l2 (by rw[←wi q1];exact e1) (by rw[←wi q2];exact e2) hb
 have T8:bM w F (η.take hp.length) hp args aU:=by
  have:=r3 (n:=hp.length) aw hv
  rwa [jH] at this
 refine(h.2 w F (η.take hp.length) aU Jz T8).mono fun e w' ⟨v,r,h',iU,he,T9,bc⟩=>?_
 have pN:=hR r h' T9
 have Ua:iU.length=hp.length:=by rw[bc.heap.len];exact pN
 refine⟨v,r,h'++more,iU++η.drop hp.length,he,⟨h',rfl,T9⟩,?_⟩
 have pX:∀{r:Nat},hp.length≤r→(iU++η.drop hp.length)[r]?=η[r]?:=fun {r} hr=>by
  rw[oY (by omega),List.getElem?_drop,Ua];congr 1;omega
 have uE:∀{r:Nat},hp.length≤r→(h'++more)[r]?=(hp++more)[r]?:=fun {r} hr=>by
  rw[oY (by omega),oY hr,pN]
 have IP:∀{r:Nat},r<hp.length→(iU++η.drop hp.length)[r]?=iU[r]?:=fun hr=>oX (by omega)
 have QK:∀{r:Nat},r<hp.length→(h'++more)[r]?=h'[r]?:=fun hr=>oX (by omega)
 have apart:∀{r:Nat} {o:af} {u:Value} {b:Nat},hp.length≤r→(hp++more)[r]?=some o→o.live→η[r]?=some u→bU u=some b→b<w.heap.size∧¬aE (η.take hp.length) hp b:=by
  intro r o u b hr h1 h2 h3 h4
  refine⟨aJ.live b ⟨r,o,u,h1,h2,h3,h4⟩,fun⟨r1,o1,v1,g1,g2,g3,g4⟩=>?_⟩
  have ak:r1<hp.length:=(List.getElem?_eq_some_iff.1 g1).1
  exact aJ.heap.sep r1 r o1 o v1 u b (by omega) (by rw[gh ak];exact g1) h1 g2 h2 (by rw[←wi ak];exact g3) h3 g4 h4
 have A9:∀b o,bG F w (η.take hp.length) hp w' iU h' b o→bG F w η (hp++more) w' (iU++η.drop hp.length) (h'++more) b o:=by
  intro b o ⟨h1,h2,h3⟩
  refine⟨h1.imp id (Or.imp id (mZ b)),h2,fun r u hr hb=>?_⟩
  by_cases ak:r<hp.length
  ·rw[IP ak] at hr
   rw[QK ak]
   exact h3 r u hr hb
  ·have v7:hp.length≤r:=by omega
   rw[pX v7] at hr
   rw[uE v7]
   have lr:r<(hp++more).length:=by rw[←hlen];exact(List.getElem?_eq_some_iff.1 hr).1
   have ho:(hp++more)[r]?=some (hp++more)[r]:=by simp[lr]
   have key:(hp++more)[r].live→F b o:=by
    intro hl
    have ha:=apart v7 ho hl hr hb
    rcases h1 with h1|h1|h1
    ·exact h1
    ·omega
    ·exact(ha.2 h1).elim
   rw[ho]
   cases hk:(hp++more)[r] with
   |dead=>exact True.intro
   |_=>
    rw[hk] at key ho
    have:=(aJ.bb b o (key True.intro)).2 r u hr hb
    rw[ho] at this
    exact this
 have QL:Ext w' (bG F w (η.take hp.length) hp w' iU h') iU h' w' (bG F w η (hp++more) w' (iU++η.drop hp.length) (h'++more)) (iU++η.drop hp.length) (h'++more):=by
  refine⟨fun _ _ _ _ h=>h,fun _ _ _ _ h=>h,A9,fun r a hr=>?_,fun r a hr=>?_,fun r k u ho=>?_⟩
  ·rw[IP (by have:=(List.getElem?_eq_some_iff.1 hr).1;omega)];exact hr
  ·rw[IP (by have:=(List.getElem?_eq_some_iff.1 hr).1;omega)];exact hr
  ·unfold aT at ho ⊢
   by_cases ak:r<hp.length
   ·rw[IP ak,QK ak];exact ho
   ·rw[List.getElem?_eq_none (by omega)] at ho;exact ho.elim
 have bZ:Ext w F η (hp++more) w' (bG F w η (hp++more) w' (iU++η.drop hp.length) (h'++more)) (iU++η.drop hp.length) (h'++more):=by
  refine⟨fun b o u hf hc=>bc.ext.cell b o u hf hc,fun b es c hf hc=>bc.ext.gp b es c hf hc,fun b o hf=>A9 b o (bc.ext.bb b o hf),fun r a hr=>?_,fun r a hr=>?_,fun r k u ho=>?_⟩
  ·by_cases ak:r<hp.length
   ·rw[IP ak];exact bc.ext.ptr r a (by rw[wi ak];exact hr)
   ·rw[pX (by omega)];exact hr
  ·by_cases ak:r<hp.length
   ·rw[IP ak];exact bc.ext.mp r a (by rw[wi ak];exact hr)
   ·rw[pX (by omega)];exact hr
  ·by_cases ak:r<hp.length
   ·have h1:aT (η.take hp.length) hp r k u:=by
     unfold aT at ho ⊢
     rw[wi ak];rwa [gh ak] at ho
    have:=bc.ext.own r k u h1
    unfold aT at this ⊢
    rw[IP ak,QK ak];exact this
   ·unfold aT at ho ⊢
    rw[pX (by omega),uE (by omega)];exact ho
 refine⟨?_,bZ,⟨by simp[Ua,pN,hlen],fun r o u h1 h2=>?_,fun r r' o o' v1 v2 b bh h1 h2 l1 l2 e1 e2 hb=>?_⟩,fun b ⟨r,o,u,h1,h2,h3,h4⟩=>?_,bc.rep.ext QL⟩
 ·exact⟨bc.keeps.os,bc.keeps.tape,bc.keeps.output,bc.keeps.size,fun k hk hx=>bc.keeps.block k hk fun hl=>hx (mZ k hl)⟩
 ·by_cases ak:r<hp.length
  ·rw[QK ak] at h1
   rw[IP ak] at h2
   exact(bc.heap.obj r o u h1 h2).ext QL (Nat.le_refl _) fun _ _ _=>rfl
  ·have v7:hp.length≤r:=by omega
   rw[uE v7] at h1
   rw[pX v7] at h2
   by_cases hl:o.live
   ·exact(aJ.heap.obj r o u h1 h2).ext bZ bc.keeps.size fun b hb RU=>bc.keeps.block b RU (apart v7 h1 hl h2 hb).2
   ·cases o<;>first|exact True.intro|exact(hl True.intro).elim
 ·have Ba:∀{r r':Nat} {o o':af} {v1 v2:Value} {b:Nat},r<hp.length→hp.length≤r'→h'[r]?=some o→(hp++more)[r']?=some o'→o.live→o'.live→iU[r]?=some v1→η[r']?=some v2→bU v1=some b→bU v2=some b→False:=by
   intro r r' o o' v1 v2 b _ ec h1 h2 l1 l2 e1 e2 hb er
   have ha:=apart ec h2 l2 e2 er
   rcases bc.bA b ⟨r,o,v1,h1,l1,e1,hb⟩ with h5|h5
   ·omega
   ·exact ha.2 h5
  by_cases q1:r<hp.length
  ·rw[QK q1] at h1
   rw[IP q1] at e1
   by_cases q2:r' < hp.length
   ·rw[QK q2] at h2
    rw[IP q2] at e2
    exact bc.heap.sep r r' o o' v1 v2 b bh h1 h2 l1 l2 e1 e2 hb
   ·have NF:hp.length≤r':=by omega
    rw[uE NF] at h2
    rw[pX NF] at e2
    exact fun er=>Ba q1 NF h1 h2 l1 l2 e1 e2 hb er
  ·have Ya:hp.length≤r:=by omega
   rw[uE Ya] at h1
   rw[pX Ya] at e1
   by_cases q2:r' < hp.length
   ·rw[QK q2] at h2
    rw[IP q2] at e2
    exact fun er=>Ba q2 Ya h2 h1 l2 l1 e2 e1 er hb
   ·have NF:hp.length≤r':=by omega
    rw[uE NF] at h2
    rw[pX NF] at e2
    exact aJ.heap.sep r r' o o' v1 v2 b bh h1 h2 l1 l2 e1 e2 hb
 ·by_cases ak:r<hp.length
  ·rw[QK ak] at h1
   rw[IP ak] at h3
   rcases bc.bA b ⟨r,o,u,h1,h2,h3,h4⟩ with h5|h5
   ·exact .inl h5
   ·exact .inr (mZ b h5)
  ·have v7:hp.length≤r:=by omega
   rw[uE v7] at h1
   rw[pX v7] at h3
   exact .inr ⟨r,o,u,h1,h2,h3,h4⟩
section
variable {G:Type} {Γ:Env G} {s:AS G} {a:Act}
theorem bn.QM (ao:Γ.Ok) {o:Oper} {c:Call} (ho:o.op=.call c) {f:FuncId} {R:AV→List af→Prop} {na:List AV} (hP:bp Γ.P f na s.hp R)
  (RV:∀(a:Act) (w:World) (η:List Value),Rel Γ s a w η→∃us:List Value,(execOp a.eval o).run Γ.P w=.ok (.enter f us.toArray) w∧bM w (aW Γ w η s.hp) η s.hp na us)
  (hd:cx Γ.nt o.dst) {K:AS G→Prop} (hK:∀r hp',R r hp'→K (AS.put { s with hp:=hp' } o.dst r)):bn Γ o s K:=by
 intro a w η Kc Qc hk hr
 obtain⟨us,RV,fC⟩:=RV a w η hr
 refine⟨fun _ _=>trivial,?_⟩
 have bh:∀c',o.op ≠ .defer c':=by intro c' h;rw[ho] at h;cases h
 rw[Oper.semAt_eq _ _ _ bh,RV]
 refine⟨fun h=>(by cases h),?_⟩
 have dw:∀b,aE η s.hp b→b<w.heap.size∧(Γ.w0.heap.size≤b∨Γ.Y b)∧∀o,¬Γ.No b o:=fun b ⟨r,o,v,g1,g2,g3,g4⟩=>⟨hr.heap.block g1 g2 g3 g4,hr.bA r o v b g1 g2 g3 g4⟩
 have jc:=hP.2 w (aW Γ w η s.hp) η _ ⟨fun b o hf=>⟨hf.2.1,hf.2.2.2⟩,hr.heap,fun b hb=>(dw b hb).1,hr.gz ao,fun b hb hl=>hr.gx ao hb hl⟩ fC
 refine CallsIn.mono (F:=Γ.dM) (R:=fun e w'=>∃v r hp' aH,e=.returned v∧R r hp'∧eg w (aW Γ w η s.hp) η s.hp w' aH hp' r v) ?_ fun e w' ⟨u,r,hp',aH,he,hR,bc⟩=>?_
 ·exact jc
 ·subst he
  have wg:∀b o,bG (aW Γ w η s.hp) w η s.hp w' aH hp' b o→aW Γ w' aH hp' b o:=by
   intro b o ⟨h1,h2,h3⟩
   refine⟨?_,h2,?_,h3⟩
   ·rcases h1 with h1|h1|h1
    ·exact h1.1
    ·exact .inr (.inl (Nat.le_trans hr.keeps.size h1))
    ·exact .inr (dw b h1).2.1
   ·rcases h1 with h1|h1|h1
    ·exact h1.2.2.1
    ·intro hx;have:=ao.no hx;have:=hr.keeps.size;omega
    ·exact(dw b h1).2.2 _
  have hex:∀{iU:List Value} {ff:List af},Ext w' (bG (aW Γ w η s.hp) w η s.hp w' aH hp') iU ff w' (aW Γ w' aH hp') iU ff:=
   ⟨fun _ _ _ _ h=>h,fun _ _ _ _ h=>h,wg,fun _ _ h=>h,fun _ _ h=>h,fun _ _ _ h=>h⟩
  have RS:=bc.ext.trans hex
  have hrel:Rel Γ { s with hp:=hp' } a w' aH:=by
   refine⟨hr.nt,fun t=>(hr.tmps t).ext RS,⟨bc.heap.len,fun r o v h1 h2=>(bc.heap.obj r o v h1 h2).ext hex (Nat.le_refl _) fun _ _ _=>rfl,bc.heap.sep⟩,fun r o v b h1 h2 h3 h4=>?_,?_,?_,?_,hr.ext.trans RS⟩
   ·rcases bc.bA b ⟨r,o,v,h1,h2,h3,h4⟩ with h5|h5
    ·exact⟨.inl (Nat.le_trans hr.keeps.size h5),fun o hx=>by have:=ao.no hx;have:=hr.keeps.size;omega⟩
    ·exact(dw b h5).2
   ·refine hr.keeps.trans bc.keeps fun b hb hl=>?_
    rcases (dw b hl).2.1 with h1|h1
    ·omega
    ·exact .inr h1
   ·exact ao.mJ _ _ _ (fun b hb=>bc.keeps.block b (Nat.lt_of_lt_of_le (ao.x b hb) hr.keeps.size) fun hl=>(dw b hl).2.2 0 (.inl hb)) bc.keeps.size hr.inv
   ·refine bc.keeps.marks hr.marks fun b hl=>.inr fun d hd=>?_
    obtain⟨r,o,v,g1,g2,g3,g4⟩:=hl
    have cW:=hr.heap.obj r o v g1 g3
    cases o with
    |dead=>exact g2.elim
    |box cs=>obtain⟨b',vs,T,rfl,q1,_⟩:=cW;simp only[bU,Option.some.injEq] at g4;subst g4;rw[hd] at q1;cases q1
    |row e size els=>obtain⟨_,xs,q1,_⟩:=cW;obtain⟨cur,q2⟩:=q1.lt g4;rw[hd] at q2;cases q2
    |aB es=>obtain⟨b',en,c,rfl,q1,_⟩:=cW;simp only[bU,Option.some.injEq] at g4;subst g4;rw[hd] at q1;cases q1
    |cA q k=>obtain⟨b',vs,rfl,q1,_⟩:=cW;simp only[bU,Option.some.injEq] at g4;subst g4;rw[hd] at q1;cases q1
    |aI e size els=>obtain⟨_,xs,q1,_⟩:=cW;obtain⟨cur,q2⟩:=q1.lt g4;rw[hd] at q2;cases q2
    |dB e m ns=>obtain⟨cur,q2⟩:=eA.lt cW g4;rw[hd] at q2;cases q2
  exact hk _ _ _ _ (hK r hp' hR) (hrel.put (bN hd) (bc.rep.ext hex))
theorem bn.JA (ao:Γ.Ok) {o:Oper} {c:Call} {x:Operand} (ho:o.op=.call c) (hc:c.callee=.value x) {f:FuncId} {caps:List AV} (hx:s.ev x=.aK f caps) {R:AV→List af→Prop}
  {na:List AV} (hP:bp Γ.P f na s.hp R) (lJ:∀(a:Act) (w:World) (η:List Value) (us:List Value),Rel Γ s a w η→bM w (aW Γ w η s.hp) η s.hp (c.args.toList.map s.ev++caps) us→bM w (aW Γ w η s.hp) η s.hp na us) (hd:cx Γ.nt o.dst) {K:AS G→Prop} (hK:∀r hp',R r hp'→K (AS.put { s with hp:=hp' } o.dst r)):bn Γ o s K:=by
 refine bn.QM ao ho hP (fun a w η hr=>?_) hd hK
 have dC:=hr.ev x
 rw[hx] at dC
 generalize hv:a.eval x=v at dC
 cases dC with
 |aK _ _ vs hl cE=>
  have aw:(c.args.map a.eval++vs)=(c.args.toList.map a.eval++vs.toList).toArray:=by apply Array.ext';simp
  exact⟨_,by rw[eX ho hc hP.1 hv,aw],lJ a w η _ hr (dx _ _ (ft hr c.args.toList) (cf (by simpa using hl) fun j y u hy hu=>cE j y u hy (by simpa using hu)))⟩
theorem bn.Ub (ao:Γ.Ok) {o:Oper} {c:Call} {x:Operand} (ho:o.op=.call c) (hc:c.callee=.value x) {f:FuncId} {fst:List AV} (hx:s.ev x=.cK f fst) {R:AV→List af→Prop}
  {na:List AV} (hP:bp Γ.P f na s.hp R) (lJ:∀(a:Act) (w:World) (η:List Value) (us:List Value),Rel Γ s a w η→bM w (aW Γ w η s.hp) η s.hp (fst++c.args.toList.map s.ev) us→bM w (aW Γ w η s.hp) η s.hp na us) (hd:cx Γ.nt o.dst) {K:AS G→Prop} (hK:∀r hp',R r hp'→K (AS.put { s with hp:=hp' } o.dst r)):bn Γ o s K:=by
 refine bn.QM ao ho hP (fun a w η hr=>?_) hd hK
 have dC:=hr.ev x
 rw[hx] at dC
 generalize hv:a.eval x=v at dC
 cases dC with
 |cK _ _ vs hl cE=>
  have aw:(vs++c.args.map a.eval)=(vs.toList++c.args.toList.map a.eval).toArray:=by apply Array.ext';simp
  refine⟨_,?_,lJ a w η _ hr (dx fst vs.toList (cf (by rw[Array.length_toList];exact hl) fun j y u hy hu=>cE j y u hy (by simpa using hu)) (ft hr c.args.toList))⟩
  rw[←aw]
  simp[execOp,ho,resolve,hc,hv,Deferred.ofValue,invoke,iI hP.1]
theorem bn.Uc (ao:Γ.Ok) {o:Oper} {c:Call} {x:Operand} (ho:o.op=.call c) (hc:c.callee=.value x) {f:FuncId} {caps:List AV} (hx:s.ev x=.aK f caps) {R:AV→Prop}
  {na:List AV} (hP:Pure Γ.P f na R) (lJ:∀(a:Act) (w:World) (η:List Value) (us:List Value),Rel Γ s a w η→bM w (aW Γ w η s.hp) η s.hp (c.args.toList.map s.ev++caps) us→bM w (aW Γ w η s.hp) [] [] na us) (hd:cx Γ.nt o.dst) {K:AS G→Prop} (hK:∀r,R r→K (s.put o.dst r)):bn Γ o s K:=by
 intro a w η Kc Qc hk hr
 have dC:=hr.ev x
 rw[hx] at dC
 generalize hv:a.eval x=v at dC
 cases dC with
 |aK _ _ vs hl cE=>
  refine⟨fun _ _=>trivial,?_⟩
  have bh:∀c',o.op ≠ .defer c':=by intro c' h;rw[ho] at h;cases h
  rw[Oper.semAt_eq _ _ _ bh,eX ho hc hP.1 hv]
  have aw:(c.args.map a.eval++vs)=(c.args.toList.map a.eval++vs.toList).toArray:=by apply Array.ext';simp
  have cS:bM w (aW Γ w η s.hp) η s.hp caps vs.toList:=cf (by simpa using hl) fun j y u hy hu=>cE j y u hy (by simpa using hu)
  have fC:=lJ a w η _ hr (dx _ _ (ft hr c.args.toList) cS)
  refine⟨fun h=>(by cases h),?_⟩
  rw[aw]
  have jc:=hP.2 w (aW Γ w η s.hp) _ (fun _ _=>dL) (hr.gz ao) fC
  refine CallsIn.mono (F:=Γ.dM) ?_ (R:=fun e w'=>∃v r,e=.returned v∧R r∧bu w w'∧aY w' (Onto (aW Γ w η s.hp) w w') [] [] r v) fun e w' ⟨u,r,he,hR,hs,TT⟩=>?_
  ·exact jc
  ·subst he
   exact hk _ _ _ _ (hK r hR) ((hr.same ao hs).put (bN hd) ((TT.bb fun b o h=>uu ao hr hs h).lift))
def AV.oZ (n:Nat) (hp:List af) (x:AV):AV:=if x.closed n=true then x else x.bj hp
theorem Bb (hr:Rel Γ s a w η) (n:Nat):∀(xs:List AV) (vs:List Value),bM w (aW Γ w η s.hp) η s.hp xs vs→bM w (aW Γ w η s.hp) η s.hp (xs.map (AV.oZ n s.hp)) vs
 | [],[],_=>True.intro
 |x::xs,v::vs,h=>⟨by
   unfold AV.oZ
   split
   ·exact h.1
   ·exact(fu hr.heap hr.bA h.1).lift,Bb hr n xs vs h.2⟩
 | [],_::_,h=>h.elim
 |_::_,[],h=>h.elim
theorem kX (hr:Rel Γ s a w η):∀(xs:List AV) (vs:List Value),bM w (aW Γ w η s.hp) η s.hp xs vs→bM w (aW Γ w η s.hp) [] [] (xs.map (AV.oZ 0 s.hp)) vs
 | [],[],_=>True.intro
 |x::xs,v::vs,h=>⟨by
   unfold AV.oZ
   split
   ·rename_i hc
    have:=lH (n:=0) hc h.1
    simpa using this
   ·exact fu hr.heap hr.bA h.1,kX hr xs vs h.2⟩
 | [],_::_,h=>h.elim
 |_::_,[],h=>h.elim
end
end Go.Proofs.YtdcikhleahfknaaGreatDoor
