/- Texts of ours laid together for a claim: VcF. -/
import Derived.Test.YtnkjkpmbgoehkaaGreatQ14
namespace Go.Proofs.YtnkjkpmbgoehkaaGreat
open Go
set_option linter.unusedSimpArgs false
set_option linter.unusedVariables false
variable {P:Program} {w w':World} {F F':Nat->Nat->Prop} {η aO:List Value} {hp hp' more:List ab}
theorem q7 {α:Type} {l m:List α} {r:Nat} (h:r<l.length):(l++m)[r]?=l[r]?:=alr h
theorem q8 {α:Type} {l m:List α} {r:Nat} (h:l.length<=r):(l++m)[r]?=m[r-l.length]?:=alO h
theorem uL {n:Nat}:∀{xs:List AV} {vs:List Value},xs.all (AV.closed n)=true->bS w F η hp xs vs->bS w F (η.take n) (hp.take n) xs vs
 | [],[],_,_=>True.intro
 |x::xs,v::vs,hc,h=>by
  simp only[amF,aln] at hc;exact⟨nu hc.1 h.1,uL hc.2 h.2⟩
 | [],_::_,_,h=>h.elim
 |_::_,[],_,h=>h.elim
theorem aG.mono {f:FuncId} {args:List AV} {R R':AV->List ab->Prop} (h:aG P f args hp R) (hR:∀r h',R r h'->R' r h'):aG P f args hp R':=
 ⟨h.1,fun w F η bg bu hv=>(h.2 w F η bg bu hv).mono fun _ _ ⟨v,r,hp',aO,h1,h2,h3⟩=>⟨v,r,hp',aO,h1,hR r hp' h2,h3⟩⟩
theorem Pure.of_nil {f:FuncId} {rest:List AV} {e size:Nat} {R:AV->List ab->Prop} (hs:0<size) (h:aG P f (.own 0 0::rest) [.row e size []] R) (mH:rest.all (AV.closed 0)=true):
  Pure P f (.ae (.slice none 0 0)::rest) (fun x=>∃r hp',R r hp'/\x=r.bl hp'):=by
 refine⟨h.1,fun w F bg hF hg hv=>?_⟩
 cases bg with
 |nil=>exact hv.elim
 |cons v bg=>
  have h0:=hv.1.aj;subst h0;have bu:Dp w F [.slice none 0 0] [.row e size []]:=by
   refine⟨fun b o hb=>⟨hF b o hb,fun r u hr uz=>?_⟩,⟨rfl,fun r o u h1 h2=>?_,fun r r' o o' u u' b bL h1 h2=>?_⟩,fun b ⟨r,o,u,h1,h2,h3,h4⟩=>?_,hg,fun b _ ⟨r,o,u,h1,h2,h3,h4⟩=>?_⟩
   ·cases r with
    |zero=>simp at hr;subst hr;simp[cZ] at uz
    |succ r=>simp at hr
   ·cases r with
    |zero=>
     simp at h1 h2;subst h1;subst h2;exact⟨hs,[],⟨by simp,.inl ⟨rfl,.inl rfl⟩⟩,fun i el hi=>by simp at hi⟩
    |succ r=>simp at h1
   ·have q1:r<1:=by have:=(ali.1 h1).1;simpa using this
    have q2:r' < 1:=by have:=(ali.1 h2).1;simpa using this
    omega
   ·cases r with
    |zero=>simp at h3;subst h3;simp[cZ] at h4
    |succ r=>simp at h1
   ·cases r with
    |zero=>simp at h3;subst h3;simp[cZ] at h4
    |succ r=>simp at h1
  have hrl:∀(xs:List AV) (us:List Value),xs.all (AV.closed 0)=true->bS w F [] [] xs us->bS w F [.slice none 0 0] [.row e size []] xs us:=fun xs us _ hx=>
   hx.ext ⟨fun _ _ _ _ h=>h,fun _ _ _ _ h=>h,fun _ _ h=>h,fun _ _ h=>by simp at h,fun _ _ h=>by simp at h,fun _ _ _ h=>by simp[aR] at h⟩
  have hv1:bS w F [.slice none 0 0] [.row e size []] (.own 0 0::rest) (.slice none 0 0::bg):=
   ⟨.own 0 0 _ rfl (by unfold aR;exact⟨alp _,fun _=>rfl⟩),hrl rest bg mH hv.2⟩
  refine(h.2 w F _ _ bu hv1).mono fun en w' ⟨u,r,hp',aO,he,hR,bc⟩=>?_;refine⟨u,_,he,⟨r,hp',hR,rfl⟩,bc.keeps.same fun b _ ⟨q,o,z,g1,g2,g3,g4⟩=>?_,?_⟩
  ·cases q with
   |zero=>simp at g3;subst g3;simp[cZ] at g4
   |succ q=>simp at g1
  ·let Γ:Env Unit:={ P:=P,w0:=w,F0:=F,X:=fun _=>False,Y:=aI [.slice none 0 0] [.row e size []],Inv:=fun _ _=>True,nt:=0,A1:=none,m0:=fun r=>w.heap.size<=r,Z:=fun _ _=>False,zg:=[.slice none 0 0],lx:=[.row e size []] }
   have zp:∀b o,fA F w [.slice none 0 0] [.row e size []] w' aO hp' b o->aW Γ w' aO hp' b o:=fun b o hb=>⟨hb.1,hb.2.1,fun hx=>hx.elim (fun h=>h) fun h=>h,hb.2.2⟩;have hex:∀{nc:List Value} {iC:List ab},Ext w' (fA F w [.slice none 0 0] [.row e size []] w' aO hp') nc iC w' (aW Γ w' aO hp') nc iC:=
    ⟨fun _ _ _ _ h=>h,fun _ _ _ _ h=>h,zp,fun _ _ h=>h,fun _ _ h=>h,fun _ _ _ h=>h⟩
   have jC:dJ w' (aW Γ w' aO hp') aO hp':=⟨bc.heap.len,fun r o v h1 h2=>(bc.heap.obj r o v h1 h2).ext hex (alp _) fun _ _ _=>rfl,bc.heap.sep⟩;have Dz:vu Γ aO hp':=fun r o v b h1 hl h2 hb=>by
    rcases bc.bN b ⟨r,o,v,h1,hl,h2,hb⟩ with h5|h5
    ·exact⟨.inl h5,fun o hx=>hx.elim (fun h=>h) fun h=>h⟩
    ·exact⟨.inr h5,fun o hx=>hx.elim (fun h=>h) fun h=>h⟩
   refine(fK jC Dz (bc.rep.ext hex)).bk fun b o hf=>?_;rcases hf.1 with h3|h3|⟨q,o1,z,g1,g2,g3,g4⟩
   ·exact .inl h3
   ·exact .inr ⟨h3,hf.2.1⟩
   ·cases q with
    |zero=>simp at g3;subst g3;simp[cZ] at g4
    |succ q=>simp at g1
theorem aG.frame {f:FuncId} {args:List AV} {R:AV->List ab->Prop} (h:aG P f args hp R) (hR:∀r h',R r h'->h'.length=hp.length) (aw:args.all (AV.closed hp.length)=true) (cY:hp.all (ab.closed hp.length)=true):
  aG P f args (hp++more) (fun r hp'=>∃h',hp'=h'++more/\R r h'):=by
 refine⟨h.1,fun w F η bg bu hv=>?_⟩;have hlen:η.length=(hp++more).length:=bu.heap.len;have hn:hp.length<=η.length:=by rw[hlen];simp
 have eP:η.take hp.length++η.drop hp.length=η:=amd _ _;have MA:(η.take hp.length).length=hp.length:=by simp;omega
 have zr:∀{r:Nat},r<hp.length->(η.take hp.length)[r]?=η[r]?:=fun hr=>by rw[alz,if_pos hr]
 have gh:∀{r:Nat},r<hp.length->(hp++more)[r]?=hp[r]?:=fun hr=>q7 hr;have od:(hp++more).take hp.length=hp:=am2;have NK:∀b o,kz η (hp++more) b o->kz (η.take hp.length) hp b o:=by
  intro b o hf r v hr hb;have aq:r<hp.length:=by have:=(ali.1 hr).1;rw[MA] at this;exact this
  have:=hf r v (by rw[<-zr aq];exact hr) hb
  rwa [gh aq] at this
 have oW:∀b,aI (η.take hp.length) hp b->aI η (hp++more) b:=by
  intro b ⟨r,o,v,h1,h2,h3,h4⟩;have aq:r<hp.length:=(ali.1 h1).1;exact⟨r,o,v,by rw[gh aq];exact h1,h2,by rw[<-zr aq];exact h3,h4⟩
 have NL:Dp w F (η.take hp.length) hp:=by
  refine⟨fun b o hb=>⟨(bu.bk b o hb).1,NK b o (bu.bk b o hb).2⟩,⟨MA,fun r o v h1 h2=>?_,fun r r' o o' v v' b bL h1 h2 l1 l2 e1 e2 hb=>?_⟩,fun b hb=>bu.live b (oW b hb),bu.ju,fun b hb hl=>bu.gx b hb (oW b hl)⟩
  ·have aq:r<hp.length:=(ali.1 h1).1;have ei:=bu.heap.obj r o v (by rw[gh aq];exact h1) (by rw[<-zr aq];exact h2);have hco:ab.closed hp.length o=true:=alv.1 cY o (alq h1)
   cases o with
   |dead=>exact True.intro
   |box cs=>
    obtain⟨b,vs,T,e1,e2,e3,e4⟩:=ei;refine⟨b,vs,T,e1,e2,e3,fun j x u hx hu=>?_⟩;have h5:=e4 j x u hx hu;have hcx:x.aF hp.length=true:=alv.1 hco x (alq hx);have h6:=dS (n:=hp.length) hcx h5.1;rw[od] at h6;exact⟨h6,h5.2⟩
   |row e size els=>exact ei
   |bW es=>exact ei
   |iz q k=>
    obtain⟨b,vs,e1,e2,e3,e4,u,e5,e6⟩:=ei;have h6:=dS (n:=hp.length) (x:=.own q k) (by simpa [AV.aF,ab.closed] using hco) e6;rw[od] at h6;exact⟨b,vs,e1,e2,e3,e4,u,e5,h6⟩
   |aQ e size els=>exact ei
   |eI e m ns=>exact ei
  ·have q1:r<hp.length:=(ali.1 h1).1;have q2:r' < hp.length:=(ali.1 h2).1;exact bu.heap.sep r r' o o' v v' b bL (by rw[gh q1];exact h1) (by rw[gh q2];exact h2) l1 l2 (by rw[<-zr q1];exact e1) (by rw[<-zr q2];exact e2) hb
 have hv1:bS w F (η.take hp.length) hp args bg:=by
  have:=uL (n:=hp.length) aw hv
  rwa [od] at this
 refine(h.2 w F (η.take hp.length) bg NL hv1).mono fun e w' ⟨v,r,h',nc,he,Zn,bc⟩=>?_;have rU:=hR r h' Zn;have Zo:nc.length=hp.length:=by rw[bc.heap.len];exact rU
 refine⟨v,r,h'++more,nc++η.drop hp.length,he,⟨h',rfl,Zn⟩,?_⟩;have sa:∀{r:Nat},hp.length<=r->(nc++η.drop hp.length)[r]?=η[r]?:=fun {r} hr=>by
  rw[q8 (by omega),amo,Zo];congr 1;omega
 have w9:∀{r:Nat},hp.length<=r->(h'++more)[r]?=(hp++more)[r]?:=fun {r} hr=>by
  rw[q8 (by omega),q8 hr,rU]
 have MN:∀{r:Nat},r<hp.length->(nc++η.drop hp.length)[r]?=nc[r]?:=fun hr=>q7 (by omega);have V9:∀{r:Nat},r<hp.length->(h'++more)[r]?=h'[r]?:=fun hr=>q7 (by omega);have apart:∀{r:Nat} {o:ab} {u:Value} {b:Nat},hp.length<=r->(hp++more)[r]?=some o->o.live->η[r]?=some u->cZ u=some b->b<w.heap.size/\¬aI (η.take hp.length) hp b:=by
  intro r o u b hr h1 h2 h3 h4;refine⟨bu.live b ⟨r,o,u,h1,h2,h3,h4⟩,fun⟨r1,o1,v1,g1,g2,g3,g4⟩=>?_⟩;have aq:r1<hp.length:=(ali.1 g1).1;exact bu.heap.sep r1 r o1 o v1 u b (by omega) (by rw[gh aq];exact g1) h1 g2 h2 (by rw[<-zr aq];exact g3) h3 g4 h4
 have DA:∀b o,fA F w (η.take hp.length) hp w' nc h' b o->fA F w η (hp++more) w' (nc++η.drop hp.length) (h'++more) b o:=by
  intro b o ⟨h1,h2,h3⟩;refine⟨h1.imp id (Or.imp id (oW b)),h2,fun r u hr hb=>?_⟩
  by_cases aq:r<hp.length
  ·rw[MN aq] at hr;rw[V9 aq];exact h3 r u hr hb
  ·have je:hp.length<=r:=by omega
   rw[sa je] at hr;rw[w9 je];have pX:r<(hp++more).length:=by rw[<-hlen];exact(ali.1 hr).1
   have ho:(hp++more)[r]?=some (hp++more)[r]:=by simp[pX]
   have key:(hp++more)[r].live->F b o:=by
    intro hl;have ha:=apart je ho hl hr hb;rcases h1 with h1|h1|h1
    ·exact h1
    ·omega
    ·exact(ha.2 h1).elim
   rw[ho]
   cases hk:(hp++more)[r] with
   |dead=>exact True.intro
   |_=>
    rw[hk] at key ho;have:=(bu.bk b o (key True.intro)).2 r u hr hb;rw[ho] at this;exact this
 have Wa:Ext w' (fA F w (η.take hp.length) hp w' nc h') nc h' w' (fA F w η (hp++more) w' (nc++η.drop hp.length) (h'++more)) (nc++η.drop hp.length) (h'++more):=by
  refine⟨fun _ _ _ _ h=>h,fun _ _ _ _ h=>h,DA,fun r a hr=>?_,fun r a hr=>?_,fun r k u ho=>?_⟩
  ·rw[MN (by have:=(ali.1 hr).1;omega)];exact hr
  ·rw[MN (by have:=(ali.1 hr).1;omega)];exact hr
  ·unfold aR at ho ⊢
   by_cases aq:r<hp.length
   ·rw[MN aq,V9 aq];exact ho
   ·rw[alU (by omega)] at ho;exact ho.elim
 have fF:Ext w F η (hp++more) w' (fA F w η (hp++more) w' (nc++η.drop hp.length) (h'++more)) (nc++η.drop hp.length) (h'++more):=by
  refine⟨fun b o u hf hc=>bc.ext.cell b o u hf hc,fun b es c hf hc=>bc.ext.jt b es c hf hc,fun b o hf=>DA b o (bc.ext.bk b o hf),fun r a hr=>?_,fun r a hr=>?_,fun r k u ho=>?_⟩
  ·by_cases aq:r<hp.length
   ·rw[MN aq];exact bc.ext.ptr r a (by rw[zr aq];exact hr)
   ·rw[sa (by omega)];exact hr
  ·by_cases aq:r<hp.length
   ·rw[MN aq];exact bc.ext.mp r a (by rw[zr aq];exact hr)
   ·rw[sa (by omega)];exact hr
  ·by_cases aq:r<hp.length
   ·have h1:aR (η.take hp.length) hp r k u:=by
     unfold aR at ho ⊢;rw[zr aq];rwa [gh aq] at ho
    have:=bc.ext.own r k u h1;unfold aR at this ⊢;rw[MN aq,V9 aq];exact this
   ·unfold aR at ho ⊢;rw[sa (by omega),w9 (by omega)];exact ho
 refine⟨?_,fF,⟨by simp[Zo,rU,hlen],fun r o u h1 h2=>?_,fun r r' o o' v1 v2 b bL h1 h2 l1 l2 e1 e2 hb=>?_⟩,fun b ⟨r,o,u,h1,h2,h3,h4⟩=>?_,bc.rep.ext Wa⟩
 ·exact⟨bc.keeps.os,bc.keeps.tape,bc.keeps.output,bc.keeps.size,fun k hk hx=>bc.keeps.block k hk fun hl=>hx (oW k hl)⟩
 ·by_cases aq:r<hp.length
  ·rw[V9 aq] at h1;rw[MN aq] at h2;exact(bc.heap.obj r o u h1 h2).ext Wa (alp _) fun _ _ _=>rfl
  ·have je:hp.length<=r:=by omega
   rw[w9 je] at h1;rw[sa je] at h2
   by_cases hl:o.live
   ·exact(bu.heap.obj r o u h1 h2).ext fF bc.keeps.size fun b hb tP=>bc.keeps.block b tP (apart je h1 hl h2 hb).2
   ·cases o<;>first|exact True.intro|exact(hl True.intro).elim
 ·have DB:∀{r r':Nat} {o o':ab} {v1 v2:Value} {b:Nat},r<hp.length->hp.length<=r'->h'[r]?=some o->(hp++more)[r']?=some o'->o.live->o'.live->nc[r]?=some v1->η[r']?=some v2->cZ v1=some b->cZ v2=some b->False:=by
   intro r r' o o' v1 v2 b _ fI h1 h2 l1 l2 e1 e2 hb fJ;have ha:=apart fI h2 l2 e2 fJ;rcases bc.bN b ⟨r,o,v1,h1,l1,e1,hb⟩ with h5|h5
   ·omega
   ·exact ha.2 h5
  by_cases q1:r<hp.length
  ·rw[V9 q1] at h1;rw[MN q1] at e1
   by_cases q2:r' < hp.length
   ·rw[V9 q2] at h2;rw[MN q2] at e2;exact bc.heap.sep r r' o o' v1 v2 b bL h1 h2 l1 l2 e1 e2 hb
   ·have Tu:hp.length<=r':=by omega
    rw[w9 Tu] at h2;rw[sa Tu] at e2;exact fun fJ=>DB q1 Tu h1 h2 l1 l2 e1 e2 hb fJ
  ·have Zp:hp.length<=r:=by omega
   rw[w9 Zp] at h1;rw[sa Zp] at e1
   by_cases q2:r' < hp.length
   ·rw[V9 q2] at h2;rw[MN q2] at e2;exact fun fJ=>DB q2 Zp h2 h1 l2 l1 e2 e1 fJ hb
   ·have Tu:hp.length<=r':=by omega
    rw[w9 Tu] at h2;rw[sa Tu] at e2;exact bu.heap.sep r r' o o' v1 v2 b bL h1 h2 l1 l2 e1 e2 hb
 ·by_cases aq:r<hp.length
  ·rw[V9 aq] at h1;rw[MN aq] at h3;rcases bc.bN b ⟨r,o,u,h1,h2,h3,h4⟩ with h5|h5
   ·exact .inl h5
   ·exact .inr (oW b h5)
  ·have je:hp.length<=r:=by omega
   rw[w9 je] at h1;rw[sa je] at h3;exact .inr ⟨r,o,u,h1,h2,h3,h4⟩
section
variable {G:Type} {Γ:Env G} {s:AS G} {a:Act}
theorem bq.Wb (al:Γ.Ok) {o:Oper} {c:Call} (ho:o.op=.call c) {f:FuncId} {R:AV->List ab->Prop} {lD:List AV} (hP:aG Γ.P f lD s.hp R)
  (Xo:∀(a:Act) (w:World) (η:List Value),Rel Γ s a w η->∃us:List Value,(execOp a.eval o).run Γ.P w=.ok (.enter f us.toArray) w/\bS w (aW Γ w η s.hp) η s.hp lD us)
  (hd:cP Γ.nt o.dst) {K:AS G->Prop} (hK:∀r hp',R r hp'->K (AS.put { s with hp:=hp' } o.dst r)):bq Γ o s K:=by
 intro a w η Kc Qc hk hr;obtain⟨us,Xo,gA⟩:=Xo a w η hr;refine⟨fun _ _=>trivial,?_⟩;have bL:∀c',o.op ≠ .defer c':=by intro c' h;rw[ho] at h;cases h
 rw[Oper.semAt_eq _ _ _ bL,Xo];refine⟨fun h=>(by cases h),?_⟩;have eL:∀b,aI η s.hp b->b<w.heap.size/\(Γ.w0.heap.size<=b\/Γ.Y b)/\∀o,¬Γ.No b o:=fun b ⟨r,o,v,g1,g2,g3,g4⟩=>⟨hr.heap.block g1 g2 g3 g4,hr.bN r o v b g1 g2 g3 g4⟩;have ff:=hP.2 w (aW Γ w η s.hp) η _ ⟨fun b o hf=>⟨hf.2.1,hf.2.2.2⟩,hr.heap,fun b hb=>(eL b hb).1,hr.ju al,fun b hb hl=>hr.gx al hb hl⟩ gA;refine CallsIn.mono (F:=Γ.eB) (R:=fun e w'=>∃v r hp' aO,e=.returned v/\R r hp'/\wZ w (aW Γ w η s.hp) η s.hp w' aO hp' r v) ?_ fun e w' ⟨u,r,hp',aO,he,hR,bc⟩=>?_
 ·exact ff
 ·subst he;have zp:∀b o,fA (aW Γ w η s.hp) w η s.hp w' aO hp' b o->aW Γ w' aO hp' b o:=by
   intro b o ⟨h1,h2,h3⟩;refine⟨?_,h2,?_,h3⟩
   ·rcases h1 with h1|h1|h1
    ·exact h1.1
    ·exact .inr (.inl (alT hr.keeps.size h1))
    ·exact .inr (eL b h1).2.1
   ·rcases h1 with h1|h1|h1
    ·exact h1.2.2.1
    ·intro hx;have:=al.no hx;have:=hr.keeps.size;omega
    ·exact(eL b h1).2.2 _
  have hex:∀{nc:List Value} {iC:List ab},Ext w' (fA (aW Γ w η s.hp) w η s.hp w' aO hp') nc iC w' (aW Γ w' aO hp') nc iC:=
   ⟨fun _ _ _ _ h=>h,fun _ _ _ _ h=>h,zp,fun _ _ h=>h,fun _ _ h=>h,fun _ _ _ h=>h⟩
  have GB:=bc.ext.trans hex;have hrel:Rel Γ { s with hp:=hp' } a w' aO:=by
   refine⟨hr.nt,fun t=>(hr.tmps t).ext GB,⟨bc.heap.len,fun r o v h1 h2=>(bc.heap.obj r o v h1 h2).ext hex (alp _) fun _ _ _=>rfl,bc.heap.sep⟩,fun r o v b h1 h2 h3 h4=>?_,?_,?_,?_,hr.ext.trans GB⟩
   ·rcases bc.bN b ⟨r,o,v,h1,h2,h3,h4⟩ with h5|h5
    ·exact⟨.inl (alT hr.keeps.size h5),fun o hx=>by have:=al.no hx;have:=hr.keeps.size;omega⟩
    ·exact(eL b h5).2
   ·refine hr.keeps.trans bc.keeps fun b hb hl=>?_;rcases (eL b hl).2.1 with h1|h1
    ·omega
    ·exact .inr h1
   ·exact al.oC _ _ _ (fun b hb=>bc.keeps.block b (alJ (al.x b hb) hr.keeps.size) fun hl=>(eL b hl).2.2 0 (.inl hb)) bc.keeps.size hr.inv
   ·refine bc.keeps.marks hr.marks fun b hl=>.inr fun d hd=>?_;obtain⟨r,o,v,g1,g2,g3,g4⟩:=hl;have ei:=hr.heap.obj r o v g1 g3
    cases o with
    |dead=>exact g2.elim
    |box cs=>obtain⟨b',vs,T,rfl,q1,_⟩:=ei;simp only[cZ,alh] at g4;subst g4;rw[hd] at q1;cases q1
    |row e size els=>obtain⟨_,xs,q1,_⟩:=ei;obtain⟨cur,q2⟩:=q1.lt g4;rw[hd] at q2;cases q2
    |bW es=>obtain⟨b',en,c,rfl,q1,_⟩:=ei;simp only[cZ,alh] at g4;subst g4;rw[hd] at q1;cases q1
    |iz q k=>obtain⟨b',vs,rfl,q1,_⟩:=ei;simp only[cZ,alh] at g4;subst g4;rw[hd] at q1;cases q1
    |aQ e size els=>obtain⟨_,xs,q1,_⟩:=ei;obtain⟨cur,q2⟩:=q1.lt g4;rw[hd] at q2;cases q2
    |eI e m ns=>obtain⟨cur,q2⟩:=fH.lt ei g4;rw[hd] at q2;cases q2
  exact hk _ _ _ _ (hK r hp' hR) (hrel.put (bT hd) (bc.rep.ext hex))
theorem bq.NM (al:Γ.Ok) {o:Oper} {c:Call} {x:Operand} (ho:o.op=.call c) (hc:c.callee=.value x) {f:FuncId} {caps:List AV} (hx:s.ev x=.bf f caps) {R:AV->List ab->Prop}
  {lD:List AV} (hP:aG Γ.P f lD s.hp R) (nw:∀(a:Act) (w:World) (η:List Value) (us:List Value),Rel Γ s a w η->bS w (aW Γ w η s.hp) η s.hp (c.args.toList.map s.ev++caps) us->bS w (aW Γ w η s.hp) η s.hp lD us) (hd:cP Γ.nt o.dst) {K:AS G->Prop} (hK:∀r hp',R r hp'->K (AS.put { s with hp:=hp' } o.dst r)):bq Γ o s K:=by
 refine bq.Wb al ho hP (fun a w η hr=>?_) hd hK;have eo:=hr.ev x;rw[hx] at eo;generalize hv:a.eval x=v at eo
 cases eo with
 |bf _ _ vs hl dG=>
  have aw:(c.args.map a.eval++vs)=(c.args.toList.map a.eval++vs.toList).toArray:=by apply amy;simp
  exact⟨_,by rw[fT ho hc hP.1 hv,aw],nw a w η _ hr (dR _ _ (gn hr c.args.toList) (cU (by simpa using hl) fun j y u hy hu=>dG j y u hy (by simpa using hu)))⟩
theorem bq.Zq (al:Γ.Ok) {o:Oper} {c:Call} {x:Operand} (ho:o.op=.call c) (hc:c.callee=.value x) {f:FuncId} {fst:List AV} (hx:s.ev x=.cB f fst) {R:AV->List ab->Prop}
  {lD:List AV} (hP:aG Γ.P f lD s.hp R) (nw:∀(a:Act) (w:World) (η:List Value) (us:List Value),Rel Γ s a w η->bS w (aW Γ w η s.hp) η s.hp (fst++c.args.toList.map s.ev) us->bS w (aW Γ w η s.hp) η s.hp lD us) (hd:cP Γ.nt o.dst) {K:AS G->Prop} (hK:∀r hp',R r hp'->K (AS.put { s with hp:=hp' } o.dst r)):bq Γ o s K:=by
 refine bq.Wb al ho hP (fun a w η hr=>?_) hd hK;have eo:=hr.ev x;rw[hx] at eo;generalize hv:a.eval x=v at eo
 cases eo with
 |cB _ _ vs hl dG=>
  have aw:(vs++c.args.map a.eval)=(vs.toList++c.args.toList.map a.eval).toArray:=by apply amy;simp
  refine⟨_,?_,nw a w η _ hr (dR fst vs.toList (cU (by rw[alY];exact hl) fun j y u hy hu=>dG j y u hy (by simpa using hu)) (gn hr c.args.toList))⟩;rw[<-aw];simp[execOp,ho,resolve,hc,hv,Deferred.ofValue,invoke,nm hP.1]
theorem bq.Zr (al:Γ.Ok) {o:Oper} {c:Call} {x:Operand} (ho:o.op=.call c) (hc:c.callee=.value x) {f:FuncId} {caps:List AV} (hx:s.ev x=.bf f caps) {R:AV->Prop}
  {lD:List AV} (hP:Pure Γ.P f lD R) (nw:∀(a:Act) (w:World) (η:List Value) (us:List Value),Rel Γ s a w η->bS w (aW Γ w η s.hp) η s.hp (c.args.toList.map s.ev++caps) us->bS w (aW Γ w η s.hp) [] [] lD us) (hd:cP Γ.nt o.dst) {K:AS G->Prop} (hK:∀r,R r->K (s.put o.dst r)):bq Γ o s K:=by
 intro a w η Kc Qc hk hr;have eo:=hr.ev x;rw[hx] at eo;generalize hv:a.eval x=v at eo
 cases eo with
 |bf _ _ vs hl dG=>
  refine⟨fun _ _=>trivial,?_⟩;have bL:∀c',o.op ≠ .defer c':=by intro c' h;rw[ho] at h;cases h
  rw[Oper.semAt_eq _ _ _ bL,fT ho hc hP.1 hv];have aw:(c.args.map a.eval++vs)=(c.args.toList.map a.eval++vs.toList).toArray:=by apply amy;simp
  have cY:bS w (aW Γ w η s.hp) η s.hp caps vs.toList:=cU (by simpa using hl) fun j y u hy hu=>dG j y u hy (by simpa using hu);have gA:=nw a w η _ hr (dR _ _ (gn hr c.args.toList) cY);refine⟨fun h=>(by cases h),?_⟩;rw[aw];have ff:=hP.2 w (aW Γ w η s.hp) _ (fun _ _=>eu) (hr.ju al) gA;refine CallsIn.mono (F:=Γ.eB) ?_ (R:=fun e w'=>∃v r,e=.returned v/\R r/\bD w w'/\ba w' (G0 (aW Γ w η s.hp) w w') [] [] r v) fun e w' ⟨u,r,he,hR,hs,Zb⟩=>?_
  ·exact ff
  ·subst he;exact hk _ _ _ _ (hK r hR) ((hr.same al hs).put (bT hd) ((Zb.bk fun b o h=>wU al hr hs h).lift))
def AV.q9 (n:Nat) (hp:List ab) (x:AV):AV:=if x.closed n=true then x else x.bl hp
theorem DC (hr:Rel Γ s a w η) (n:Nat):∀(xs:List AV) (vs:List Value),bS w (aW Γ w η s.hp) η s.hp xs vs->bS w (aW Γ w η s.hp) η s.hp (xs.map (AV.q9 n s.hp)) vs
 | [],[],_=>True.intro
 |x::xs,v::vs,h=>⟨by
   unfold AV.q9;split
   ·exact h.1
   ·exact(fK hr.heap hr.bN h.1).lift,DC hr n xs vs h.2⟩
 | [],_::_,h=>h.elim
 |_::_,[],h=>h.elim
theorem mI (hr:Rel Γ s a w η):∀(xs:List AV) (vs:List Value),bS w (aW Γ w η s.hp) η s.hp xs vs->bS w (aW Γ w η s.hp) [] [] (xs.map (AV.q9 0 s.hp)) vs
 | [],[],_=>True.intro
 |x::xs,v::vs,h=>⟨by
   unfold AV.q9;split
   ·rename_i hc;have:=nu (n:=0) hc h.1;simpa using this
   ·exact fK hr.heap hr.bN h.1,mI hr xs vs h.2⟩
 | [],_::_,h=>h.elim
 |_::_,[],h=>h.elim
end
end Go.Proofs.YtnkjkpmbgoehkaaGreat
