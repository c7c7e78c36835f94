/- Texts of ours laid together for a claim: VcU. -/
import Derived.Test.YtdcikhleahfknaaGreatDoorQ39
namespace Go.Proofs.YtdcikhleahfknaaGreatDoor
open Go
set_option linter.unusedSimpArgs false
set_option linter.unusedVariables false
theorem dU.pad {w w':World} {F:Nat->Nat->Prop} {η aN:List Value} {hp hp':List af} {r:AV} {v:Value} (h:dU w F η hp w' aN hp' r v):dU w F η hp w' (aN++[.int .i64 0]) (hp'++[.dead]) r v:=by
 have hlen:aN.length=hp'.length:=h.heap.len;have zk:∀{q:Nat},q<hp'.length->(hp'++[af.dead])[q]?=hp'[q]?:=fun h=>alH h;have sy:∀{q:Nat},q<hp'.length->(aN++[Value.int .i64 0])[q]?=aN[q]?:=fun h=>alH (by omega);have split:∀{q:Nat} {o:af},(hp'++[af.dead])[q]?=some o->q<hp'.length/\hp'[q]?=some o\/o=.dead:=fun {q o} e=>by
  have hb:q<hp'.length+1:=by have:=(alu.1 e).1;simpa using this
  by_cases hq:q<hp'.length
  ·rw[zk hq] at e;exact .inl ⟨hq,e⟩
  ·have:q=hp'.length:=by omega
   subst this;simp at e;exact .inr e.symm
 have tZ:∀{q:Nat} {u:Value} {b:Nat},(aN++[Value.int .i64 0])[q]?=some u->ct u=some b->q<hp'.length/\aN[q]?=some u:=fun {q u b} e hb=>by
  have hq1:q<hp'.length+1:=by have:=(alu.1 e).1;simp at this;omega
  by_cases hq:q<hp'.length
  ·rw[sy hq] at e;exact⟨hq,e⟩
  ·have:q=aN.length:=by omega
   subst this;simp at e;subst e;simp[ct] at hb
 have YX:∀b o,iR aN hp' b o->iR (aN++[.int .i64 0]) (hp'++[.dead]) b o:=fun b o hf q u hu hb=>by
  obtain⟨hq,hu⟩:=tZ hu hb;rw[zk hq];exact hf q u hu hb
 have Zi:∀b o,bO F w η hp w' aN hp' b o->bO F w η hp w' (aN++[.int .i64 0]) (hp'++[.dead]) b o:=fun b o hf=>⟨hf.1,hf.2.1,YX b o hf.2.2⟩;have he:Ext w' (bO F w η hp w' aN hp') aN hp' w' (bO F w η hp w' (aN++[.int .i64 0]) (hp'++[.dead])) (aN++[.int .i64 0]) (hp'++[.dead]):=by
  refine⟨fun _ _ _ _ h=>h,fun _ _ _ _ h=>h,Zi,fun q a e=>?_,fun q a e=>?_,fun q n u ho=>?_⟩
  ·rw[sy (by rw[<-hlen];exact(alu.1 e).1)];exact e
  ·rw[sy (by rw[<-hlen];exact(alu.1 e).1)];exact e
  ·unfold aT at ho ⊢
   by_cases hq:q<hp'.length
   ·rw[zk hq,sy hq];exact ho
   ·rw[al0 (by omega)] at ho;exact ho.elim
 refine⟨h.keeps,h.ext.trans he,⟨by simp[hlen],fun q o u e1 e2=>?_,fun q q' o o' u u' b bu e1 e2 l1 l2 g1 g2 hb eF=>?_⟩,fun b ⟨q,o,u,e1,l,e2,hb⟩=>?_,h.rep.ext he⟩
 ·rcases split e1 with⟨hq,e1⟩|rfl
  ·rw[sy hq] at e2;exact(h.heap.obj q o u e1 e2).ext he (alA _) fun _ _ _=>rfl
  ·exact True.intro
 ·rcases split e1 with⟨hq,e1⟩|rfl
  ·rcases split e2 with⟨Hq,e2⟩|rfl
   ·rw[sy hq] at g1;rw[sy Hq] at g2;exact h.heap.sep q q' o o' u u' b bu e1 e2 l1 l2 g1 g2 hb eF
   ·exact l2.elim
  ·exact l1.elim
 ·rcases split e1 with⟨hq,e1⟩|rfl
  ·rw[sy hq] at e2;exact h.bM b ⟨q,o,u,e1,l,e2,hb⟩
  ·exact l.elim
theorem dU.acW {w w':World} {F:Nat->Nat->Prop} {η:List Value} {hp:List af} {r:AV} {v:Value}:∀(k:Nat) {aN:List Value} {hp':List af},dU w F η hp w' aN hp' r v->∃jQ,dU w F η hp w' jQ (hp'++List.replicate k .dead) r v
 |0,aN,hp',h=>⟨aN,by rw[anA,alV];exact h⟩
 |k+1,aN,hp',h=>by
  have:=dU.acW k h.pad
  rwa [alU,anu,<-List.replicate_succ] at this
theorem bH.pad {P:Program} {f:FuncId} {args:List AV} {hp:List af} {R R':AV->List af->Prop} (h:bH P f args hp R) (hR:∀r q,R r q->∃k,R' r (q++List.replicate k .dead)):bH P f args hp R':=
 ⟨h.1,fun w F η bb aR hv=>(h.2 w F η bb aR hv).mono fun _ _ ⟨v,r,hp',aN,h1,h2,h3⟩=>by
  obtain⟨k,hk⟩:=hR r hp' h2;obtain⟨jQ,h4⟩:=h3.acW k
  exact⟨v,r,_,jQ,h1,hk,h4⟩⟩
theorem dU.oE {w w':World} {F:Nat->Nat->Prop} {η jQ aN:List Value} {hp mO hp':List af} {r:AV} {v:Value} (da:∀b,aG jQ mO b->aG η hp b) (cA:Ext w F η hp w F jQ mO) (h:dU w F jQ mO w' aN hp' r v):dU w F η hp w' aN hp' r v:=by
 have Zi:∀b o,bO F w jQ mO w' aN hp' b o->bO F w η hp w' aN hp' b o:=fun b o hb=>⟨hb.1.imp id fun h=>h.imp id (da b),hb.2⟩;have hx:Ext w' (bO F w jQ mO w' aN hp') aN hp' w' (bO F w η hp w' aN hp') aN hp':=⟨fun _ _ _ _ h=>h,fun _ _ _ _ h=>h,Zi,fun _ _ h=>h,fun _ _ h=>h,fun _ _ _ h=>h⟩;exact⟨⟨h.keeps.os,h.keeps.tape,h.keeps.output,h.keeps.size,fun k h1 h2=>h.keeps.block k h1 fun h3=>h2 (da k h3)⟩,(cA.trans h.ext).trans hx,⟨h.heap.len,fun r o u e1 e2=>(h.heap.obj r o u e1 e2).ext hx (alA _) fun _ _ _=>rfl,h.heap.sep⟩,fun b hb=>(h.bM b hb).imp id (da b),h.rep.ext hx⟩
theorem kE.add {w:World} {F:Nat->Nat->Prop} {η:List Value} {hp:List af} {o:af} {v:Value} (h:kE w F η hp) (hv:ct v=none) (ho:∀F' aN hp',fM w F' aN hp' o v):
  kE w F (η++[v]) (hp++[o])/\Ext w F η hp w F (η++[v]) (hp++[o])/\∀b,aG (η++[v]) (hp++[o]) b->aG η hp b:=by
 have hlen:η.length=hp.length:=h.heap.len;have zk:∀{q:Nat},q<hp.length->(hp++[o])[q]?=hp[q]?:=fun h=>alH h;have sy:∀{q:Nat},q<hp.length->(η++[v])[q]?=η[q]?:=fun h=>alH (by omega);have tZ:∀{q:Nat} {u:Value} {b:Nat},(η++[v])[q]?=some u->ct u=some b->q<hp.length/\η[q]?=some u:=fun {q u b} e hb=>by
  have hq1:q<hp.length+1:=by have:=(alu.1 e).1;simp at this;omega
  by_cases hq:q<hp.length
  ·rw[sy hq] at e;exact⟨hq,e⟩
  ·have:q=η.length:=by omega
   subst this;simp at e;subst e;rw[hv] at hb;cases hb
 have hx:Ext w F η hp w F (η++[v]) (hp++[o]):=by
  refine⟨fun _ _ _ _ h=>h,fun _ _ _ _ h=>h,fun _ _ h=>h,fun q a e=>?_,fun q a e=>?_,fun q n u ho=>?_⟩
  ·rw[sy (by rw[<-hlen];exact(alu.1 e).1)];exact e
  ·rw[sy (by rw[<-hlen];exact(alu.1 e).1)];exact e
  ·unfold aT at ho ⊢
   by_cases hq:q<hp.length
   ·rw[zk hq,sy hq];exact ho
   ·rw[al0 (by omega)] at ho;exact ho.elim
 have live:∀b,aG (η++[v]) (hp++[o]) b->aG η hp b:=fun b ⟨q,o',u,e1,l,e2,hb⟩=>by
  obtain⟨hq,e2⟩:=tZ e2 hb;rw[zk hq] at e1;exact⟨q,o',u,e1,l,e2,hb⟩
 refine⟨⟨fun b k hf=>⟨(h.bg b k hf).1,fun q u hu hb=>?_⟩,⟨by simp[hlen],fun q o' u e1 e2=>?_,fun q q' o1 o2 u u' b bu e1 e2 l1 l2 g1 g2 hb eF=>?_⟩,fun b hb=>h.live b (live b hb),h.gL,fun b hb hl=>h.gx b hb (live b hl)⟩,hx,live⟩
 ·obtain⟨hq,hu⟩:=tZ hu hb;rw[zk hq];exact(h.bg b k hf).2 q u hu hb
 ·by_cases hq:q<hp.length
  ·rw[zk hq] at e1;rw[sy hq] at e2;exact(h.heap.obj q o' u e1 e2).ext hx (alA _) fun _ _ _=>rfl
  ·have hb:=(alu.1 e1).1;have:q=hp.length:=by simp at hb;omega
   subst this;simp at e1;rw[<-hlen] at e2;simp at e2;subst e1;subst e2;exact ho _ _ _
 ·obtain⟨hq,g1⟩:=tZ g1 hb;obtain⟨Hq,g2⟩:=tZ g2 eF;rw[zk hq] at e1;rw[zk Hq] at e2;exact h.heap.sep q q' o1 o2 u u' b bu e1 e2 l1 l2 g1 g2 hb eF
theorem kE.cell {w:World} {F:Nat->Nat->Prop} {η:List Value} {hp:List af} {q k n:Nat} {cs:List AV} (h:kE w F η hp) (hq:hp[q]?=some (.box cs)) (hk:cs[k]?=some (.ae (.slice none 0 0))) (hn:aT η hp n 0 (.slice none 0 0)):
  kE w F η (hp.set q (.box (cs.set k (.own n 0))))/\Ext w F η hp w F η (hp.set q (.box (cs.set k (.own n 0))))/\∀b,aG η (hp.set q (.box (cs.set k (.own n 0)))) b->aG η hp b:=by
 have Bq:q<hp.length:=(alu.1 hq).1;have xK:(hp.set q (.box (cs.set k (.own n 0))))[q]?=some (.box (cs.set k (.own n 0))):=by simp[amr,Bq]
 have qe:∀r m u,aT η hp r m u->aT η (hp.set q (.box (cs.set k (.own n 0)))) r m u:=fun r m u ho=>by
  unfold aT at ho ⊢
  by_cases hr:q=r
  ·subst hr;rw[hq] at ho;exact ho.elim
  ·rw[get_set_other hr];exact ho
 have hx:Ext w F η hp w F η (hp.set q (.box (cs.set k (.own n 0)))):=⟨fun _ _ _ _ h=>h,fun _ _ _ _ h=>h,fun _ _ h=>h,fun _ _ h=>h,fun _ _ h=>h,qe⟩;have look:∀{r:Nat} {o:af},(hp.set q (.box (cs.set k (.own n 0))))[r]?=some o->o.live->∃p,hp[r]?=some p/\p.live:=fun {r o} e l=>by
  by_cases hr:q=r
  ·subst hr;exact⟨_,hq,True.intro⟩
  ·rw[get_set_other hr] at e;exact⟨o,e,l⟩
 have live:∀b,aG η (hp.set q (.box (cs.set k (.own n 0)))) b->aG η hp b:=fun b ⟨r,o,u,e1,l,e2,hb⟩=>by
  obtain⟨p,g1,g2⟩:=look e1 l;exact⟨r,p,u,g1,g2,e2,hb⟩
 refine⟨⟨fun b o hf=>⟨(h.bg b o hf).1,(aU b o).2 fun r u e1 e2=>?_⟩,⟨by rw[amJ];exact h.heap.len,fun r o u e1 e2=>?_,fun r r' o o' u u' b bu e1 e2 l1 l2=>?_⟩,fun b hb=>h.live b (live b hb),h.gL,fun b hb hl=>h.gx b hb (live b hl)⟩,hx,live⟩
 ·obtain⟨p,g1,g2⟩:=(aU b o).1 (h.bg b o hf).2 r u e1 e2
  by_cases hr:q=r
  ·subst hr;rw[hq] at g1;obtain rfl:=alw g1;exact g2.elim
  ·exact⟨p,by rw[get_set_other hr];exact g1,g2⟩
 ·by_cases hr:q=r
  ·subst hr;rw[xK] at e1;obtain rfl:=alw e1;obtain⟨b,vs,T,q1,q2,q3,q4⟩:=h.heap.obj q _ u hq e2;refine⟨b,vs,T,q1,q2,by simpa using q3,fun j x y kD hy=>?_⟩;rw[amr] at kD
   by_cases hj:k=j
   ·subst hj;have tO:k<cs.length:=(alu.1 hk).1;rw[if_pos rfl,if_pos tO] at kD;obtain rfl:=alw kD;have h5:=q4 k _ y hk hy;have h6:=h5.1.ay;subst h6;exact⟨.own _ 0 _ h5.2 (qe _ _ _ hn),h5.2⟩
   ·rw[if_neg hj] at kD;exact⟨(q4 j x y kD hy).1.ext hx,(q4 j x y kD hy).2⟩
  ·rw[get_set_other hr] at e1;exact(h.heap.obj r o u e1 e2).ext hx (alA _) fun _ _ _=>rfl
 ·obtain⟨p,g1,m1⟩:=look e1 l1;obtain⟨p',g2,m2⟩:=look e2 l2;exact h.heap.sep r r' p p' u u' b bu g1 g2 m1 m2
theorem Fj {w:World} {F:Nat->Nat->Prop} {η:List Value} {hp:List af} {M:Bool} {e size:Nat} (hs:0<size):fM w F η hp (ea M e size []) (.slice none 0 0):=jV.2 ⟨hs,[],⟨by simp,.inl ⟨rfl,.inl rfl⟩⟩,fun i el hi=>by simp at hi⟩
theorem Fk {hp:List af} {η:List Value} {M:Bool} {e size:Nat} (hlen:η.length=hp.length):aT (η++[.slice none 0 0]) (hp++[ea M e size []]) hp.length 0 (.slice none 0 0):=
 (iU (M:=M) (e:=e) (size:=size) (els:=[]) (by simp)).2 ⟨alA _,fun _=>by rw[<-hlen];simp⟩
theorem bH.of_nil {P:Program} {f:FuncId} {rest:List AV} {hp:List af} {R:AV->List af->Prop} (M:Bool) (e size:Nat) (hs:0<size) (h:bH P f (.own hp.length 0::rest) (hp++[ea M e size []]) R):bH P f (.ae (.slice none 0 0)::rest) hp R:=by
 refine⟨h.1,fun w F η bb aR hv=>?_⟩
 match bb,hv with
 |v::bb,hv=>
  have h0:=hv.1.ay;subst h0;obtain⟨h1,h2,h3⟩:=aR.add (o:=ea M e size []) (v:=.slice none 0 0) rfl fun _ _ _=>Fj hs;refine(h.2 w F _ (.slice none 0 0::bb) h1 ⟨.own _ 0 _ rfl (Fk aR.heap.len),hv.2.ext h2⟩).mono ?_
  rintro en w' ⟨u,r,hp',aN,he,hR,bf⟩
  exact⟨u,r,hp',aN,he,hR,bf.oE h3 h2⟩
theorem bH.VE {P:Program} {f:FuncId} {args:List AV} {hp:List af} {R:AV->List af->Prop} (M:Bool) (e size q k:Nat) {cs:List AV} (hs:0<size) (hq:hp[q]?=some (.box cs)) (hk:cs[k]?=some (.ae (.slice none 0 0)))
  (h:bH P f args ((hp++[ea M e size []]).set q (.box (cs.set k (.own hp.length 0)))) R):bH P f args hp R:=by
 refine⟨h.1,fun w F η bb aR hv=>?_⟩;obtain⟨h1,h2,h3⟩:=aR.add (o:=ea M e size []) (v:=.slice none 0 0) rfl fun _ _ _=>Fj hs;have M4:(hp++[ea M e size []])[q]?=some (.box cs):=by rw[alH (alu.1 hq).1];exact hq
 obtain⟨k1,k2,k3⟩:=h1.cell M4 hk (Fk aR.heap.len);refine(h.2 w F _ _ k1 (hv.ext (h2.trans k2))).mono ?_
 rintro en w' ⟨u,r,hp',aN,he,hR,bf⟩
 exact⟨u,r,hp',aN,he,hR,bf.oE (fun b hb=>h3 b (k3 b hb)) (h2.trans k2)⟩
end Go.Proofs.YtdcikhleahfknaaGreatDoor
