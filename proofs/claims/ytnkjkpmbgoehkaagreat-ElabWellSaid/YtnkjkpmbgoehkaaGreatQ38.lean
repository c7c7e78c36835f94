/- Lemmas. -/
import Derived.Test.YtnkjkpmbgoehkaaGreatQ37
namespace Go.Proofs.YtnkjkpmbgoehkaaGreat
open Go
open _root_.True renaming intro->ai
set_option linter.unusedSimpArgs false
set_option linter.unusedVariables false
variable {P:Program} {w w':World} {F:Nat->Nat->Prop} {η:List Value} {hp:List aw}
theorem get_set_other {l:List aw} {i j:Nat} {o:aw} (h:i≠j):(l.set i o)[j]?=l[j]?:=by simp[arH,h]
theorem KL {r0:AV} {q:Nat} {cs gi:List AV} {b:Nat} {vs':Array Value} {T:TypeId} {v:Value} (bQ:F6 w F η hp) (hq:hp[q]?=some (.box cs)) (hb:η[q]?=some (.pointer (some ⟨b,0,none⟩)))
  (hk:cG (fun k=>k=b) w w') (hs:w.heap.size<=w'.heap.size) (h2:w'.heap[b]?=some (.cells vs' T (0,0))) (hl:vs'.size=gi.length)
  (hr:Ext w F η hp w' (gj F w η hp w' η (hp.set q (.box gi))) η (hp.set q (.box gi))->∀(j:Nat) (x:AV) (u:Value),gi[j]?=some x->vs'[j]?=some u->bB w' (gj F w η hp w' η (hp.set q (.box gi))) η (hp.set q (.box gi)) x u/\u.oneCell'=true) (hrv:bB w F η hp r0 v):
  zi w F η hp w' η (hp.set q (.box gi)) r0 v:=by
 have L4:q<hp.length:=(aqr.1 hq).1;have aba:(hp.set q (.box gi))[q]?=some (.box gi):=by simp[arH,L4]
 have ag6:∀k,bb η (hp.set q (.box gi)) k↔bb η hp k:=by
  intro k;constructor
  ·intro ⟨r,o,u,e1,e2,e3,e4⟩
   by_cases hr:q=r
   ·subst hr;exact⟨q,_,u,hq,ai,e3,e4⟩
   ·rw[get_set_other hr] at e1;exact⟨r,o,u,e1,e2,e3,e4⟩
  ·intro ⟨r,o,u,e1,e2,e3,e4⟩
   by_cases hr:q=r
   ·subst hr;exact⟨q,_,u,aba,ai,e3,e4⟩
   ·exact⟨r,o,u,by rw[get_set_other hr];exact e1,e2,e3,e4⟩
 have YO:bb η hp b:=⟨q,_,_,hq,ai,hb,rfl⟩;have noF:∀o,¬F b o:=by
  intro o hf;obtain⟨p1,q1,q2⟩:=(bm b o).1 (bQ.bI b o hf).2 q _ hb rfl;rw[hq] at q1;obtain rfl:=aqs q1;exact q2
 have Um:∀k o,lS η hp k o->lS η (hp.set q (.box gi)) k o:=by
  intro k o hf;refine(bm k o).2 fun r u e1 e2=>?_;obtain⟨p1,q1,q2⟩:=(bm k o).1 hf r u e1 e2
  by_cases hr:q=r
  ·subst hr;rw[hq] at q1;obtain rfl:=aqs q1;exact q2.elim
  ·exact⟨p1,by rw[get_set_other hr];exact q1,q2⟩
 have mM:∀k,k<w.heap.size->k≠b->w'.heap[k]?=w.heap[k]?:=fun k h1 h2=>hk.block k h1 h2;have bI:∀k o,F k o->gj F w η hp w' η (hp.set q (.box gi)) k o:=fun k o hf=>⟨.inl hf,aqX (bQ.bI k o hf).1 hs,Um k o (bQ.bI k o hf).2⟩;have gu:Ext w F η hp w' (gj F w η hp w' η (hp.set q (.box gi))) η (hp.set q (.box gi)):=by
  refine⟨fun k o u hf hc=>?_,fun k es c hf hc=>?_,bI,fun r a h=>h,fun r a h=>h,fun r n u h=>?_⟩
  ·have cg:k≠b:=fun h=>noF o (h▸hf);simp only[World.cell?] at hc ⊢;rw[mM k (bQ.bI k o hf).1 cg];exact hc
  ·have cg:k≠b:=fun h=>noF 0 (h▸hf);rw[mM k (bQ.bI k 0 hf).1 cg];exact hc
  ·unfold bl at h ⊢
   by_cases hr:q=r
   ·subst hr;rw[hq] at h;exact h.elim
   ·rw[get_set_other hr];exact h
 refine⟨⟨hk.os,hk.tape,hk.output,hk.size,fun k h1 h3=>mM k h1 fun h=>h3 (h▸YO)⟩,gu,⟨by rw[arN];exact bQ.heap.len,fun r o u e1 e2=>?_,fun r r' o o' u u' k cg e1 e2 l1 l2 e3 e4 e5=>?_⟩,fun k h=>.inr ((ag6 k).1 h),hrv.ext gu⟩
 ·by_cases gy:q=r
  ·subst gy;rw[aba] at e1;obtain rfl:=aqs e1;rw[hb] at e2;obtain rfl:=aqs e2;exact⟨b,vs',T,rfl,h2,hl,fun j x u hx hu=>hr gu j x u hx hu⟩
  ·rw[get_set_other gy] at e1
   by_cases FN:o.live
   ·refine(bQ.heap.obj r o u e1 e2).ext gu hk.size fun k fq JA=>mM k JA fun h=>?_;subst h;exact bQ.heap.sep q r _ o _ u k gy hq e1 ai FN hb e2 rfl fq
   ·cases o<;>first|exact ai|exact(FN ai).elim
 ·have look:∀{r:Nat} {o:aw},(hp.set q (.box gi))[r]?=some o->o.live->∃p,hp[r]?=some p/\p.live:=by
   intro r o e l
   by_cases hr:q=r
   ·subst hr;exact⟨_,hq,ai⟩
   ·rw[get_set_other hr] at e;exact⟨o,e,l⟩
  obtain⟨p,e1',l1'⟩:=look e1 l1;obtain⟨p',YP,l2'⟩:=look e2 l2;exact bQ.heap.sep r r' p p' u u' k cg e1' YP l1' l2' e3 e4 e5
theorem CR {r0:AV} {q:Nat} {cs gi:List AV} {b:Nat} {vs':Array Value} {T:TypeId} {v:Value} (bQ:F6 w F η hp) (hq:hp[q]?=some (.box cs)) (hb:η[q]?=some (.pointer (some ⟨b,0,none⟩)))
  (hk:cG (fun k=>k=b) w w') (hs:w'.heap.size=w.heap.size) (h2:w'.heap[b]?=some (.cells vs' T (0,0))) (hl:vs'.size=gi.length)
  (hr:∀(j:Nat) (x:AV) (u:Value),gi[j]?=some x->vs'[j]?=some u->bB w F η hp x u/\u.oneCell'=true) (hrv:bB w F η hp r0 v):
  zi w F η hp w' η (hp.set q (.box gi)) r0 v:=
 KL bQ hq hb hk (asi hs.symm) h2 hl (fun gu j x u hx hu=>⟨(hr j x u hx hu).1.ext gu,(hr j x u hx hu).2⟩) hrv
theorem Pp {cs:List AV} {vs:Array Value} {T:TypeId} (bQ:F6 w F η hp) (hk:cG (fun _=>False) w w') (hs:w.heap.size<w'.heap.size)
  (h2:w'.heap[w.heap.size]?=some (.cells vs T (0,0))) (hl:vs.size=cs.length)
  (hr:∀(j:Nat) (x:AV) (u:Value),cs[j]?=some x->vs[j]?=some u->bB w F η hp x u/\u.oneCell'=true):
  zi w F η hp w' (η++[.pointer (some ⟨w.heap.size,0,none⟩)]) (hp++[.box cs]) (.ptr hp.length 0) (.pointer (some ⟨w.heap.size,0,none⟩)):=by
 have hlen:η.length=hp.length:=bQ.heap.len;have KM:∀{r:Nat},r<hp.length->(hp++[aw.box cs])[r]?=hp[r]?:=fun h=>aqD h;have En:∀{r:Nat},r<hp.length->(η++[Value.pointer (some ⟨w.heap.size,0,none⟩)])[r]?=η[r]?:=fun h=>aqD (by omega);have ala:(hp++[aw.box cs])[hp.length]?=some (.box cs):=by simp
 have Pq:(η++[Value.pointer (some ⟨w.heap.size,0,none⟩)])[hp.length]?=some (.pointer (some ⟨w.heap.size,0,none⟩)):=by rw[<-hlen];simp
 have split:∀{r:Nat} {o:aw},(hp++[aw.box cs])[r]?=some o->r<hp.length\/(r=hp.length/\o=.box cs):=by
  intro r o e;have hb:r<hp.length+1:=by have:=(aqr.1 e).1;simpa using this
  by_cases h:r<hp.length
  ·exact .inl h
  ·have:r=hp.length:=by omega
   subst this;rw[ala] at e;exact .inr ⟨rfl,(aqs e).symm⟩
 have Um:∀k o,k<w.heap.size->lS η hp k o->lS (η++[.pointer (some ⟨w.heap.size,0,none⟩)]) (hp++[.box cs]) k o:=by
  intro k o fq hf;refine(bm k o).2 fun r u e1 e2=>?_;have hb:r<hp.length+1:=by have:=(aqr.1 e1).1;simp at this;omega
  by_cases h:r<hp.length
  ·rw[En h] at e1;rw[KM h];exact(bm k o).1 hf r u e1 e2
  ·have:r=hp.length:=by omega
   subst this;rw[Pq] at e1;obtain rfl:=aqs e1;cases e2;exact absurd fq (Nat.lt_irrefl _)
 have mM:∀k,k<w.heap.size->w'.heap[k]?=w.heap[k]?:=fun k h1=>hk.block k h1 (fun h=>h);have gu:Ext w F η hp w' (gj F w η hp w' (η++[.pointer (some ⟨w.heap.size,0,none⟩)]) (hp++[.box cs])) (η++[.pointer (some ⟨w.heap.size,0,none⟩)]) (hp++[.box cs]):=by
  refine⟨fun k o u hf hc=>?_,fun k es c hf hc=>?_,fun k o hf=>?_,fun r a h=>?_,fun r a h=>?_,fun r n u h=>?_⟩
  ·simp only[World.cell?] at hc ⊢;rw[mM k (bQ.bI k o hf).1];exact hc
  ·rw[mM k (bQ.bI k 0 hf).1];exact hc
  ·have:=(bQ.bI k o hf).1;exact⟨.inl hf,by omega,Um k o this (bQ.bI k o hf).2⟩
  ·rw[En (by rw[<-hlen];exact(aqr.1 h).1)];exact h
  ·rw[En (by rw[<-hlen];exact(aqr.1 h).1)];exact h
  ·have DP:r<hp.length:=by
    unfold bl at h;refine Nat.lt_of_not_le fun jM=>?_;rw[aq6 jM] at h;exact h
   unfold bl at h ⊢;rw[KM DP,En DP];exact h
 refine⟨⟨hk.os,hk.tape,hk.output,hk.size,fun k h1 _=>mM k h1⟩,gu,⟨by simp[hlen],fun r o u e1 e2=>?_,fun r r' o o' u u' k cg e1 e2 l1 l2 e3 e4 e5 e6=>?_⟩,fun k ⟨r,o,u,e1,l,e3,e4⟩=>?_,.ptr _ 0 _ Pq⟩
 ·rcases split e1 with h|⟨rfl,rfl⟩
  ·rw[KM h] at e1;rw[En h] at e2;exact(bQ.heap.obj r o u e1 e2).ext gu hk.size fun k _ JA=>mM k JA
  ·rw[Pq] at e2;obtain rfl:=aqs e2;exact⟨_,vs,T,rfl,h2,hl,fun j x u hx hu=>⟨(hr j x u hx hu).1.ext gu,(hr j x u hx hu).2⟩⟩
 ·rcases split e1 with h|⟨rfl,rfl⟩
  ·rw[KM h] at e1;rw[En h] at e3;rcases split e2 with h' | ⟨rfl,rfl⟩
   ·rw[KM h'] at e2;rw[En h'] at e4;exact bQ.heap.sep r r' o o' u u' k cg e1 e2 l1 l2 e3 e4 e5 e6
   ·rw[Pq] at e4;obtain rfl:=aqs e4;cases e6;exact Nat.lt_irrefl _ (bQ.live _ ⟨r,o,u,e1,l1,e3,e5⟩)
  ·rw[Pq] at e3;obtain rfl:=aqs e3;cases e5;rcases split e2 with h' | ⟨rfl,rfl⟩
   ·rw[KM h'] at e2;rw[En h'] at e4;exact Nat.lt_irrefl _ (bQ.live _ ⟨r',o',u',e2,l2,e4,e6⟩)
   ·exact cg rfl
 ·rcases split e1 with h|⟨rfl,rfl⟩
  ·rw[KM h] at e1;rw[En h] at e3;exact .inr ⟨r,o,u,e1,l,e3,e4⟩
  ·rw[Pq] at e3;obtain rfl:=aqs e3;cases e4;exact .inl (aqw _)
end Go.Proofs.YtnkjkpmbgoehkaaGreat
