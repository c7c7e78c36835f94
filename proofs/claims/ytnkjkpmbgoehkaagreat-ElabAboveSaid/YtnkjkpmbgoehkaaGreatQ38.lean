/- Texts of ours laid together for a claim: VcQ. -/
import Derived.Test.YtnkjkpmbgoehkaaGreatQ37
namespace Go.Proofs.YtnkjkpmbgoehkaaGreat
open Go
set_option linter.unusedSimpArgs false
set_option linter.unusedVariables false
variable {P:Program} {w w':World} {F:Nat->Nat->Prop} {η:List Value} {hp:List ab}
theorem get_set_other {l:List ab} {i j:Nat} {o:ab} (h:i≠j):(l.set i o)[j]?=l[j]?:=by simp[amr,h]
theorem HM {r0:AV} {q:Nat} {cs eQ:List AV} {b:Nat} {vs':Array Value} {T:TypeId} {v:Value} (bu:Dp w F η hp) (hq:hp[q]?=some (.box cs)) (hb:η[q]?=some (.pointer (some ⟨b,0,none⟩)))
  (hk:bZ (fun k=>k=b) w w') (hs:w.heap.size<=w'.heap.size) (h2:w'.heap[b]?=some (.cells vs' T (0,0))) (hl:vs'.size=eQ.length)
  (hr:Ext w F η hp w' (fA F w η hp w' η (hp.set q (.box eQ))) η (hp.set q (.box eQ))->∀(j:Nat) (x:AV) (u:Value),eQ[j]?=some x->vs'[j]?=some u->ba w' (fA F w η hp w' η (hp.set q (.box eQ))) η (hp.set q (.box eQ)) x u/\u.oneCell'=true) (hrv:ba w F η hp r0 v):
  wZ w F η hp w' η (hp.set q (.box eQ)) r0 v:=by
 have I8:q<hp.length:=(ali.1 hq).1;have WI:(hp.set q (.box eQ))[q]?=some (.box eQ):=by simp[amr,I8]
 have ach:∀k,aI η (hp.set q (.box eQ)) k↔aI η hp k:=by
  intro k;constructor
  ·intro ⟨r,o,u,e1,e2,e3,e4⟩
   by_cases hr:q=r
   ·subst hr;exact⟨q,_,u,hq,True.intro,e3,e4⟩
   ·rw[get_set_other hr] at e1;exact⟨r,o,u,e1,e2,e3,e4⟩
  ·intro ⟨r,o,u,e1,e2,e3,e4⟩
   by_cases hr:q=r
   ·subst hr;exact⟨q,_,u,WI,True.intro,e3,e4⟩
   ·exact⟨r,o,u,by rw[get_set_other hr];exact e1,e2,e3,e4⟩
 have hbl:aI η hp b:=⟨q,_,_,hq,True.intro,hb,rfl⟩;have noF:∀o,¬F b o:=by
  intro o hf;obtain⟨p1,q1,q2⟩:=(aS b o).1 (bu.bk b o hf).2 q _ hb rfl;rw[hq] at q1;obtain rfl:=alj q1;exact q2
 have Qv:∀k o,kz η hp k o->kz η (hp.set q (.box eQ)) k o:=by
  intro k o hf;refine(aS k o).2 fun r u e1 e2=>?_;obtain⟨p1,q1,q2⟩:=(aS k o).1 hf r u e1 e2
  by_cases hr:q=r
  ·subst hr;rw[hq] at q1;obtain rfl:=alj q1;exact q2.elim
  ·exact⟨p1,by rw[get_set_other hr];exact q1,q2⟩
 have ln:∀k,k<w.heap.size->k≠b->w'.heap[k]?=w.heap[k]?:=fun k h1 h2=>hk.block k h1 h2;have bk:∀k o,F k o->fA F w η hp w' η (hp.set q (.box eQ)) k o:=fun k o hf=>⟨.inl hf,alJ (bu.bk k o hf).1 hs,Qv k o (bu.bk k o hf).2⟩;have fF:Ext w F η hp w' (fA F w η hp w' η (hp.set q (.box eQ))) η (hp.set q (.box eQ)):=by
  refine⟨fun k o u hf hc=>?_,fun k es c hf hc=>?_,bk,fun r a h=>h,fun r a h=>h,fun r n u h=>?_⟩
  ·have bL:k≠b:=fun h=>noF o (h▸hf);simp only[World.cell?] at hc ⊢;rw[ln k (bu.bk k o hf).1 bL];exact hc
  ·have bL:k≠b:=fun h=>noF 0 (h▸hf);rw[ln k (bu.bk k 0 hf).1 bL];exact hc
  ·unfold aR at h ⊢
   by_cases hr:q=r
   ·subst hr;rw[hq] at h;exact h.elim
   ·rw[get_set_other hr];exact h
 refine⟨⟨hk.os,hk.tape,hk.output,hk.size,fun k h1 h3=>ln k h1 fun h=>h3 (h▸hbl)⟩,fF,⟨by rw[amA];exact bu.heap.len,fun r o u e1 e2=>?_,fun r r' o o' u u' k bL e1 e2 l1 l2 e3 e4 e5=>?_⟩,fun k h=>.inr ((ach k).1 h),hrv.ext fF⟩
 ·by_cases fI:q=r
  ·subst fI;rw[WI] at e1;obtain rfl:=alj e1;rw[hb] at e2;obtain rfl:=alj e2;exact⟨b,vs',T,rfl,h2,hl,fun j x u hx hu=>hr fF j x u hx hu⟩
  ·rw[get_set_other fI] at e1
   by_cases Da:o.live
   ·refine(bu.heap.obj r o u e1 e2).ext fF hk.size fun k eJ Hw=>ln k Hw fun h=>?_;subst h;exact bu.heap.sep q r _ o _ u k fI hq e1 True.intro Da hb e2 rfl eJ
   ·cases o<;>first|exact True.intro|exact(Da True.intro).elim
 ·have look:∀{r:Nat} {o:ab},(hp.set q (.box eQ))[r]?=some o->o.live->∃p,hp[r]?=some p/\p.live:=by
   intro r o e l
   by_cases hr:q=r
   ·subst hr;exact⟨_,hq,True.intro⟩
   ·rw[get_set_other hr] at e;exact⟨o,e,l⟩
  obtain⟨p,e1',l1'⟩:=look e1 l1;obtain⟨p',UX,l2'⟩:=look e2 l2;exact bu.heap.sep r r' p p' u u' k bL e1' UX l1' l2' e3 e4 e5
theorem Ax {r0:AV} {q:Nat} {cs eQ:List AV} {b:Nat} {vs':Array Value} {T:TypeId} {v:Value} (bu:Dp w F η hp) (hq:hp[q]?=some (.box cs)) (hb:η[q]?=some (.pointer (some ⟨b,0,none⟩)))
  (hk:bZ (fun k=>k=b) w w') (hs:w'.heap.size=w.heap.size) (h2:w'.heap[b]?=some (.cells vs' T (0,0))) (hl:vs'.size=eQ.length)
  (hr:∀(j:Nat) (x:AV) (u:Value),eQ[j]?=some x->vs'[j]?=some u->ba w F η hp x u/\u.oneCell'=true) (hrv:ba w F η hp r0 v):
  wZ w F η hp w' η (hp.set q (.box eQ)) r0 v:=
 HM bu hq hb hk (Nat.le_of_eq hs.symm) h2 hl (fun fF j x u hx hu=>⟨(hr j x u hx hu).1.ext fF,(hr j x u hx hu).2⟩) hrv
theorem Lv {cs:List AV} {vs:Array Value} {T:TypeId} (bu:Dp w F η hp) (hk:bZ (fun _=>False) w w') (hs:w.heap.size<w'.heap.size)
  (h2:w'.heap[w.heap.size]?=some (.cells vs T (0,0))) (hl:vs.size=cs.length)
  (hr:∀(j:Nat) (x:AV) (u:Value),cs[j]?=some x->vs[j]?=some u->ba w F η hp x u/\u.oneCell'=true):
  wZ w F η hp w' (η++[.pointer (some ⟨w.heap.size,0,none⟩)]) (hp++[.box cs]) (.ptr hp.length 0) (.pointer (some ⟨w.heap.size,0,none⟩)):=by
 have hlen:η.length=hp.length:=bu.heap.len;have HN:∀{r:Nat},r<hp.length->(hp++[ab.box cs])[r]?=hp[r]?:=fun h=>alr h;have BP:∀{r:Nat},r<hp.length->(η++[Value.pointer (some ⟨w.heap.size,0,none⟩)])[r]?=η[r]?:=fun h=>alr (by omega);have agh:(hp++[ab.box cs])[hp.length]?=some (.box cs):=by simp
 have Lw:(η++[Value.pointer (some ⟨w.heap.size,0,none⟩)])[hp.length]?=some (.pointer (some ⟨w.heap.size,0,none⟩)):=by rw[<-hlen];simp
 have split:∀{r:Nat} {o:ab},(hp++[ab.box cs])[r]?=some o->r<hp.length\/(r=hp.length/\o=.box cs):=by
  intro r o e;have hb:r<hp.length+1:=by have:=(ali.1 e).1;simpa using this
  by_cases h:r<hp.length
  ·exact .inl h
  ·have:r=hp.length:=by omega
   subst this;rw[agh] at e;exact .inr ⟨rfl,(alj e).symm⟩
 have Qv:∀k o,k<w.heap.size->kz η hp k o->kz (η++[.pointer (some ⟨w.heap.size,0,none⟩)]) (hp++[.box cs]) k o:=by
  intro k o eJ hf;refine(aS k o).2 fun r u e1 e2=>?_;have hb:r<hp.length+1:=by have:=(ali.1 e1).1;simp at this;omega
  by_cases h:r<hp.length
  ·rw[BP h] at e1;rw[HN h];exact(aS k o).1 hf r u e1 e2
  ·have:r=hp.length:=by omega
   subst this;rw[Lw] at e1;obtain rfl:=alj e1;cases e2;exact absurd eJ (Nat.lt_irrefl _)
 have ln:∀k,k<w.heap.size->w'.heap[k]?=w.heap[k]?:=fun k h1=>hk.block k h1 (fun h=>h);have fF:Ext w F η hp w' (fA F w η hp w' (η++[.pointer (some ⟨w.heap.size,0,none⟩)]) (hp++[.box cs])) (η++[.pointer (some ⟨w.heap.size,0,none⟩)]) (hp++[.box cs]):=by
  refine⟨fun k o u hf hc=>?_,fun k es c hf hc=>?_,fun k o hf=>?_,fun r a h=>?_,fun r a h=>?_,fun r n u h=>?_⟩
  ·simp only[World.cell?] at hc ⊢;rw[ln k (bu.bk k o hf).1];exact hc
  ·rw[ln k (bu.bk k 0 hf).1];exact hc
  ·have:=(bu.bk k o hf).1;exact⟨.inl hf,by omega,Qv k o this (bu.bk k o hf).2⟩
  ·rw[BP (by rw[<-hlen];exact(ali.1 h).1)];exact h
  ·rw[BP (by rw[<-hlen];exact(ali.1 h).1)];exact h
  ·have Bi:r<hp.length:=by
    unfold aR at h;refine Nat.lt_of_not_le fun je=>?_;rw[alU je] at h;exact h
   unfold aR at h ⊢;rw[HN Bi,BP Bi];exact h
 refine⟨⟨hk.os,hk.tape,hk.output,hk.size,fun k h1 _=>ln k h1⟩,fF,⟨by simp[hlen],fun r o u e1 e2=>?_,fun r r' o o' u u' k bL e1 e2 l1 l2 e3 e4 e5 e6=>?_⟩,fun k ⟨r,o,u,e1,l,e3,e4⟩=>?_,.ptr _ 0 _ Lw⟩
 ·rcases split e1 with h|⟨rfl,rfl⟩
  ·rw[HN h] at e1;rw[BP h] at e2;exact(bu.heap.obj r o u e1 e2).ext fF hk.size fun k _ Hw=>ln k Hw
  ·rw[Lw] at e2;obtain rfl:=alj e2;exact⟨_,vs,T,rfl,h2,hl,fun j x u hx hu=>⟨(hr j x u hx hu).1.ext fF,(hr j x u hx hu).2⟩⟩
 ·rcases split e1 with h|⟨rfl,rfl⟩
  ·rw[HN h] at e1;rw[BP h] at e3;rcases split e2 with h' | ⟨rfl,rfl⟩
   ·rw[HN h'] at e2;rw[BP h'] at e4;exact bu.heap.sep r r' o o' u u' k bL e1 e2 l1 l2 e3 e4 e5 e6
   ·rw[Lw] at e4;obtain rfl:=alj e4;cases e6;exact Nat.lt_irrefl _ (bu.live _ ⟨r,o,u,e1,l1,e3,e5⟩)
  ·rw[Lw] at e3;obtain rfl:=alj e3;cases e5;rcases split e2 with h' | ⟨rfl,rfl⟩
   ·rw[HN h'] at e2;rw[BP h'] at e4;exact Nat.lt_irrefl _ (bu.live _ ⟨r',o',u',e2,l2,e4,e6⟩)
   ·exact bL rfl
 ·rcases split e1 with h|⟨rfl,rfl⟩
  ·rw[HN h] at e1;rw[BP h] at e3;exact .inr ⟨r,o,u,e1,l,e3,e4⟩
  ·rw[Lw] at e3;obtain rfl:=alj e3;cases e4;exact .inl (alp _)
end Go.Proofs.YtnkjkpmbgoehkaaGreat
