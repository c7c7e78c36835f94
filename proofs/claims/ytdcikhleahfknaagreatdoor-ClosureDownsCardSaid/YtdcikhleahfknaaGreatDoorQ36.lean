/- Texts of ours laid together for a claim: VcQ. -/
import Derived.Test.YtdcikhleahfknaaGreatDoorQ35
namespace Go.Proofs.YtdcikhleahfknaaGreatDoor
open Go
set_option linter.unusedSimpArgs false
set_option linter.unusedVariables false
variable {P:Program} {w w':World} {F:Nat->Nat->Prop} {η:List Value} {hp:List af}
theorem get_set_other {l:List af} {i j:Nat} {o:af} (h:i≠j):(l.set i o)[j]?=l[j]?:=by simp[amr,h]
theorem xJ {r0:AV} {q:Nat} {cs cs':List AV} {b:Nat} {vs':Array Value} {T:TypeId} {v:Value} (aR:kE w F η hp) (hq:hp[q]?=some (.box cs)) (hb:η[q]?=some (.pointer (some ⟨b,0,none⟩)))
  (hk:bE (fun k=>k=b) w w') (hs:w.heap.size<=w'.heap.size) (h2:w'.heap[b]?=some (.cells vs' T (0,0))) (hl:vs'.size=cs'.length)
  (hr:Ext w F η hp w' (bO F w η hp w' η (hp.set q (.box cs'))) η (hp.set q (.box cs'))->∀(j:Nat) (x:AV) (u:Value),cs'[j]?=some x->vs'[j]?=some u->bm w' (bO F w η hp w' η (hp.set q (.box cs'))) η (hp.set q (.box cs')) x u/\u.oneCell'=true) (Um:bm w F η hp r0 v):
  dU w F η hp w' η (hp.set q (.box cs')) r0 v:=by
 have Bq:q<hp.length:=(alu.1 hq).1;have xK:(hp.set q (.box cs'))[q]?=some (.box cs'):=by simp[amr,Bq]
 have Po:∀k,aG η (hp.set q (.box cs')) k↔aG η hp k:=by
  intro k;constructor
  ·intro ⟨r,o,u,e1,e2,e3,e4⟩
   by_cases hr:q=r
   ·subst hr;exact⟨q,_,u,hq,True.intro,e3,e4⟩
   ·rw[get_set_other hr] at e1;exact⟨r,o,u,e1,e2,e3,e4⟩
  ·intro ⟨r,o,u,e1,e2,e3,e4⟩
   by_cases hr:q=r
   ·subst hr;exact⟨q,_,u,xK,True.intro,e3,e4⟩
   ·exact⟨r,o,u,by rw[get_set_other hr];exact e1,e2,e3,e4⟩
 have hbl:aG η hp b:=⟨q,_,_,hq,True.intro,hb,rfl⟩;have LL:∀o,¬F b o:=by
  intro o hf;obtain⟨p1,q1,q2⟩:=(aU b o).1 (aR.bg b o hf).2 q _ hb rfl;rw[hq] at q1;obtain rfl:=alw q1;exact q2
 have Pp:∀k o,iR η hp k o->iR η (hp.set q (.box cs')) k o:=by
  intro k o hf;refine(aU k o).2 fun r u e1 e2=>?_;obtain⟨p1,q1,q2⟩:=(aU k o).1 hf r u e1 e2
  by_cases hr:q=r
  ·subst hr;rw[hq] at q1;obtain rfl:=alw q1;exact q2.elim
  ·exact⟨p1,by rw[get_set_other hr];exact q1,q2⟩
 have iS:∀k,k<w.heap.size->k≠b->w'.heap[k]?=w.heap[k]?:=fun k h1 h2=>hk.block k h1 h2;have bg:∀k o,F k o->bO F w η hp w' η (hp.set q (.box cs')) k o:=fun k o hf=>⟨.inl hf,al8 (aR.bg k o hf).1 hs,Pp k o (aR.bg k o hf).2⟩;have cA:Ext w F η hp w' (bO F w η hp w' η (hp.set q (.box cs'))) η (hp.set q (.box cs')):=by
  refine⟨fun k o u hf hc=>?_,fun k es c hf hc=>?_,bg,fun r a h=>h,fun r a h=>h,fun r n u h=>?_⟩
  ·have bu:k≠b:=fun h=>LL o (h▸hf);simp only[World.cell?] at hc ⊢;rw[iS k (aR.bg k o hf).1 bu];exact hc
  ·have bu:k≠b:=fun h=>LL 0 (h▸hf);rw[iS k (aR.bg k 0 hf).1 bu];exact hc
  ·unfold aT at h ⊢
   by_cases hr:q=r
   ·subst hr;rw[hq] at h;exact h.elim
   ·rw[get_set_other hr];exact h
 refine⟨⟨hk.os,hk.tape,hk.output,hk.size,fun k h1 h3=>iS k h1 fun h=>h3 (h▸hbl)⟩,cA,⟨by rw[amJ];exact aR.heap.len,fun r o u e1 e2=>?_,fun r r' o o' u u' k bu e1 e2 l1 l2 e3 e4 e5=>?_⟩,fun k h=>.inr ((Po k).1 h),Um.ext cA⟩
 ·by_cases eH:q=r
  ·subst eH;rw[xK] at e1;obtain rfl:=alw e1;rw[hb] at e2;obtain rfl:=alw e2;exact⟨b,vs',T,rfl,h2,hl,fun j x u hx hu=>hr cA j x u hx hu⟩
  ·rw[get_set_other eH] at e1
   by_cases wV:o.live
   ·refine(aR.heap.obj r o u e1 e2).ext cA hk.size fun k gK oX=>iS k oX fun h=>?_;subst h;exact aR.heap.sep q r _ o _ u k eH hq e1 True.intro wV hb e2 rfl gK
   ·cases o<;>first|exact True.intro|exact(wV True.intro).elim
 ·have look:∀{r:Nat} {o:af},(hp.set q (.box cs'))[r]?=some o->o.live->∃p,hp[r]?=some p/\p.live:=by
   intro r o e l
   by_cases hr:q=r
   ·subst hr;exact⟨_,hq,True.intro⟩
   ·rw[get_set_other hr] at e;exact⟨o,e,l⟩
  obtain⟨p,e1',l1'⟩:=look e1 l1;obtain⟨p',e2',l2'⟩:=look e2 l2;exact aR.heap.sep r r' p p' u u' k bu e1' e2' l1' l2' e3 e4 e5
theorem Al {r0:AV} {q:Nat} {cs cs':List AV} {b:Nat} {vs':Array Value} {T:TypeId} {v:Value} (aR:kE w F η hp) (hq:hp[q]?=some (.box cs)) (hb:η[q]?=some (.pointer (some ⟨b,0,none⟩)))
  (hk:bE (fun k=>k=b) w w') (hs:w'.heap.size=w.heap.size) (h2:w'.heap[b]?=some (.cells vs' T (0,0))) (hl:vs'.size=cs'.length)
  (hr:∀(j:Nat) (x:AV) (u:Value),cs'[j]?=some x->vs'[j]?=some u->bm w F η hp x u/\u.oneCell'=true) (Um:bm w F η hp r0 v):
  dU w F η hp w' η (hp.set q (.box cs')) r0 v:=
 xJ aR hq hb hk (Nat.le_of_eq hs.symm) h2 hl (fun cA j x u hx hu=>⟨(hr j x u hx hu).1.ext cA,(hr j x u hx hu).2⟩) Um
end Go.Proofs.YtdcikhleahfknaaGreatDoor
