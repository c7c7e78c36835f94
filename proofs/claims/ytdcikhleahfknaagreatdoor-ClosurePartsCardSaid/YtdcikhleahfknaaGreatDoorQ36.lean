/- Texts of ours laid together for a claim: VcQ. -/
import Derived.Test.YtdcikhleahfknaaGreatDoorQ35
namespace Go.Proofs.YtdcikhleahfknaaGreatDoor
open Go
set_option linter.unusedSimpArgs false
set_option linter.unusedVariables false
variable {P:Program} {w w':World} {F:Nat→Nat→Prop} {η:List Value} {hp:List af}
theorem get_set_other {l:List af} {i j:Nat} {o:af} (h:i≠j):(l.set i o)[j]?=l[j]?:=by simp[List.getElem?_set,h]
theorem uv {r0:AV} {q:Nat} {cs cs':List AV} {b:Nat} {vs':Array Value} {T:TypeId} {v:Value} (aI:nW w F η hp) (hq:hp[q]?=some (.box cs)) (hb:η[q]?=some (.pointer (some ⟨b,0,none⟩)))
  (hk:bo (fun k=>k=b) w w') (hs:w.heap.size≤w'.heap.size) (h2:w'.heap[b]?=some (.cells vs' T (0,0))) (hl:vs'.size=cs'.length)
  (hr:Ext w F η hp w' (bQ F w η hp w' η (hp.set q (.box cs'))) η (hp.set q (.box cs'))→∀(j:Nat) (x:AV) (u:Value),cs'[j]?=some x→vs'[j]?=some u→aV w' (bQ F w η hp w' η (hp.set q (.box cs'))) η (hp.set q (.box cs')) x u∧u.oneCell'=true) (M9:aV w F η hp r0 v):
  fS w F η hp w' η (hp.set q (.box cs')) r0 v:=by
 have zF:q<hp.length:=(List.getElem?_eq_some_iff.1 hq).1
 have AN:(hp.set q (.box cs'))[q]?=some (.box cs'):=by simp[List.getElem?_set,zF]
 have Jy:∀k,aC η (hp.set q (.box cs')) k↔aC η hp k:=by
  intro k
  constructor
  ·intro ⟨r,o,u,e1,e2,e3,e4⟩
   by_cases hr:q=r
   ·subst hr;exact⟨q,_,u,hq,True.intro,e3,e4⟩
   ·rw[get_set_other hr] at e1;exact⟨r,o,u,e1,e2,e3,e4⟩
  ·intro ⟨r,o,u,e1,e2,e3,e4⟩
   by_cases hr:q=r
   ·subst hr;exact⟨q,_,u,AN,True.intro,e3,e4⟩
   ·exact⟨r,o,u,by rw[get_set_other hr];exact e1,e2,e3,e4⟩
 have XS:aC η hp b:=⟨q,_,_,hq,True.intro,hb,rfl⟩
 have Gj:∀o,¬F b o:=by
  intro o hf
  obtain⟨p1,q1,q2⟩:=(aN b o).1 (aI.aY b o hf).2 q _ hb rfl
  rw[hq] at q1
  obtain rfl:=Option.some.inj q1
  exact q2
 have Jz:∀k o,gW η hp k o→gW η (hp.set q (.box cs')) k o:=by
  intro k o hf
  refine(aN k o).2 fun r u e1 e2=>?_
  obtain⟨p1,q1,q2⟩:=(aN k o).1 hf r u e1 e2
  by_cases hr:q=r
  ·subst hr
   rw[hq] at q1
   obtain rfl:=Option.some.inj q1
   exact q2.elim
  ·exact⟨p1,by rw[get_set_other hr];exact q1,q2⟩
 have gv:∀k,k<w.heap.size→k≠b→w'.heap[k]?=w.heap[k]?:=fun k h1 h2=>hk.block k h1 h2
 have aY:∀k o,F k o→bQ F w η hp w' η (hp.set q (.box cs')) k o:=fun k o hf=>⟨.inl hf,Nat.lt_of_lt_of_le (aI.aY k o hf).1 hs,Jz k o (aI.aY k o hf).2⟩
 have bY:Ext w F η hp w' (bQ F w η hp w' η (hp.set q (.box cs'))) η (hp.set q (.box cs')):=by
  refine⟨fun k o u hf hc=>?_,fun k es c hf hc=>?_,aY,fun r a h=>h,fun r a h=>h,fun r n u h=>?_⟩
  ·have bj:k≠b:=fun h=>Gj o (h▸hf)
   simp only[World.cell?] at hc ⊢
   rw[gv k (aI.aY k o hf).1 bj];exact hc
  ·have bj:k≠b:=fun h=>Gj 0 (h▸hf)
   rw[gv k (aI.aY k 0 hf).1 bj];exact hc
  ·unfold aQ at h ⊢
   by_cases hr:q=r
   ·subst hr;rw[hq] at h;exact h.elim
   ·rw[get_set_other hr];exact h
 refine⟨⟨hk.os,hk.tape,hk.output,hk.size,fun k h1 h3=>gv k h1 fun h=>h3 (h▸XS)⟩,bY,⟨by rw[List.length_set];exact aI.heap.len,fun r o u e1 e2=>?_,fun r r' o o' u u' k bj e1 e2 l1 l2 e3 e4 e5=>?_⟩,fun k h=>.inr ((Jy k).1 h),M9.ext bY⟩
 ·by_cases dM:q=r
  ·subst dM
   rw[AN] at e1
   obtain rfl:=Option.some.inj e1
   rw[hb] at e2
   obtain rfl:=Option.some.inj e2
   exact⟨b,vs',T,rfl,h2,hl,fun j x u hx hu=>hr bY j x u hx hu⟩
  ·rw[get_set_other dM] at e1
   by_cases tA:o.live
   ·refine(aI.heap.obj r o u e1 e2).ext bY hk.size fun k iT Ck=>gv k Ck fun h=>?_
    subst h
    exact aI.heap.sep q r _ o _ u k dM hq e1 True.intro tA hb e2 rfl iT
   ·cases o<;>first|exact True.intro|exact(tA True.intro).elim
 ·have look:∀{r:Nat} {o:af},(hp.set q (.box cs'))[r]?=some o→o.live→∃p,hp[r]?=some p∧p.live:=by
   intro r o e l
   by_cases hr:q=r
   ·subst hr;exact⟨_,hq,True.intro⟩
   ·rw[get_set_other hr] at e;exact⟨o,e,l⟩
  obtain⟨p,XT,XU⟩:=look e1 l1
  obtain⟨p',XV,XW⟩:=look e2 l2
  exact aI.heap.sep r r' p p' u u' k bj XT XV XU XW e3 e4 e5
theorem wG {r0:AV} {q:Nat} {cs cs':List AV} {b:Nat} {vs':Array Value} {T:TypeId} {v:Value} (aI:nW w F η hp) (hq:hp[q]?=some (.box cs)) (hb:η[q]?=some (.pointer (some ⟨b,0,none⟩)))
  (hk:bo (fun k=>k=b) w w') (hs:w'.heap.size=w.heap.size) (h2:w'.heap[b]?=some (.cells vs' T (0,0))) (hl:vs'.size=cs'.length)
  (hr:∀(j:Nat) (x:AV) (u:Value),cs'[j]?=some x→vs'[j]?=some u→aV w F η hp x u∧u.oneCell'=true) (M9:aV w F η hp r0 v):
  fS w F η hp w' η (hp.set q (.box cs')) r0 v:=
 uv aI hq hb hk (Nat.le_of_eq hs.symm) h2 hl (fun bY j x u hx hu=>⟨(hr j x u hx hu).1.ext bY,(hr j x u hx hu).2⟩) M9
end Go.Proofs.YtdcikhleahfknaaGreatDoor
