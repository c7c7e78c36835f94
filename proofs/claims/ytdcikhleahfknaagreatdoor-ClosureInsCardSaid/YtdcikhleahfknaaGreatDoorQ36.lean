/- Texts of ours laid together for a claim: VcQ. -/
import Derived.Test.YtdcikhleahfknaaGreatDoorQ35
namespace Go.Proofs.YtdcikhleahfknaaGreatDoor
open Go
set_option linter.unusedSimpArgs false
set_option linter.unusedVariables false
variable {P:Program} {w w':World} {F:Nat→Nat→Prop} {η:List Value} {hp:List af}
theorem get_set_other {l:List af} {i j:Nat} {o:af} (h:i≠j):(l.set i o)[j]?=l[j]?:=by simp[List.getElem?_set,h]
theorem vd {r0:AV} {q:Nat} {cs cs':List AV} {b:Nat} {vs':Array Value} {T:TypeId} {v:Value} (aJ:oB w F η hp) (hq:hp[q]?=some (.box cs)) (hb:η[q]?=some (.pointer (some ⟨b,0,none⟩)))
  (hk:bo (fun k=>k=b) w w') (hs:w.heap.size≤w'.heap.size) (h2:w'.heap[b]?=some (.cells vs' T (0,0))) (hl:vs'.size=cs'.length)
  (hr:Ext w F η hp w' (bG F w η hp w' η (hp.set q (.box cs'))) η (hp.set q (.box cs'))→∀(j:Nat) (x:AV) (u:Value),cs'[j]?=some x→vs'[j]?=some u→aY w' (bG F w η hp w' η (hp.set q (.box cs'))) η (hp.set q (.box cs')) x u∧u.oneCell'=true) (OH:aY w F η hp r0 v):
  eg w F η hp w' η (hp.set q (.box cs')) r0 v:=by
 have AU:q<hp.length:=(List.getElem?_eq_some_iff.1 hq).1
 have BV:(hp.set q (.box cs'))[q]?=some (.box cs'):=by simp[List.getElem?_set,AU]
 have KY:∀k,aE η (hp.set q (.box cs')) k↔aE η hp k:=by
  intro k
  constructor
  ·intro ⟨r,o,u,e1,e2,e3,e4⟩
   by_cases hr:q=r
   ·subst hr;exact⟨q,_,u,hq,True.intro,e3,e4⟩
   ·rw[get_set_other hr] at e1;exact⟨r,o,u,e1,e2,e3,e4⟩
  ·intro ⟨r,o,u,e1,e2,e3,e4⟩
   by_cases hr:q=r
   ·subst hr;exact⟨q,_,u,BV,True.intro,e3,e4⟩
   ·exact⟨r,o,u,by rw[get_set_other hr];exact e1,e2,e3,e4⟩
 have Zo:aE η hp b:=⟨q,_,_,hq,True.intro,hb,rfl⟩
 have Hy:∀o,¬F b o:=by
  intro o hf
  obtain⟨p1,q1,q2⟩:=(aR b o).1 (aJ.bb b o hf).2 q _ hb rfl
  rw[hq] at q1
  obtain rfl:=Option.some.inj q1
  exact q2
 have KZ:∀k o,gO η hp k o→gO η (hp.set q (.box cs')) k o:=by
  intro k o hf
  refine(aR k o).2 fun r u e1 e2=>?_
  obtain⟨p1,q1,q2⟩:=(aR k o).1 hf r u e1 e2
  by_cases hr:q=r
  ·subst hr
   rw[hq] at q1
   obtain rfl:=Option.some.inj q1
   exact q2.elim
  ·exact⟨p1,by rw[get_set_other hr];exact q1,q2⟩
 have gP:∀k,k<w.heap.size→k≠b→w'.heap[k]?=w.heap[k]?:=fun k h1 h2=>hk.block k h1 h2
 have bb:∀k o,F k o→bG F w η hp w' η (hp.set q (.box cs')) k o:=fun k o hf=>⟨.inl hf,Nat.lt_of_lt_of_le (aJ.bb k o hf).1 hs,KZ k o (aJ.bb k o hf).2⟩
 have bZ:Ext w F η hp w' (bG F w η hp w' η (hp.set q (.box cs'))) η (hp.set q (.box cs')):=by
  refine⟨fun k o u hf hc=>?_,fun k es c hf hc=>?_,bb,fun r a h=>h,fun r a h=>h,fun r n u h=>?_⟩
  ·have bh:k≠b:=fun h=>Hy o (h▸hf)
   simp only[World.cell?] at hc ⊢
   rw[gP k (aJ.bb k o hf).1 bh];exact hc
  ·have bh:k≠b:=fun h=>Hy 0 (h▸hf)
   rw[gP k (aJ.bb k 0 hf).1 bh];exact hc
  ·unfold aT at h ⊢
   by_cases hr:q=r
   ·subst hr;rw[hq] at h;exact h.elim
   ·rw[get_set_other hr];exact h
 refine⟨⟨hk.os,hk.tape,hk.output,hk.size,fun k h1 h3=>gP k h1 fun h=>h3 (h▸Zo)⟩,bZ,⟨by rw[List.length_set];exact aJ.heap.len,fun r o u e1 e2=>?_,fun r r' o o' u u' k bh e1 e2 l1 l2 e3 e4 e5=>?_⟩,fun k h=>.inr ((KY k).1 h),OH.ext bZ⟩
 ·by_cases ec:q=r
  ·subst ec
   rw[BV] at e1
   obtain rfl:=Option.some.inj e1
   rw[hb] at e2
   obtain rfl:=Option.some.inj e2
   exact⟨b,vs',T,rfl,h2,hl,fun j x u hx hu=>hr bZ j x u hx hu⟩
  ·rw[get_set_other ec] at e1
   by_cases um:o.live
   ·refine(aJ.heap.obj r o u e1 e2).ext bZ hk.size fun k gn Hq=>gP k Hq fun h=>?_
    subst h
    exact aJ.heap.sep q r _ o _ u k ec hq e1 True.intro um hb e2 rfl gn
   ·cases o<;>first|exact True.intro|exact(um True.intro).elim
 ·have look:∀{r:Nat} {o:af},(hp.set q (.box cs'))[r]?=some o→o.live→∃p,hp[r]?=some p∧p.live:=by
   intro r o e l
   by_cases hr:q=r
   ·subst hr;exact⟨_,hq,True.intro⟩
   ·rw[get_set_other hr] at e;exact⟨o,e,l⟩
  obtain⟨p,Zp,Zq⟩:=look e1 l1
  obtain⟨p',Zr,Zs⟩:=look e2 l2
  exact aJ.heap.sep r r' p p' u u' k bh Zp Zr Zq Zs e3 e4 e5
theorem xp {r0:AV} {q:Nat} {cs cs':List AV} {b:Nat} {vs':Array Value} {T:TypeId} {v:Value} (aJ:oB w F η hp) (hq:hp[q]?=some (.box cs)) (hb:η[q]?=some (.pointer (some ⟨b,0,none⟩)))
  (hk:bo (fun k=>k=b) w w') (hs:w'.heap.size=w.heap.size) (h2:w'.heap[b]?=some (.cells vs' T (0,0))) (hl:vs'.size=cs'.length)
  (hr:∀(j:Nat) (x:AV) (u:Value),cs'[j]?=some x→vs'[j]?=some u→aY w F η hp x u∧u.oneCell'=true) (OH:aY w F η hp r0 v):
  eg w F η hp w' η (hp.set q (.box cs')) r0 v:=
 vd aJ hq hb hk (Nat.le_of_eq hs.symm) h2 hl (fun bZ j x u hx hu=>⟨(hr j x u hx hu).1.ext bZ,(hr j x u hx hu).2⟩) OH
end Go.Proofs.YtdcikhleahfknaaGreatDoor
