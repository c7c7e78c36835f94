/- Texts of ours laid together for a claim: FilS. -/
import Derived.Test.YtdcikhleahfknaaGreatDoorQ06
namespace Go.Proofs.YtdcikhleahfknaaGreatDoor
open Go
set_option linter.unusedSimpArgs false
set_option linter.unusedVariables false
variable {G:Type} {Γ:Env G} {s s':AS G} {a:Act} {w w':World} {η:List Value} {hp:List af} {P:Program}
def aC (η:List Value) (hp:List af) (b:Nat):Prop:=∃(r:Nat) (o:af) (v:Value),hp[r]?=some o∧o.live∧η[r]?=some v∧bT v=some b
theorem Rel.gx (aq:Γ.Ok) (hr:Rel Γ s a w η) {b:Nat} (hb:kQ b):¬aC η s.hp b:=fun⟨r,o,v,g1,g2,g3,g4⟩=>by
 rcases (hr.bA r o v b g1 g2 g3 g4).1 with h|h
 ·exact absurd (aq.fX.lt hb) (by omega)
 ·exact aq.gx b hb (.inr h)
structure nW (w:World) (F:Nat→Nat→Prop) (η:List Value) (hp:List af):Prop where
 aY:∀b o,F b o→b<w.heap.size∧gW η hp b o
 heap:cT w F η hp
 live:∀b,aC η hp b→b<w.heap.size
 fX:lZ w
 gx:∀b,kQ b→¬aC η hp b
def bQ (F:Nat→Nat→Prop) (w:World) (η:List Value) (hp:List af) (w':World) (aM:List Value) (hp':List af) (b o:Nat):Prop:=
 (F b o∨w.heap.size≤b∨aC η hp b)∧b<w'.heap.size∧gW aM hp' b o
structure fS (w:World) (F:Nat→Nat→Prop) (η:List Value) (hp:List af) (w':World) (aM:List Value) (hp':List af) (r:AV) (v:Value):Prop where
 keeps:bo (aC η hp) w w'
 ext:Ext w F η hp w' (bQ F w η hp w' aM hp') aM hp'
 heap:cT w' (bQ F w η hp w' aM hp') aM hp'
 bA:∀b,aC aM hp' b→w.heap.size≤b∨aC η hp b
 rep:aV w' (bQ F w η hp w' aM hp') aM hp' r v
def bJ (P:Program) (f:FuncId) (args:List AV) (hp:List af) (R:AV→List af→Prop):Prop:=
 gB P f∧∀(w:World) (F:Nat→Nat→Prop) (η:List Value) (aR:List Value),nW w F η hp→bF w F η hp args aR→
  CallsIn Fence.wide 0 P f aR.toArray w (fun e w'=>∃v r hp' aM,e=.returned v∧R r hp'∧fS w F η hp w' aM hp' r v)
def AV.FT (n:Nat) (hp:List af) (x:AV):AV:=if x.aJ n=true then x else x.dp hp
def AV.HK (n:Nat) (hp:List af):AV→AV
 | .agg cs=>.agg (cs.map (AV.FT n hp))
 |x=>x.FT n hp
def AV.out (n:Nat) (hp:List af):AV→AV
 | .bc vs=>.bc (vs.map (AV.HK n hp))
 |x=>x.HK n hp
def HL (tab:Nat→Option TD) (rs:List ResultVar) (n:Nat) (R:AV→List af→Prop):Exit→AS G→Prop
 | .normal,s | .ret,s=>(match dB tab s rs with
  |some l=>(∀o∈s.hp.take n,af.closed n o=true)∧R ((eW l).out n s.hp) (s.hp.take n)
  |none=>False)
 |_,_=>False
theorem HM {n b o:Nat} (hf:aU Γ w η hp b o):aU Γ w (η.take n) (hp.take n) b o:=by
 refine⟨hf.1,hf.2.1,hf.2.2.1,(aN b o).2 fun r v hv hb=>?_⟩
 rw[List.getElem?_take] at hv
 split at hv
 ·rename_i al
  obtain⟨o1,q1,q2⟩:=(aN b o).1 hf.2.2.2 r v hv hb
  exact⟨o1,by rw[List.getElem?_take,if_pos al];exact q1,q2⟩
 ·cases hv
theorem zI {n:Nat} {vh:List Value} {ir:List af} {x:AV} {v:Value} (h:aV w (aU Γ w η hp) vh ir x v):aV w (aU Γ w (η.take n) (hp.take n)) vh ir x v:=
 h.ext ⟨fun _ _ _ _ h=>h,fun _ _ _ _ h=>h,fun _ _ h=>HM h,fun _ _ h=>h,fun _ _ h=>h,fun _ _ _ h=>h⟩
theorem zJ (h:cT w (aU Γ w η hp) η hp) (hm:se Γ η hp) {n:Nat} {x:AV} {v:Value} (hx:aV w (aU Γ w η hp) η hp x v):aV w (aU Γ w (η.take n) (hp.take n)) (η.take n) (hp.take n) (x.FT n hp) v:=by
 unfold AV.FT
 split
 ·rename_i hc;exact zI (cZ hc hx)
 ·exact zI (jT h hm hx).lift
theorem zK (h:cT w (aU Γ w η hp) η hp) (hm:se Γ η hp) {n:Nat} {x:AV} {v:Value} (hx:aV w (aU Γ w η hp) η hp x v):aV w (aU Γ w (η.take n) (hp.take n)) (η.take n) (hp.take n) (x.HK n hp) v:=by
 cases x with
 |agg cs=>
  cases hx with
  |agg _ vs hl h1 hr=>
   refine .agg _ vs (by simpa using hl) h1 fun j y u hy hu=>?_
   rw[List.getElem?_map] at hy
   cases hj:cs[j]? with
   |none=>rw[hj] at hy;cases hy
   |some z=>rw[hj] at hy;obtain rfl:=Option.some.inj hy;exact zJ h hm (hr j z u hj hu)
 |_=>exact zJ h hm hx
theorem L5 (h:cT w (aU Γ w η hp) η hp) (hm:se Γ η hp) {n:Nat} {x:AV} {v:Value} (hx:aV w (aU Γ w η hp) η hp x v):aV w (aU Γ w (η.take n) (hp.take n)) (η.take n) (hp.take n) (x.out n hp) v:=by
 cases x with
 |bc cs=>
  cases hx with
  |bc _ vs hl hr=>
   refine .bc _ vs (by simpa using hl) fun j y u hy hu=>?_
   rw[List.getElem?_map] at hy
   cases hj:cs[j]? with
   |none=>rw[hj] at hy;cases hy
   |some z=>rw[hj] at hy;obtain rfl:=Option.some.inj hy;exact zK h hm (hr j z u hj hu)
 |_=>exact zK h hm hx
theorem tJ {F:Nat→Nat→Prop}:∀(l:List AV) (us:List Value) (k:Nat),bF w F η hp l us→∀t,aV w F η hp (cj k l t) (if t<k then undef else(us[t-k]?).getD undef)∨t<k:=by
 intro l
 induction l with
 |nil=>intro us k _ t;exact .inl (.top _)
 |cons x l ih=>
  intro us k hl t
  cases us with
  |nil=>exact hl.elim
  |cons u us=>
   by_cases xv:t<k
   ·exact .inr xv
   ·refine .inl ?_
    rw[if_neg xv]
    simp only[cj,eF]
    by_cases O4:t=k
    ·subst O4
     rw[if_pos rfl,Nat.sub_self]
     exact hl.1
    ·rw[if_neg O4]
     rcases ih us (k+1) hl.2 t with h1|h1
     ·rw[if_neg (by omega)] at h1
      have:t-k=(t-(k+1))+1:=by omega
      rw[this,List.getElem?_cons_succ]
      exact h1
     ·omega
theorem tK {aR:List Value} {n t:Nat}:(aR.toArray++Array.replicate n undef).getD t undef=(aR[t]?).getD undef:=by
 rw[Array.getD_eq_getD_getElem?]
 by_cases ht:t<aR.length
 ·rw[Array.getElem?_append_left (by simpa using ht)];simp
 ·rw[Array.getElem?_append_right (by simpa using ht),List.getElem?_eq_none (by omega)]
  rw[Array.getElem?_replicate]
  split<;>rfl
theorem ss {tab:Nat→Option TD} (ah:aL P tab) {f:FuncId} {fn:Func} {c:Code} {args:List AV} {hp:List af} {R:AV→List af→Prop} (m:Nat) (hm:hp.length≤m) (hf:P.funcs[f]?=some fn) (hb:fn.body=some c) (eC:(fn.name == "runtime.NumGoroutine")=false) (hn:args.length≤fn.ntmps)
  (h:∀Γ:Env Unit,Γ.Ok→Γ.P=P→fn.ntmps=Γ.nt→Γ.ir.length=hp.length→Γ.zg→dq Γ c (HL tab fn.results.toList m R) ⟨cj 0 args,hp,()⟩):bJ P f args hp R:=by
 refine⟨⟨fn,hf,eC,by rw[hb];rfl⟩,fun w F η aR aI hv=>?_⟩
 let Γ:Env Unit:={ P:=P,w0:=w,F0:=F,X:=fun _=>False,Y:=aC η hp,Inv:=fun _ _=>True,nt:=fn.ntmps,vQ:=none,m0:=fun r=>w.heap.size≤r,Z:=fun _ _=>False,vh:=η,ir:=hp }
 have aq:Γ.Ok:=⟨aI.heap.len,fun _ h=>h.elim,fun b hb=>aI.live b hb,fun _ _ _ _ _ h=>h,fun _ _ h=>h.elim,aI.fX,fun b hb h=>h.elim (fun h=>h) (aI.gx b hb)⟩
 have Lu:=hv.length
 have dF:∀b o,F b o→aU Γ w η hp b o:=fun b o hb=>⟨.inl hb,(aI.aY b o hb).1,fun h=>h.elim (fun h=>h) fun h=>h,(aI.aY b o hb).2⟩
 have Wj:Ext w F η hp w (aU Γ w η hp) η hp:=⟨fun _ _ _ _ h=>h,fun _ _ _ _ h=>h,dF,fun _ _ h=>h,fun _ _ h=>h,fun _ _ _ h=>h⟩
 have hrel:Rel Γ ⟨cj 0 args,hp,()⟩ ⟨aR.toArray++Array.replicate (fn.ntmps-aR.toArray.size) undef,[]⟩ w η:=by
  refine⟨by simp[Γ];omega,fun t=>?_,⟨aI.heap.len,fun r o v h1 h2=>(aI.heap.obj r o v h1 h2).ext Wj (Nat.le_refl _) fun _ _ _=>rfl,aI.heap.sep⟩,fun r o v b h1 h2 h3 h4=>⟨.inr ⟨r,o,v,h1,h2,h3,h4⟩,fun _ h=>h.elim (fun h=>h) fun h=>h⟩,bo.refl _ w,True.intro,⟨fun d hd=>(by cases hd),List.Pairwise.nil⟩,Wj⟩
  have:=tJ (hp:=hp) (η:=η) args aR 0 hv t
  simp only[Nat.not_lt_zero,if_false,or_false,Nat.sub_zero] at this
  show aV w _ _ _ _ ((aR.toArray++Array.replicate (fn.ntmps-aR.toArray.size) undef).getD t undef)
  rw[tK];exact this.ext Wj
 have fx:=h Γ aq rfl rfl rfl ⟨rfl,fun _ h=>h⟩ _ _ _ hrel
 refine callsIn_of_wp_marks (F:=Fence.wide) hf hb trivial (wpIn_mono (F:=Fence.wide) fx fun e a' w' ⟨s',aM,hq,dM⟩=>?_)
 have fin:(∃l,dB tab s' fn.results.toList=some l∧(∀o∈s'.hp.take m,af.closed m o=true)∧R ((eW l).out m s'.hp) (s'.hp.take m))→
   LeavesInM Fence.wide 0 P fn a'.tmps (fun e w'=>∃v r hp' aM,e=.returned v∧R r hp'∧fS w F η hp w' aM hp' r v) a'.defers .returning w':=by
  intro ⟨l,hl,cS,hR⟩
  have:=xt (Γ:=Γ) (s:=s') (η:=aM) (fn:=fn) (ts:=a'.tmps) (R:=fun e w'=>∃v r hp' aM,e=.returned v∧R r hp'∧fS w F η hp w' aM hp' r v) aq (fun _ h=>h) (fun w2 kO=>by
   obtain⟨v,h1,h2⟩:=jk ah kO hl
   refine⟨v,h1,v,_,_,aM.take m,rfl,hR,?_⟩
   obtain⟨Wk,Wl⟩:∃Wk,Wk=aM.take m∧Rel Γ ⟨fun _=>.top,s'.hp.take m,()⟩ ⟨a'.tmps,[]⟩ w2 Wk:=by
    have hw:=bV.cut (Γ:=Γ) (f:=s'.tmps) (f':=fun _=>.top) (hp:=s'.hp) (g:=s'.g) aq m hm Sub.nil lM.nil rfl cS
    have Wm:Rel Γ ⟨fun _=>.top,s'.hp.take m,()⟩ ⟨a'.tmps,[]⟩ w2 (aM.take m):=by
     have:=bV.cutAt (Γ:=Γ) (f:=s'.tmps) (f':=fun _=>.top) (hp:=s'.hp) (g:=s'.g) aq m hm Sub.nil lM.nil cS kO
     exact this
    exact⟨_,rfl,Wm⟩
   obtain⟨rfl,CM⟩:=Wl
   have gz:∀b o,aU Γ w2 (aM.take m) (s'.hp.take m) b o→bQ F w η hp w2 (aM.take m) (s'.hp.take m) b o:=fun b o hf=>⟨hf.1,hf.2.1,hf.2.2.2⟩
   have hex:∀{iq:List Value} {eG:List af},Ext w2 (aU Γ w2 (aM.take m) (s'.hp.take m)) iq eG w2 (bQ F w η hp w2 (aM.take m) (s'.hp.take m)) iq eG:=
    ⟨fun _ _ _ _ h=>h,fun _ _ _ _ h=>h,gz,fun _ _ h=>h,fun _ _ h=>h,fun _ _ _ h=>h⟩
   refine⟨?_,CM.ext.trans hex,⟨CM.heap.len,fun r o v h1 h2=>(CM.heap.obj r o v h1 h2).ext hex (Nat.le_refl _) fun _ _ _=>rfl,CM.heap.sep⟩,fun b ⟨r,o,v,g1,g2,g3,g4⟩=>(CM.bA r o v b g1 g2 g3 g4).1,(L5 kO.heap kO.bA h2).ext hex⟩
   exact⟨kO.keeps.os,kO.keeps.tape,kO.keeps.output,kO.keeps.size,fun k hk hx=>kO.keeps.block k hk fun h=>h.elim (fun h=>h) hx⟩) a'.defers w' dM
  exact this
 cases e with
 |normal=>
  simp only[HL] at hq
  split at hq
  ·rename_i l hl;exact fin ⟨l,hl,hq⟩
  ·exact hq.elim
 |ret=>
  simp only[HL] at hq
  split at hq
  ·rename_i l hl;exact fin ⟨l,hl,hq⟩
  ·exact hq.elim
 |_=>exact hq.elim
theorem Pure.of_heap {f:FuncId} {args:List AV} {R:AV→Prop} (h:bJ P f args [] (fun r hp'=>hp'=[]∧R r)):Pure P f args R:=by
 refine⟨h.1,fun w F aR hF hg hv=>(h.2 w F [] aR ⟨fun b o hb=>⟨hF b o hb,fun r v hr=>by simp at hr⟩,⟨rfl,fun r o v h=>by simp at h,fun r r' o o' v v' b _ h=>by simp at h⟩,fun b ⟨q,o,v,g,_⟩=>(by simp at g),hg,fun b _ ⟨q,o,v,g,_⟩=>by simp at g⟩ hv).mono fun e w' ⟨v,r,hp',aM,he,⟨h1,hR⟩,aZ⟩=>?_⟩
 subst h1
 have dn:aM=[]:=List.eq_nil_of_length_eq_zero aZ.heap.len
 subst dn
 refine⟨v,r,he,hR,aZ.keeps.same fun b _ ⟨q,o,v,g,_⟩=>by simp at g,aZ.rep.aY fun b o hb=>?_⟩
 rcases hb.1 with g|g|⟨q,o1,v1,g,_⟩
 ·exact .inl g
 ·exact .inr ⟨g,hb.2.1⟩
 ·simp at g
end Go.Proofs.YtdcikhleahfknaaGreatDoor
