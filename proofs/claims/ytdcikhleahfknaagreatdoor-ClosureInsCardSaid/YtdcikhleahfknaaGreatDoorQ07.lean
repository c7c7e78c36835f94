/- Texts of ours laid together for a claim: FilS. -/
import Derived.Test.YtdcikhleahfknaaGreatDoorQ06
namespace Go.Proofs.YtdcikhleahfknaaGreatDoor
open Go
set_option linter.unusedSimpArgs false
set_option linter.unusedVariables false
variable {G:Type} {Γ:Env G} {s s':AS G} {a:Act} {w w':World} {η:List Value} {hp:List af} {P:Program}
def aE (η:List Value) (hp:List af) (b:Nat):Prop:=∃(r:Nat) (o:af) (v:Value),hp[r]?=some o∧o.live∧η[r]?=some v∧bU v=some b
theorem Rel.gx (ao:Γ.Ok) (hr:Rel Γ s a w η) {b:Nat} (hb:ly b):¬aE η s.hp b:=fun⟨r,o,v,g1,g2,g3,g4⟩=>by
 rcases (hr.bA r o v b g1 g2 g3 g4).1 with h|h
 ·exact absurd (ao.gz.lt hb) (by omega)
 ·exact ao.gx b hb (.inr h)
structure oB (w:World) (F:Nat→Nat→Prop) (η:List Value) (hp:List af):Prop where
 bb:∀b o,F b o→b<w.heap.size∧gO η hp b o
 heap:cX w F η hp
 live:∀b,aE η hp b→b<w.heap.size
 gz:mH w
 gx:∀b,ly b→¬aE η hp b
def bG (F:Nat→Nat→Prop) (w:World) (η:List Value) (hp:List af) (w':World) (aH:List Value) (hp':List af) (b o:Nat):Prop:=
 (F b o∨w.heap.size≤b∨aE η hp b)∧b<w'.heap.size∧gO aH hp' b o
structure eg (w:World) (F:Nat→Nat→Prop) (η:List Value) (hp:List af) (w':World) (aH:List Value) (hp':List af) (r:AV) (v:Value):Prop where
 keeps:bo (aE η hp) w w'
 ext:Ext w F η hp w' (bG F w η hp w' aH hp') aH hp'
 heap:cX w' (bG F w η hp w' aH hp') aH hp'
 bA:∀b,aE aH hp' b→w.heap.size≤b∨aE η hp b
 rep:aY w' (bG F w η hp w' aH hp') aH hp' r v
def bp (P:Program) (f:FuncId) (args:List AV) (hp:List af) (R:AV→List af→Prop):Prop:=
 gU P f∧∀(w:World) (F:Nat→Nat→Prop) (η:List Value) (aU:List Value),oB w F η hp→bM w F η hp args aU→
  CallsIn Fence.wide 0 P f aU.toArray w (fun e w'=>∃v r hp' aH,e=.returned v∧R r hp'∧eg w F η hp w' aH hp' r v)
def AV.Hd (n:Nat) (hp:List af) (x:AV):AV:=if x.aM n=true then x else x.dF hp
def AV.Jm (n:Nat) (hp:List af):AV→AV
 | .agg cs=>.agg (cs.map (AV.Hd n hp))
 |x=>x.Hd n hp
def AV.out (n:Nat) (hp:List af):AV→AV
 | .aX vs=>.aX (vs.map (AV.Jm n hp))
 |x=>x.Jm n hp
def Jn (tab:Nat→Option TD) (rs:List ResultVar) (n:Nat) (R:AV→List af→Prop):Exit→AS G→Prop
 | .normal,s | .ret,s=>(match dN tab s rs with
  |some l=>(∀o∈s.hp.take n,af.closed n o=true)∧R ((fw l).out n s.hp) (s.hp.take n)
  |none=>False)
 |_,_=>False
theorem Jo {n b o:Nat} (hf:aW Γ w η hp b o):aW Γ w (η.take n) (hp.take n) b o:=by
 refine⟨hf.1,hf.2.1,hf.2.2.1,(aR b o).2 fun r v hv hb=>?_⟩
 rw[List.getElem?_take] at hv
 split at hv
 ·rename_i ak
  obtain⟨o1,q1,q2⟩:=(aR b o).1 hf.2.2.2 r v hv hb
  exact⟨o1,by rw[List.getElem?_take,if_pos ak];exact q1,q2⟩
 ·cases hv
theorem AY {n:Nat} {vZ:List Value} {iV:List af} {x:AV} {v:Value} (h:aY w (aW Γ w η hp) vZ iV x v):aY w (aW Γ w (η.take n) (hp.take n)) vZ iV x v:=
 h.ext ⟨fun _ _ _ _ h=>h,fun _ _ _ _ h=>h,fun _ _ h=>Jo h,fun _ _ h=>h,fun _ _ h=>h,fun _ _ _ h=>h⟩
theorem AZ (h:cX w (aW Γ w η hp) η hp) (hm:sU Γ η hp) {n:Nat} {x:AV} {v:Value} (hx:aY w (aW Γ w η hp) η hp x v):aY w (aW Γ w (η.take n) (hp.take n)) (η.take n) (hp.take n) (x.Hd n hp) v:=by
 unfold AV.Hd
 split
 ·rename_i hc;exact AY (dy hc hx)
 ·exact AY (kz h hm hx).lift
theorem A0 (h:cX w (aW Γ w η hp) η hp) (hm:sU Γ η hp) {n:Nat} {x:AV} {v:Value} (hx:aY w (aW Γ w η hp) η hp x v):aY w (aW Γ w (η.take n) (hp.take n)) (η.take n) (hp.take n) (x.Jm n hp) v:=by
 cases x with
 |agg cs=>
  cases hx with
  |agg _ vs hl h1 hr=>
   refine .agg _ vs (by simpa using hl) h1 fun j y u hy hu=>?_
   rw[List.getElem?_map] at hy
   cases hj:cs[j]? with
   |none=>rw[hj] at hy;cases hy
   |some z=>rw[hj] at hy;obtain rfl:=Option.some.inj hy;exact AZ h hm (hr j z u hj hu)
 |_=>exact AZ h hm hx
theorem ND (h:cX w (aW Γ w η hp) η hp) (hm:sU Γ η hp) {n:Nat} {x:AV} {v:Value} (hx:aY w (aW Γ w η hp) η hp x v):aY w (aW Γ w (η.take n) (hp.take n)) (η.take n) (hp.take n) (x.out n hp) v:=by
 cases x with
 |aX cs=>
  cases hx with
  |aX _ vs hl hr=>
   refine .aX _ vs (by simpa using hl) fun j y u hy hu=>?_
   rw[List.getElem?_map] at hy
   cases hj:cs[j]? with
   |none=>rw[hj] at hy;cases hy
   |some z=>rw[hj] at hy;obtain rfl:=Option.some.inj hy;exact A0 h hm (hr j z u hj hu)
 |_=>exact A0 h hm hx
theorem uz {F:Nat→Nat→Prop}:∀(l:List AV) (us:List Value) (k:Nat),bM w F η hp l us→∀t,aY w F η hp (ck k l t) (if t<k then undef else(us[t-k]?).getD undef)∨t<k:=by
 intro l
 induction l with
 |nil=>intro us k _ t;exact .inl (.top _)
 |cons x l ih=>
  intro us k hl t
  cases us with
  |nil=>exact hl.elim
  |cons u us=>
   by_cases ye:t<k
   ·exact .inr ye
   ·refine .inl ?_
    rw[if_neg ye]
    simp only[ck,fc]
    by_cases QH:t=k
    ·subst QH
     rw[if_pos rfl,Nat.sub_self]
     exact hl.1
    ·rw[if_neg QH]
     rcases ih us (k+1) hl.2 t with h1|h1
     ·rw[if_neg (by omega)] at h1
      have:t-k=(t-(k+1))+1:=by omega
      rw[this,List.getElem?_cons_succ]
      exact h1
     ·omega
theorem uA {aU:List Value} {n t:Nat}:(aU.toArray++Array.replicate n undef).getD t undef=(aU[t]?).getD undef:=by
 rw[Array.getD_eq_getD_getElem?]
 by_cases ht:t<aU.length
 ·rw[Array.getElem?_append_left (by simpa using ht)];simp
 ·rw[Array.getElem?_append_right (by simpa using ht),List.getElem?_eq_none (by omega)]
  rw[Array.getElem?_replicate]
  split<;>rfl
theorem ta {tab:Nat→Option TD} (ah:aQ P tab) {f:FuncId} {fn:Func} {c:Code} {args:List AV} {hp:List af} {R:AV→List af→Prop} (m:Nat) (hm:hp.length≤m) (hf:P.funcs[f]?=some fn) (hb:fn.body=some c) (eZ:(fn.name == "runtime.NumGoroutine")=false) (hn:args.length≤fn.ntmps)
  (h:∀Γ:Env Unit,Γ.Ok→Γ.P=P→fn.ntmps=Γ.nt→Γ.iV.length=hp.length→Γ.Ar→dG Γ c (Jn tab fn.results.toList m R) ⟨ck 0 args,hp,()⟩):bp P f args hp R:=by
 refine⟨⟨fn,hf,eZ,by rw[hb];rfl⟩,fun w F η aU aJ hv=>?_⟩
 let Γ:Env Unit:={ P:=P,w0:=w,F0:=F,X:=fun _=>False,Y:=aE η hp,Inv:=fun _ _=>True,nt:=fn.ntmps,wP:=none,m0:=fun r=>w.heap.size≤r,Z:=fun _ _=>False,vZ:=η,iV:=hp }
 have ao:Γ.Ok:=⟨aJ.heap.len,fun _ h=>h.elim,fun b hb=>aJ.live b hb,fun _ _ _ _ _ h=>h,fun _ _ h=>h.elim,aJ.gz,fun b hb h=>h.elim (fun h=>h) (aJ.gx b hb)⟩
 have MZ:=hv.length
 have dT:∀b o,F b o→aW Γ w η hp b o:=fun b o hb=>⟨.inl hb,(aJ.bb b o hb).1,fun h=>h.elim (fun h=>h) fun h=>h,(aJ.bb b o hb).2⟩
 have XX:Ext w F η hp w (aW Γ w η hp) η hp:=⟨fun _ _ _ _ h=>h,fun _ _ _ _ h=>h,dT,fun _ _ h=>h,fun _ _ h=>h,fun _ _ _ h=>h⟩
 have hrel:Rel Γ ⟨ck 0 args,hp,()⟩ ⟨aU.toArray++Array.replicate (fn.ntmps-aU.toArray.size) undef,[]⟩ w η:=by
  refine⟨by simp[Γ];omega,fun t=>?_,⟨aJ.heap.len,fun r o v h1 h2=>(aJ.heap.obj r o v h1 h2).ext XX (Nat.le_refl _) fun _ _ _=>rfl,aJ.heap.sep⟩,fun r o v b h1 h2 h3 h4=>⟨.inr ⟨r,o,v,h1,h2,h3,h4⟩,fun _ h=>h.elim (fun h=>h) fun h=>h⟩,bo.refl _ w,True.intro,⟨fun d hd=>(by cases hd),List.Pairwise.nil⟩,XX⟩
  have:=uz (hp:=hp) (η:=η) args aU 0 hv t
  simp only[Nat.not_lt_zero,if_false,or_false,Nat.sub_zero] at this
  show aY w _ _ _ _ ((aU.toArray++Array.replicate (fn.ntmps-aU.toArray.size) undef).getD t undef)
  rw[uA];exact this.ext XX
 have fa:=h Γ ao rfl rfl rfl ⟨rfl,fun _ h=>h⟩ _ _ _ hrel
 refine callsIn_of_wp_marks (F:=Fence.wide) hf hb trivial (wpIn_mono (F:=Fence.wide) fa fun e a' w' ⟨s',aH,hq,ec⟩=>?_)
 have fin:(∃l,dN tab s' fn.results.toList=some l∧(∀o∈s'.hp.take m,af.closed m o=true)∧R ((fw l).out m s'.hp) (s'.hp.take m))→
   LeavesInM Fence.wide 0 P fn a'.tmps (fun e w'=>∃v r hp' aH,e=.returned v∧R r hp'∧eg w F η hp w' aH hp' r v) a'.defers .returning w':=by
  intro ⟨l,hl,cS,hR⟩
  have:=yc (Γ:=Γ) (s:=s') (η:=aH) (fn:=fn) (ts:=a'.tmps) (R:=fun e w'=>∃v r hp' aH,e=.returned v∧R r hp'∧eg w F η hp w' aH hp' r v) ao (fun _ h=>h) (fun w2 lr=>by
   obtain⟨v,h1,h2⟩:=jL ah lr hl
   refine⟨v,h1,v,_,_,aH.take m,rfl,hR,?_⟩
   obtain⟨XY,XZ⟩:∃XY,XY=aH.take m∧Rel Γ ⟨fun _=>.top,s'.hp.take m,()⟩ ⟨a'.tmps,[]⟩ w2 XY:=by
    have hw:=bX.cut (Γ:=Γ) (f:=s'.tmps) (f':=fun _=>.top) (hp:=s'.hp) (g:=s'.g) ao m hm Sub.nil mr.nil rfl cS
    have X0:Rel Γ ⟨fun _=>.top,s'.hp.take m,()⟩ ⟨a'.tmps,[]⟩ w2 (aH.take m):=by
     have:=bX.cutAt (Γ:=Γ) (f:=s'.tmps) (f':=fun _=>.top) (hp:=s'.hp) (g:=s'.g) ao m hm Sub.nil mr.nil cS lr
     exact this
    exact⟨_,rfl,X0⟩
   obtain⟨rfl,D7⟩:=XZ
   have gR:∀b o,aW Γ w2 (aH.take m) (s'.hp.take m) b o→bG F w η hp w2 (aH.take m) (s'.hp.take m) b o:=fun b o hf=>⟨hf.1,hf.2.1,hf.2.2.2⟩
   have hex:∀{iU:List Value} {ff:List af},Ext w2 (aW Γ w2 (aH.take m) (s'.hp.take m)) iU ff w2 (bG F w η hp w2 (aH.take m) (s'.hp.take m)) iU ff:=
    ⟨fun _ _ _ _ h=>h,fun _ _ _ _ h=>h,gR,fun _ _ h=>h,fun _ _ h=>h,fun _ _ _ h=>h⟩
   refine⟨?_,D7.ext.trans hex,⟨D7.heap.len,fun r o v h1 h2=>(D7.heap.obj r o v h1 h2).ext hex (Nat.le_refl _) fun _ _ _=>rfl,D7.heap.sep⟩,fun b ⟨r,o,v,g1,g2,g3,g4⟩=>(D7.bA r o v b g1 g2 g3 g4).1,(ND lr.heap lr.bA h2).ext hex⟩
   exact⟨lr.keeps.os,lr.keeps.tape,lr.keeps.output,lr.keeps.size,fun k hk hx=>lr.keeps.block k hk fun h=>h.elim (fun h=>h) hx⟩) a'.defers w' ec
  exact this
 cases e with
 |normal=>
  simp only[Jn] at hq
  split at hq
  ·rename_i l hl;exact fin ⟨l,hl,hq⟩
  ·exact hq.elim
 |ret=>
  simp only[Jn] at hq
  split at hq
  ·rename_i l hl;exact fin ⟨l,hl,hq⟩
  ·exact hq.elim
 |_=>exact hq.elim
theorem Pure.of_heap {f:FuncId} {args:List AV} {R:AV→Prop} (h:bp P f args [] (fun r hp'=>hp'=[]∧R r)):Pure P f args R:=by
 refine⟨h.1,fun w F aU hF hg hv=>(h.2 w F [] aU ⟨fun b o hb=>⟨hF b o hb,fun r v hr=>by simp at hr⟩,⟨rfl,fun r o v h=>by simp at h,fun r r' o o' v v' b _ h=>by simp at h⟩,fun b ⟨q,o,v,g,_⟩=>(by simp at g),hg,fun b _ ⟨q,o,v,g,_⟩=>by simp at g⟩ hv).mono fun e w' ⟨v,r,hp',aH,he,⟨h1,hR⟩,bc⟩=>?_⟩
 subst h1
 have dE:aH=[]:=List.eq_nil_of_length_eq_zero bc.heap.len
 subst dE
 refine⟨v,r,he,hR,bc.keeps.same fun b _ ⟨q,o,v,g,_⟩=>by simp at g,bc.rep.bb fun b o hb=>?_⟩
 rcases hb.1 with g|g|⟨q,o1,v1,g,_⟩
 ·exact .inl g
 ·exact .inr ⟨g,hb.2.1⟩
 ·simp at g
end Go.Proofs.YtdcikhleahfknaaGreatDoor
