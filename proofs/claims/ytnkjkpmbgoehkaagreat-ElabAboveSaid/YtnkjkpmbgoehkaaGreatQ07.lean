/- Texts of ours laid together for a claim: FilS. -/
import Derived.Test.YtnkjkpmbgoehkaaGreatQ06
namespace Go.Proofs.YtnkjkpmbgoehkaaGreat
open Go
set_option linter.unusedSimpArgs false
set_option linter.unusedVariables false
variable {G:Type} {Γ:Env G} {s s':AS G} {a:Act} {w w':World} {η:List Value} {hp:List ab} {P:Program}
def aI (η:List Value) (hp:List ab) (b:Nat):Prop:=∃(r:Nat) (o:ab) (v:Value),hp[r]?=some o/\o.live/\η[r]?=some v/\cZ v=some b
theorem Rel.gx (al:Γ.Ok) (hr:Rel Γ s a w η) {b:Nat} (hb:nf b):¬aI η s.hp b:=fun⟨r,o,v,g1,g2,g3,g4⟩=>by
 rcases (hr.bN r o v b g1 g2 g3 g4).1 with h|h
 ·exact absurd (al.ju.lt hb) (by omega)
 ·exact al.gx b hb (.inr h)
structure Dp (w:World) (F:Nat->Nat->Prop) (η:List Value) (hp:List ab):Prop where
 bk:∀b o,F b o->b<w.heap.size/\kz η hp b o
 heap:dJ w F η hp
 live:∀b,aI η hp b->b<w.heap.size
 ju:qn w
 gx:∀b,nf b->¬aI η hp b
def fA (F:Nat->Nat->Prop) (w:World) (η:List Value) (hp:List ab) (w':World) (aO:List Value) (hp':List ab) (b o:Nat):Prop:=
 (F b o\/w.heap.size<=b\/aI η hp b)/\b<w'.heap.size/\kz aO hp' b o
structure wZ (w:World) (F:Nat->Nat->Prop) (η:List Value) (hp:List ab) (w':World) (aO:List Value) (hp':List ab) (r:AV) (v:Value):Prop where
 keeps:bZ (aI η hp) w w'
 ext:Ext w F η hp w' (fA F w η hp w' aO hp') aO hp'
 heap:dJ w' (fA F w η hp w' aO hp') aO hp'
 bN:∀b,aI aO hp' b->w.heap.size<=b\/aI η hp b
 rep:ba w' (fA F w η hp w' aO hp') aO hp' r v
def aG (P:Program) (f:FuncId) (args:List AV) (hp:List ab) (R:AV->List ab->Prop):Prop:=
 my P f/\∀(w:World) (F:Nat->Nat->Prop) (η:List Value) (bg:List Value),Dp w F η hp->bS w F η hp args bg->
  CallsIn Fence.wide 0 P f bg.toArray w (fun e w'=>∃v r hp' aO,e=.returned v/\R r hp'/\wZ w F η hp w' aO hp' r v)
def AV.K1 (n:Nat) (hp:List ab) (x:AV):AV:=if x.aF n=true then x else x.dQ hp
def AV.Nt (n:Nat) (hp:List ab):AV->AV
 | .agg cs=>.agg (cs.map (AV.K1 n hp))
 |x=>x.K1 n hp
def AV.out (n:Nat) (hp:List ab):AV->AV
 | .av vs=>.av (vs.map (AV.Nt n hp))
 |x=>x.Nt n hp
def Nu (tab:Nat->Option TD) (rs:List ResultVar) (n:Nat) (R:AV->List ab->Prop):Exit->AS G->Prop
 | .normal,s | .ret,s=>(match ft tab s rs with
  |some l=>(∀o∈s.hp.take n,ab.closed n o=true)/\R ((gS l).out n s.hp) (s.hp.take n)
  |none=>False)
 |_,_=>False
theorem Nv {n b o:Nat} (hf:aW Γ w η hp b o):aW Γ w (η.take n) (hp.take n) b o:=by
 refine⟨hf.1,hf.2.1,hf.2.2.1,(aS b o).2 fun r v hv hb=>?_⟩;rw[alz] at hv;split at hv
 ·rename_i aq;obtain⟨o1,q1,q2⟩:=(aS b o).1 hf.2.2.2 r v hv hb;exact⟨o1,by rw[alz,if_pos aq];exact q1,q2⟩
 ·cases hv
theorem Dq {n:Nat} {zg:List Value} {lx:List ab} {x:AV} {v:Value} (h:ba w (aW Γ w η hp) zg lx x v):ba w (aW Γ w (η.take n) (hp.take n)) zg lx x v:=
 h.ext ⟨fun _ _ _ _ h=>h,fun _ _ _ _ h=>h,fun _ _ h=>Nv h,fun _ _ h=>h,fun _ _ h=>h,fun _ _ _ h=>h⟩
theorem Dr (h:dJ w (aW Γ w η hp) η hp) (hm:vu Γ η hp) {n:Nat} {x:AV} {v:Value} (hx:ba w (aW Γ w η hp) η hp x v):ba w (aW Γ w (η.take n) (hp.take n)) (η.take n) (hp.take n) (x.K1 n hp) v:=by
 unfold AV.K1;split
 ·rename_i hc;exact Dq (dS hc hx)
 ·exact Dq (kj h hm hx).lift
theorem Ds (h:dJ w (aW Γ w η hp) η hp) (hm:vu Γ η hp) {n:Nat} {x:AV} {v:Value} (hx:ba w (aW Γ w η hp) η hp x v):ba w (aW Γ w (η.take n) (hp.take n)) (η.take n) (hp.take n) (x.Nt n hp) v:=by
 cases x with
 |agg cs=>
  cases hx with
  |agg _ vs hl h1 hr=>
   refine .agg _ vs (by simpa using hl) h1 fun j y u hy hu=>?_;rw[alu] at hy
   cases hj:cs[j]? with
   |none=>rw[hj] at hy;cases hy
   |some z=>rw[hj] at hy;obtain rfl:=alj hy;exact Dr h hm (hr j z u hj hu)
 |_=>exact Dr h hm hx
theorem Tt (h:dJ w (aW Γ w η hp) η hp) (hm:vu Γ η hp) {n:Nat} {x:AV} {v:Value} (hx:ba w (aW Γ w η hp) η hp x v):ba w (aW Γ w (η.take n) (hp.take n)) (η.take n) (hp.take n) (x.out n hp) v:=by
 cases x with
 |av cs=>
  cases hx with
  |av _ vs hl hr=>
   refine .av _ vs (by simpa using hl) fun j y u hy hu=>?_;rw[alu] at hy
   cases hj:cs[j]? with
   |none=>rw[hj] at hy;cases hy
   |some z=>rw[hj] at hy;obtain rfl:=alj hy;exact Ds h hm (hr j z u hj hu)
 |_=>exact Ds h hm hx
theorem w4 {F:Nat->Nat->Prop}:∀(l:List AV) (us:List Value) (k:Nat),bS w F η hp l us->∀t,ba w F η hp (dC k l t) (if t<k then undef else(us[t-k]?).getD undef)\/t<k:=by
 intro l
 induction l with
 |nil=>intro us k _ t;exact .inl (.top _)
 |cons x l ih=>
  intro us k hl t
  cases us with
  |nil=>exact hl.elim
  |cons u us=>
   by_cases YJ:t<k
   ·exact .inr YJ
   ·refine .inl ?_;rw[if_neg YJ];simp only[dC,fX]
    by_cases Zc:t=k
    ·subst Zc;rw[if_pos rfl,amO];exact hl.1
    ·rw[if_neg Zc];rcases ih us (k+1) hl.2 t with h1|h1
     ·rw[if_neg (by omega)] at h1;have:t-k=(t-(k+1))+1:=by omega
      rw[this,alP];exact h1
     ·omega
theorem w5 {bg:List Value} {n t:Nat}:(bg.toArray++Array.replicate n undef).getD t undef=(bg[t]?).getD undef:=by
 rw[alR]
 by_cases ht:t<bg.length
 ·rw[Array.getElem?_append_left (by simpa using ht)];simp
 ·rw[Array.getElem?_append_right (by simpa using ht),alU (by omega)];rw[Array.getElem?_replicate]
  split<;>rfl
theorem vE {tab:Nat->Option TD} (ah:aL P tab) {f:FuncId} {fn:Func} {c:Code} {args:List AV} {hp:List ab} {R:AV->List ab->Prop} (m:Nat) (hm:hp.length<=m) (hf:P.funcs[f]?=some fn) (hb:fn.body=some c) (iD:(fn.name == "runtime.NumGoroutine")=false) (hn:args.length<=fn.ntmps)
  (h:∀Γ:Env Unit,Γ.Ok->Γ.P=P->fn.ntmps=Γ.nt->Γ.lx.length=hp.length->Γ.GF->ej Γ c (Nu tab fn.results.toList m R) ⟨dC 0 args,hp,()⟩):aG P f args hp R:=by
 refine⟨⟨fn,hf,iD,by rw[hb];rfl⟩,fun w F η bg bu hv=>?_⟩
 let Γ:Env Unit:={ P:=P,w0:=w,F0:=F,X:=fun _=>False,Y:=aI η hp,Inv:=fun _ _=>True,nt:=fn.ntmps,A1:=none,m0:=fun r=>w.heap.size<=r,Z:=fun _ _=>False,zg:=η,lx:=hp }
 have al:Γ.Ok:=⟨bu.heap.len,fun _ h=>h.elim,fun b hb=>bu.live b hb,fun _ _ _ _ _ h=>h,fun _ _ h=>h.elim,bu.ju,fun b hb h=>h.elim (fun h=>h) (bu.gx b hb)⟩;have Te:=hv.length;have jc:∀b o,F b o->aW Γ w η hp b o:=fun b o hb=>⟨.inl hb,(bu.bk b o hb).1,fun h=>h.elim (fun h=>h) fun h=>h,(bu.bk b o hb).2⟩;have Ab:Ext w F η hp w (aW Γ w η hp) η hp:=⟨fun _ _ _ _ h=>h,fun _ _ _ _ h=>h,jc,fun _ _ h=>h,fun _ _ h=>h,fun _ _ _ h=>h⟩;have hrel:Rel Γ ⟨dC 0 args,hp,()⟩ ⟨bg.toArray++Array.replicate (fn.ntmps-bg.toArray.size) undef,[]⟩ w η:=by
  refine⟨by simp[Γ];omega,fun t=>?_,⟨bu.heap.len,fun r o v h1 h2=>(bu.heap.obj r o v h1 h2).ext Ab (alp _) fun _ _ _=>rfl,bu.heap.sep⟩,fun r o v b h1 h2 h3 h4=>⟨.inr ⟨r,o,v,h1,h2,h3,h4⟩,fun _ h=>h.elim (fun h=>h) fun h=>h⟩,bZ.refl _ w,True.intro,⟨fun d hd=>(by cases hd),List.Pairwise.nil⟩,Ab⟩;have:=w4 (hp:=hp) (η:=η) args bg 0 hv t;simp only[Nat.not_lt_zero,if_false,or_false,Nat.sub_zero] at this;show ba w _ _ _ _ ((bg.toArray++Array.replicate (fn.ntmps-bg.toArray.size) undef).getD t undef);rw[w5];exact this.ext Ab
 have jD:=h Γ al rfl rfl rfl ⟨rfl,fun _ h=>h⟩ _ _ _ hrel;refine callsIn_of_wp_marks (F:=Fence.wide) hf hb trivial (wpIn_mono (F:=Fence.wide) jD fun e a' w' ⟨s',aO,hq,fI⟩=>?_);have fin:(∃l,ft tab s' fn.results.toList=some l/\(∀o∈s'.hp.take m,ab.closed m o=true)/\R ((gS l).out m s'.hp) (s'.hp.take m))->
   LeavesInM Fence.wide 0 P fn a'.tmps (fun e w'=>∃v r hp' aO,e=.returned v/\R r hp'/\wZ w F η hp w' aO hp' r v) a'.defers .returning w':=by
  intro ⟨l,hl,cY,hR⟩;have:=I5 (Γ:=Γ) (s:=s') (η:=aO) (fn:=fn) (ts:=a'.tmps) (R:=fun e w'=>∃v r hp' aO,e=.returned v/\R r hp'/\wZ w F η hp w' aO hp' r v) al (fun _ h=>h) (fun w2 pX=>by
   obtain⟨v,h1,h2⟩:=oO ah pX hl;refine⟨v,h1,v,_,_,aO.take m,rfl,hR,?_⟩;obtain⟨ηc,aeO⟩:∃ηc,ηc=aO.take m/\Rel Γ ⟨fun _=>.top,s'.hp.take m,()⟩ ⟨a'.tmps,[]⟩ w2 ηc:=by
    have hw:=ck.cut (Γ:=Γ) (f:=s'.tmps) (f':=fun _=>.top) (hp:=s'.hp) (g:=s'.g) al m hm Sub.nil oh.nil rfl cY;have hw':Rel Γ ⟨fun _=>.top,s'.hp.take m,()⟩ ⟨a'.tmps,[]⟩ w2 (aO.take m):=by
     have:=ck.cutAt (Γ:=Γ) (f:=s'.tmps) (f':=fun _=>.top) (hp:=s'.hp) (g:=s'.g) al m hm Sub.nil oh.nil cY pX;exact this
    exact⟨_,rfl,hw'⟩
   obtain⟨rfl,Ha⟩:=aeO;have jg:∀b o,aW Γ w2 (aO.take m) (s'.hp.take m) b o->fA F w η hp w2 (aO.take m) (s'.hp.take m) b o:=fun b o hf=>⟨hf.1,hf.2.1,hf.2.2.2⟩;have hex:∀{nc:List Value} {iC:List ab},Ext w2 (aW Γ w2 (aO.take m) (s'.hp.take m)) nc iC w2 (fA F w η hp w2 (aO.take m) (s'.hp.take m)) nc iC:=
    ⟨fun _ _ _ _ h=>h,fun _ _ _ _ h=>h,jg,fun _ _ h=>h,fun _ _ h=>h,fun _ _ _ h=>h⟩
   refine⟨?_,Ha.ext.trans hex,⟨Ha.heap.len,fun r o v h1 h2=>(Ha.heap.obj r o v h1 h2).ext hex (alp _) fun _ _ _=>rfl,Ha.heap.sep⟩,fun b ⟨r,o,v,g1,g2,g3,g4⟩=>(Ha.bN r o v b g1 g2 g3 g4).1,(Tt pX.heap pX.bN h2).ext hex⟩
   exact⟨pX.keeps.os,pX.keeps.tape,pX.keeps.output,pX.keeps.size,fun k hk hx=>pX.keeps.block k hk fun h=>h.elim (fun h=>h) hx⟩) a'.defers w' fI
  exact this
 cases e with
 |normal=>
  simp only[Nu] at hq;split at hq
  ·rename_i l hl;exact fin ⟨l,hl,hq⟩
  ·exact hq.elim
 |ret=>
  simp only[Nu] at hq;split at hq
  ·rename_i l hl;exact fin ⟨l,hl,hq⟩
  ·exact hq.elim
 |_=>exact hq.elim
theorem Pure.of_heap {f:FuncId} {args:List AV} {R:AV->Prop} (h:aG P f args [] (fun r hp'=>hp'=[]/\R r)):Pure P f args R:=by
 refine⟨h.1,fun w F bg hF hg hv=>(h.2 w F [] bg ⟨fun b o hb=>⟨hF b o hb,fun r v hr=>by simp at hr⟩,⟨rfl,fun r o v h=>by simp at h,fun r r' o o' v v' b _ h=>by simp at h⟩,fun b ⟨q,o,v,g,_⟩=>(by simp at g),hg,fun b _ ⟨q,o,v,g,_⟩=>by simp at g⟩ hv).mono fun e w' ⟨v,r,hp',aO,he,⟨h1,hR⟩,bc⟩=>?_⟩;subst h1;have eP:aO=[]:=alS bc.heap.len;subst eP;refine⟨v,r,he,hR,bc.keeps.same fun b _ ⟨q,o,v,g,_⟩=>by simp at g,bc.rep.bk fun b o hb=>?_⟩;rcases hb.1 with g|g|⟨q,o1,v1,g,_⟩
 ·exact .inl g
 ·exact .inr ⟨g,hb.2.1⟩
 ·simp at g
end Go.Proofs.YtnkjkpmbgoehkaaGreat
