/- Lemmas. -/
import Derived.Test.YtnkjkpmbgoehkaaGreatQ06
namespace Go.Proofs.YtnkjkpmbgoehkaaGreat
open Go
set_option linter.unusedSimpArgs false
set_option linter.unusedVariables false
variable {G:Type} {Γ:Env G} {s s':AS G} {a:Act} {w w':World} {η:List Value} {hp:List aw} {P:Program}
def bb (η:List Value) (hp:List aw) (b:Nat):Prop:=∃(r:Nat) (o:aw) (v:Value),hp[r]?=some o/\o.live/\η[r]?=some v/\dO v=some b
theorem Rel.gx (aE:Γ.Ok) (hr:Rel Γ s a w η) {b:Nat} (hb:oS b):¬bb η s.hp b:=fun⟨r,o,v,g1,g2,g3,g4⟩=>by
 rcases (hr.cq r o v b g1 g2 g3 g4).1 with h|h
 ·exact absurd (aE.kN.lt hb) (by omega)
 ·exact aE.gx b hb (.inr h)
structure F6 (w:World) (F:Nat->Nat->Prop) (η:List Value) (hp:List aw):Prop where
 bI:∀b o,F b o->b<w.heap.size/\lS η hp b o
 heap:eu w F η hp
 live:∀b,bb η hp b->b<w.heap.size
 kN:sn w
 gx:∀b,oS b->¬bb η hp b
def gj (F:Nat->Nat->Prop) (w:World) (η:List Value) (hp:List aw) (w':World) (bf:List Value) (hp':List aw) (b o:Nat):Prop:=
 (F b o\/w.heap.size<=b\/bb η hp b)/\b<w'.heap.size/\lS bf hp' b o
structure zi (w:World) (F:Nat->Nat->Prop) (η:List Value) (hp:List aw) (w':World) (bf:List Value) (hp':List aw) (r:AV) (v:Value):Prop where
 keeps:cG (bb η hp) w w'
 ext:Ext w F η hp w' (gj F w η hp w' bf hp') bf hp'
 heap:eu w' (gj F w η hp w' bf hp') bf hp'
 cq:∀b,bb bf hp' b->w.heap.size<=b\/bb η hp b
 rep:bB w' (gj F w η hp w' bf hp') bf hp' r v
def aY (P:Program) (f:FuncId) (args:List AV) (hp:List aw) (R:AV->List aw->Prop):Prop:=
 nU P f/\∀(w:World) (F:Nat->Nat->Prop) (η:List Value) (bE:List Value),F6 w F η hp->cu w F η hp args bE->
  CallsIn Fence.wide 0 P f bE.toArray w (fun e w'=>∃v r hp' bf,e=.returned v/\R r hp'/\zi w F η hp w' bf hp' r v)
def AV.OX (n:Nat) (hp:List aw) (x:AV):AV:=if x.aX n=true then x else x.eG hp
def AV.Rg (n:Nat) (hp:List aw):AV->AV
 | .agg cs=>.agg (cs.map (AV.OX n hp))
 |x=>x.OX n hp
def AV.out (n:Nat) (hp:List aw):AV->AV
 | .aK vs=>.aK (vs.map (AV.Rg n hp))
 |x=>x.Rg n hp
def Rh (tab:Nat->Option TD) (rs:List ResultVar) (n:Nat) (R:AV->List aw->Prop):Exit->AS G->Prop
 | .normal,s | .ret,s=>(match fW tab s rs with
  |some l=>(∀o∈s.hp.take n,aw.closed n o=true)/\R ((iZ l).out n s.hp) (s.hp.take n)
  |none=>False)
 |_,_=>False
theorem Ri {n b o:Nat} (hf:bt Γ w η hp b o):bt Γ w (η.take n) (hp.take n) b o:=by
 refine⟨hf.1,hf.2.1,hf.2.2.1,(bm b o).2 fun r v hv hb=>?_⟩;rw[aqM] at hv;split at hv
 ·rename_i aH;obtain⟨o1,q1,q2⟩:=(bm b o).1 hf.2.2.2 r v hv hb;exact⟨o1,by rw[aqM,if_pos aH];exact q1,q2⟩
 ·cases hv
theorem F7 {n:Nat} {BF:List Value} {mU:List aw} {x:AV} {v:Value} (h:bB w (bt Γ w η hp) BF mU x v):bB w (bt Γ w (η.take n) (hp.take n)) BF mU x v:=
 h.ext ⟨fun _ _ _ _ h=>h,fun _ _ _ _ h=>h,fun _ _ h=>Ri h,fun _ _ h=>h,fun _ _ h=>h,fun _ _ _ h=>h⟩
theorem F8 (h:eu w (bt Γ w η hp) η hp) (hm:xL Γ η hp) {n:Nat} {x:AV} {v:Value} (hx:bB w (bt Γ w η hp) η hp x v):bB w (bt Γ w (η.take n) (hp.take n)) (η.take n) (hp.take n) (x.OX n hp) v:=by
 unfold AV.OX;split
 ·rename_i hc;exact F7 (eI hc hx)
 ·exact F7 (lG h hm hx).lift
theorem F9 (h:eu w (bt Γ w η hp) η hp) (hm:xL Γ η hp) {n:Nat} {x:AV} {v:Value} (hx:bB w (bt Γ w η hp) η hp x v):bB w (bt Γ w (η.take n) (hp.take n)) (η.take n) (hp.take n) (x.Rg n hp) v:=by
 cases x with
 |agg cs=>
  cases hx with
  |agg _ vs hl h1 hr=>
   refine .agg _ vs (by simpa using hl) h1 fun j y u hy hu=>?_;rw[aqE] at hy
   cases hj:cs[j]? with
   |none=>rw[hj] at hy;cases hy
   |some z=>rw[hj] at hy;obtain rfl:=aqs hy;exact F8 h hm (hr j z u hj hu)
 |_=>exact F8 h hm hx
theorem XB (h:eu w (bt Γ w η hp) η hp) (hm:xL Γ η hp) {n:Nat} {x:AV} {v:Value} (hx:bB w (bt Γ w η hp) η hp x v):bB w (bt Γ w (η.take n) (hp.take n)) (η.take n) (hp.take n) (x.out n hp) v:=by
 cases x with
 |aK cs=>
  cases hx with
  |aK _ vs hl hr=>
   refine .aK _ vs (by simpa using hl) fun j y u hy hu=>?_;rw[aqE] at hy
   cases hj:cs[j]? with
   |none=>rw[hj] at hy;cases hy
   |some z=>rw[hj] at hy;obtain rfl:=aqs hy;exact F9 h hm (hr j z u hj hu)
 |_=>exact F9 h hm hx
theorem zj {F:Nat->Nat->Prop}:∀(l:List AV) (us:List Value) (k:Nat),cu w F η hp l us->∀t,bB w F η hp (ei k l t) (if t<k then undef else(us[t-k]?).getD undef)\/t<k:=by
 intro l
 induction l with
 |nil=>intro us k _ t;exact .inl (.top _)
 |cons x l ih=>
  intro us k hl t
  cases us with
  |nil=>exact hl.elim
  |cons u us=>
   by_cases htk:t<k
   ·exact .inr htk
   ·refine .inl ?_;rw[if_neg htk];simp only[ei,gV]
    by_cases hte:t=k
    ·subst hte;rw[if_pos rfl,arO];exact hl.1
    ·rw[if_neg hte];rcases ih us (k+1) hl.2 t with h1|h1
     ·rw[if_neg (by omega)] at h1;have:t-k=(t-(k+1))+1:=by omega
      rw[this,aq2];exact h1
     ·omega
theorem zk {bE:List Value} {n t:Nat}:(bE.toArray++Array.replicate n undef).getD t undef=(bE[t]?).getD undef:=by
 rw[aq3]
 by_cases ht:t<bE.length
 ·rw[Array.getElem?_append_left (by simpa using ht)];simp
 ·rw[Array.getElem?_append_right (by simpa using ht),aq6 (by omega)];rw[Array.getElem?_replicate]
  split<;>rfl
theorem xU {tab:Nat->Option TD} (aA:bc P tab) {f:FuncId} {fn:Func} {c:Code} {args:List AV} {hp:List aw} {R:AV->List aw->Prop} (m:Nat) (hm:hp.length<=m) (hf:P.funcs[f]?=some fn) (hb:fn.body=some c) (jD:(fn.name == "runtime.NumGoroutine")=false) (hn:args.length<=fn.ntmps)
  (h:∀Γ:Env Unit,Γ.Ok->Γ.P=P->fn.ntmps=Γ.nt->Γ.mU.length=hp.length->Γ.JF->eY Γ c (Rh tab fn.results.toList m R) ⟨ei 0 args,hp,()⟩):aY P f args hp R:=by
 refine⟨⟨fn,hf,jD,by rw[hb];rfl⟩,fun w F η bE bQ hv=>?_⟩
 let Γ:Env Unit:={ P:=P,w0:=w,F0:=F,X:=fun _=>False,Y:=bb η hp,Inv:=fun _ _=>True,nt:=fn.ntmps,Dw:=none,m0:=fun r=>w.heap.size<=r,Z:=fun _ _=>False,BF:=η,mU:=hp }
 have aE:Γ.Ok:=⟨bQ.heap.len,fun _ h=>h.elim,fun b hb=>bQ.live b hb,fun _ _ _ _ _ h=>h,fun _ _ h=>h.elim,bQ.kN,fun b hb h=>h.elim (fun h=>h) (bQ.gx b hb)⟩;have Xp:=hv.length;have kp:∀b o,F b o->bt Γ w η hp b o:=fun b o hb=>⟨.inl hb,(bQ.bI b o hb).1,fun h=>h.elim (fun h=>h) fun h=>h,(bQ.bI b o hb).2⟩;have Cv:Ext w F η hp w (bt Γ w η hp) η hp:=⟨fun _ _ _ _ h=>h,fun _ _ _ _ h=>h,kp,fun _ _ h=>h,fun _ _ h=>h,fun _ _ _ h=>h⟩;have hrel:Rel Γ ⟨ei 0 args,hp,()⟩ ⟨bE.toArray++Array.replicate (fn.ntmps-bE.toArray.size) undef,[]⟩ w η:=by
  refine⟨by simp[Γ];omega,fun t=>?_,⟨bQ.heap.len,fun r o v h1 h2=>(bQ.heap.obj r o v h1 h2).ext Cv (aqw _) fun _ _ _=>rfl,bQ.heap.sep⟩,fun r o v b h1 h2 h3 h4=>⟨.inr ⟨r,o,v,h1,h2,h3,h4⟩,fun _ h=>h.elim (fun h=>h) fun h=>h⟩,cG.refl _ w,True.intro,⟨fun d hd=>(by cases hd),List.Pairwise.nil⟩,Cv⟩;have:=zj (hp:=hp) (η:=η) args bE 0 hv t;simp only[asj,if_false,or_false,asl] at this;show bB w _ _ _ _ ((bE.toArray++Array.replicate (fn.ntmps-bE.toArray.size) undef).getD t undef);rw[zk];exact this.ext Cv
 have kY:=h Γ aE rfl rfl rfl ⟨rfl,fun _ h=>h⟩ _ _ _ hrel;refine callsIn_of_wp_marks (F:=Fence.wide) hf hb trivial (wpIn_mono (F:=Fence.wide) kY fun e a' w' ⟨s',bf,hq,gy⟩=>?_);have fin:(∃l,fW tab s' fn.results.toList=some l/\(∀o∈s'.hp.take m,aw.closed m o=true)/\R ((iZ l).out m s'.hp) (s'.hp.take m))->
   LeavesInM Fence.wide 0 P fn a'.tmps (fun e w'=>∃v r hp' bf,e=.returned v/\R r hp'/\zi w F η hp w' bf hp' r v) a'.defers .returning w':=by
  intro ⟨l,hl,dK,hR⟩;have:=L1 (Γ:=Γ) (s:=s') (η:=bf) (fn:=fn) (ts:=a'.tmps) (R:=fun e w'=>∃v r hp' bf,e=.returned v/\R r hp'/\zi w F η hp w' bf hp' r v) aE (fun _ h=>h) (fun w2 rV=>by
   obtain⟨v,h1,h2⟩:=qG aA rV hl;refine⟨v,h1,v,_,_,bf.take m,rfl,hR,?_⟩;obtain⟨ηc,ajH⟩:∃ηc,ηc=bf.take m/\Rel Γ ⟨fun _=>.top,s'.hp.take m,()⟩ ⟨a'.tmps,[]⟩ w2 ηc:=by
    have hw:=cR.cut (Γ:=Γ) (f:=s'.tmps) (f':=fun _=>.top) (hp:=s'.hp) (g:=s'.g) aE m hm Sub.nil qd.nil rfl dK;have hw':Rel Γ ⟨fun _=>.top,s'.hp.take m,()⟩ ⟨a'.tmps,[]⟩ w2 (bf.take m):=by
     have:=cR.cutAt (Γ:=Γ) (f:=s'.tmps) (f':=fun _=>.top) (hp:=s'.hp) (g:=s'.g) aE m hm Sub.nil qd.nil dK rV;exact this
    exact⟨_,rfl,hw'⟩
   obtain⟨rfl,J6⟩:=ajH;have ku:∀b o,bt Γ w2 (bf.take m) (s'.hp.take m) b o->gj F w η hp w2 (bf.take m) (s'.hp.take m) b o:=fun b o hf=>⟨hf.1,hf.2.1,hf.2.2.2⟩;have hex:∀{oR:List Value} {jC:List aw},Ext w2 (bt Γ w2 (bf.take m) (s'.hp.take m)) oR jC w2 (gj F w η hp w2 (bf.take m) (s'.hp.take m)) oR jC:=
    ⟨fun _ _ _ _ h=>h,fun _ _ _ _ h=>h,ku,fun _ _ h=>h,fun _ _ h=>h,fun _ _ _ h=>h⟩
   refine⟨?_,J6.ext.trans hex,⟨J6.heap.len,fun r o v h1 h2=>(J6.heap.obj r o v h1 h2).ext hex (aqw _) fun _ _ _=>rfl,J6.heap.sep⟩,fun b ⟨r,o,v,g1,g2,g3,g4⟩=>(J6.cq r o v b g1 g2 g3 g4).1,(XB rV.heap rV.cq h2).ext hex⟩
   exact⟨rV.keeps.os,rV.keeps.tape,rV.keeps.output,rV.keeps.size,fun k hk hx=>rV.keeps.block k hk fun h=>h.elim (fun h=>h) hx⟩) a'.defers w' gy
  exact this
 cases e with
 |normal=>
  simp only[Rh] at hq;split at hq
  ·rename_i l hl;exact fin ⟨l,hl,hq⟩
  ·exact hq.elim
 |ret=>
  simp only[Rh] at hq;split at hq
  ·rename_i l hl;exact fin ⟨l,hl,hq⟩
  ·exact hq.elim
 |_=>exact hq.elim
theorem Pure.of_heap {f:FuncId} {args:List AV} {R:AV->Prop} (h:aY P f args [] (fun r hp'=>hp'=[]/\R r)):Pure P f args R:=by
 refine⟨h.1,fun w F bE hF hg hv=>(h.2 w F [] bE ⟨fun b o hb=>⟨hF b o hb,fun r v hr=>by simp at hr⟩,⟨rfl,fun r o v h=>by simp at h,fun r r' o o' v v' b _ h=>by simp at h⟩,fun b ⟨q,o,v,g,_⟩=>(by simp at g),hg,fun b _ ⟨q,o,v,g,_⟩=>by simp at g⟩ hv).mono fun e w' ⟨v,r,hp',bf,he,⟨h1,hR⟩,bD⟩=>?_⟩;subst h1;have fF:bf=[]:=aq4 bD.heap.len;subst fF;refine⟨v,r,he,hR,bD.keeps.same fun b _ ⟨q,o,v,g,_⟩=>by simp at g,bD.rep.bI fun b o hb=>?_⟩;rcases hb.1 with g|g|⟨q,o1,v1,g,_⟩
 ·exact .inl g
 ·exact .inr ⟨g,hb.2.1⟩
 ·simp at g
end Go.Proofs.YtnkjkpmbgoehkaaGreat
