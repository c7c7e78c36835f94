/- Texts of ours laid together for a claim: FilS. -/
import Derived.Test.YtdcikhleahfknaaGreatDoorQ06
namespace Go.Proofs.YtdcikhleahfknaaGreatDoor
open Go
set_option linter.unusedSimpArgs false
set_option linter.unusedVariables false
variable {G:Type} {Γ:Env G} {s s':AS G} {a:Act} {w w':World} {η:List Value} {hp:List af} {P:Program}
def aG (η:List Value) (hp:List af) (b:Nat):Prop:=∃(r:Nat) (o:af) (v:Value),hp[r]?=some o/\o.live/\η[r]?=some v/\ct v=some b
theorem Rel.gx (ax:Γ.Ok) (hr:Rel Γ s a w η) {b:Nat} (hb:mS b):¬aG η s.hp b:=fun⟨r,o,v,g1,g2,g3,g4⟩=>by
 rcases (hr.bM r o v b g1 g2 g3 g4).1 with h|h
 ·exact absurd (ax.gL.lt hb) (by omega)
 ·exact ax.gx b hb (.inr h)
structure kE (w:World) (F:Nat->Nat->Prop) (η:List Value) (hp:List af):Prop where
 bg:∀b o,F b o->b<w.heap.size/\iR η hp b o
 heap:dC w F η hp
 live:∀b,aG η hp b->b<w.heap.size
 gL:og w
 gx:∀b,mS b->¬aG η hp b
def bO (F:Nat->Nat->Prop) (w:World) (η:List Value) (hp:List af) (w':World) (aN:List Value) (hp':List af) (b o:Nat):Prop:=
 (F b o\/w.heap.size<=b\/aG η hp b)/\b<w'.heap.size/\iR aN hp' b o
structure dU (w:World) (F:Nat->Nat->Prop) (η:List Value) (hp:List af) (w':World) (aN:List Value) (hp':List af) (r:AV) (v:Value):Prop where
 keeps:bE (aG η hp) w w'
 ext:Ext w F η hp w' (bO F w η hp w' aN hp') aN hp'
 heap:dC w' (bO F w η hp w' aN hp') aN hp'
 bM:∀b,aG aN hp' b->w.heap.size<=b\/aG η hp b
 rep:bm w' (bO F w η hp w' aN hp') aN hp' r v
def bH (P:Program) (f:FuncId) (args:List AV) (hp:List af) (R:AV->List af->Prop):Prop:=
 iW P f/\∀(w:World) (F:Nat->Nat->Prop) (η:List Value) (bb:List Value),kE w F η hp->bZ w F η hp args bb->
  CallsIn Fence.wide 0 P f bb.toArray w (fun e w'=>∃v r hp' aN,e=.returned v/\R r hp'/\dU w F η hp w' aN hp' r v)
def AV.Lm (n:Nat) (hp:List af) (x:AV):AV:=if x.aW n=true then x else x.dS hp
def AV.Nv (n:Nat) (hp:List af):AV->AV
 | .agg cs=>.agg (cs.map (AV.Lm n hp))
 |x=>x.Lm n hp
def AV.out (n:Nat) (hp:List af):AV->AV
 | .aL vs=>.aL (vs.map (AV.Nv n hp))
 |x=>x.Nv n hp
def Nw (tab:Nat->Option TD) (rs:List ResultVar) (n:Nat) (R:AV->List af->Prop):Exit->AS G->Prop
 | .normal,s | .ret,s=>(match ee tab s rs with
  |some l=>(∀o∈s.hp.take n,af.closed n o=true)/\R ((gm l).out n s.hp) (s.hp.take n)
  |none=>False)
 |_,_=>False
theorem Nx {n b o:Nat} (hf:bk Γ w η hp b o):bk Γ w (η.take n) (hp.take n) b o:=by
 refine⟨hf.1,hf.2.1,hf.2.2.1,(aU b o).2 fun r v hv hb=>?_⟩;rw[alO] at hv;split at hv
 ·rename_i ak;obtain⟨o1,q1,q2⟩:=(aU b o).1 hf.2.2.2 r v hv hb;exact⟨o1,by rw[alO,if_pos ak];exact q1,q2⟩
 ·cases hv
theorem DO {n:Nat} {yY:List Value} {jR:List af} {x:AV} {v:Value} (h:bm w (bk Γ w η hp) yY jR x v):bm w (bk Γ w (η.take n) (hp.take n)) yY jR x v:=
 h.ext ⟨fun _ _ _ _ h=>h,fun _ _ _ _ h=>h,fun _ _ h=>Nx h,fun _ _ h=>h,fun _ _ h=>h,fun _ _ _ h=>h⟩
theorem DP (h:dC w (bk Γ w η hp) η hp) (hm:vB Γ η hp) {n:Nat} {x:AV} {v:Value} (hx:bm w (bk Γ w η hp) η hp x v):bm w (bk Γ w (η.take n) (hp.take n)) (η.take n) (hp.take n) (x.Lm n hp) v:=by
 unfold AV.Lm;split
 ·rename_i hc;exact DO (dJ hc hx)
 ·exact DO (lR h hm hx).lift
theorem DQ (h:dC w (bk Γ w η hp) η hp) (hm:vB Γ η hp) {n:Nat} {x:AV} {v:Value} (hx:bm w (bk Γ w η hp) η hp x v):bm w (bk Γ w (η.take n) (hp.take n)) (η.take n) (hp.take n) (x.Nv n hp) v:=by
 cases x with
 |agg cs=>
  cases hx with
  |agg _ vs hl h1 hr=>
   refine .agg _ vs (by simpa using hl) h1 fun j y u hy hu=>?_;rw[alM] at hy
   cases hj:cs[j]? with
   |none=>rw[hj] at hy;cases hy
   |some z=>rw[hj] at hy;obtain rfl:=alw hy;exact DP h hm (hr j z u hj hu)
 |_=>exact DP h hm hx
theorem Ta (h:dC w (bk Γ w η hp) η hp) (hm:vB Γ η hp) {n:Nat} {x:AV} {v:Value} (hx:bm w (bk Γ w η hp) η hp x v):bm w (bk Γ w (η.take n) (hp.take n)) (η.take n) (hp.take n) (x.out n hp) v:=by
 cases x with
 |aL cs=>
  cases hx with
  |aL _ vs hl hr=>
   refine .aL _ vs (by simpa using hl) fun j y u hy hu=>?_;rw[alM] at hy
   cases hj:cs[j]? with
   |none=>rw[hj] at hy;cases hy
   |some z=>rw[hj] at hy;obtain rfl:=alw hy;exact DQ h hm (hr j z u hj hu)
 |_=>exact DQ h hm hx
theorem w8 {F:Nat->Nat->Prop}:∀(l:List AV) (us:List Value) (k:Nat),bZ w F η hp l us->∀t,bm w F η hp (cI k l t) (if t<k then undef else(us[t-k]?).getD undef)\/t<k:=by
 intro l
 induction l with
 |nil=>intro us k _ t;exact .inl (.top _)
 |cons x l ih=>
  intro us k hl t
  cases us with
  |nil=>exact hl.elim
  |cons u us=>
   by_cases zP:t<k
   ·exact .inr zP
   ·refine .inl ?_;rw[if_neg zP];simp only[cI,fc]
    by_cases W2:t=k
    ·subst W2;rw[if_pos rfl,am9];exact hl.1
    ·rw[if_neg W2];rcases ih us (k+1) hl.2 t with h1|h1
     ·rw[if_neg (by omega)] at h1;have:t-k=(t-(k+1))+1:=by omega
      rw[this,al5];exact h1
     ·omega
theorem w9 {bb:List Value} {n t:Nat}:(bb.toArray++Array.replicate n undef).getD t undef=(bb[t]?).getD undef:=by
 rw[al9]
 by_cases ht:t<bb.length
 ·rw[ani (by simpa using ht)];simp
 ·rw[Array.getElem?_append_right (by simpa using ht),al0 (by omega)];rw[anm]
  split<;>rfl
theorem vK {tab:Nat->Option TD} (aj:aZ P tab) {f:FuncId} {fn:Func} {c:Code} {args:List AV} {hp:List af} {R:AV->List af->Prop} (m:Nat) (hm:hp.length<=m) (hf:P.funcs[f]?=some fn) (hb:fn.body=some c) (fD:(fn.name == "runtime.NumGoroutine")=false) (hn:args.length<=fn.ntmps)
  (h:∀Γ:Env Unit,Γ.Ok->Γ.P=P->fn.ntmps=Γ.nt->Γ.jR.length=hp.length->Γ.Dn->dT Γ c (Nw tab fn.results.toList m R) ⟨cI 0 args,hp,()⟩):bH P f args hp R:=by
 refine⟨⟨fn,hf,fD,by rw[hb];rfl⟩,fun w F η bb aR hv=>?_⟩
 let Γ:Env Unit:={ P:=P,w0:=w,F0:=F,X:=fun _=>False,Y:=aG η hp,Inv:=fun _ _=>True,nt:=fn.ntmps,zH:=none,m0:=fun r=>w.heap.size<=r,Z:=fun _ _=>False,yY:=η,jR:=hp }
 have ax:Γ.Ok:=⟨aR.heap.len,fun _ h=>h.elim,fun b hb=>aR.live b hb,fun _ _ _ _ _ h=>h,fun _ _ h=>h.elim,aR.gL,fun b hb h=>h.elim (fun h=>h) (aR.gx b hb)⟩;have Sw:=hv.length;have ew:∀b o,F b o->bk Γ w η hp b o:=fun b o hb=>⟨.inl hb,(aR.bg b o hb).1,fun h=>h.elim (fun h=>h) fun h=>h,(aR.bg b o hb).2⟩;have he0:Ext w F η hp w (bk Γ w η hp) η hp:=⟨fun _ _ _ _ h=>h,fun _ _ _ _ h=>h,ew,fun _ _ h=>h,fun _ _ h=>h,fun _ _ _ h=>h⟩;have hrel:Rel Γ ⟨cI 0 args,hp,()⟩ ⟨bb.toArray++Array.replicate (fn.ntmps-bb.toArray.size) undef,[]⟩ w η:=by
  refine⟨by simp[Γ];omega,fun t=>?_,⟨aR.heap.len,fun r o v h1 h2=>(aR.heap.obj r o v h1 h2).ext he0 (alA _) fun _ _ _=>rfl,aR.heap.sep⟩,fun r o v b h1 h2 h3 h4=>⟨.inr ⟨r,o,v,h1,h2,h3,h4⟩,fun _ h=>h.elim (fun h=>h) fun h=>h⟩,bE.refl _ w,True.intro,⟨fun d hd=>(by cases hd),List.Pairwise.nil⟩,he0⟩;have:=w8 (hp:=hp) (η:=η) args bb 0 hv t;simp only[ans,if_false,or_false,ant] at this;show bm w _ _ _ _ ((bb.toArray++Array.replicate (fn.ntmps-bb.toArray.size) undef).getD t undef);rw[w9];exact this.ext he0
 have gR:=h Γ ax rfl rfl rfl ⟨rfl,fun _ h=>h⟩ _ _ _ hrel;refine callsIn_of_wp_marks (F:=Fence.wide) hf hb trivial (wpIn_mono (F:=Fence.wide) gR fun e a' w' ⟨s',aN,hq,eH⟩=>?_);have fin:(∃l,ee tab s' fn.results.toList=some l/\(∀o∈s'.hp.take m,af.closed m o=true)/\R ((gm l).out m s'.hp) (s'.hp.take m))->
   LeavesInM Fence.wide 0 P fn a'.tmps (fun e w'=>∃v r hp' aN,e=.returned v/\R r hp'/\dU w F η hp w' aN hp' r v) a'.defers .returning w':=by
  intro ⟨l,hl,dx,hR⟩;have:=Bo (Γ:=Γ) (s:=s') (η:=aN) (fn:=fn) (ts:=a'.tmps) (R:=fun e w'=>∃v r hp' aN,e=.returned v/\R r hp'/\dU w F η hp w' aN hp' r v) ax (fun _ h=>h) (fun w2 mP=>by
   obtain⟨v,h1,h2⟩:=kX aj mP hl;refine⟨v,h1,v,_,_,aN.take m,rfl,hR,?_⟩;obtain⟨ηc,Ye⟩:∃ηc,ηc=aN.take m/\Rel Γ ⟨fun _=>.top,s'.hp.take m,()⟩ ⟨a'.tmps,[]⟩ w2 ηc:=by
    have hw:=cx.cut (Γ:=Γ) (f:=s'.tmps) (f':=fun _=>.top) (hp:=s'.hp) (g:=s'.g) ax m hm Sub.nil nU.nil rfl dx;have hw':Rel Γ ⟨fun _=>.top,s'.hp.take m,()⟩ ⟨a'.tmps,[]⟩ w2 (aN.take m):=by
     have:=cx.cutAt (Γ:=Γ) (f:=s'.tmps) (f':=fun _=>.top) (hp:=s'.hp) (g:=s'.g) ax m hm Sub.nil nU.nil dx mP;exact this
    exact⟨_,rfl,hw'⟩
   obtain⟨rfl,Hu⟩:=Ye;have eA:∀b o,bk Γ w2 (aN.take m) (s'.hp.take m) b o->bO F w η hp w2 (aN.take m) (s'.hp.take m) b o:=fun b o hf=>⟨hf.1,hf.2.1,hf.2.2.2⟩;have hex:∀{jP:List Value} {fG:List af},Ext w2 (bk Γ w2 (aN.take m) (s'.hp.take m)) jP fG w2 (bO F w η hp w2 (aN.take m) (s'.hp.take m)) jP fG:=
    ⟨fun _ _ _ _ h=>h,fun _ _ _ _ h=>h,eA,fun _ _ h=>h,fun _ _ h=>h,fun _ _ _ h=>h⟩
   refine⟨?_,Hu.ext.trans hex,⟨Hu.heap.len,fun r o v h1 h2=>(Hu.heap.obj r o v h1 h2).ext hex (alA _) fun _ _ _=>rfl,Hu.heap.sep⟩,fun b ⟨r,o,v,g1,g2,g3,g4⟩=>(Hu.bM r o v b g1 g2 g3 g4).1,(Ta mP.heap mP.bM h2).ext hex⟩
   exact⟨mP.keeps.os,mP.keeps.tape,mP.keeps.output,mP.keeps.size,fun k hk hx=>mP.keeps.block k hk fun h=>h.elim (fun h=>h) hx⟩) a'.defers w' eH
  exact this
 cases e with
 |normal=>
  simp only[Nw] at hq;split at hq
  ·rename_i l hl;exact fin ⟨l,hl,hq⟩
  ·exact hq.elim
 |ret=>
  simp only[Nw] at hq;split at hq
  ·rename_i l hl;exact fin ⟨l,hl,hq⟩
  ·exact hq.elim
 |_=>exact hq.elim
theorem Pure.of_heap {f:FuncId} {args:List AV} {R:AV->Prop} (h:bH P f args [] (fun r hp'=>hp'=[]/\R r)):Pure P f args R:=by
 refine⟨h.1,fun w F bb hF hg hv=>(h.2 w F [] bb ⟨fun b o hb=>⟨hF b o hb,fun r v hr=>by simp at hr⟩,⟨rfl,fun r o v h=>by simp at h,fun r r' o o' v v' b _ h=>by simp at h⟩,fun b ⟨q,o,v,g,_⟩=>(by simp at g),hg,fun b _ ⟨q,o,v,g,_⟩=>by simp at g⟩ hv).mono fun e w' ⟨v,r,hp',aN,he,⟨h1,hR⟩,bf⟩=>?_⟩;subst h1;have dR:aN=[]:=al1 bf.heap.len;subst dR;refine⟨v,r,he,hR,bf.keeps.same fun b _ ⟨q,o,v,g,_⟩=>by simp at g,bf.rep.bg fun b o hb=>?_⟩;rcases hb.1 with g|g|⟨q,o1,v1,g,_⟩
 ·exact .inl g
 ·exact .inr ⟨g,hb.2.1⟩
 ·simp at g
end Go.Proofs.YtdcikhleahfknaaGreatDoor
