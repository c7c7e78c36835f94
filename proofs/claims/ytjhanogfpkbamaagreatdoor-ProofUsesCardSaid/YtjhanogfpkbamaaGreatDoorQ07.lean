/- Texts of ours laid together for a claim: FilS. -/
import Derived.Test.YtjhanogfpkbamaaGreatDoorQ06
namespace Go.Proofs.YtjhanogfpkbamaaGreatDoor
open Go
set_option linter.unusedSimpArgs false
set_option linter.unusedVariables false
variable {G:Type} {Γ:Env G} {s s':AS G} {a:Act} {w w':World} {η:List Value} {hp:List af} {P:Program}
def aQ (η:List Value) (hp:List af) (b:Nat):Prop:=∃(r:Nat) (o:af) (v:Value),hp[r]?=some o∧o.live∧η[r]?=some v∧dK v=some b
theorem Rel.gx (aD:Γ.Ok) (hr:Rel Γ s a w η) {b:Nat} (hb:nJ b):¬aQ η s.hp b:=fun⟨r,o,v,g1,g2,g3,g4⟩=>by
 rcases (hr.cE r o v b g1 g2 g3 g4).1 with h|h
 ·exact absurd (aD.kg.lt hb) (by omega)
 ·exact aD.gx b hb (.inr h)
structure Eb (w:World) (F:Nat→Nat→Prop) (η:List Value) (hp:List af):Prop where
 bD:∀b o,F b o→b<w.heap.size∧mB η hp b o
 heap:eI w F η hp
 live:∀b,aQ η hp b→b<w.heap.size
 kg:pF w
 gx:∀b,nJ b→¬aQ η hp b
def gJ (F:Nat→Nat→Prop) (w:World) (η:List Value) (hp:List af) (w':World) (aU:List Value) (hp':List af) (b o:Nat):Prop:=
 (F b o∨w.heap.size≤b∨aQ η hp b)∧b<w'.heap.size∧mB aU hp' b o
structure yC (w:World) (F:Nat→Nat→Prop) (η:List Value) (hp:List af) (w':World) (aU:List Value) (hp':List af) (r:AV) (v:Value):Prop where
 keeps:cD (aQ η hp) w w'
 ext:Ext w F η hp w' (gJ F w η hp w' aU hp') aU hp'
 heap:eI w' (gJ F w η hp w' aU hp') aU hp'
 cE:∀b,aQ aU hp' b→w.heap.size≤b∨aQ η hp b
 rep:bw w' (gJ F w η hp w' aU hp') aU hp' r v
def cG (P:Program) (f:FuncId) (args:List AV) (hp:List af) (R:AV→List af→Prop):Prop:=
 mQ P f∧∀(w:World) (F:Nat→Nat→Prop) (η:List Value) (bB:List Value),Eb w F η hp→cH w F η hp args bB→
  CallsIn Fence.wide 0 P f bB.toArray w (fun e w'=>∃v r hp' aU,e=.returned v∧R r hp'∧yC w F η hp w' aU hp' r v)
def AV.K1 (n:Nat) (hp:List af) (x:AV):AV:=if x.aR n=true then x else x.fq hp
def AV.MX (n:Nat) (hp:List af):AV→AV
 | .agg cs=>.agg (cs.map (AV.K1 n hp))
 |x=>x.K1 n hp
def AV.out (n:Nat) (hp:List af):AV→AV
 | .aX vs=>.aX (vs.map (AV.MX n hp))
 |x=>x.MX n hp
def MY (az:Nat→Option TD) (rs:List ResultVar) (n:Nat) (R:AV→List af→Prop):Exit→AS G→Prop
 | .normal,s | .ret,s=>(match eW az s rs with
  |some l=>(∀o∈s.hp.take n,af.closed n o=true)∧R ((ij l).out n s.hp) (s.hp.take n)
  |none=>False)
 |_,_=>False
theorem MZ {n b o:Nat} (hf:bn Γ w η hp b o):bn Γ w (η.take n) (hp.take n) b o:=by
 refine⟨hf.1,hf.2.1,hf.2.2.1,(aZ b o).2 fun r v hv hb=>?_⟩
 rw[aik] at hv
 split at hv
 ·rename_i ay
  obtain⟨o1,q1,q2⟩:=(aZ b o).1 hf.2.2.2 r v hv hb
  exact⟨o1,by rw[aik,if_pos ay];exact q1,q2⟩
 ·cases hv
theorem Ec {n:Nat} {zY:List Value} {oQ:List af} {x:AV} {v:Value} (h:bw w (bn Γ w η hp) zY oQ x v):bw w (bn Γ w (η.take n) (hp.take n)) zY oQ x v:=
 h.ext ⟨fun _ _ _ _ h=>h,fun _ _ _ _ h=>h,fun _ _ h=>MZ h,fun _ _ h=>h,fun _ _ h=>h,fun _ _ _ h=>h⟩
theorem Ed (h:eI w (bn Γ w η hp) η hp) (hm:xY Γ η hp) {n:Nat} {x:AV} {v:Value} (hx:bw w (bn Γ w η hp) η hp x v):bw w (bn Γ w (η.take n) (hp.take n)) (η.take n) (hp.take n) (x.K1 n hp) v:=by
 unfold AV.K1
 split
 ·rename_i hc;exact Ec (eE hc hx)
 ·exact Ec (mL h hm hx).lift
theorem Ee (h:eI w (bn Γ w η hp) η hp) (hm:xY Γ η hp) {n:Nat} {x:AV} {v:Value} (hx:bw w (bn Γ w η hp) η hp x v):bw w (bn Γ w (η.take n) (hp.take n)) (η.take n) (hp.take n) (x.MX n hp) v:=by
 cases x with
 |agg cs=>
  cases hx with
  |agg _ vs hl h1 hr=>
   refine .agg _ vs (by simpa using hl) h1 fun j y u hy hu=>?_
   rw[aie] at hy
   cases hj:cs[j]? with
   |none=>rw[hj] at hy;cases hy
   |some z=>rw[hj] at hy;obtain rfl:=Option.some.inj hy;exact Ed h hm (hr j z u hj hu)
 |_=>exact Ed h hm hx
theorem Q8 (h:eI w (bn Γ w η hp) η hp) (hm:xY Γ η hp) {n:Nat} {x:AV} {v:Value} (hx:bw w (bn Γ w η hp) η hp x v):bw w (bn Γ w (η.take n) (hp.take n)) (η.take n) (hp.take n) (x.out n hp) v:=by
 cases x with
 |aX cs=>
  cases hx with
  |aX _ vs hl hr=>
   refine .aX _ vs (by simpa using hl) fun j y u hy hu=>?_
   rw[aie] at hy
   cases hj:cs[j]? with
   |none=>rw[hj] at hy;cases hy
   |some z=>rw[hj] at hy;obtain rfl:=Option.some.inj hy;exact Ee h hm (hr j z u hj hu)
 |_=>exact Ee h hm hx
theorem yD {F:Nat→Nat→Prop}:∀(l:List AV) (us:List Value) (k:Nat),cH w F η hp l us→∀t,bw w F η hp (cV k l t) (if t<k then undef else(us[t-k]?).getD undef)∨t<k:=by
 intro l
 induction l with
 |nil=>intro us k _ t;exact .inl (.top _)
 |cons x l ih=>
  intro us k hl t
  cases us with
  |nil=>exact hl.elim
  |cons u us=>
   by_cases UQ:t<k
   ·exact .inr UQ
   ·refine .inl ?_
    rw[if_neg UQ]
    simp only[cV,gL]
    by_cases UR:t=k
    ·subst UR
     rw[if_pos rfl,ajG]
     exact hl.1
    ·rw[if_neg UR]
     rcases ih us (k+1) hl.2 t with h1|h1
     ·rw[if_neg (by omega)] at h1
      have:t-k=(t-(k+1))+1:=by omega
      rw[this,aiB]
      exact h1
     ·omega
theorem yE {bB:List Value} {n t:Nat}:(bB.toArray++Array.replicate n undef).getD t undef=(bB[t]?).getD undef:=by
 rw[aiu]
 by_cases ht:t<bB.length
 ·rw[ajO (by simpa using ht)];simp
 ·rw[Array.getElem?_append_right (by simpa using ht),aiG (by omega)]
  rw[ajT]
  split<;>rfl
theorem wR {az:Nat→Option TD} (au:aT P az) {f:FuncId} {fn:Func} {c:Code} {args:List AV} {hp:List af} {R:AV→List af→Prop} (m:Nat) (hm:hp.length≤m) (hf:P.funcs[f]?=some fn) (hb:fn.body=some c) (gI:(fn.name == "runtime.NumGoroutine")=false) (hn:args.length≤fn.ntmps)
  (h:∀Γ:Env Unit,Γ.Ok→Γ.P=P→fn.ntmps=Γ.nt→Γ.oQ.length=hp.length→Γ.DK→eM Γ c (MY az fn.results.toList m R) ⟨cV 0 args,hp,()⟩):cG P f args hp R:=by
 refine⟨⟨fn,hf,gI,by rw[hb];rfl⟩,fun w F η bB bS hv=>?_⟩
 let Γ:Env Unit:={ P:=P,w0:=w,F0:=F,X:=fun _=>False,Y:=aQ η hp,Inv:=fun _ _=>True,nt:=fn.ntmps,Bw:=none,m0:=fun r=>w.heap.size≤r,Z:=fun _ _=>False,zY:=η,oQ:=hp }
 have aD:Γ.Ok:=⟨bS.heap.len,fun _ h=>h.elim,fun b hb=>bS.live b hb,fun _ _ _ _ _ h=>h,fun _ _ h=>h.elim,bS.kg,fun b hb h=>h.elim (fun h=>h) (bS.gx b hb)⟩
 have Qw:=hv.length
 have jQ:∀b o,F b o→bn Γ w η hp b o:=fun b o hb=>⟨.inl hb,(bS.bD b o hb).1,fun h=>h.elim (fun h=>h) fun h=>h,(bS.bD b o hb).2⟩
 have he0:Ext w F η hp w (bn Γ w η hp) η hp:=⟨fun _ _ _ _ h=>h,fun _ _ _ _ h=>h,jQ,fun _ _ h=>h,fun _ _ h=>h,fun _ _ _ h=>h⟩
 have fQ:Rel Γ ⟨cV 0 args,hp,()⟩ ⟨bB.toArray++Array.replicate (fn.ntmps-bB.toArray.size) undef,[]⟩ w η:=by
  refine⟨by simp[Γ];omega,fun t=>?_,⟨bS.heap.len,fun r o v h1 h2=>(bS.heap.obj r o v h1 h2).ext he0 (ah5 _) fun _ _ _=>rfl,bS.heap.sep⟩,fun r o v b h1 h2 h3 h4=>⟨.inr ⟨r,o,v,h1,h2,h3,h4⟩,fun _ h=>h.elim (fun h=>h) fun h=>h⟩,cD.refl _ w,True.intro,⟨fun d hd=>(by cases hd),List.Pairwise.nil⟩,he0⟩
  have:=yD (hp:=hp) (η:=η) args bB 0 hv t
  simp only[ajX,if_false,or_false,Nat.sub_zero] at this
  show bw w _ _ _ _ ((bB.toArray++Array.replicate (fn.ntmps-bB.toArray.size) undef).getD t undef)
  rw[yE];exact this.ext he0
 have kD:=h Γ aD rfl rfl rfl ⟨rfl,fun _ h=>h⟩ _ _ _ fQ
 refine callsIn_of_wp_marks (F:=Fence.wide) hf hb trivial (wpIn_mono (F:=Fence.wide) kD fun e a' w' ⟨s',aU,hq,fZ⟩=>?_)
 have fin:(∃l,eW az s' fn.results.toList=some l∧(∀o∈s'.hp.take m,af.closed m o=true)∧R ((ij l).out m s'.hp) (s'.hp.take m))→
   LeavesInM Fence.wide 0 P fn a'.tmps (fun e w'=>∃v r hp' aU,e=.returned v∧R r hp'∧yC w F η hp w' aU hp' r v) a'.defers .returning w':=by
  intro ⟨l,hl,eu,hR⟩
  have:=BN (Γ:=Γ) (s:=s') (η:=aU) (fn:=fn) (ts:=a'.tmps) (R:=fun e w'=>∃v r hp' aU,e=.returned v∧R r hp'∧yC w F η hp w' aU hp' r v) aD (fun _ h=>h) (fun w2 nH=>by
   obtain⟨v,h1,h2⟩:=lZ au nH hl
   refine⟨v,h1,v,_,_,aU.take m,rfl,hR,?_⟩
   obtain⟨ηc,abE⟩:∃ηc,ηc=aU.take m∧Rel Γ ⟨fun _=>.top,s'.hp.take m,()⟩ ⟨a'.tmps,[]⟩ w2 ηc:=by
    have hw:=cT.cut (Γ:=Γ) (f:=s'.tmps) (f':=fun _=>.top) (hp:=s'.hp) (g:=s'.g) aD m hm Sub.nil oW.nil rfl eu
    have hw':Rel Γ ⟨fun _=>.top,s'.hp.take m,()⟩ ⟨a'.tmps,[]⟩ w2 (aU.take m):=by
     have:=cT.cutAt (Γ:=Γ) (f:=s'.tmps) (f':=fun _=>.top) (hp:=s'.hp) (g:=s'.g) aD m hm Sub.nil oW.nil eu nH
     exact this
    exact⟨_,rfl,hw'⟩
   obtain⟨rfl,Hw⟩:=abE
   have jU:∀b o,bn Γ w2 (aU.take m) (s'.hp.take m) b o→gJ F w η hp w2 (aU.take m) (s'.hp.take m) b o:=fun b o hf=>⟨hf.1,hf.2.1,hf.2.2.2⟩
   have hex:∀{pL:List Value} {iM:List af},Ext w2 (bn Γ w2 (aU.take m) (s'.hp.take m)) pL iM w2 (gJ F w η hp w2 (aU.take m) (s'.hp.take m)) pL iM:=
    ⟨fun _ _ _ _ h=>h,fun _ _ _ _ h=>h,jU,fun _ _ h=>h,fun _ _ h=>h,fun _ _ _ h=>h⟩
   refine⟨?_,Hw.ext.trans hex,⟨Hw.heap.len,fun r o v h1 h2=>(Hw.heap.obj r o v h1 h2).ext hex (ah5 _) fun _ _ _=>rfl,Hw.heap.sep⟩,fun b ⟨r,o,v,g1,g2,g3,g4⟩=>(Hw.cE r o v b g1 g2 g3 g4).1,(Q8 nH.heap nH.cE h2).ext hex⟩
   exact⟨nH.keeps.os,nH.keeps.tape,nH.keeps.output,nH.keeps.size,fun k hk hx=>nH.keeps.block k hk fun h=>h.elim (fun h=>h) hx⟩) a'.defers w' fZ
  exact this
 cases e with
 |normal=>
  simp only[MY] at hq
  split at hq
  ·rename_i l hl;exact fin ⟨l,hl,hq⟩
  ·exact hq.elim
 |ret=>
  simp only[MY] at hq
  split at hq
  ·rename_i l hl;exact fin ⟨l,hl,hq⟩
  ·exact hq.elim
 |_=>exact hq.elim
end Go.Proofs.YtjhanogfpkbamaaGreatDoor
