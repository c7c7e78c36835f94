/- Texts of ours laid together for a claim: VcN. -/
import Derived.Test.YtjhanogfpkbamaaGreatDoorQ18
namespace Go.Proofs.YtjhanogfpkbamaaGreatDoor
open Go
set_option linter.unusedSimpArgs false
set_option linter.unusedVariables false
def U0 (F:Nat→Nat→Prop) (w w':World) (v:Value) (b o:Nat):Prop:=F b o∨(w.heap.size≤b∧b<w'.heap.size∧dK v≠some b)
def AH (w:World) (F:Nat→Nat→Prop) (w':World) (e size:Nat) (els:List AV) (v:Value):Prop:=
 bX w w'∧v.oneCell'=true∧(∀b,dK v=some b→w.heap.size≤b)∧0<size∧∃xs:List Value,lT w' e size v els.length xs 0∧
  ∀(i:Nat) (el:AV),els[i]?=some el→el.cells.length=size∧
   ∀(j:Nat) (x:AV),el.cells[j]?=some x→∃u,xs[i*size+j]?=some u∧bw w' (U0 F w w' v) [] [] x u∧u.oneCell'=true
def Rc (P:Program) (f:FuncId) (args:List AV) (e size:Nat) (els:List AV):Prop:=
 mQ P f∧∀(w:World) (F:Nat→Nat→Prop) (bB:List Value),(∀b o,F b o→b<w.heap.size)→pF w→cH w F [] [] args bB→
  CallsIn Fence.wide 0 P f bB.toArray w (fun en w'=>∃v,en=.returned v∧AH w F w' e size els v)
variable {G:Type} {Γ:Env G} {s s':AS G} {a:Act} {w w':World} {η:List Value} {hp:List af} {P:Program}
theorem K2 (aD:Γ.Ok) (h:Rel Γ s a w η) (hs:bX w w') {v:Value} (hv:∀b,dK v=some b→w.heap.size≤b) {o:af} {b k:Nat} (hb:U0 (bn Γ w η s.hp) w w' v b k):bn Γ w' (η++[v]) (s.hp++[o]) b k:=by
 rcases hb with h1|⟨h1,h2,h3⟩
 ·exact(xj (Γ:=Γ) (o:=o) h.heap.len hs hv).bD b k h1
 ·refine⟨.inr (.inl (aiy h.keeps.size h1)),h2,fun hx=>by have:=aD.no hx;have:=h.keeps.size;omega,(aZ b k).2 fun r u hu Mg=>?_⟩
  rcases dP hu with g1|⟨g1,g2⟩
  ·have fZ:r<s.hp.length:=by rw[←h.heap.len];exact(ahY.1 g1).1
   have ho:s.hp[r]?=some s.hp[r]:=by simp[fZ]
   refine⟨s.hp[r],cM ho,?_⟩
   cases hk:s.hp[r] with
   |dead=>exact True.intro
   |_=>
    rw[hk] at ho
    have:=h.heap.block ho True.intro g1 Mg
    omega
  ·subst g2;exact(h3 Mg).elim
theorem bR.fresh (aD:Γ.Ok) {o:Oper} {c:Call} {x:Operand} (ho:o.op=.call c) (hc:c.callee=.value x) {f:FuncId} {caps:List AV} (hx:s.ev x=.ck f caps) {e size:Nat} {els:List AV}
  (hP:Rc Γ.P f ((c.args.toList.map s.ev++caps).map (AV.cm s.hp)) e size els) (hd:dB Γ.nt o.dst) {K:AS G→Prop} (hK:K (AS.put { s with hp:=s.hp++[.bM e size els] } o.dst (.own s.hp.length els.length))):bR Γ o s K:=by
 intro a w η Kc Qc hk hr
 have eU:=hr.ev x
 rw[hx] at eU
 generalize hv:a.eval x=v at eU
 cases eU with
 |ck _ _ vs hl ec=>
  refine⟨fun _ _=>trivial,?_⟩
  have bK:∀c',o.op ≠ .defer c':=by intro c' h;rw[ho] at h;cases h
  rw[Oper.semAt_eq _ _ _ bK,gC ho hc hP.1 hv]
  have aI:(c.args.map a.eval++vs)=(c.args.toList.map a.eval++vs.toList).toArray:=by apply ajm;simp
  have eu:cH w (bn Γ w η s.hp) η s.hp caps vs.toList:=dF (by simpa using hl) fun j y u hy hu=>ec j y u hy (by simpa using hu)
  have iC:=lY hr _ _ (eD _ _ (hO hr c.args.toList) eu)
  refine⟨fun h=>(by cases h),?_⟩
  rw[aI]
  have mR:=hP.2 w (bn Γ w η s.hp) _ (fun _ _=>fz) (hr.kg aD) iC
  refine CallsIn.mono (F:=Γ.eV) ?_ (R:=fun en w'=>∃v,en=.returned v∧AH w (bn Γ w η s.hp) w' e size els v) fun en w' ⟨u,he,hs,h1,wS,hz,xs,eo,eC⟩=>?_
  ·exact mR
  ·subst he
   have GY:Rel Γ (s.add (.bM e size els)) a w' (η++[u]):=hr.add aD (o:=.bM e size els) (v:=u) hs wS
    ⟨hz,xs,eo,fun i el hi=>⟨(eC i el hi).1,fun j y hj=>let ⟨v1,q1,q2,q3⟩:=(eC i el hi).2 j y hj;⟨v1,q1,q2.bD fun b k h=>K2 aD hr hs wS h,q3⟩⟩⟩
   refine hk _ _ _ _ hK (Rel.put (s:={ s with hp:=s.hp++[.bM e size els] }) GY (cA hd) (.own _ _ _ h1 ?_))
   unfold aY
   have:(s.hp++[af.bM e size els])[s.hp.length]?=some (.bM e size els):=by simp
   rw[this]
   exact⟨ah5 _,fun _=>by rw[←hr.heap.len];simp⟩
def Nl (az:Nat→Option TD) (rs:List ResultVar) (e size:Nat) (els:List AV):Exit→AS Unit→Prop
 | .normal,s | .ret,s=>(match eW az s rs with
  |some [.own r n]=>(match s.hp[r]? with
   |some (.bM e' z mJ)=>e'=e∧z=size∧mJ=els∧n=els.length
   |_=>False)
  |some [.ah (.slice none 0 0)]=>els=[]∧0<size
  |_=>False)
 |_,_=>False
theorem Et {az:Nat→Option TD} (au:aT P az) {f:FuncId} {fn:Func} {c:Code} {args:List AV} {e size:Nat} {els:List AV} (hf:P.funcs[f]?=some fn) (hb:fn.body=some c) (gI:(fn.name == "runtime.NumGoroutine")=false) (hn:args.length≤fn.ntmps)
  (h:∀Γ:Env Unit,Γ.Ok→Γ.P=P→fn.ntmps=Γ.nt→Γ.oQ.length=0→Γ.DK→eM Γ c (Nl az fn.results.toList e size els) ⟨cV 0 args,[],()⟩):Rc P f args e size els:=by
 refine⟨⟨fn,hf,gI,by rw[hb];rfl⟩,fun w F bB hF hg hv=>?_⟩
 let Γ:Env Unit:={ P:=P,w0:=w,F0:=F,X:=fun _=>False,Y:=fun _=>False,Inv:=fun _ _=>True,nt:=fn.ntmps,Bw:=none,m0:=fun r=>w.heap.size≤r,Z:=fun _ _=>False,zY:=[],oQ:=[] }
 have aD:Γ.Ok:=⟨rfl,fun _ h=>h.elim,fun _ h=>h.elim,fun _ _ _ _ _ h=>h,fun _ _ h=>h.elim,hg,fun _ _ h=>h.elim (fun h=>h) fun h=>h⟩
 have Qw:=hv.length
 have jQ:∀b o,F b o→bn Γ w [] [] b o:=fun b o hb=>⟨.inl hb,hF b o hb,fun h=>h.elim (fun h=>h) fun h=>h,fun r v hr=>by simp at hr⟩
 have BB:∀(l:List AV) (us:List Value) (k:Nat),cH w F [] [] l us→∀t,bw w (bn Γ w [] []) [] [] (cV k l t) (if t<k then undef else(us[t-k]?).getD undef)∨t<k:=by
  intro l
  induction l with
  |nil=>intro us k _ t;exact .inl (.top _)
  |cons x l ih=>
   intro us k hl t
   cases us with
   |nil=>exact hl.elim
   |cons u us=>
    by_cases UQ:t<k
    ·exact .inr UQ
    ·refine .inl ?_
     rw[if_neg UQ]
     simp only[cV,gL]
     by_cases UR:t=k
     ·subst UR
      rw[if_pos rfl,ajG]
      exact hl.1.bD jQ
     ·rw[if_neg UR]
      rcases ih us (k+1) hl.2 t with h1|h1
      ·rw[if_neg (by omega)] at h1
       have:t-k=(t-(k+1))+1:=by omega
       rw[this,aiB]
       exact h1
      ·omega
 have fQ:Rel Γ ⟨cV 0 args,[],()⟩ ⟨bB.toArray++Array.replicate (fn.ntmps-bB.toArray.size) undef,[]⟩ w []:=by
  refine⟨by simp[Γ];omega,fun t=>?_,⟨rfl,fun r o v h=>by simp at h,fun r r' o o' v v' b _ h=>by simp at h⟩,fun r o v b h=>by simp at h,cD.refl _ w,True.intro,⟨fun d hd=>(by cases hd),List.Pairwise.nil⟩,⟨fun _ _ _ _ h=>h,fun _ _ _ _ h=>h,jQ,fun _ _ h=>h,fun _ _ h=>h,fun _ _ _ h=>h⟩⟩
  have:=BB args bB 0 hv t
  simp only[ajX,if_false,or_false,Nat.sub_zero] at this
  have e:(bB.toArray++Array.replicate (fn.ntmps-bB.toArray.size) undef).getD t undef=(bB[t]?).getD undef:=by
   rw[aiu]
   by_cases ht:t<bB.length
   ·rw[ajO (by simpa using ht)];simp
   ·rw[Array.getElem?_append_right (by simpa using ht),aiG (by omega)]
    rw[ajT]
    split<;>rfl
  show bw w _ _ _ _ ((bB.toArray++Array.replicate (fn.ntmps-bB.toArray.size) undef).getD t undef)
  rw[e];exact this
 have kD:=h Γ aD rfl rfl rfl ⟨rfl,fun _ h=>h⟩ _ _ _ fQ
 refine callsIn_of_wp_marks (F:=Fence.wide) hf hb trivial (wpIn_mono (F:=Fence.wide) kD fun ex a' w' ⟨s',aU,hq,fZ⟩=>?_)
 have fin:Nl az fn.results.toList e size els .ret s'→LeavesInM Fence.wide 0 P fn a'.tmps (fun en w'=>∃v,en=.returned v∧AH w F w' e size els v) a'.defers .returning w':=by
  intro hq
  simp only[Nl] at hq
  have go:∀l,eW az s' fn.results.toList=some l→(∀w2 v,Rel Γ s' ⟨a'.tmps,[]⟩ w2 aU→bw w2 (bn Γ w2 aU s'.hp) aU s'.hp (ij l) v→AH w F w2 e size els v)→LeavesInM Fence.wide 0 P fn a'.tmps (fun en w'=>∃v,en=.returned v∧AH w F w' e size els v) a'.defers .returning w':=by
   intro l hl jz
   exact BN (Γ:=Γ) (s:=s') (η:=aU) (fn:=fn) (ts:=a'.tmps) (R:=fun en w'=>∃v,en=.returned v∧AH w F w' e size els v) aD (fun _ h=>h) (fun w2 nH=>by
    obtain⟨v,h1,h2⟩:=lZ au nH hl
    exact⟨v,h1,v,rfl,jz w2 v nH h2⟩) a'.defers w' fZ
  split at hq
  ·rename_i r n hl
   split at hq
   ·rename_i e' z mJ ho
    obtain⟨rfl,rfl,rfl,rfl⟩:=hq
    refine go _ hl fun w2 v nH h2=>?_
    cases h2 with
    |own _ _ _ h1 uS=>
     unfold aY at uS
     rw[ho] at uS
     replace uS:=And.intro uS.1 (uS.2 rfl)
     obtain⟨hz,xs,eo,eC⟩:=nH.heap.obj r _ _ ho uS.2
     refine⟨nH.keeps.same fun b _ hx=>by rcases hx with h|h<;>exact h,h1,fun b hb=>((nH.cE r _ v b ho True.intro uS.2 hb).1).elim id fun h=>h.elim,hz,xs,eo,fun i el hi=>⟨(eC i el hi).1,fun j x hj=>?_⟩⟩
     obtain⟨u,q1,q2,q3⟩:=(eC i el hi).2 j x hj
     refine⟨u,q1,q2.bD fun b k hf=>?_,q3⟩
     rcases hf.1 with h3|h3|h3
     ·exact .inl h3
     ·refine .inr ⟨h3,hf.2.1,fun hb=>?_⟩
      obtain⟨o1,g1,g2⟩:=(aZ b k).1 hf.2.2.2 r v uS.2 hb
      rw[ho] at g1
      obtain rfl:=Option.some.inj g1
      exact g2
     ·exact h3.elim
   ·exact hq.elim
  ·rename_i hl
   obtain⟨rfl,hz⟩:=hq
   refine go _ hl fun w2 v nH h2=>?_
   have:=bw.aE h2
   subst this
   exact⟨nH.keeps.same fun b _ hx=>by rcases hx with h|h<;>exact h,rfl,fun b hb=>by simp[dK] at hb,hz,[],⟨by simp,.inl ⟨rfl,.inl rfl⟩⟩,fun i el hi=>by simp at hi⟩
  ·exact hq.elim
 cases ex with
 |normal=>exact fin hq
 |ret=>exact fin hq
 |_=>exact hq.elim
end Go.Proofs.YtjhanogfpkbamaaGreatDoor
