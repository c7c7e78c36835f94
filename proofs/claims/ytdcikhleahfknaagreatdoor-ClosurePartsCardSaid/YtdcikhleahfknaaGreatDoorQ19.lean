/- Texts of ours laid together for a claim: VcN. -/
import Derived.Test.YtdcikhleahfknaaGreatDoorQ18
namespace Go.Proofs.YtdcikhleahfknaaGreatDoor
open Go
set_option linter.unusedSimpArgs false
set_option linter.unusedVariables false
def Ic (F:Nat→Nat→Prop) (w w':World) (v:Value) (b o:Nat):Prop:=F b o∨(w.heap.size≤b∧b<w'.heap.size∧bT v≠some b)
def wb (w:World) (F:Nat→Nat→Prop) (w':World) (e size:Nat) (els:List AV) (v:Value):Prop:=
 bt w w'∧v.oneCell'=true∧(∀b,bT v=some b→w.heap.size≤b)∧0<size∧∃xs:List Value,jf w' e size v els.length xs 0∧
  ∀(i:Nat) (el:AV),els[i]?=some el→el.cells.length=size∧
   ∀(j:Nat) (x:AV),el.cells[j]?=some x→∃u,xs[i*size+j]?=some u∧aV w' (Ic F w w' v) [] [] x u∧u.oneCell'=true
def CU (P:Program) (f:FuncId) (args:List AV) (e size:Nat) (els:List AV):Prop:=
 gB P f∧∀(w:World) (F:Nat→Nat→Prop) (aR:List Value),(∀b o,F b o→b<w.heap.size)→lZ w→bF w F [] [] args aR→
  CallsIn Fence.wide 0 P f aR.toArray w (fun en w'=>∃v,en=.returned v∧wb w F w' e size els v)
variable {G:Type} {Γ:Env G} {s s':AS G} {a:Act} {w w':World} {η:List Value} {hp:List af} {P:Program}
theorem FV (aq:Γ.Ok) (h:Rel Γ s a w η) (hs:bt w w') {v:Value} (hv:∀b,bT v=some b→w.heap.size≤b) {o:af} {b k:Nat} (hb:Ic (aU Γ w η s.hp) w w' v b k):aU Γ w' (η++[v]) (s.hp++[o]) b k:=by
 rcases hb with h1|⟨h1,h2,h3⟩
 ·exact(o6 (Γ:=Γ) (o:=o) h.heap.len hs hv).aY b k h1
 ·refine⟨.inr (.inl (Nat.le_trans h.keeps.size h1)),h2,fun hx=>by have:=aq.no hx;have:=h.keeps.size;omega,(aN b k).2 fun r u hu Hh=>?_⟩
  rcases cL hu with g1|⟨g1,g2⟩
  ·have dM:r<s.hp.length:=by rw[←h.heap.len];exact(List.getElem?_eq_some_iff.1 g1).1
   have ho:s.hp[r]?=some s.hp[r]:=by simp[dM]
   refine⟨s.hp[r],bS ho,?_⟩
   cases hk:s.hp[r] with
   |dead=>exact True.intro
   |_=>
    rw[hk] at ho
    have:=h.heap.block ho True.intro g1 Hh
    omega
  ·subst g2;exact(h3 Hh).elim
theorem bn.fresh (aq:Γ.Ok) {o:Oper} {c:Call} {x:Operand} (ho:o.op=.call c) (hc:c.callee=.value x) {f:FuncId} {caps:List AV} (hx:s.ev x=.aS f caps) {e size:Nat} {els:List AV}
  (hP:CU Γ.P f ((c.args.toList.map s.ev++caps).map (AV.bh s.hp)) e size els) (hd:cw Γ.nt o.dst) {K:AS G→Prop} (hK:K (AS.put { s with hp:=s.hp++[.aF e size els] } o.dst (.own s.hp.length els.length))):bn Γ o s K:=by
 intro a w η Kc Qc hk hr
 have di:=hr.ev x
 rw[hx] at di
 generalize hv:a.eval x=v at di
 cases di with
 |aS _ _ vs hl cD=>
  refine⟨fun _ _=>trivial,?_⟩
  have bj:∀c',o.op ≠ .defer c':=by intro c' h;rw[ho] at h;cases h
  rw[Oper.semAt_eq _ _ _ bj,eB ho hc hP.1 hv]
  have ax:(c.args.map a.eval++vs)=(c.args.toList.map a.eval++vs.toList).toArray:=by apply Array.ext';simp
  have cS:bF w (aU Γ w η s.hp) η s.hp caps vs.toList:=cd (by simpa using hl) fun j y u hy hu=>cD j y u hy (by simpa using hu)
  have eZ:=jj hr _ _ (cY _ _ (eU hr c.args.toList) cS)
  refine⟨fun h=>(by cases h),?_⟩
  rw[ax]
  have iB:=hP.2 w (aU Γ w η s.hp) _ (fun _ _=>dy) (hr.fX aq) eZ
  refine CallsIn.mono (F:=Γ.dA) ?_ (R:=fun en w'=>∃v,en=.returned v∧wb w (aU Γ w η s.hp) w' e size els v) fun en w' ⟨u,he,hs,h1,mw,hz,xs,bU,cy⟩=>?_
  ·exact iB
  ·subst he
   have Cj:Rel Γ (s.add (.aF e size els)) a w' (η++[u]):=hr.add aq (o:=.aF e size els) (v:=u) hs mw
    ⟨hz,xs,bU,fun i el hi=>⟨(cy i el hi).1,fun j y hj=>let ⟨v1,q1,q2,q3⟩:=(cy i el hi).2 j y hj;⟨v1,q1,q2.aY fun b k h=>FV aq hr hs mw h,q3⟩⟩⟩
   refine hk _ _ _ _ hK (Rel.put (s:={ s with hp:=s.hp++[.aF e size els] }) Cj (bG hd) (.own _ _ _ h1 ?_))
   unfold aQ
   have:(s.hp++[af.aF e size els])[s.hp.length]?=some (.aF e size els):=by simp
   rw[this]
   exact⟨Nat.le_refl _,fun _=>by rw[←hr.heap.len];simp⟩
def Ie (tab:Nat→Option TD) (rs:List ResultVar) (e size:Nat) (els:List AV):Exit→AS Unit→Prop
 | .normal,s | .ret,s=>(match dB tab s rs with
  |some [.own r n]=>(match s.hp[r]? with
   |some (.aF e' z jQ)=>e'=e∧z=size∧jQ=els∧n=els.length
   |_=>False)
  |some [.ae (.slice none 0 0)]=>els=[]∧0<size
  |_=>False)
 |_,_=>False
theorem zW {tab:Nat→Option TD} (ah:aL P tab) {f:FuncId} {fn:Func} {c:Code} {args:List AV} {e size:Nat} {els:List AV} (hf:P.funcs[f]?=some fn) (hb:fn.body=some c) (eC:(fn.name == "runtime.NumGoroutine")=false) (hn:args.length≤fn.ntmps)
  (h:∀Γ:Env Unit,Γ.Ok→Γ.P=P→fn.ntmps=Γ.nt→Γ.ir.length=0→Γ.zg→dq Γ c (Ie tab fn.results.toList e size els) ⟨cj 0 args,[],()⟩):CU P f args e size els:=by
 refine⟨⟨fn,hf,eC,by rw[hb];rfl⟩,fun w F aR hF hg hv=>?_⟩
 let Γ:Env Unit:={ P:=P,w0:=w,F0:=F,X:=fun _=>False,Y:=fun _=>False,Inv:=fun _ _=>True,nt:=fn.ntmps,vQ:=none,m0:=fun r=>w.heap.size≤r,Z:=fun _ _=>False,vh:=[],ir:=[] }
 have aq:Γ.Ok:=⟨rfl,fun _ h=>h.elim,fun _ h=>h.elim,fun _ _ _ _ _ h=>h,fun _ _ h=>h.elim,hg,fun _ _ h=>h.elim (fun h=>h) fun h=>h⟩
 have Lu:=hv.length
 have dF:∀b o,F b o→aU Γ w [] [] b o:=fun b o hb=>⟨.inl hb,hF b o hb,fun h=>h.elim (fun h=>h) fun h=>h,fun r v hr=>by simp at hr⟩
 have vR:∀(l:List AV) (us:List Value) (k:Nat),bF w F [] [] l us→∀t,aV w (aU Γ w [] []) [] [] (cj k l t) (if t<k then undef else(us[t-k]?).getD undef)∨t<k:=by
  intro l
  induction l with
  |nil=>intro us k _ t;exact .inl (.top _)
  |cons x l ih=>
   intro us k hl t
   cases us with
   |nil=>exact hl.elim
   |cons u us=>
    by_cases xv:t<k
    ·exact .inr xv
    ·refine .inl ?_
     rw[if_neg xv]
     simp only[cj,eF]
     by_cases O4:t=k
     ·subst O4
      rw[if_pos rfl,Nat.sub_self]
      exact hl.1.aY dF
     ·rw[if_neg O4]
      rcases ih us (k+1) hl.2 t with h1|h1
      ·rw[if_neg (by omega)] at h1
       have:t-k=(t-(k+1))+1:=by omega
       rw[this,List.getElem?_cons_succ]
       exact h1
      ·omega
 have hrel:Rel Γ ⟨cj 0 args,[],()⟩ ⟨aR.toArray++Array.replicate (fn.ntmps-aR.toArray.size) undef,[]⟩ w []:=by
  refine⟨by simp[Γ];omega,fun t=>?_,⟨rfl,fun r o v h=>by simp at h,fun r r' o o' v v' b _ h=>by simp at h⟩,fun r o v b h=>by simp at h,bo.refl _ w,True.intro,⟨fun d hd=>(by cases hd),List.Pairwise.nil⟩,⟨fun _ _ _ _ h=>h,fun _ _ _ _ h=>h,dF,fun _ _ h=>h,fun _ _ h=>h,fun _ _ _ h=>h⟩⟩
  have:=vR args aR 0 hv t
  simp only[Nat.not_lt_zero,if_false,or_false,Nat.sub_zero] at this
  have e:(aR.toArray++Array.replicate (fn.ntmps-aR.toArray.size) undef).getD t undef=(aR[t]?).getD undef:=by
   rw[Array.getD_eq_getD_getElem?]
   by_cases ht:t<aR.length
   ·rw[Array.getElem?_append_left (by simpa using ht)];simp
   ·rw[Array.getElem?_append_right (by simpa using ht),List.getElem?_eq_none (by omega)]
    rw[Array.getElem?_replicate]
    split<;>rfl
  show aV w _ _ _ _ ((aR.toArray++Array.replicate (fn.ntmps-aR.toArray.size) undef).getD t undef)
  rw[e];exact this
 have fx:=h Γ aq rfl rfl rfl ⟨rfl,fun _ h=>h⟩ _ _ _ hrel
 refine callsIn_of_wp_marks (F:=Fence.wide) hf hb trivial (wpIn_mono (F:=Fence.wide) fx fun ex a' w' ⟨s',aM,hq,dM⟩=>?_)
 have fin:Ie tab fn.results.toList e size els .ret s'→LeavesInM Fence.wide 0 P fn a'.tmps (fun en w'=>∃v,en=.returned v∧wb w F w' e size els v) a'.defers .returning w':=by
  intro hq
  simp only[Ie] at hq
  have go:∀l,dB tab s' fn.results.toList=some l→(∀w2 v,Rel Γ s' ⟨a'.tmps,[]⟩ w2 aM→aV w2 (aU Γ w2 aM s'.hp) aM s'.hp (eW l) v→wb w F w2 e size els v)→LeavesInM Fence.wide 0 P fn a'.tmps (fun en w'=>∃v,en=.returned v∧wb w F w' e size els v) a'.defers .returning w':=by
   intro l hl qH
   exact xt (Γ:=Γ) (s:=s') (η:=aM) (fn:=fn) (ts:=a'.tmps) (R:=fun en w'=>∃v,en=.returned v∧wb w F w' e size els v) aq (fun _ h=>h) (fun w2 kO=>by
    obtain⟨v,h1,h2⟩:=jk ah kO hl
    exact⟨v,h1,v,rfl,qH w2 v kO h2⟩) a'.defers w' dM
  split at hq
  ·rename_i r n hl
   split at hq
   ·rename_i e' z jQ ho
    obtain⟨rfl,rfl,rfl,rfl⟩:=hq
    refine go _ hl fun w2 v kO h2=>?_
    cases h2 with
    |own _ _ _ h1 qF=>
     unfold aQ at qF
     rw[ho] at qF
     replace qF:=And.intro qF.1 (qF.2 rfl)
     obtain⟨hz,xs,bU,cy⟩:=kO.heap.obj r _ _ ho qF.2
     refine⟨kO.keeps.same fun b _ hx=>by rcases hx with h|h<;>exact h,h1,fun b hb=>((kO.bA r _ v b ho True.intro qF.2 hb).1).elim id fun h=>h.elim,hz,xs,bU,fun i el hi=>⟨(cy i el hi).1,fun j x hj=>?_⟩⟩
     obtain⟨u,q1,q2,q3⟩:=(cy i el hi).2 j x hj
     refine⟨u,q1,q2.aY fun b k hf=>?_,q3⟩
     rcases hf.1 with h3|h3|h3
     ·exact .inl h3
     ·refine .inr ⟨h3,hf.2.1,fun hb=>?_⟩
      obtain⟨o1,g1,g2⟩:=(aN b k).1 hf.2.2.2 r v qF.2 hb
      rw[ho] at g1
      obtain rfl:=Option.some.inj g1
      exact g2
     ·exact h3.elim
   ·exact hq.elim
  ·rename_i hl
   obtain⟨rfl,hz⟩:=hq
   refine go _ hl fun w2 v kO h2=>?_
   have:=aV.ao h2
   subst this
   exact⟨kO.keeps.same fun b _ hx=>by rcases hx with h|h<;>exact h,rfl,fun b hb=>by simp[bT] at hb,hz,[],⟨by simp,.inl ⟨rfl,.inl rfl⟩⟩,fun i el hi=>by simp at hi⟩
  ·exact hq.elim
 cases ex with
 |normal=>exact fin hq
 |ret=>exact fin hq
 |_=>exact hq.elim
end Go.Proofs.YtdcikhleahfknaaGreatDoor
