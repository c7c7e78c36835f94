/- Texts of ours laid together for a claim: VcN. -/
import Derived.Test.YtdcikhleahfknaaGreatDoorQ18
namespace Go.Proofs.YtdcikhleahfknaaGreatDoor
open Go
set_option linter.unusedSimpArgs false
set_option linter.unusedVariables false
def JJ (F:Nat→Nat→Prop) (w w':World) (v:Value) (b o:Nat):Prop:=F b o∨(w.heap.size≤b∧b<w'.heap.size∧bU v≠some b)
def w4 (w:World) (F:Nat→Nat→Prop) (w':World) (e size:Nat) (els:List AV) (v:Value):Prop:=
 bu w w'∧v.oneCell'=true∧(∀b,bU v=some b→w.heap.size≤b)∧0<size∧∃xs:List Value,jG w' e size v els.length xs 0∧
  ∀(i:Nat) (el:AV),els[i]?=some el→el.cells.length=size∧
   ∀(j:Nat) (x:AV),el.cells[j]?=some x→∃u,xs[i*size+j]?=some u∧aY w' (JJ F w w' v) [] [] x u∧u.oneCell'=true
def IQ (P:Program) (f:FuncId) (args:List AV) (e size:Nat) (els:List AV):Prop:=
 gU P f∧∀(w:World) (F:Nat→Nat→Prop) (aU:List Value),(∀b o,F b o→b<w.heap.size)→mH w→bM w F [] [] args aU→
  CallsIn Fence.wide 0 P f aU.toArray w (fun en w'=>∃v,en=.returned v∧w4 w F w' e size els v)
variable {G:Type} {Γ:Env G} {s s':AS G} {a:Act} {w w':World} {η:List Value} {hp:List af} {P:Program}
theorem Hf (ao:Γ.Ok) (h:Rel Γ s a w η) (hs:bu w w') {v:Value} (hv:∀b,bU v=some b→w.heap.size≤b) {o:af} {b k:Nat} (hb:JJ (aW Γ w η s.hp) w w' v b k):aW Γ w' (η++[v]) (s.hp++[o]) b k:=by
 rcases hb with h1|⟨h1,h2,h3⟩
 ·exact(pF (Γ:=Γ) (o:=o) h.heap.len hs hv).bb b k h1
 ·refine⟨.inr (.inl (Nat.le_trans h.keeps.size h1)),h2,fun hx=>by have:=ao.no hx;have:=h.keeps.size;omega,(aR b k).2 fun r u hu IK=>?_⟩
  rcases cN hu with g1|⟨g1,g2⟩
  ·have ec:r<s.hp.length:=by rw[←h.heap.len];exact(List.getElem?_eq_some_iff.1 g1).1
   have ho:s.hp[r]?=some s.hp[r]:=by simp[ec]
   refine⟨s.hp[r],bV ho,?_⟩
   cases hk:s.hp[r] with
   |dead=>exact True.intro
   |_=>
    rw[hk] at ho
    have:=h.heap.block ho True.intro g1 IK
    omega
  ·subst g2;exact(h3 IK).elim
theorem bn.fresh (ao:Γ.Ok) {o:Oper} {c:Call} {x:Operand} (ho:o.op=.call c) (hc:c.callee=.value x) {f:FuncId} {caps:List AV} (hx:s.ev x=.aK f caps) {e size:Nat} {els:List AV}
  (hP:IQ Γ.P f ((c.args.toList.map s.ev++caps).map (AV.bj s.hp)) e size els) (hd:cx Γ.nt o.dst) {K:AS G→Prop} (hK:K (AS.put { s with hp:=s.hp++[.aI e size els] } o.dst (.own s.hp.length els.length))):bn Γ o s K:=by
 intro a w η Kc Qc hk hr
 have dC:=hr.ev x
 rw[hx] at dC
 generalize hv:a.eval x=v at dC
 cases dC with
 |aK _ _ vs hl cE=>
  refine⟨fun _ _=>trivial,?_⟩
  have bh:∀c',o.op ≠ .defer c':=by intro c' h;rw[ho] at h;cases h
  rw[Oper.semAt_eq _ _ _ bh,eX ho hc hP.1 hv]
  have aw:(c.args.map a.eval++vs)=(c.args.toList.map a.eval++vs.toList).toArray:=by apply Array.ext';simp
  have cS:bM w (aW Γ w η s.hp) η s.hp caps vs.toList:=cf (by simpa using hl) fun j y u hy hu=>cE j y u hy (by simpa using hu)
  have fC:=jK hr _ _ (dx _ _ (ft hr c.args.toList) cS)
  refine⟨fun h=>(by cases h),?_⟩
  rw[aw]
  have jc:=hP.2 w (aW Γ w η s.hp) _ (fun _ _=>dL) (hr.gz ao) fC
  refine CallsIn.mono (F:=Γ.dM) ?_ (R:=fun en w'=>∃v,en=.returned v∧w4 w (aW Γ w η s.hp) w' e size els v) fun en w' ⟨u,he,hs,h1,nb,hz,xs,bW,cy⟩=>?_
  ·exact jc
  ·subst he
   have DC:Rel Γ (s.add (.aI e size els)) a w' (η++[u]):=hr.add ao (o:=.aI e size els) (v:=u) hs nb
    ⟨hz,xs,bW,fun i el hi=>⟨(cy i el hi).1,fun j y hj=>let ⟨v1,q1,q2,q3⟩:=(cy i el hi).2 j y hj;⟨v1,q1,q2.bb fun b k h=>Hf ao hr hs nb h,q3⟩⟩⟩
   refine hk _ _ _ _ hK (Rel.put (s:={ s with hp:=s.hp++[.aI e size els] }) DC (bN hd) (.own _ _ _ h1 ?_))
   unfold aT
   have:(s.hp++[af.aI e size els])[s.hp.length]?=some (.aI e size els):=by simp
   rw[this]
   exact⟨Nat.le_refl _,fun _=>by rw[←hr.heap.len];simp⟩
def JK (tab:Nat→Option TD) (rs:List ResultVar) (e size:Nat) (els:List AV):Exit→AS Unit→Prop
 | .normal,s | .ret,s=>(match dN tab s rs with
  |some [.own r n]=>(match s.hp[r]? with
   |some (.aI e' z ku)=>e'=e∧z=size∧ku=els∧n=els.length
   |_=>False)
  |some [.ae (.slice none 0 0)]=>els=[]∧0<size
  |_=>False)
 |_,_=>False
theorem Be {tab:Nat→Option TD} (ah:aQ P tab) {f:FuncId} {fn:Func} {c:Code} {args:List AV} {e size:Nat} {els:List AV} (hf:P.funcs[f]?=some fn) (hb:fn.body=some c) (eZ:(fn.name == "runtime.NumGoroutine")=false) (hn:args.length≤fn.ntmps)
  (h:∀Γ:Env Unit,Γ.Ok→Γ.P=P→fn.ntmps=Γ.nt→Γ.iV.length=0→Γ.Ar→dG Γ c (JK tab fn.results.toList e size els) ⟨ck 0 args,[],()⟩):IQ P f args e size els:=by
 refine⟨⟨fn,hf,eZ,by rw[hb];rfl⟩,fun w F aU hF hg hv=>?_⟩
 let Γ:Env Unit:={ P:=P,w0:=w,F0:=F,X:=fun _=>False,Y:=fun _=>False,Inv:=fun _ _=>True,nt:=fn.ntmps,wP:=none,m0:=fun r=>w.heap.size≤r,Z:=fun _ _=>False,vZ:=[],iV:=[] }
 have ao:Γ.Ok:=⟨rfl,fun _ h=>h.elim,fun _ h=>h.elim,fun _ _ _ _ _ h=>h,fun _ _ h=>h.elim,hg,fun _ _ h=>h.elim (fun h=>h) fun h=>h⟩
 have MZ:=hv.length
 have dT:∀b o,F b o→aW Γ w [] [] b o:=fun b o hb=>⟨.inl hb,hF b o hb,fun h=>h.elim (fun h=>h) fun h=>h,fun r v hr=>by simp at hr⟩
 have pK:∀(l:List AV) (us:List Value) (k:Nat),bM w F [] [] l us→∀t,aY w (aW Γ w [] []) [] [] (ck k l t) (if t<k then undef else(us[t-k]?).getD undef)∨t<k:=by
  intro l
  induction l with
  |nil=>intro us k _ t;exact .inl (.top _)
  |cons x l ih=>
   intro us k hl t
   cases us with
   |nil=>exact hl.elim
   |cons u us=>
    by_cases ye:t<k
    ·exact .inr ye
    ·refine .inl ?_
     rw[if_neg ye]
     simp only[ck,fc]
     by_cases QH:t=k
     ·subst QH
      rw[if_pos rfl,Nat.sub_self]
      exact hl.1.bb dT
     ·rw[if_neg QH]
      rcases ih us (k+1) hl.2 t with h1|h1
      ·rw[if_neg (by omega)] at h1
       have:t-k=(t-(k+1))+1:=by omega
       rw[this,List.getElem?_cons_succ]
       exact h1
      ·omega
 have hrel:Rel Γ ⟨ck 0 args,[],()⟩ ⟨aU.toArray++Array.replicate (fn.ntmps-aU.toArray.size) undef,[]⟩ w []:=by
  refine⟨by simp[Γ];omega,fun t=>?_,⟨rfl,fun r o v h=>by simp at h,fun r r' o o' v v' b _ h=>by simp at h⟩,fun r o v b h=>by simp at h,bo.refl _ w,True.intro,⟨fun d hd=>(by cases hd),List.Pairwise.nil⟩,⟨fun _ _ _ _ h=>h,fun _ _ _ _ h=>h,dT,fun _ _ h=>h,fun _ _ h=>h,fun _ _ _ h=>h⟩⟩
  have:=pK args aU 0 hv t
  simp only[Nat.not_lt_zero,if_false,or_false,Nat.sub_zero] at this
  have e:(aU.toArray++Array.replicate (fn.ntmps-aU.toArray.size) undef).getD t undef=(aU[t]?).getD undef:=by
   rw[Array.getD_eq_getD_getElem?]
   by_cases ht:t<aU.length
   ·rw[Array.getElem?_append_left (by simpa using ht)];simp
   ·rw[Array.getElem?_append_right (by simpa using ht),List.getElem?_eq_none (by omega)]
    rw[Array.getElem?_replicate]
    split<;>rfl
  show aY w _ _ _ _ ((aU.toArray++Array.replicate (fn.ntmps-aU.toArray.size) undef).getD t undef)
  rw[e];exact this
 have fa:=h Γ ao rfl rfl rfl ⟨rfl,fun _ h=>h⟩ _ _ _ hrel
 refine callsIn_of_wp_marks (F:=Fence.wide) hf hb trivial (wpIn_mono (F:=Fence.wide) fa fun ex a' w' ⟨s',aH,hq,ec⟩=>?_)
 have fin:JK tab fn.results.toList e size els .ret s'→LeavesInM Fence.wide 0 P fn a'.tmps (fun en w'=>∃v,en=.returned v∧w4 w F w' e size els v) a'.defers .returning w':=by
  intro hq
  simp only[JK] at hq
  have go:∀l,dN tab s' fn.results.toList=some l→(∀w2 v,Rel Γ s' ⟨a'.tmps,[]⟩ w2 aH→aY w2 (aW Γ w2 aH s'.hp) aH s'.hp (fw l) v→w4 w F w2 e size els v)→LeavesInM Fence.wide 0 P fn a'.tmps (fun en w'=>∃v,en=.returned v∧w4 w F w' e size els v) a'.defers .returning w':=by
   intro l hl mS
   exact yc (Γ:=Γ) (s:=s') (η:=aH) (fn:=fn) (ts:=a'.tmps) (R:=fun en w'=>∃v,en=.returned v∧w4 w F w' e size els v) ao (fun _ h=>h) (fun w2 lr=>by
    obtain⟨v,h1,h2⟩:=jL ah lr hl
    exact⟨v,h1,v,rfl,mS w2 v lr h2⟩) a'.defers w' ec
  split at hq
  ·rename_i r n hl
   split at hq
   ·rename_i e' z ku ho
    obtain⟨rfl,rfl,rfl,rfl⟩:=hq
    refine go _ hl fun w2 v lr h2=>?_
    cases h2 with
    |own _ _ _ h1 rh=>
     unfold aT at rh
     rw[ho] at rh
     replace rh:=And.intro rh.1 (rh.2 rfl)
     obtain⟨hz,xs,bW,cy⟩:=lr.heap.obj r _ _ ho rh.2
     refine⟨lr.keeps.same fun b _ hx=>by rcases hx with h|h<;>exact h,h1,fun b hb=>((lr.bA r _ v b ho True.intro rh.2 hb).1).elim id fun h=>h.elim,hz,xs,bW,fun i el hi=>⟨(cy i el hi).1,fun j x hj=>?_⟩⟩
     obtain⟨u,q1,q2,q3⟩:=(cy i el hi).2 j x hj
     refine⟨u,q1,q2.bb fun b k hf=>?_,q3⟩
     rcases hf.1 with h3|h3|h3
     ·exact .inl h3
     ·refine .inr ⟨h3,hf.2.1,fun hb=>?_⟩
      obtain⟨o1,g1,g2⟩:=(aR b k).1 hf.2.2.2 r v rh.2 hb
      rw[ho] at g1
      obtain rfl:=Option.some.inj g1
      exact g2
     ·exact h3.elim
   ·exact hq.elim
  ·rename_i hl
   obtain⟨rfl,hz⟩:=hq
   refine go _ hl fun w2 v lr h2=>?_
   have:=aY.al h2
   subst this
   exact⟨lr.keeps.same fun b _ hx=>by rcases hx with h|h<;>exact h,rfl,fun b hb=>by simp[bU] at hb,hz,[],⟨by simp,.inl ⟨rfl,.inl rfl⟩⟩,fun i el hi=>by simp at hi⟩
  ·exact hq.elim
 cases ex with
 |normal=>exact fin hq
 |ret=>exact fin hq
 |_=>exact hq.elim
end Go.Proofs.YtdcikhleahfknaaGreatDoor
