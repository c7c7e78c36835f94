/- Texts of ours laid together for a claim: FilW. -/
import Derived.Test.YtdcikhleahfknaaGreatDoorQ10
namespace Go.Proofs.YtdcikhleahfknaaGreatDoor
open Go
set_option linter.unusedSimpArgs false
set_option linter.unusedVariables false
variable {G:Type} {Γ:Env G} {s s':AS G} {a:Act} {w w':World} {η aH:List Value} {hp hp':List af} {P:Program} {ops:Array Oper}
def oK (Γ:Env G) (ops:Array Oper) (o:Oper) (s:AS G) (r:AV) (hp':List af):Prop:=
 ∀pU:Env G,pU.Ok→pU.P=Γ.P→pU.nt=Γ.nt→pU.wP=Γ.wP→eW pU o (s.only (o.looksAt ops)) r hp'
theorem oK.run (ao:Γ.Ok) {o:Oper} {r:AV} (h:oK Γ ops o s r hp'):eW Γ o s r hp':=by
 intro a w η hr
 let A1:Env G:={ P:=Γ.P,w0:=w,F0:=aW Γ w η s.hp,X:=Γ.X,Y:=aE η s.hp,Inv:=Γ.Inv,nt:=Γ.nt,wP:=Γ.wP,vZ:=η,iV:=s.hp,m0:=Γ.m0,Z:=Γ.Z }
 have bC:=hr.keeps.size
 have IM:∀b,aE η s.hp b→b<w.heap.size:=fun b ⟨q,o,v,g1,g2,g3,g4⟩=>hr.heap.block g1 g2 g3 g4
 have Jq:A1.Ok:=⟨hr.heap.len,fun b hb=>Nat.lt_of_lt_of_le (ao.x b hb) bC,IM,ao.mJ,fun b o hb=>Nat.lt_of_lt_of_le (ao.z b o hb) bC,hr.gz ao,fun b hb h=>h.elim (fun h=>ao.gx b hb (.inl h)) (hr.gx ao hb)⟩
 have Jr:∀b o,aW Γ w η s.hp b o→aW A1 w η s.hp b o:=fun b o h=>⟨.inl h,h.2.1,h.2.2.1,h.2.2.2⟩
 have RR:∀{vZ:List Value} {iV:List af},Ext w (aW Γ w η s.hp) vZ iV w (aW A1 w η s.hp) vZ iV:=⟨fun _ _ _ _ h=>h,fun _ _ _ _ h=>h,Jr,fun _ _ h=>h,fun _ _ h=>h,fun _ _ _ h=>h⟩
 have Js:Rel A1 (s.only (o.looksAt ops)) a w η:=
  ⟨hr.nt,fun t=>((hr.only _).tmps t).ext RR,⟨hr.heap.len,fun q o v h1 h2=>(hr.heap.obj q o v h1 h2).ext RR (Nat.le_refl _) fun _ _ _=>rfl,hr.heap.sep⟩,
   fun q o v b h1 h2 h3 h4=>⟨.inr ⟨q,o,v,h1,h2,h3,h4⟩,(hr.bA q o v b h1 h2 h3 h4).2⟩,bo.refl _ w,hr.inv,hr.marks,RR⟩
 obtain⟨v,w',aH,h1,h2,h3⟩:=h A1 Jq rfl rfl rfl a w η Js
 have wg:∀b o,aW A1 w' aH hp' b o→aW Γ w' aH hp' b o:=by
  intro b o hf
  refine⟨?_,hf.2.1,hf.2.2.1,hf.2.2.2⟩
  rcases hf.1 with g|g|⟨q,o1,v1,g1,g2,g3,g4⟩
  ·exact g.1
  ·exact .inr (.inl (Nat.le_trans bC g))
  ·exact .inr (hr.bA q o1 v1 b g1 g2 g3 g4).1
 have hex:∀{iU:List Value} {ff:List af},Ext w' (aW A1 w' aH hp') iU ff w' (aW Γ w' aH hp') iU ff:=
  ⟨fun _ _ _ _ h=>h,fun _ _ _ _ h=>h,wg,fun _ _ h=>h,fun _ _ h=>h,fun _ _ _ h=>h⟩
 have RS:Ext w (aW Γ w η s.hp) η s.hp w' (aW Γ w' aH hp') aH hp':=Ext.trans h2.ext hex
 refine⟨v,w',aH,h1,?_,h3.ext hex⟩
 refine⟨hr.nt,fun t=>(hr.tmps t).ext RS,⟨h2.heap.len,fun q o v g1 g2=>(h2.heap.obj q o v g1 g2).ext hex (Nat.le_refl _) fun _ _ _=>rfl,h2.heap.sep⟩,fun q o v b g1 g2 g3 g4=>?_,?_,h2.inv,h2.marks,hr.ext.trans RS⟩
 ·have:=h2.bA q o v b g1 g2 g3 g4
  refine⟨?_,this.2⟩
  rcases this.1 with g|⟨q,o1,v1,g1,g2,g3,g4⟩
  ·exact .inl (Nat.le_trans bC g)
  ·exact(hr.bA q o1 v1 b g1 g2 g3 g4).1
 ·refine hr.keeps.trans h2.keeps fun b hb hl=>?_
  rcases hl with hl|⟨q,o1,v1,g1,g2,g3,g4⟩
  ·exact .inl hl
  ·rcases (hr.bA q o1 v1 b g1 g2 g3 g4).1 with h|h
   ·omega
   ·exact .inr h
def kP (K:List Nat) (hp hp':List af):Prop:=hp.length≤hp'.length∧∀(q:Nat) (o:af),q∉K→hp[q]?=some o→hp'[q]?=some o
theorem kP.refl {K:List Nat}:kP K hp hp:=⟨Nat.le_refl _,fun _ _ _ h=>h⟩
theorem kP.trans {K:List Nat} {ff nR hp3:List af} (h:kP K ff nR) (h':kP K nR hp3):kP K ff hp3:=⟨Nat.le_trans h.1 h'.1,fun q o hq ho=>h'.2 q o hq (h.2 q o hq ho)⟩
theorem kP.mono {K K':List Nat} (h:kP K hp hp') (hk:∀q∈K,q∈K'):kP K' hp hp':=⟨h.1,fun q o hq ho=>h.2 q o (fun h=>hq (hk q h)) ho⟩
def jf (C:List (Option (List Nat))) (j:Nat) (hp hp':List af):Prop:=
 match C.getD j none with
 |none=>True
 |some l=>kP l hp hp'
def fj:Op→Bool
 | .move _ | .assign _ | .nilCheck _ | .pick .. | .binOp .. | .unOp .. | .extract .. | .build .. | .field .. | .makeFunc .. | .fieldAddr .. | .convert ..=>true
 |_=>false
def nW (M:List (Option (List Nat))) (k:Nat) (op:Op) (hp hp':List af):Prop:=
 if fj op=true then True else match M.getD k none with
 |none=>hp'=hp
 |some K=>kP K hp hp'
theorem nW.trans {M:List (Option (List Nat))} {k:Nat} {op:Op} {ff nR hp3:List af} (h:nW M k op ff nR) (h':nW M k op nR hp3):nW M k op ff hp3:=by
 unfold nW at *
 split
 ·trivial
 ·rename_i hh
  rw[if_neg hh] at h h'
  split<;>rename_i hm<;>rw[hm] at h h'
  ·exact h'.trans h
  ·exact h.trans h'
theorem nW.refl {M:List (Option (List Nat))} {k:Nat} {op:Op}:nW M k op hp hp:=by
 unfold nW
 split
 ·trivial
 ·split
  ·rfl
  ·exact kP.refl
def iK (Γ:Env G) (ops:Array Oper) (o:Oper) (s:AS G) (x:AV) (R:List af→List af→Prop):Prop:=
 cx Γ.nt o.dst∧((aG ops s o=some true∧∀s':AS G,(∀t,t∈o.looksAt ops→s'.tmps t=s.tmps t)→R s.hp s'.hp→jW Γ o (s'.only (o.looksAt ops)) x)∨(aG ops s o=some false∧x=.ae (.tuple #[])))
theorem iK.Ju (ao:Γ.Ok) {o:Oper} {x:AV} {R:List af→List af→Prop} (hR:R s.hp s.hp) (h:iK Γ ops o s x R):Yields Γ ops o s x:=
 ⟨h.1,h.2.imp (fun g=>⟨g.1,g.2 s (fun _ _=>rfl) hR Γ ao rfl rfl rfl⟩) id⟩
def oV (Γ:Env G) (ops:Array Oper) (C:List (Option (List Nat))) (i:Nat) (K:AS G→Prop) (s:AS G):Prop:=
 match ops[i]? with
 |none=>K s
 |some o=>if bP o.op=true then cx Γ.nt o.dst∧o.guard=none∧∃r hp',oK Γ ops o s r hp'∧jf C i s.hp hp'∧K (AS.put { s with hp:=hp' } o.dst r)
  else ∃x,iK Γ ops o s x (fun hp hp'=>hp'=hp)∧K (s.put o.dst x)
def kQ (Γ:Env G) (ops:Array Oper) (C:List (Option (List Nat))) (Q:AS G→Prop):Nat→Array Bool→AS G→Prop
 |0,listed,s=>Region.ready .any ops listed=[]∧Q s
 |fuel+1,listed,s=>(Region.ready .any ops listed=[]→Q s)∧∀i∈Region.ready .any ops listed,oV Γ ops C i (kQ Γ ops C Q fuel (listed.setIfInBounds i true)) s
theorem kQ.any (ao:Γ.Ok) {C:List (Option (List Nat))} {Q:AS G→Prop}:∀(fuel:Nat) (listed:Array Bool) (s:AS G),kQ Γ ops C Q fuel listed s→oA Γ ops Q fuel listed s:=by
 intro fuel
 induction fuel with
 |zero=>intro listed s h;exact h
 |succ fuel ih=>
  intro listed s h
  refine⟨h.1,fun i hi=>?_⟩
  have h1:=h.2 i hi
  unfold oV at h1
  unfold oJ
  split at h1
  ·rename_i ho;rw[ho];exact ih _ _ h1
  ·rename_i o ho
   rw[ho]
   simp only
   split at h1
   ·rename_i he
    rw[if_pos he]
    obtain⟨g1,g2,r,hp',g3,_,g4⟩:=h1
    exact⟨g1,g2,r,hp',g3.run ao,ih _ _ g4⟩
   ·rename_i he
    rw[if_neg he]
    obtain⟨x,g1,g2⟩:=h1
    exact⟨x,iK.Ju (R:=fun hp hp'=>hp'=hp) ao rfl g1,ih _ _ g2⟩
theorem iK.put {o:Oper} {x y:AV} {d:Option Nat} {R:List af→List af→Prop} (h:∀t,d=some t→t∉o.looksAt ops) (hy:iK Γ ops o s y R):iK Γ ops o (s.put d x) y R:=by
 have yg:(s.put d x).hp=s.hp:=by cases d<;>rfl
 have X5:∀t,t∈o.looksAt ops→(s.put d x).tmps t=s.tmps t:=by
  intro t ht
  cases d with
  |none=>rfl
  |some d=>
   show xQ s.tmps d x t=_
   rw[fc,if_neg]
   intro e;subst e;exact h t rfl ht
 refine⟨hy.1,?_⟩
 rw[fR h]
 refine hy.2.imp (fun g=>⟨g.1,fun s' h1 h2=>g.2 s' (fun t ht=>?_) (by rw[yg] at h2;exact h2)⟩) id
 rw[h1 t ht,X5 t ht]
theorem iK.mU {o:Oper} {x y:AV} {d:Option Nat} {R:List af→List af→Prop} (h:∀t,d=some t→t∉o.looksAt ops) (hy:iK Γ ops o (s.put d x) y R):iK Γ ops o s y R:=by
 have yg:(s.put d x).hp=s.hp:=by cases d<;>rfl
 have X5:∀t,t∈o.looksAt ops→(s.put d x).tmps t=s.tmps t:=by
  intro t ht
  cases d with
  |none=>rfl
  |some d=>
   show xQ s.tmps d x t=_
   rw[fc,if_neg]
   intro e;subst e;exact h t rfl ht
 refine⟨hy.1,?_⟩
 have h2:=hy.2
 rw[fR h] at h2
 refine h2.imp (fun g=>⟨g.1,fun s' h1 h3=>g.2 s' (fun t ht=>?_) (by rw[yg];exact h3)⟩) id
 rw[h1 t ht,X5 t ht]
theorem iK.heap {o:Oper} {y:AV} {R:List af→List af→Prop} (Ts:∀ff nR hp3,R ff nR→R nR hp3→R ff hp3) (h:R s.hp hp') (hy:iK Γ ops o s y R):iK Γ ops o { s with hp:=hp' } y R:=by
 refine⟨hy.1,?_⟩
 have:aG ops { s with hp:=hp' } o=aG ops s o:=rfl
 rw[this]
 exact hy.2.imp (fun g=>⟨g.1,fun s' h1 h2=>g.2 s' h1 (Ts _ _ _ h h2)⟩) id
theorem oK.mU {o:Oper} {x r:AV} {d:Option Nat} (h:∀t,d=some t→t∉o.looksAt ops) (hy:oK Γ ops o (s.put d x) r hp'):oK Γ ops o s r hp':=by
 unfold oK at *
 rw[uv h] at hy;exact hy
theorem kQ.first {C:List (Option (List Nat))} {Q:AS G→Prop} {i:Nat} {oi:Oper} {x:AV} {R:List af→List af→Prop} (Ts:∀ff nR hp3,R ff nR→R nR hp3→R ff hp3) (T0:∀hp,R hp hp) (hi:ops[i]?=some oi) (bh:bP oi.op=false):
  ∀(fuel:Nat) (listed:Array Bool) (s:AS G),mR ops listed→
  (∀(j:Nat) oj,ops[j]?=some oj→j≠i→listed.getD j true=false→Reach ops i j∨(oi.apart ops oj=true∧(bP oj.op=false∨∀hp hp',jf C j hp hp'→R hp hp')))→
  i∈Region.ready .any ops listed→iK Γ ops oi s x R→kQ Γ ops C Q fuel (listed.setIfInBounds i true) (s.put oi.dst x)→kQ Γ ops C Q (fuel+1) listed s:=by
 have own:∀{K:AS G→Prop} {s:AS G},iK Γ ops oi s x R→K (s.put oi.dst x)→oV Γ ops C i K s:=by
  intro K s hy hK
  unfold oV
  rw[hi]
  simp only[bh,Bool.false_eq_true,if_false]
  exact⟨x,⟨hy.1,hy.2.imp (fun g=>⟨g.1,fun s' h1 h2=>g.2 s' h1 (by rw[h2];exact T0 _)⟩) id⟩,hK⟩
 intro fuel
 induction fuel with
 |zero=>
  intro listed s _ _ hr hy H
  refine⟨fun h=>(by rw[h] at hr;cases hr),fun j hj=>?_⟩
  by_cases fK:j=i
  ·subst fK;exact own hy H
  ·have:=ready_mono hj fK
   rw[H.1] at this
   cases this
 |succ fuel ih=>
  intro listed s cq cg hr hy H
  refine⟨fun h=>(by rw[h] at hr;cases hr),fun j hj=>?_⟩
  by_cases fK:j=i
  ·subst fK;exact own hy H
  ·have h1:=H.2 j (ready_mono hj fK)
   obtain⟨lE,oj,gL,mS⟩:=mem_ready.1 hj
   rcases cg j oj gL fK lE with h2|⟨RL,kI⟩
   ·exact(fD cq hr hj h2).elim
   obtain⟨p1,p2,p3⟩:=Oper.apart_spec RL
   have bD:∀k ok,ops[k]?=some ok→k≠i→(listed.setIfInBounds j true).getD k true=false→Reach ops i k∨(oi.apart ops ok=true∧(bP ok.op=false∨∀hp hp',jf C k hp hp'→R hp hp')):=by
    intro k ok hk DB jA
    refine cg k ok hk DB ?_
    by_cases iP:j=k
    ·subst iP;exact lE
    ·rw[getD_set_ne true iP] at jA;exact jA
   unfold oV at h1 ⊢
   rw[gL] at h1 ⊢
   simp only at h1 ⊢
   split at h1
   ·rename_i FG
    rw[if_pos FG]
    obtain⟨g1,g2,r,hp',g3,g4,g5⟩:=h1
    have yg:(s.put oi.dst x).hp=s.hp:=by cases oi.dst<;>rfl
    rw[yg] at g4
    have hR:=(kI.resolve_left (by rw[FG];simp)) _ _ g4
    refine⟨g1,g2,r,hp',g3.mU p1,g4,ih (listed.setIfInBounds j true) _ (bT cq hj) bD (ready_mono hr (Ne.symm fK)) ((hy.heap Ts hR).put p3) ?_⟩
    rw[Array.setIfInBounds_comm _ _ fK]
    have e:(AS.put { s with hp:=hp' } oj.dst r).put oi.dst x=AS.put { s.put oi.dst x with hp:=hp' } oj.dst r:=by
     rw[←put_comm p2]
     congr 1
     cases oi.dst<;>rfl
    rw[e]
    exact g5
   ·rename_i FG
    rw[if_neg FG]
    obtain⟨y,RM,hK⟩:=h1
    refine⟨y,RM.mU p1,ih (listed.setIfInBounds j true) (s.put oj.dst y) (bT cq hj) bD (ready_mono hr (Ne.symm fK)) (hy.put p3) ?_⟩
    rw[Array.setIfInBounds_comm _ _ fK,←put_comm p2]
    exact hK
theorem kQ.fS {C:List (Option (List Nat))} {Q:AS G→Prop} {i:Nat} {fuel:Nat} {listed:Array Bool} (cq:mR ops listed) (cg:∀(j:Nat) oj,ops[j]?=some oj→j≠i→listed.getD j true=false→Reach ops i j)
  (hr:i∈Region.ready .any ops listed) (H:oV Γ ops C i (kQ Γ ops C Q fuel (listed.setIfInBounds i true)) s):kQ Γ ops C Q (fuel+1) listed s:=by
 refine⟨fun h=>(by rw[h] at hr;cases hr),fun j hj=>?_⟩
 by_cases fK:j=i
 ·subst fK;exact H
 ·obtain⟨lE,oj,gL,_⟩:=mem_ready.1 hj
  exact(fD cq hr hj (cg j oj gL fK lE)).elim
def Jv (l k:List Nat):Bool:=l.all fun q=>k.contains q
def fT (C M:List (Option (List Nat))) (k j:Nat) (op:Op):Bool:=
 fj op||(match C.getD j none,M.getD k none with
  |some l,some K=>Jv l K
  |_,_=>false)
theorem gN {C M:List (Option (List Nat))} {k j:Nat} {op:Op} (h:fT C M k j op=true) (hc:jf C j hp hp'):nW M k op hp hp':=by
 unfold fT at h
 unfold nW
 split
 ·trivial
 ·rename_i hh
  rw[Bool.or_eq_true] at h
  rcases h with h|h
  ·exact(hh h).elim
  ·split at h
   ·rename_i l K hl hk
    unfold jf at hc
    rw[hl] at hc
    rw[hk]
    refine hc.mono fun q hq=>?_
    simp only[Jv,List.all_eq_true] at h
    simpa using h q hq
   ·cases h
def tC (C M:List (Option (List Nat))) (l:List Oper):Bool:=
 let m:=kK l []
 (List.range l.length).all fun k=>match l[k]? with
  |none=>false
  |some ok=>ok.after.toList.all (fun e=>!Region.binds .any e||decide (e.on<k)) &&
    (List.range l.length).all fun j=>decide (j≤k)||(m.getD j 0).testBit k||match l[j]? with
     |none=>true
     |some oj=>!bP ok.op&&ok.apart l.toArray oj&&(!bP oj.op||fT C M k j ok.op)
def mu (Γ:Env G) (ops:Array Oper) (C M:List (Option (List Nat))) (K:AS G→Prop):Nat→List Oper→AS G→Prop
 |_,[],s=>K s
 |k,o::rest,s=>if bP o.op=true then cx Γ.nt o.dst∧o.guard=none∧∃r hp',oK Γ ops o s r hp'∧jf C k s.hp hp'∧mu Γ ops C M K (k+1) rest (AS.put { s with hp:=hp' } o.dst r)
  else ∃x,iK Γ ops o s x (nW M k o.op)∧mu Γ ops C M K (k+1) rest (s.put o.dst x)
theorem mu.any {C M:List (Option (List Nat))} {Q:AS G→Prop} {l0:List Oper} (hd:tC C M l0=true):∀(l:List Oper) (k:Nat) (listed:Array Bool) (s:AS G),(∀(j:Nat),l[j]?=l0[k+j]?)→listed.size=l0.length→(∀(j:Nat),j<l0.length→listed.getD j true=decide (j<k))→k+l.length=l0.length→
  mu Γ l0.toArray C M Q k l s→kQ Γ l0.toArray C Q l.length listed s:=by
 intro l
 induction l with
 |nil=>
  intro k listed s _ bC dO hk h
  refine⟨?_,h⟩
  apply List.eq_nil_iff_forall_not_mem.2
  intro j hj
  obtain⟨h1,o,ho,_⟩:=mem_ready.1 hj
  have ak:j<l0.length:=by have:=(Array.getElem?_eq_some_iff.1 ho).1;simpa using this
  rw[dO j ak] at h1
  simp at h1
  simp at hk
  omega
 |cons o l ih=>
  intro k listed s hl bC dO hk h
  have ao:l0[k]?=some o:=by have:=hl 0;simpa using this.symm
  have Am:l0.toArray[k]?=some o:=by simpa using ao
  have yf:k<l0.length:=(List.getElem?_eq_some_iff.1 ao).1
  have cO:=hd
  simp only[tC,List.all_eq_true,List.mem_range] at cO
  have mo:=cO k yf
  rw[ao] at mo
  simp only[Bool.and_eq_true,List.all_eq_true,List.mem_range] at mo
  obtain⟨M6,AR⟩:=mo
  have D3:listed.getD k true=false:=by rw[dO k yf];simp
  have jd:∀j,j<l0.length→listed.getD j false=decide (j<k):=by
   intro j hj
   have:=dO j hj
   simp only[Array.getD_eq_getD_getElem?,Array.getElem?_eq_getElem (show j<listed.size by omega),Option.getD_some] at this ⊢
   exact this
  have wW:k∈Region.ready .any l0.toArray listed:=by
   refine mem_ready.2 ⟨D3,o,Am,fun e he hb=>?_⟩
   have:=M6 e (by simpa using he)
   rw[hb] at this
   simp at this
   rw[jd e.on (by omega)];simp;exact this
  have cq:mR l0.toArray listed:=by
   intro q oq hq Ji e he hb
   have AU:q<l0.length:=by have:=(Array.getElem?_eq_some_iff.1 Ji).1;simpa using this
   rw[jd q AU] at hq
   have Hb:q<k:=by simpa using hq
   have h2:=cO q AU
   have D4:l0[q]?=some oq:=by simpa using Ji
   rw[D4] at h2
   simp only[Bool.and_eq_true,List.all_eq_true] at h2
   have h3:=h2.1 e (by simpa using he)
   rw[hb] at h3
   simp at h3
   rw[jd e.on (by omega)];simp;omega
  have lF:∀(j:Nat),(List.getD (kK l0 []) j 0).testBit k=true→Reach l0.toArray k j:=by
   intro j hj
   cases hm:(kK l0 [])[j]? with
   |none=>simp[List.getD,hm] at hj
   |some m=>
    simp only[List.getD,hm,Option.getD_some] at hj
    exact kL (ops:=l0.toArray) l0 [] (fun j=>by simp) (fun j m i hj=>by simp at hj) j m k hm hj
  have kM:∀(j:Nat) oj,l0.toArray[j]?=some oj→j≠k→listed.getD j true=false→Reach l0.toArray k j∨(bP o.op=false∧o.apart l0.toArray oj=true∧(bP oj.op=false∨fT C M k j o.op=true)):=by
   intro j oj gL iP jA
   have rX:j<l0.length:=by have:=(Array.getElem?_eq_some_iff.1 gL).1;simpa using this
   rw[dO j rX] at jA
   have D5:l0[j]?=some oj:=by simpa using gL
   have h2:=AR j rX
   rw[D5] at h2
   simp only[Bool.or_eq_true,decide_eq_true_eq,Bool.and_eq_true,Bool.not_eq_true'] at h2
   rcases h2 with(h2|h2)|h2
   ·simp at jA;omega
   ·exact .inl (lF j h2)
   ·exact .inr ⟨h2.1.1,h2.1.2,h2.2⟩
  have bD:∀s',mu Γ l0.toArray C M Q (k+1) l s'→kQ Γ l0.toArray C Q l.length (listed.setIfInBounds k true) s':=by
   intro s' h'
   refine ih (k+1) _ s' (fun j=>by have:=hl (j+1);simp only[List.getElem?_cons_succ] at this;rw[this];congr 1;omega) (by simpa using bC) (fun j hj=>?_) (by simp at hk;omega) h'
   by_cases iP:j=k
   ·subst iP
    have:j<listed.size:=by omega
    simp[this]
   ·rw[getD_set_ne true (Ne.symm iP),dO j hj]
    simp;omega
  simp only[mu] at h
  split at h
  ·rename_i he
   obtain⟨h1,h2,r,hp',h3,h4,h5⟩:=h
   refine kQ.fS cq (fun j oj gL iP jA=>?_) wW ?_
   ·rcases kM j oj gL iP jA with h5|h5
    ·exact h5
    ·rw[he] at h5;cases h5.1
   ·unfold oV
    rw[Am]
    simp only[he,if_true]
    exact⟨h1,h2,r,hp',h3,h4,bD _ h5⟩
  ·rename_i he
   obtain⟨x,h1,h2⟩:=h
   exact kQ.first (R:=nW M k o.op) (fun _ _ _=>nW.trans) (fun _=>nW.refl) Am (by simpa using he) l.length listed s cq
    (fun j oj gL iP jA=>(kM j oj gL iP jA).imp id fun h=>⟨h.2.1,h.2.2.imp id fun hm hp hp' hc=>gN hm hc⟩) wW h1 (bD _ h2)
end Go.Proofs.YtdcikhleahfknaaGreatDoor
