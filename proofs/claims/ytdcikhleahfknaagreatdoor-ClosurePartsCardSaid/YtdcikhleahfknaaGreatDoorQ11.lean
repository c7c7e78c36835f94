/- Texts of ours laid together for a claim: FilW. -/
import Derived.Test.YtdcikhleahfknaaGreatDoorQ10
namespace Go.Proofs.YtdcikhleahfknaaGreatDoor
open Go
set_option linter.unusedSimpArgs false
set_option linter.unusedVariables false
variable {G:Type} {Γ:Env G} {s s':AS G} {a:Act} {w w':World} {η aM:List Value} {hp hp':List af} {P:Program} {ops:Array Oper}
def oa (Γ:Env G) (ops:Array Oper) (o:Oper) (s:AS G) (r:AV) (hp':List af):Prop:=
 ∀pq:Env G,pq.Ok→pq.P=Γ.P→pq.nt=Γ.nt→pq.vQ=Γ.vQ→eA pq o (s.only (o.looksAt ops)) r hp'
theorem oa.run (aq:Γ.Ok) {o:Oper} {r:AV} (h:oa Γ ops o s r hp'):eA Γ o s r hp':=by
 intro a w η hr
 let zL:Env G:={ P:=Γ.P,w0:=w,F0:=aU Γ w η s.hp,X:=Γ.X,Y:=aC η s.hp,Inv:=Γ.Inv,nt:=Γ.nt,vQ:=Γ.vQ,vh:=η,ir:=s.hp,m0:=Γ.m0,Z:=Γ.Z }
 have bE:=hr.keeps.size
 have Hj:∀b,aC η s.hp b→b<w.heap.size:=fun b ⟨q,o,v,g1,g2,g3,g4⟩=>hr.heap.block g1 g2 g3 g4
 have HO:zL.Ok:=⟨hr.heap.len,fun b hb=>Nat.lt_of_lt_of_le (aq.x b hb) bE,Hj,aq.l8,fun b o hb=>Nat.lt_of_lt_of_le (aq.z b o hb) bE,hr.fX aq,fun b hb h=>h.elim (fun h=>aq.gx b hb (.inl h)) (hr.gx aq hb)⟩
 have HP:∀b o,aU Γ w η s.hp b o→aU zL w η s.hp b o:=fun b o h=>⟨.inl h,h.2.1,h.2.2.1,h.2.2.2⟩
 have Qb:∀{vh:List Value} {ir:List af},Ext w (aU Γ w η s.hp) vh ir w (aU zL w η s.hp) vh ir:=⟨fun _ _ _ _ h=>h,fun _ _ _ _ h=>h,HP,fun _ _ h=>h,fun _ _ h=>h,fun _ _ _ h=>h⟩
 have HQ:Rel zL (s.only (o.looksAt ops)) a w η:=
  ⟨hr.nt,fun t=>((hr.only _).tmps t).ext Qb,⟨hr.heap.len,fun q o v h1 h2=>(hr.heap.obj q o v h1 h2).ext Qb (Nat.le_refl _) fun _ _ _=>rfl,hr.heap.sep⟩,
   fun q o v b h1 h2 h3 h4=>⟨.inr ⟨q,o,v,h1,h2,h3,h4⟩,(hr.bA q o v b h1 h2 h3 h4).2⟩,bo.refl _ w,hr.inv,hr.marks,Qb⟩
 obtain⟨v,w',aM,h1,h2,h3⟩:=h zL HO rfl rfl rfl a w η HQ
 have vo:∀b o,aU zL w' aM hp' b o→aU Γ w' aM hp' b o:=by
  intro b o hf
  refine⟨?_,hf.2.1,hf.2.2.1,hf.2.2.2⟩
  rcases hf.1 with g|g|⟨q,o1,v1,g1,g2,g3,g4⟩
  ·exact g.1
  ·exact .inr (.inl (Nat.le_trans bE g))
  ·exact .inr (hr.bA q o1 v1 b g1 g2 g3 g4).1
 have hex:∀{iq:List Value} {eG:List af},Ext w' (aU zL w' aM hp') iq eG w' (aU Γ w' aM hp') iq eG:=
  ⟨fun _ _ _ _ h=>h,fun _ _ _ _ h=>h,vo,fun _ _ h=>h,fun _ _ h=>h,fun _ _ _ h=>h⟩
 have Qd:Ext w (aU Γ w η s.hp) η s.hp w' (aU Γ w' aM hp') aM hp':=Ext.trans h2.ext hex
 refine⟨v,w',aM,h1,?_,h3.ext hex⟩
 refine⟨hr.nt,fun t=>(hr.tmps t).ext Qd,⟨h2.heap.len,fun q o v g1 g2=>(h2.heap.obj q o v g1 g2).ext hex (Nat.le_refl _) fun _ _ _=>rfl,h2.heap.sep⟩,fun q o v b g1 g2 g3 g4=>?_,?_,h2.inv,h2.marks,hr.ext.trans Qd⟩
 ·have:=h2.bA q o v b g1 g2 g3 g4
  refine⟨?_,this.2⟩
  rcases this.1 with g|⟨q,o1,v1,g1,g2,g3,g4⟩
  ·exact .inl (Nat.le_trans bE g)
  ·exact(hr.bA q o1 v1 b g1 g2 g3 g4).1
 ·refine hr.keeps.trans h2.keeps fun b hb hl=>?_
  rcases hl with hl|⟨q,o1,v1,g1,g2,g3,g4⟩
  ·exact .inl hl
  ·rcases (hr.bA q o1 v1 b g1 g2 g3 g4).1 with h|h
   ·omega
   ·exact .inr h
def kj (K:List Nat) (hp hp':List af):Prop:=hp.length≤hp'.length∧∀(q:Nat) (o:af),q∉K→hp[q]?=some o→hp'[q]?=some o
theorem kj.refl {K:List Nat}:kj K hp hp:=⟨Nat.le_refl _,fun _ _ _ h=>h⟩
theorem kj.trans {K:List Nat} {eG nr hp3:List af} (h:kj K eG nr) (h':kj K nr hp3):kj K eG hp3:=⟨Nat.le_trans h.1 h'.1,fun q o hq ho=>h'.2 q o hq (h.2 q o hq ho)⟩
theorem kj.mono {K K':List Nat} (h:kj K hp hp') (hk:∀q∈K,q∈K'):kj K' hp hp':=⟨h.1,fun q o hq ho=>h.2 q o (fun h=>hq (hk q h)) ho⟩
def iE (C:List (Option (List Nat))) (j:Nat) (hp hp':List af):Prop:=
 match C.getD j none with
 |none=>True
 |some l=>kj l hp hp'
def eL:Op→Bool
 | .move _ | .assign _ | .nilCheck _ | .pick .. | .binOp .. | .unOp .. | .extract .. | .build .. | .field .. | .makeFunc .. | .fieldAddr .. | .convert ..=>true
 |_=>false
def nx (M:List (Option (List Nat))) (k:Nat) (op:Op) (hp hp':List af):Prop:=
 if eL op=true then True else match M.getD k none with
 |none=>hp'=hp
 |some K=>kj K hp hp'
theorem nx.trans {M:List (Option (List Nat))} {k:Nat} {op:Op} {eG nr hp3:List af} (h:nx M k op eG nr) (h':nx M k op nr hp3):nx M k op eG hp3:=by
 unfold nx at *
 split
 ·trivial
 ·rename_i hh
  rw[if_neg hh] at h h'
  split<;>rename_i hm<;>rw[hm] at h h'
  ·exact h'.trans h
  ·exact h.trans h'
theorem nx.refl {M:List (Option (List Nat))} {k:Nat} {op:Op}:nx M k op hp hp:=by
 unfold nx
 split
 ·trivial
 ·split
  ·rfl
  ·exact kj.refl
def hG (Γ:Env G) (ops:Array Oper) (o:Oper) (s:AS G) (x:AV) (R:List af→List af→Prop):Prop:=
 cw Γ.nt o.dst∧((aD ops s o=some true∧∀s':AS G,(∀t,t∈o.looksAt ops→s'.tmps t=s.tmps t)→R s.hp s'.hp→jB Γ o (s'.only (o.looksAt ops)) x)∨(aD ops s o=some false∧x=.ae (.tuple #[])))
theorem hG.HS (aq:Γ.Ok) {o:Oper} {x:AV} {R:List af→List af→Prop} (hR:R s.hp s.hp) (h:hG Γ ops o s x R):Yields Γ ops o s x:=
 ⟨h.1,h.2.imp (fun g=>⟨g.1,g.2 s (fun _ _=>rfl) hR Γ aq rfl rfl rfl⟩) id⟩
def oB (Γ:Env G) (ops:Array Oper) (C:List (Option (List Nat))) (i:Nat) (K:AS G→Prop) (s:AS G):Prop:=
 match ops[i]? with
 |none=>K s
 |some o=>if bL o.op=true then cw Γ.nt o.dst∧o.guard=none∧∃r hp',oa Γ ops o s r hp'∧iE C i s.hp hp'∧K (AS.put { s with hp:=hp' } o.dst r)
  else ∃x,hG Γ ops o s x (fun hp hp'=>hp'=hp)∧K (s.put o.dst x)
def kl (Γ:Env G) (ops:Array Oper) (C:List (Option (List Nat))) (Q:AS G→Prop):Nat→Array Bool→AS G→Prop
 |0,listed,s=>Region.ready .any ops listed=[]∧Q s
 |fuel+1,listed,s=>(Region.ready .any ops listed=[]→Q s)∧∀i∈Region.ready .any ops listed,oB Γ ops C i (kl Γ ops C Q fuel (listed.setIfInBounds i true)) s
theorem kl.any (aq:Γ.Ok) {C:List (Option (List Nat))} {Q:AS G→Prop}:∀(fuel:Nat) (listed:Array Bool) (s:AS G),kl Γ ops C Q fuel listed s→nV Γ ops Q fuel listed s:=by
 intro fuel
 induction fuel with
 |zero=>intro listed s h;exact h
 |succ fuel ih=>
  intro listed s h
  refine⟨h.1,fun i hi=>?_⟩
  have h1:=h.2 i hi
  unfold oB at h1
  unfold n9
  split at h1
  ·rename_i ho;rw[ho];exact ih _ _ h1
  ·rename_i o ho
   rw[ho]
   simp only
   split at h1
   ·rename_i he
    rw[if_pos he]
    obtain⟨g1,g2,r,hp',g3,_,g4⟩:=h1
    exact⟨g1,g2,r,hp',g3.run aq,ih _ _ g4⟩
   ·rename_i he
    rw[if_neg he]
    obtain⟨x,g1,g2⟩:=h1
    exact⟨x,hG.HS (R:=fun hp hp'=>hp'=hp) aq rfl g1,ih _ _ g2⟩
theorem hG.put {o:Oper} {x y:AV} {d:Option Nat} {R:List af→List af→Prop} (h:∀t,d=some t→t∉o.looksAt ops) (hy:hG Γ ops o s y R):hG Γ ops o (s.put d x) y R:=by
 have xw:(s.put d x).hp=s.hp:=by cases d<;>rfl
 have Wr:∀t,t∈o.looksAt ops→(s.put d x).tmps t=s.tmps t:=by
  intro t ht
  cases d with
  |none=>rfl
  |some d=>
   show xa s.tmps d x t=_
   rw[eF,if_neg]
   intro e;subst e;exact h t rfl ht
 refine⟨hy.1,?_⟩
 rw[fz h]
 refine hy.2.imp (fun g=>⟨g.1,fun s' h1 h2=>g.2 s' (fun t ht=>?_) (by rw[xw] at h2;exact h2)⟩) id
 rw[h1 t ht,Wr t ht]
theorem hG.ml {o:Oper} {x y:AV} {d:Option Nat} {R:List af→List af→Prop} (h:∀t,d=some t→t∉o.looksAt ops) (hy:hG Γ ops o (s.put d x) y R):hG Γ ops o s y R:=by
 have xw:(s.put d x).hp=s.hp:=by cases d<;>rfl
 have Wr:∀t,t∈o.looksAt ops→(s.put d x).tmps t=s.tmps t:=by
  intro t ht
  cases d with
  |none=>rfl
  |some d=>
   show xa s.tmps d x t=_
   rw[eF,if_neg]
   intro e;subst e;exact h t rfl ht
 refine⟨hy.1,?_⟩
 have h2:=hy.2
 rw[fz h] at h2
 refine h2.imp (fun g=>⟨g.1,fun s' h1 h3=>g.2 s' (fun t ht=>?_) (by rw[xw];exact h3)⟩) id
 rw[h1 t ht,Wr t ht]
theorem hG.heap {o:Oper} {y:AV} {R:List af→List af→Prop} (RI:∀eG nr hp3,R eG nr→R nr hp3→R eG hp3) (h:R s.hp hp') (hy:hG Γ ops o s y R):hG Γ ops o { s with hp:=hp' } y R:=by
 refine⟨hy.1,?_⟩
 have:aD ops { s with hp:=hp' } o=aD ops s o:=rfl
 rw[this]
 exact hy.2.imp (fun g=>⟨g.1,fun s' h1 h2=>g.2 s' h1 (RI _ _ _ h h2)⟩) id
theorem oa.ml {o:Oper} {x r:AV} {d:Option Nat} (h:∀t,d=some t→t∉o.looksAt ops) (hy:oa Γ ops o (s.put d x) r hp'):oa Γ ops o s r hp':=by
 unfold oa at *
 rw[tF h] at hy;exact hy
theorem kl.first {C:List (Option (List Nat))} {Q:AS G→Prop} {i:Nat} {oi:Oper} {x:AV} {R:List af→List af→Prop} (RI:∀eG nr hp3,R eG nr→R nr hp3→R eG hp3) (Si:∀hp,R hp hp) (hi:ops[i]?=some oi) (bj:bL oi.op=false):
  ∀(fuel:Nat) (listed:Array Bool) (s:AS G),mj ops listed→
  (∀(j:Nat) oj,ops[j]?=some oj→j≠i→listed.getD j true=false→Reach ops i j∨(oi.apart ops oj=true∧(bL oj.op=false∨∀hp hp',iE C j hp hp'→R hp hp')))→
  i∈Region.ready .any ops listed→hG Γ ops oi s x R→kl Γ ops C Q fuel (listed.setIfInBounds i true) (s.put oi.dst x)→kl Γ ops C Q (fuel+1) listed s:=by
 have own:∀{K:AS G→Prop} {s:AS G},hG Γ ops oi s x R→K (s.put oi.dst x)→oB Γ ops C i K s:=by
  intro K s hy hK
  unfold oB
  rw[hi]
  simp only[bj,Bool.false_eq_true,if_false]
  exact⟨x,⟨hy.1,hy.2.imp (fun g=>⟨g.1,fun s' h1 h2=>g.2 s' h1 (by rw[h2];exact Si _)⟩) id⟩,hK⟩
 intro fuel
 induction fuel with
 |zero=>
  intro listed s _ _ hr hy H
  refine⟨fun h=>(by rw[h] at hr;cases hr),fun j hj=>?_⟩
  by_cases fl:j=i
  ·subst fl;exact own hy H
  ·have:=ready_mono hj fl
   rw[H.1] at this
   cases this
 |succ fuel ih=>
  intro listed s cr cf hr hy H
  refine⟨fun h=>(by rw[h] at hr;cases hr),fun j hj=>?_⟩
  by_cases fl:j=i
  ·subst fl;exact own hy H
  ·have h1:=H.2 j (ready_mono hj fl)
   obtain⟨kX,oj,gp,qH⟩:=mem_ready.1 hj
   rcases cf j oj gp fl kX with h2|⟨P4,j7⟩
   ·exact(fc cr hr hj h2).elim
   obtain⟨p1,p2,p3⟩:=Oper.apart_spec P4
   have bC:∀k ok,ops[k]?=some ok→k≠i→(listed.setIfInBounds j true).getD k true=false→Reach ops i k∨(oi.apart ops ok=true∧(bL ok.op=false∨∀hp hp',iE C k hp hp'→R hp hp')):=by
    intro k ok hk Ci iU
    refine cf k ok hk Ci ?_
    by_cases ie:j=k
    ·subst ie;exact kX
    ·rw[getD_set_ne true ie] at iU;exact iU
   unfold oB at h1 ⊢
   rw[gp] at h1 ⊢
   simp only at h1 ⊢
   split at h1
   ·rename_i Es
    rw[if_pos Es]
    obtain⟨g1,g2,r,hp',g3,g4,g5⟩:=h1
    have xw:(s.put oi.dst x).hp=s.hp:=by cases oi.dst<;>rfl
    rw[xw] at g4
    have hR:=(j7.resolve_left (by rw[Es];simp)) _ _ g4
    refine⟨g1,g2,r,hp',g3.ml p1,g4,ih (listed.setIfInBounds j true) _ (bR cr hj) bC (ready_mono hr (Ne.symm fl)) ((hy.heap RI hR).put p3) ?_⟩
    rw[Array.setIfInBounds_comm _ _ fl]
    have e:(AS.put { s with hp:=hp' } oj.dst r).put oi.dst x=AS.put { s.put oi.dst x with hp:=hp' } oj.dst r:=by
     rw[←put_comm p2]
     congr 1
     cases oi.dst<;>rfl
    rw[e]
    exact g5
   ·rename_i Es
    rw[if_neg Es]
    obtain⟨y,P5,hK⟩:=h1
    refine⟨y,P5.ml p1,ih (listed.setIfInBounds j true) (s.put oj.dst y) (bR cr hj) bC (ready_mono hr (Ne.symm fl)) (hy.put p3) ?_⟩
    rw[Array.setIfInBounds_comm _ _ fl,←put_comm p2]
    exact hK
theorem kl.fA {C:List (Option (List Nat))} {Q:AS G→Prop} {i:Nat} {fuel:Nat} {listed:Array Bool} (cr:mj ops listed) (cf:∀(j:Nat) oj,ops[j]?=some oj→j≠i→listed.getD j true=false→Reach ops i j)
  (hr:i∈Region.ready .any ops listed) (H:oB Γ ops C i (kl Γ ops C Q fuel (listed.setIfInBounds i true)) s):kl Γ ops C Q (fuel+1) listed s:=by
 refine⟨fun h=>(by rw[h] at hr;cases hr),fun j hj=>?_⟩
 by_cases fl:j=i
 ·subst fl;exact H
 ·obtain⟨kX,oj,gp,_⟩:=mem_ready.1 hj
  exact(fc cr hr hj (cf j oj gp fl kX)).elim
def HT (l k:List Nat):Bool:=l.all fun q=>k.contains q
def fB (C M:List (Option (List Nat))) (k j:Nat) (op:Op):Bool:=
 eL op||(match C.getD j none,M.getD k none with
  |some l,some K=>HT l K
  |_,_=>false)
theorem gu {C M:List (Option (List Nat))} {k j:Nat} {op:Op} (h:fB C M k j op=true) (hc:iE C j hp hp'):nx M k op hp hp':=by
 unfold fB at h
 unfold nx
 split
 ·trivial
 ·rename_i hh
  rw[Bool.or_eq_true] at h
  rcases h with h|h
  ·exact(hh h).elim
  ·split at h
   ·rename_i l K hl hk
    unfold iE at hc
    rw[hl] at hc
    rw[hk]
    refine hc.mono fun q hq=>?_
    simp only[HT,List.all_eq_true] at h
    simpa using h q hq
   ·cases h
def sK (C M:List (Option (List Nat))) (l:List Oper):Bool:=
 let m:=kb l []
 (List.range l.length).all fun k=>match l[k]? with
  |none=>false
  |some ok=>ok.after.toList.all (fun e=>!Region.binds .any e||decide (e.on<k)) &&
    (List.range l.length).all fun j=>decide (j≤k)||(m.getD j 0).testBit k||match l[j]? with
     |none=>true
     |some oj=>!bL ok.op&&ok.apart l.toArray oj&&(!bL oj.op||fB C M k j ok.op)
def lN (Γ:Env G) (ops:Array Oper) (C M:List (Option (List Nat))) (K:AS G→Prop):Nat→List Oper→AS G→Prop
 |_,[],s=>K s
 |k,o::rest,s=>if bL o.op=true then cw Γ.nt o.dst∧o.guard=none∧∃r hp',oa Γ ops o s r hp'∧iE C k s.hp hp'∧lN Γ ops C M K (k+1) rest (AS.put { s with hp:=hp' } o.dst r)
  else ∃x,hG Γ ops o s x (nx M k o.op)∧lN Γ ops C M K (k+1) rest (s.put o.dst x)
theorem lN.any {C M:List (Option (List Nat))} {Q:AS G→Prop} {l0:List Oper} (hd:sK C M l0=true):∀(l:List Oper) (k:Nat) (listed:Array Bool) (s:AS G),(∀(j:Nat),l[j]?=l0[k+j]?)→listed.size=l0.length→(∀(j:Nat),j<l0.length→listed.getD j true=decide (j<k))→k+l.length=l0.length→
  lN Γ l0.toArray C M Q k l s→kl Γ l0.toArray C Q l.length listed s:=by
 intro l
 induction l with
 |nil=>
  intro k listed s _ bE dC hk h
  refine⟨?_,h⟩
  apply List.eq_nil_iff_forall_not_mem.2
  intro j hj
  obtain⟨h1,o,ho,_⟩:=mem_ready.1 hj
  have al:j<l0.length:=by have:=(Array.getElem?_eq_some_iff.1 ho).1;simpa using this
  rw[dC j al] at h1
  simp at h1
  simp at hk
  omega
 |cons o l ih=>
  intro k listed s hl bE dC hk h
  have aq:l0[k]?=some o:=by have:=hl 0;simpa using this.symm
  have y9:l0.toArray[k]?=some o:=by simpa using aq
  have vZ:k<l0.length:=(List.getElem?_eq_some_iff.1 aq).1
  have cM:=hd
  simp only[sK,List.all_eq_true,List.mem_range] at cM
  have lJ:=cM k vZ
  rw[aq] at lJ
  simp only[Bool.and_eq_true,List.all_eq_true,List.mem_range] at lJ
  obtain⟨Ly,CH⟩:=lJ
  have CI:listed.getD k true=false:=by rw[dC k vZ];simp
  have iC:∀j,j<l0.length→listed.getD j false=decide (j<k):=by
   intro j hj
   have:=dC j hj
   simp only[Array.getD_eq_getD_getElem?,Array.getElem?_eq_getElem (show j<listed.size by omega),Option.getD_some] at this ⊢
   exact this
  have vY:k∈Region.ready .any l0.toArray listed:=by
   refine mem_ready.2 ⟨CI,o,y9,fun e he hb=>?_⟩
   have:=Ly e (by simpa using he)
   rw[hb] at this
   simp at this
   rw[iC e.on (by omega)];simp;exact this
  have cr:mj l0.toArray listed:=by
   intro q oq hq HF e he hb
   have zF:q<l0.length:=by have:=(Array.getElem?_eq_some_iff.1 HF).1;simpa using this
   rw[iC q zF] at hq
   have HG:q<k:=by simpa using hq
   have h2:=cM q zF
   have CJ:l0[q]?=some oq:=by simpa using HF
   rw[CJ] at h2
   simp only[Bool.and_eq_true,List.all_eq_true] at h2
   have h3:=h2.1 e (by simpa using he)
   rw[hb] at h3
   simp at h3
   rw[iC e.on (by omega)];simp;omega
  have kY:∀(j:Nat),(List.getD (kb l0 []) j 0).testBit k=true→Reach l0.toArray k j:=by
   intro j hj
   cases hm:(kb l0 [])[j]? with
   |none=>simp[List.getD,hm] at hj
   |some m=>
    simp only[List.getD,hm,Option.getD_some] at hj
    exact kc (ops:=l0.toArray) l0 [] (fun j=>by simp) (fun j m i hj=>by simp at hj) j m k hm hj
  have kf:∀(j:Nat) oj,l0.toArray[j]?=some oj→j≠k→listed.getD j true=false→Reach l0.toArray k j∨(bL o.op=false∧o.apart l0.toArray oj=true∧(bL oj.op=false∨fB C M k j o.op=true)):=by
   intro j oj gp ie iU
   have rq:j<l0.length:=by have:=(Array.getElem?_eq_some_iff.1 gp).1;simpa using this
   rw[dC j rq] at iU
   have CK:l0[j]?=some oj:=by simpa using gp
   have h2:=CH j rq
   rw[CK] at h2
   simp only[Bool.or_eq_true,decide_eq_true_eq,Bool.and_eq_true,Bool.not_eq_true'] at h2
   rcases h2 with(h2|h2)|h2
   ·simp at iU;omega
   ·exact .inl (kY j h2)
   ·exact .inr ⟨h2.1.1,h2.1.2,h2.2⟩
  have bC:∀s',lN Γ l0.toArray C M Q (k+1) l s'→kl Γ l0.toArray C Q l.length (listed.setIfInBounds k true) s':=by
   intro s' h'
   refine ih (k+1) _ s' (fun j=>by have:=hl (j+1);simp only[List.getElem?_cons_succ] at this;rw[this];congr 1;omega) (by simpa using bE) (fun j hj=>?_) (by simp at hk;omega) h'
   by_cases ie:j=k
   ·subst ie
    have:j<listed.size:=by omega
    simp[this]
   ·rw[getD_set_ne true (Ne.symm ie),dC j hj]
    simp;omega
  simp only[lN] at h
  split at h
  ·rename_i he
   obtain⟨h1,h2,r,hp',h3,h4,h5⟩:=h
   refine kl.fA cr (fun j oj gp ie iU=>?_) vY ?_
   ·rcases kf j oj gp ie iU with h5|h5
    ·exact h5
    ·rw[he] at h5;cases h5.1
   ·unfold oB
    rw[y9]
    simp only[he,if_true]
    exact⟨h1,h2,r,hp',h3,h4,bC _ h5⟩
  ·rename_i he
   obtain⟨x,h1,h2⟩:=h
   exact kl.first (R:=nx M k o.op) (fun _ _ _=>nx.trans) (fun _=>nx.refl) y9 (by simpa using he) l.length listed s cr
    (fun j oj gp ie iU=>(kf j oj gp ie iU).imp id fun h=>⟨h.2.1,h.2.2.imp id fun hm hp hp' hc=>gu hm hc⟩) vY h1 (bC _ h2)
end Go.Proofs.YtdcikhleahfknaaGreatDoor
