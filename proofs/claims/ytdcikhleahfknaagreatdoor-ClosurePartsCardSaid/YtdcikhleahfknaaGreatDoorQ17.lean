/- Texts of ours laid together for a claim: VcH. -/
import Derived.Test.YtdcikhleahfknaaGreatDoorQ16
namespace Go.Proofs.YtdcikhleahfknaaGreatDoor
open Go
set_option linter.unusedSimpArgs false
set_option linter.unusedVariables false
variable {G:Type} {Γ:Env G} {s s':AS G} {a:Act} {w w':World} {η:List Value} {hp hp':List af} {P:Program} {ops:Array Oper} {H:Oper→Bool}
def HZ (Γ:Env G) (ops:Array Oper) (o:Oper) (l:List Nat) (s:AS G) (K:AS G→Prop):Prop:=
 ∃N:AV→List af→Prop,(∀s':AS G,(∀t,t∈o.looksAt ops→s'.tmps t=s.tmps t)→s'.hp=s.hp→∀K':AS G→Prop,(∀r hp',N r hp'→K' (AS.put { s' with hp:=hp' } o.dst r))→bn Γ o s' K')∧
  ∀r hp',N r hp'→kj l s.hp hp'∧K (AS.put { s with hp:=hp' } o.dst r)
def CT (Γ:Env G) (ops:Array Oper) (X:List (Option (List Nat))) (i:Nat) (o:Oper) (s:AS G) (K:AS G→Prop):Prop:=
 match X.getD i none with
 |none=>bn Γ o s K
 |some l=>HZ Γ ops o l s K
theorem CT.call {X:List (Option (List Nat))} {i:Nat} {o:Oper} {K:AS G→Prop} (h:CT Γ ops X i o s K):bn Γ o s K:=by
 unfold CT at h
 split at h
 ·exact h
 ·obtain⟨N,h1,h2⟩:=h
  exact h1 s (fun _ _=>rfl) rfl K fun r hp' hn=>(h2 r hp' hn).2
def gP (Γ:Env G) (ops:Array Oper) (H:Oper→Bool) (C X:List (Option (List Nat))) (i:Nat) (K:AS G→Prop) (s:AS G):Prop:=
 match ops[i]? with
 |none=>K s
 |some o=>if bL o.op=true then cw Γ.nt o.dst∧o.guard=none∧∃r hp',oa Γ ops o s r hp'∧iE C i s.hp hp'∧K (AS.put { s with hp:=hp' } o.dst r)
  else if H o=true then rz Γ ops o s (CT Γ ops X i o s K) K
  else ∃x,hG Γ ops o s x (fun hp hp'=>hp'=hp)∧K (s.put o.dst x)
def eD (Γ:Env G) (ops:Array Oper) (H:Oper→Bool) (C X:List (Option (List Nat))) (Q:AS G→Prop):Nat→Array Bool→AS G→Prop
 |0,listed,s=>Region.ready .any ops listed=[]∧Q s
 |fuel+1,listed,s=>(Region.ready .any ops listed=[]→Q s)∧∀i∈Region.ready .any ops listed,gP Γ ops H C X i (eD Γ ops H C X Q fuel (listed.setIfInBounds i true)) s
theorem eD.any (aq:Γ.Ok) {C X:List (Option (List Nat))} {Q:AS G→Prop}:∀(fuel:Nat) (listed:Array Bool) (s:AS G),eD Γ ops H C X Q fuel listed s→fT Γ ops H Q fuel listed s:=by
 intro fuel
 induction fuel with
 |zero=>intro listed s h;exact h
 |succ fuel ih=>
  intro listed s h
  refine⟨h.1,fun i hi=>?_⟩
  have h1:=h.2 i hi
  unfold gP at h1
  unfold iF
  split at h1
  ·rename_i ho;rw[ho];exact ih _ _ h1
  ·rename_i o ho
   rw[ho]
   simp only
   split at h1
   ·rename_i he
    rw[if_pos he]
    obtain⟨g1,g2,r,hp',g3,_,g4⟩:=h1
    exact⟨g1,g2,r,hp',g3.run aq,ih _ _ g4⟩
   ·rename_i he
    rw[if_neg he]
    split at h1
    ·rename_i hH
     rw[if_pos hH]
     exact h1.mono (fun h2 a w η Kc Qc hk hr=>h2.call a w η Kc Qc (fun s' a' w' aM hs dM=>hk s' a' w' aM (ih _ _ hs) dM) hr) (ih _)
    rename_i hH
    rw[if_neg hH]
    obtain⟨x,g1,g2⟩:=h1
    exact⟨x,hG.HS (R:=fun hp hp'=>hp'=hp) aq rfl g1,ih _ _ g2⟩
theorem eD.first {C X:List (Option (List Nat))} {Q:AS G→Prop} {i:Nat} {oi:Oper} {x:AV} {R:List af→List af→Prop} (RI:∀eG nr hp3,R eG nr→R nr hp3→R eG hp3) (Si:∀hp,R hp hp) (hi:ops[i]?=some oi) (bj:iV H oi=false):
  ∀(fuel:Nat) (listed:Array Bool) (s:AS G),mj ops listed→
  (∀(j:Nat) oj,ops[j]?=some oj→j≠i→listed.getD j true=false→Reach ops i j∨(oi.apart ops oj=true∧((H oj=false∧(bL oj.op=false∨∀hp hp',iE C j hp hp'→R hp hp'))∨(H oj=true∧bL oj.op=false∧∃l,X.getD j none=some l∧∀hp hp',kj l hp hp'→R hp hp'))))→
  i∈Region.ready .any ops listed→hG Γ ops oi s x R→eD Γ ops H C X Q fuel (listed.setIfInBounds i true) (s.put oi.dst x)→eD Γ ops H C X Q (fuel+1) listed s:=by
 have own:∀{K:AS G→Prop} {s:AS G},hG Γ ops oi s x R→K (s.put oi.dst x)→gP Γ ops H C X i K s:=by
  intro K s hy hK
  unfold gP
  rw[hi]
  simp only[(ga bj).1,(ga bj).2,Bool.false_eq_true,if_false]
  exact⟨x,⟨hy.1,hy.2.imp (fun g=>⟨g.1,fun s' h1 h2=>g.2 s' h1 (by rw[h2];exact Si _)⟩) id⟩,hK⟩
 intro fuel
 induction fuel with
 |zero=>
  intro listed s _ _ hr hy H1
  refine⟨fun h=>(by rw[h] at hr;cases hr),fun j hj=>?_⟩
  by_cases fl:j=i
  ·subst fl;exact own hy H1
  ·have:=ready_mono hj fl
   rw[H1.1] at this
   cases this
 |succ fuel ih=>
  intro listed s cr cf hr hy H1
  refine⟨fun h=>(by rw[h] at hr;cases hr),fun j hj=>?_⟩
  by_cases fl:j=i
  ·subst fl;exact own hy H1
  ·have h1:=H1.2 j (ready_mono hj fl)
   obtain⟨kX,oj,gp,qH⟩:=mem_ready.1 hj
   rcases cf j oj gp fl kX with h2|⟨P4,Hz⟩
   ·exact(fc cr hr hj h2).elim
   obtain⟨p1,p2,p3⟩:=Oper.apart_spec P4
   have p1':∀t,t∈oj.looksAt ops→(s.put oi.dst x).tmps t=s.tmps t:=by
    intro t ht
    cases hd:oi.dst with
    |none=>rfl
    |some d=>
     show xa _ _ _ _=_
     rw[eF,if_neg]
     intro e;subst e;exact p1 _ hd ht
   have bC:∀k ok,ops[k]?=some ok→k≠i→(listed.setIfInBounds j true).getD k true=false→Reach ops i k∨(oi.apart ops ok=true∧((H ok=false∧(bL ok.op=false∨∀hp hp',iE C k hp hp'→R hp hp'))∨(H ok=true∧bL ok.op=false∧∃l,X.getD k none=some l∧∀hp hp',kj l hp hp'→R hp hp'))):=by
    intro k ok hk Ci iU
    refine cf k ok hk Ci ?_
    by_cases ie:j=k
    ·subst ie;exact kX
    ·rw[getD_set_ne true ie] at iU;exact iU
   have Pb:∀(hp':List af) (r:AV),(AS.put { s with hp:=hp' } oj.dst r).put oi.dst x=AS.put { s.put oi.dst x with hp:=hp' } oj.dst r:=by
    intro hp' r
    rw[←put_comm p2]
    congr 1
    cases oi.dst<;>rfl
   have xw:(s.put oi.dst x).hp=s.hp:=by cases oi.dst<;>rfl
   rcases Hz with⟨Zd,j7⟩|⟨hyH,hnE,l,hl,hR⟩
   ·unfold gP at h1 ⊢
    rw[gp] at h1 ⊢
    simp only at h1 ⊢
    split at h1
    ·rename_i Es
     rw[if_pos Es]
     obtain⟨g1,g2,r,hp',g3,g4,g5⟩:=h1
     rw[xw] at g4
     have hR:=(j7.resolve_left (by rw[Es];simp)) _ _ g4
     refine⟨g1,g2,r,hp',g3.ml p1,g4,ih (listed.setIfInBounds j true) _ (bR cr hj) bC (ready_mono hr (Ne.symm fl)) ((hy.heap RI hR).put p3) ?_⟩
     rw[Array.setIfInBounds_comm _ _ fl]
     rw[Pb]
     exact g5
    ·rename_i Es
     rw[if_neg Es,if_neg (by rw[Zd];simp)]
     rw[if_neg (by rw[Zd];simp)] at h1
     obtain⟨y,P5,hK⟩:=h1
     refine⟨y,P5.ml p1,ih (listed.setIfInBounds j true) (s.put oj.dst y) (bR cr hj) bC (ready_mono hr (Ne.symm fl)) (hy.put p3) ?_⟩
     rw[Array.setIfInBounds_comm _ _ fl,←put_comm p2]
     exact hK
   ·unfold gP at h1 ⊢
    rw[gp] at h1 ⊢
    simp only[hnE,hyH,Bool.false_eq_true,if_true,if_false] at h1 ⊢
    unfold rz at h1 ⊢
    rw[fz p1] at h1
    refine h1.imp (fun h1=>⟨h1.1,?_⟩) fun h1=>⟨h1.1,h1.2.1,?_⟩
    rotate_left
    ·refine ih (listed.setIfInBounds j true) _ (bR cr hj) bC (ready_mono hr (Ne.symm fl)) (hy.put p3) ?_
     rw[Array.setIfInBounds_comm _ _ fl,←put_comm p2]
     exact h1.2.2
    have h2:=h1.2
    unfold CT at h2 ⊢
    rw[hl] at h2 ⊢
    obtain⟨N,h3,h4⟩:=h2
    refine⟨N,fun s' h5 h6=>h3 s' (fun t ht=>(h5 t ht).trans (p1' t ht).symm) (h6.trans xw.symm),fun r hp' hn=>?_⟩
    obtain⟨g4,g5⟩:=h4 r hp' hn
    rw[xw] at g4
    refine⟨g4,ih (listed.setIfInBounds j true) _ (bR cr hj) bC (ready_mono hr (Ne.symm fl)) ((hy.heap RI (hR _ _ g4)).put p3) ?_⟩
    rw[Array.setIfInBounds_comm _ _ fl]
    rw[Pb]
    exact g5
theorem eD.fA {C X:List (Option (List Nat))} {Q:AS G→Prop} {i:Nat} {fuel:Nat} {listed:Array Bool} (cr:mj ops listed) (cf:∀(j:Nat) oj,ops[j]?=some oj→j≠i→listed.getD j true=false→Reach ops i j)
  (hr:i∈Region.ready .any ops listed) (H0:gP Γ ops H C X i (eD Γ ops H C X Q fuel (listed.setIfInBounds i true)) s):eD Γ ops H C X Q (fuel+1) listed s:=by
 refine⟨fun h=>(by rw[h] at hr;cases hr),fun j hj=>?_⟩
 by_cases fl:j=i
 ·subst fl;exact H0
 ·obtain⟨kX,oj,gp,_⟩:=mem_ready.1 hj
  exact(fc cr hr hj (cf j oj gp fl kX)).elim
def sM (H:Oper→Bool) (C M:List (Option (List Nat))) (l:List Oper):Bool:=
 let m:=kb l []
 (List.range l.length).all fun k=>match l[k]? with
  |none=>false
  |some ok=>ok.after.toList.all (fun e=>!Region.binds .any e||decide (e.on<k)) &&
    (List.range l.length).all fun j=>decide (j≤k)||(m.getD j 0).testBit k||match l[j]? with
     |none=>true
     |some oj=>!iV H ok&&(!H oj&&ok.apart l.toArray oj&&(!bL oj.op||fB C M k j ok.op))
def gV (Γ:Env G) (ops:Array Oper) (H:Oper→Bool) (C M:List (Option (List Nat))) (K:AS G→Prop):Nat→List Oper→AS G→Prop
 |_,[],s=>K s
 |k,o::rest,s=>if bL o.op=true then cw Γ.nt o.dst∧o.guard=none∧∃r hp',oa Γ ops o s r hp'∧iE C k s.hp hp'∧gV Γ ops H C M K (k+1) rest (AS.put { s with hp:=hp' } o.dst r)
  else if H o=true then rz Γ ops o s (bn Γ o s (gV Γ ops H C M K (k+1) rest)) (gV Γ ops H C M K (k+1) rest)
  else ∃x,hG Γ ops o s x (nx M k o.op)∧gV Γ ops H C M K (k+1) rest (s.put o.dst x)
theorem gV.any {C M:List (Option (List Nat))} {Q:AS G→Prop} {l0:List Oper} (hd:sM H C M l0=true):∀(l:List Oper) (k:Nat) (listed:Array Bool) (s:AS G),(∀(j:Nat),l[j]?=l0[k+j]?)→listed.size=l0.length→(∀(j:Nat),j<l0.length→listed.getD j true=decide (j<k))→k+l.length=l0.length→
  gV Γ l0.toArray H C M Q k l s→eD Γ l0.toArray H C [] Q l.length listed s:=by
 intro l
 induction l with
 |nil=>
  intro k listed s _ bE dC hk h
  refine⟨?_,h⟩
  apply List.eq_nil_iff_forall_not_mem.2
  intro j hj
  obtain⟨h1,o,ho,_⟩:=mem_ready.1 hj
  have al:j<l0.length:=by have:=(Array.getElem?_eq_some_iff.1 ho).1;simpa using this
  rw[dC j al] at h1
  simp at h1
  simp at hk
  omega
 |cons o l ih=>
  intro k listed s hl bE dC hk h
  have aq:l0[k]?=some o:=by have:=hl 0;simpa using this.symm
  have y9:l0.toArray[k]?=some o:=by simpa using aq
  have vZ:k<l0.length:=(List.getElem?_eq_some_iff.1 aq).1
  have cM:=hd
  simp only[sM,List.all_eq_true,List.mem_range] at cM
  have lJ:=cM k vZ
  rw[aq] at lJ
  simp only[Bool.and_eq_true,List.all_eq_true,List.mem_range] at lJ
  obtain⟨Ly,CH⟩:=lJ
  have CI:listed.getD k true=false:=by rw[dC k vZ];simp
  have iC:∀j,j<l0.length→listed.getD j false=decide (j<k):=by
   intro j hj
   have:=dC j hj
   simp only[Array.getD_eq_getD_getElem?,Array.getElem?_eq_getElem (show j<listed.size by omega),Option.getD_some] at this ⊢
   exact this
  have vY:k∈Region.ready .any l0.toArray listed:=by
   refine mem_ready.2 ⟨CI,o,y9,fun e he hb=>?_⟩
   have:=Ly e (by simpa using he)
   rw[hb] at this
   simp at this
   rw[iC e.on (by omega)];simp;exact this
  have cr:mj l0.toArray listed:=by
   intro q oq hq HF e he hb
   have zF:q<l0.length:=by have:=(Array.getElem?_eq_some_iff.1 HF).1;simpa using this
   rw[iC q zF] at hq
   have HG:q<k:=by simpa using hq
   have h2:=cM q zF
   have CJ:l0[q]?=some oq:=by simpa using HF
   rw[CJ] at h2
   simp only[Bool.and_eq_true,List.all_eq_true] at h2
   have h3:=h2.1 e (by simpa using he)
   rw[hb] at h3
   simp at h3
   rw[iC e.on (by omega)];simp;omega
  have kY:∀(j:Nat),(List.getD (kb l0 []) j 0).testBit k=true→Reach l0.toArray k j:=by
   intro j hj
   cases hm:(kb l0 [])[j]? with
   |none=>simp[List.getD,hm] at hj
   |some m=>
    simp only[List.getD,hm,Option.getD_some] at hj
    exact kc (ops:=l0.toArray) l0 [] (fun j=>by simp) (fun j m i hj=>by simp at hj) j m k hm hj
  have kf:∀(j:Nat) oj,l0.toArray[j]?=some oj→j≠k→listed.getD j true=false→Reach l0.toArray k j∨(iV H o=false∧H oj=false∧o.apart l0.toArray oj=true∧(bL oj.op=false∨fB C M k j o.op=true)):=by
   intro j oj gp ie iU
   have rq:j<l0.length:=by have:=(Array.getElem?_eq_some_iff.1 gp).1;simpa using this
   rw[dC j rq] at iU
   have CK:l0[j]?=some oj:=by simpa using gp
   have h2:=CH j rq
   rw[CK] at h2
   simp only[Bool.or_eq_true,decide_eq_true_eq,Bool.and_eq_true,Bool.not_eq_true'] at h2
   rcases h2 with(h2|h2)|h2
   ·simp at iU;omega
   ·exact .inl (kY j h2)
   ·exact .inr ⟨h2.1,h2.2.1.1,h2.2.1.2,h2.2.2⟩
  have bC:∀s',gV Γ l0.toArray H C M Q (k+1) l s'→eD Γ l0.toArray H C [] Q l.length (listed.setIfInBounds k true) s':=by
   intro s' h'
   refine ih (k+1) _ s' (fun j=>by have:=hl (j+1);simp only[List.getElem?_cons_succ] at this;rw[this];congr 1;omega) (by simpa using bE) (fun j hj=>?_) (by simp at hk;omega) h'
   by_cases ie:j=k
   ·subst ie
    have:j<listed.size:=by omega
    simp[this]
   ·rw[getD_set_ne true (Ne.symm ie),dC j hj]
    simp;omega
  simp only[gV] at h
  split at h
  ·rename_i he
   obtain⟨h1,h2,r,hp',h3,h4,h5⟩:=h
   have L3:iV H o=true:=by simp[iV,he]
   refine eD.fA cr (fun j oj gp ie iU=>?_) vY ?_
   ·rcases kf j oj gp ie iU with h5|h5
    ·exact h5
    ·rw[L3] at h5;cases h5.1
   ·unfold gP
    rw[y9]
    simp only[he,if_true]
    exact⟨h1,h2,r,hp',h3,h4,bC _ h5⟩
  ·rename_i he
   split at h
   ·rename_i hH
    have L3:iV H o=true:=by simp[iV,hH]
    refine eD.fA cr (fun j oj gp ie iU=>?_) vY ?_
    ·rcases kf j oj gp ie iU with h5|h5
     ·exact h5
     ·rw[L3] at h5;cases h5.1
    ·unfold gP
     rw[y9]
     simp only[he,hH,Bool.false_eq_true,if_true,if_false]
     refine h.mono (fun h2=>?_) bC
     show bn Γ o s _
     exact fun a w η Kc Qc hk hr=>h2 a w η Kc Qc (fun s' a' w' aM hs dM=>hk s' a' w' aM (bC _ hs) dM) hr
   ·rename_i hH
    obtain⟨x,h1,h2⟩:=h
    exact eD.first (R:=nx M k o.op) (fun _ _ _=>nx.trans) (fun _=>nx.refl) y9 (by simp[iV,he,hH]) l.length listed s cr
     (fun j oj gp ie iU=>(kf j oj gp ie iU).imp id fun h=>⟨h.2.2.1,.inl ⟨h.2.1,h.2.2.2.imp id fun hm hp hp' hc=>gu hm hc⟩⟩) vY h1 (bC _ h2)
theorem dq.Sv (aq:Γ.Ok) (hm:Γ.P.follows .mixedOrders=true) {id:Nat} {l:List Oper} {Q:Exit→AS G→Prop} (C M:List (Option (List Nat))) (hd:sM H C M l=true)
  (h:gV Γ l.toArray H C M (Q .normal) 0 l s):dq Γ (.region id l.toArray true) Q s:=by
 intro a w η hr
 refine wpIn_region_any hm ?_
 have:=(gV.any (Γ:=Γ) (C:=C) (M:=M) hd l 0 (Array.replicate l.length false) s (fun j=>by simp) (by simp) (fun j hj=>by simp[hj]) (by simp) h).any aq
 have h2:=fT.sound (Qc:=fun e a' w'=>∃s' aM,Q e s'∧Rel Γ s' a' w' aM) aq (fun s' a' w' aM h1 h2=>⟨s',aM,h1,h2⟩) _ _ _ a w.drew η this (hr.same aq (bt.drew w))
 simpa using h2
end Go.Proofs.YtdcikhleahfknaaGreatDoor
