/- Texts of ours laid together for a claim: VcH. -/
import Derived.Test.YtdcikhleahfknaaGreatDoorQ16
namespace Go.Proofs.YtdcikhleahfknaaGreatDoor
open Go
set_option linter.unusedSimpArgs false
set_option linter.unusedVariables false
variable {G:Type} {Γ:Env G} {s s':AS G} {a:Act} {w w':World} {η:List Value} {hp hp':List af} {P:Program} {ops:Array Oper} {H:Oper→Bool}
def JB (Γ:Env G) (ops:Array Oper) (o:Oper) (l:List Nat) (s:AS G) (K:AS G→Prop):Prop:=
 ∃N:AV→List af→Prop,(∀s':AS G,(∀t,t∈o.looksAt ops→s'.tmps t=s.tmps t)→s'.hp=s.hp→∀K':AS G→Prop,(∀r hp',N r hp'→K' (AS.put { s' with hp:=hp' } o.dst r))→bn Γ o s' K')∧
  ∀r hp',N r hp'→kP l s.hp hp'∧K (AS.put { s with hp:=hp' } o.dst r)
def Ed (Γ:Env G) (ops:Array Oper) (X:List (Option (List Nat))) (i:Nat) (o:Oper) (s:AS G) (K:AS G→Prop):Prop:=
 match X.getD i none with
 |none=>bn Γ o s K
 |some l=>JB Γ ops o l s K
theorem Ed.call {X:List (Option (List Nat))} {i:Nat} {o:Oper} {K:AS G→Prop} (h:Ed Γ ops X i o s K):bn Γ o s K:=by
 unfold Ed at h
 split at h
 ·exact h
 ·obtain⟨N,h1,h2⟩:=h
  exact h1 s (fun _ _=>rfl) rfl K fun r hp' hn=>(h2 r hp' hn).2
def iy (Γ:Env G) (ops:Array Oper) (H:Oper→Bool) (C X:List (Option (List Nat))) (i:Nat) (K:AS G→Prop) (s:AS G):Prop:=
 match ops[i]? with
 |none=>K s
 |some o=>if bP o.op=true then cx Γ.nt o.dst∧o.guard=none∧∃r hp',oK Γ ops o s r hp'∧jf C i s.hp hp'∧K (AS.put { s with hp:=hp' } o.dst r)
  else if H o=true then r4 Γ ops o s (Ed Γ ops X i o s K) K
  else ∃x,iK Γ ops o s x (fun hp hp'=>hp'=hp)∧K (s.put o.dst x)
def fb (Γ:Env G) (ops:Array Oper) (H:Oper→Bool) (C X:List (Option (List Nat))) (Q:AS G→Prop):Nat→Array Bool→AS G→Prop
 |0,listed,s=>Region.ready .any ops listed=[]∧Q s
 |fuel+1,listed,s=>(Region.ready .any ops listed=[]→Q s)∧∀i∈Region.ready .any ops listed,iy Γ ops H C X i (fb Γ ops H C X Q fuel (listed.setIfInBounds i true)) s
theorem fb.any (ao:Γ.Ok) {C X:List (Option (List Nat))} {Q:AS G→Prop}:∀(fuel:Nat) (listed:Array Bool) (s:AS G),fb Γ ops H C X Q fuel listed s→gq Γ ops H Q fuel listed s:=by
 intro fuel
 induction fuel with
 |zero=>intro listed s h;exact h
 |succ fuel ih=>
  intro listed s h
  refine⟨h.1,fun i hi=>?_⟩
  have h1:=h.2 i hi
  unfold iy at h1
  unfold jg
  split at h1
  ·rename_i ho;rw[ho];exact ih _ _ h1
  ·rename_i o ho
   rw[ho]
   simp only
   split at h1
   ·rename_i he
    rw[if_pos he]
    obtain⟨g1,g2,r,hp',g3,_,g4⟩:=h1
    exact⟨g1,g2,r,hp',g3.run ao,ih _ _ g4⟩
   ·rename_i he
    rw[if_neg he]
    split at h1
    ·rename_i hH
     rw[if_pos hH]
     exact h1.mono (fun h2 a w η Kc Qc hk hr=>h2.call a w η Kc Qc (fun s' a' w' aH hs ec=>hk s' a' w' aH (ih _ _ hs) ec) hr) (ih _)
    rename_i hH
    rw[if_neg hH]
    obtain⟨x,g1,g2⟩:=h1
    exact⟨x,iK.Ju (R:=fun hp hp'=>hp'=hp) ao rfl g1,ih _ _ g2⟩
theorem fb.first {C X:List (Option (List Nat))} {Q:AS G→Prop} {i:Nat} {oi:Oper} {x:AV} {R:List af→List af→Prop} (Ts:∀ff nR hp3,R ff nR→R nR hp3→R ff hp3) (T0:∀hp,R hp hp) (hi:ops[i]?=some oi) (bh:jB H oi=false):
  ∀(fuel:Nat) (listed:Array Bool) (s:AS G),mR ops listed→
  (∀(j:Nat) oj,ops[j]?=some oj→j≠i→listed.getD j true=false→Reach ops i j∨(oi.apart ops oj=true∧((H oj=false∧(bP oj.op=false∨∀hp hp',jf C j hp hp'→R hp hp'))∨(H oj=true∧bP oj.op=false∧∃l,X.getD j none=some l∧∀hp hp',kP l hp hp'→R hp hp'))))→
  i∈Region.ready .any ops listed→iK Γ ops oi s x R→fb Γ ops H C X Q fuel (listed.setIfInBounds i true) (s.put oi.dst x)→fb Γ ops H C X Q (fuel+1) listed s:=by
 have own:∀{K:AS G→Prop} {s:AS G},iK Γ ops oi s x R→K (s.put oi.dst x)→iy Γ ops H C X i K s:=by
  intro K s hy hK
  unfold iy
  rw[hi]
  simp only[(gD bh).1,(gD bh).2,Bool.false_eq_true,if_false]
  exact⟨x,⟨hy.1,hy.2.imp (fun g=>⟨g.1,fun s' h1 h2=>g.2 s' h1 (by rw[h2];exact T0 _)⟩) id⟩,hK⟩
 intro fuel
 induction fuel with
 |zero=>
  intro listed s _ _ hr hy H1
  refine⟨fun h=>(by rw[h] at hr;cases hr),fun j hj=>?_⟩
  by_cases fK:j=i
  ·subst fK;exact own hy H1
  ·have:=ready_mono hj fK
   rw[H1.1] at this
   cases this
 |succ fuel ih=>
  intro listed s cq cg hr hy H1
  refine⟨fun h=>(by rw[h] at hr;cases hr),fun j hj=>?_⟩
  by_cases fK:j=i
  ·subst fK;exact own hy H1
  ·have h1:=H1.2 j (ready_mono hj fK)
   obtain⟨lE,oj,gL,mS⟩:=mem_ready.1 hj
   rcases cg j oj gL fK lE with h2|⟨RL,Jc⟩
   ·exact(fD cq hr hj h2).elim
   obtain⟨p1,p2,p3⟩:=Oper.apart_spec RL
   have p1':∀t,t∈oj.looksAt ops→(s.put oi.dst x).tmps t=s.tmps t:=by
    intro t ht
    cases hd:oi.dst with
    |none=>rfl
    |some d=>
     show xQ _ _ _ _=_
     rw[fc,if_neg]
     intro e;subst e;exact p1 _ hd ht
   have bD:∀k ok,ops[k]?=some ok→k≠i→(listed.setIfInBounds j true).getD k true=false→Reach ops i k∨(oi.apart ops ok=true∧((H ok=false∧(bP ok.op=false∨∀hp hp',jf C k hp hp'→R hp hp'))∨(H ok=true∧bP ok.op=false∧∃l,X.getD k none=some l∧∀hp hp',kP l hp hp'→R hp hp'))):=by
    intro k ok hk DB jA
    refine cg k ok hk DB ?_
    by_cases iP:j=k
    ·subst iP;exact lE
    ·rw[getD_set_ne true iP] at jA;exact jA
   have QN:∀(hp':List af) (r:AV),(AS.put { s with hp:=hp' } oj.dst r).put oi.dst x=AS.put { s.put oi.dst x with hp:=hp' } oj.dst r:=by
    intro hp' r
    rw[←put_comm p2]
    congr 1
    cases oi.dst<;>rfl
   have yg:(s.put oi.dst x).hp=s.hp:=by cases oi.dst<;>rfl
   rcases Jc with⟨hnH,kI⟩|⟨hyH,hnE,l,hl,hR⟩
   ·unfold iy at h1 ⊢
    rw[gL] at h1 ⊢
    simp only at h1 ⊢
    split at h1
    ·rename_i FG
     rw[if_pos FG]
     obtain⟨g1,g2,r,hp',g3,g4,g5⟩:=h1
     rw[yg] at g4
     have hR:=(kI.resolve_left (by rw[FG];simp)) _ _ g4
     refine⟨g1,g2,r,hp',g3.mU p1,g4,ih (listed.setIfInBounds j true) _ (bT cq hj) bD (ready_mono hr (Ne.symm fK)) ((hy.heap Ts hR).put p3) ?_⟩
     rw[Array.setIfInBounds_comm _ _ fK]
     rw[QN]
     exact g5
    ·rename_i FG
     rw[if_neg FG,if_neg (by rw[hnH];simp)]
     rw[if_neg (by rw[hnH];simp)] at h1
     obtain⟨y,RM,hK⟩:=h1
     refine⟨y,RM.mU p1,ih (listed.setIfInBounds j true) (s.put oj.dst y) (bT cq hj) bD (ready_mono hr (Ne.symm fK)) (hy.put p3) ?_⟩
     rw[Array.setIfInBounds_comm _ _ fK,←put_comm p2]
     exact hK
   ·unfold iy at h1 ⊢
    rw[gL] at h1 ⊢
    simp only[hnE,hyH,Bool.false_eq_true,if_true,if_false] at h1 ⊢
    unfold r4 at h1 ⊢
    rw[fR p1] at h1
    refine h1.imp (fun h1=>⟨h1.1,?_⟩) fun h1=>⟨h1.1,h1.2.1,?_⟩
    rotate_left
    ·refine ih (listed.setIfInBounds j true) _ (bT cq hj) bD (ready_mono hr (Ne.symm fK)) (hy.put p3) ?_
     rw[Array.setIfInBounds_comm _ _ fK,←put_comm p2]
     exact h1.2.2
    have h2:=h1.2
    unfold Ed at h2 ⊢
    rw[hl] at h2 ⊢
    obtain⟨N,h3,h4⟩:=h2
    refine⟨N,fun s' h5 h6=>h3 s' (fun t ht=>(h5 t ht).trans (p1' t ht).symm) (h6.trans yg.symm),fun r hp' hn=>?_⟩
    obtain⟨g4,g5⟩:=h4 r hp' hn
    rw[yg] at g4
    refine⟨g4,ih (listed.setIfInBounds j true) _ (bT cq hj) bD (ready_mono hr (Ne.symm fK)) ((hy.heap Ts (hR _ _ g4)).put p3) ?_⟩
    rw[Array.setIfInBounds_comm _ _ fK]
    rw[QN]
    exact g5
theorem fb.fS {C X:List (Option (List Nat))} {Q:AS G→Prop} {i:Nat} {fuel:Nat} {listed:Array Bool} (cq:mR ops listed) (cg:∀(j:Nat) oj,ops[j]?=some oj→j≠i→listed.getD j true=false→Reach ops i j)
  (hr:i∈Region.ready .any ops listed) (H0:iy Γ ops H C X i (fb Γ ops H C X Q fuel (listed.setIfInBounds i true)) s):fb Γ ops H C X Q (fuel+1) listed s:=by
 refine⟨fun h=>(by rw[h] at hr;cases hr),fun j hj=>?_⟩
 by_cases fK:j=i
 ·subst fK;exact H0
 ·obtain⟨lE,oj,gL,_⟩:=mem_ready.1 hj
  exact(fD cq hr hj (cg j oj gL fK lE)).elim
def tE (H:Oper→Bool) (C M:List (Option (List Nat))) (l:List Oper):Bool:=
 let m:=kK l []
 (List.range l.length).all fun k=>match l[k]? with
  |none=>false
  |some ok=>ok.after.toList.all (fun e=>!Region.binds .any e||decide (e.on<k)) &&
    (List.range l.length).all fun j=>decide (j≤k)||(m.getD j 0).testBit k||match l[j]? with
     |none=>true
     |some oj=>!jB H ok&&(!H oj&&ok.apart l.toArray oj&&(!bP oj.op||fT C M k j ok.op))
def iE (Γ:Env G) (ops:Array Oper) (H:Oper→Bool) (C M:List (Option (List Nat))) (K:AS G→Prop):Nat→List Oper→AS G→Prop
 |_,[],s=>K s
 |k,o::rest,s=>if bP o.op=true then cx Γ.nt o.dst∧o.guard=none∧∃r hp',oK Γ ops o s r hp'∧jf C k s.hp hp'∧iE Γ ops H C M K (k+1) rest (AS.put { s with hp:=hp' } o.dst r)
  else if H o=true then r4 Γ ops o s (bn Γ o s (iE Γ ops H C M K (k+1) rest)) (iE Γ ops H C M K (k+1) rest)
  else ∃x,iK Γ ops o s x (nW M k o.op)∧iE Γ ops H C M K (k+1) rest (s.put o.dst x)
theorem iE.any {C M:List (Option (List Nat))} {Q:AS G→Prop} {l0:List Oper} (hd:tE H C M l0=true):∀(l:List Oper) (k:Nat) (listed:Array Bool) (s:AS G),(∀(j:Nat),l[j]?=l0[k+j]?)→listed.size=l0.length→(∀(j:Nat),j<l0.length→listed.getD j true=decide (j<k))→k+l.length=l0.length→
  iE Γ l0.toArray H C M Q k l s→fb Γ l0.toArray H C [] Q l.length listed s:=by
 intro l
 induction l with
 |nil=>
  intro k listed s _ bC dO hk h
  refine⟨?_,h⟩
  apply List.eq_nil_iff_forall_not_mem.2
  intro j hj
  obtain⟨h1,o,ho,_⟩:=mem_ready.1 hj
  have ak:j<l0.length:=by have:=(Array.getElem?_eq_some_iff.1 ho).1;simpa using this
  rw[dO j ak] at h1
  simp at h1
  simp at hk
  omega
 |cons o l ih=>
  intro k listed s hl bC dO hk h
  have ao:l0[k]?=some o:=by have:=hl 0;simpa using this.symm
  have Am:l0.toArray[k]?=some o:=by simpa using ao
  have yf:k<l0.length:=(List.getElem?_eq_some_iff.1 ao).1
  have cO:=hd
  simp only[tE,List.all_eq_true,List.mem_range] at cO
  have mo:=cO k yf
  rw[ao] at mo
  simp only[Bool.and_eq_true,List.all_eq_true,List.mem_range] at mo
  obtain⟨M6,AR⟩:=mo
  have D3:listed.getD k true=false:=by rw[dO k yf];simp
  have jd:∀j,j<l0.length→listed.getD j false=decide (j<k):=by
   intro j hj
   have:=dO j hj
   simp only[Array.getD_eq_getD_getElem?,Array.getElem?_eq_getElem (show j<listed.size by omega),Option.getD_some] at this ⊢
   exact this
  have wW:k∈Region.ready .any l0.toArray listed:=by
   refine mem_ready.2 ⟨D3,o,Am,fun e he hb=>?_⟩
   have:=M6 e (by simpa using he)
   rw[hb] at this
   simp at this
   rw[jd e.on (by omega)];simp;exact this
  have cq:mR l0.toArray listed:=by
   intro q oq hq Ji e he hb
   have AU:q<l0.length:=by have:=(Array.getElem?_eq_some_iff.1 Ji).1;simpa using this
   rw[jd q AU] at hq
   have Hb:q<k:=by simpa using hq
   have h2:=cO q AU
   have D4:l0[q]?=some oq:=by simpa using Ji
   rw[D4] at h2
   simp only[Bool.and_eq_true,List.all_eq_true] at h2
   have h3:=h2.1 e (by simpa using he)
   rw[hb] at h3
   simp at h3
   rw[jd e.on (by omega)];simp;omega
  have lF:∀(j:Nat),(List.getD (kK l0 []) j 0).testBit k=true→Reach l0.toArray k j:=by
   intro j hj
   cases hm:(kK l0 [])[j]? with
   |none=>simp[List.getD,hm] at hj
   |some m=>
    simp only[List.getD,hm,Option.getD_some] at hj
    exact kL (ops:=l0.toArray) l0 [] (fun j=>by simp) (fun j m i hj=>by simp at hj) j m k hm hj
  have kM:∀(j:Nat) oj,l0.toArray[j]?=some oj→j≠k→listed.getD j true=false→Reach l0.toArray k j∨(jB H o=false∧H oj=false∧o.apart l0.toArray oj=true∧(bP oj.op=false∨fT C M k j o.op=true)):=by
   intro j oj gL iP jA
   have rX:j<l0.length:=by have:=(Array.getElem?_eq_some_iff.1 gL).1;simpa using this
   rw[dO j rX] at jA
   have D5:l0[j]?=some oj:=by simpa using gL
   have h2:=AR j rX
   rw[D5] at h2
   simp only[Bool.or_eq_true,decide_eq_true_eq,Bool.and_eq_true,Bool.not_eq_true'] at h2
   rcases h2 with(h2|h2)|h2
   ·simp at jA;omega
   ·exact .inl (lF j h2)
   ·exact .inr ⟨h2.1,h2.2.1.1,h2.2.1.2,h2.2.2⟩
  have bD:∀s',iE Γ l0.toArray H C M Q (k+1) l s'→fb Γ l0.toArray H C [] Q l.length (listed.setIfInBounds k true) s':=by
   intro s' h'
   refine ih (k+1) _ s' (fun j=>by have:=hl (j+1);simp only[List.getElem?_cons_succ] at this;rw[this];congr 1;omega) (by simpa using bC) (fun j hj=>?_) (by simp at hk;omega) h'
   by_cases iP:j=k
   ·subst iP
    have:j<listed.size:=by omega
    simp[this]
   ·rw[getD_set_ne true (Ne.symm iP),dO j hj]
    simp;omega
  simp only[iE] at h
  split at h
  ·rename_i he
   obtain⟨h1,h2,r,hp',h3,h4,h5⟩:=h
   have NA:jB H o=true:=by simp[jB,he]
   refine fb.fS cq (fun j oj gL iP jA=>?_) wW ?_
   ·rcases kM j oj gL iP jA with h5|h5
    ·exact h5
    ·rw[NA] at h5;cases h5.1
   ·unfold iy
    rw[Am]
    simp only[he,if_true]
    exact⟨h1,h2,r,hp',h3,h4,bD _ h5⟩
  ·rename_i he
   split at h
   ·rename_i hH
    have NA:jB H o=true:=by simp[jB,hH]
    refine fb.fS cq (fun j oj gL iP jA=>?_) wW ?_
    ·rcases kM j oj gL iP jA with h5|h5
     ·exact h5
     ·rw[NA] at h5;cases h5.1
    ·unfold iy
     rw[Am]
     simp only[he,hH,Bool.false_eq_true,if_true,if_false]
     refine h.mono (fun h2=>?_) bD
     show bn Γ o s _
     exact fun a w η Kc Qc hk hr=>h2 a w η Kc Qc (fun s' a' w' aH hs ec=>hk s' a' w' aH (bD _ hs) ec) hr
   ·rename_i hH
    obtain⟨x,h1,h2⟩:=h
    exact fb.first (R:=nW M k o.op) (fun _ _ _=>nW.trans) (fun _=>nW.refl) Am (by simp[jB,he,hH]) l.length listed s cq
     (fun j oj gL iP jA=>(kM j oj gL iP jA).imp id fun h=>⟨h.2.2.1,.inl ⟨h.2.1,h.2.2.2.imp id fun hm hp hp' hc=>gN hm hc⟩⟩) wW h1 (bD _ h2)
theorem dG.Ue (ao:Γ.Ok) (hm:Γ.P.follows .mixedOrders=true) {id:Nat} {l:List Oper} {Q:Exit→AS G→Prop} (C M:List (Option (List Nat))) (hd:tE H C M l=true)
  (h:iE Γ l.toArray H C M (Q .normal) 0 l s):dG Γ (.region id l.toArray true) Q s:=by
 intro a w η hr
 refine wpIn_region_any hm ?_
 have:=(iE.any (Γ:=Γ) (C:=C) (M:=M) hd l 0 (Array.replicate l.length false) s (fun j=>by simp) (by simp) (fun j hj=>by simp[hj]) (by simp) h).any ao
 have h2:=gq.sound (Qc:=fun e a' w'=>∃s' aH,Q e s'∧Rel Γ s' a' w' aH) ao (fun s' a' w' aH h1 h2=>⟨s',aH,h1,h2⟩) _ _ _ a w.drew η this (hr.same ao (bu.drew w))
 simpa using h2
end Go.Proofs.YtdcikhleahfknaaGreatDoor
