/- Texts of ours laid together for a claim: VcH. -/
import Derived.Test.YtjhanogfpkbamaaGreatDoorQ16
namespace Go.Proofs.YtjhanogfpkbamaaGreatDoor
open Go
set_option linter.unusedSimpArgs false
set_option linter.unusedVariables false
variable {G:Type} {Γ:Env G} {s s':AS G} {a:Act} {w w':World} {η:List Value} {hp hp':List AObj} {P:Program} {ops:Array Oper} {H:Oper→Bool}
def HCallX (Γ:Env G) (ops:Array Oper) (o:Oper) (l:List Nat) (s:AS G) (K:AS G→Prop):Prop:=
 ∃N:AV→List AObj→Prop,(∀s':AS G,(∀t,t∈o.looksAt ops→s'.tmps t=s.tmps t)→s'.hp=s.hp→∀K':AS G→Prop,(∀r hp',N r hp'→K' (AS.put { s' with hp:=hp' } o.dst r))→ACall Γ o s' K')∧
  ∀r hp',N r hp'→HpFr l s.hp hp'∧K (AS.put { s with hp:=hp' } o.dst r)
def HAtW (Γ:Env G) (ops:Array Oper) (X:List (Option (List Nat))) (i:Nat) (o:Oper) (s:AS G) (K:AS G→Prop):Prop:=
 match X.getD i none with
 |none=>ACall Γ o s K
 |some l=>HCallX Γ ops o l s K
theorem HAtW.call {X:List (Option (List Nat))} {i:Nat} {o:Oper} {K:AS G→Prop} (h:HAtW Γ ops X i o s K):ACall Γ o s K:=by
 unfold HAtW at h
 split at h
 ·exact h
 ·obtain⟨N,h1,h2⟩:=h
  exact h1 s (fun _ _=>rfl) rfl K fun r hp' hn=>(h2 r hp' hn).2
def AOpAtW (Γ:Env G) (ops:Array Oper) (H:Oper→Bool) (C X:List (Option (List Nat))) (i:Nat) (K:AS G→Prop) (s:AS G):Prop:=
 match ops[i]? with
 |none=>K s
 |some o=>if isEff o.op=true then dstOk Γ.nt o.dst∧o.guard=none∧∃r hp',ERunX Γ ops o s r hp'∧ChgAt C i s.hp hp'∧K (AS.put { s with hp:=hp' } o.dst r)
  else if H o=true then GCall Γ ops o s (HAtW Γ ops X i o s K) K
  else ∃x,Stab Γ ops o s x (fun hp hp'=>hp'=hp)∧K (s.put o.dst x)
def AAnyW (Γ:Env G) (ops:Array Oper) (H:Oper→Bool) (C X:List (Option (List Nat))) (Q:AS G→Prop):Nat→Array Bool→AS G→Prop
 |0,listed,s=>Region.ready .any ops listed=[]∧Q s
 |fuel+1,listed,s=>(Region.ready .any ops listed=[]→Q s)∧∀i∈Region.ready .any ops listed,AOpAtW Γ ops H C X i (AAnyW Γ ops H C X Q fuel (listed.setIfInBounds i true)) s
theorem AAnyW.any (hok:Γ.Ok) {C X:List (Option (List Nat))} {Q:AS G→Prop}:∀(fuel:Nat) (listed:Array Bool) (s:AS G),AAnyW Γ ops H C X Q fuel listed s→AAnyH Γ ops H Q fuel listed s:=by
 intro fuel
 induction fuel with
 |zero=>intro listed s h;exact h
 |succ fuel ih=>
  intro listed s h
  refine⟨h.1,fun i hi=>?_⟩
  have h1:=h.2 i hi
  unfold AOpAtW at h1
  unfold AOpAtH
  split at h1
  ·rename_i ho;rw[ho];exact ih _ _ h1
  ·rename_i o ho
   rw[ho]
   simp only
   split at h1
   ·rename_i he
    rw[if_pos he]
    obtain⟨g1,g2,r,hp',g3,_,g4⟩:=h1
    exact⟨g1,g2,r,hp',g3.run hok,ih _ _ g4⟩
   ·rename_i he
    rw[if_neg he]
    split at h1
    ·rename_i hH
     rw[if_pos hH]
     exact h1.mono (fun h2 a w η Kc Qc hk hr=>h2.call a w η Kc Qc (fun s' a' w' η' hs hr'=>hk s' a' w' η' (ih _ _ hs) hr') hr) (ih _)
    rename_i hH
    rw[if_neg hH]
    obtain⟨x,g1,g2⟩:=h1
    exact⟨x,Stab.yields (R:=fun hp hp'=>hp'=hp) hok rfl g1,ih _ _ g2⟩
theorem AAnyW.first {C X:List (Option (List Nat))} {Q:AS G→Prop} {i:Nat} {oi:Oper} {x:AV} {R:List AObj→List AObj→Prop} (htr:∀hp1 hp2 hp3,R hp1 hp2→R hp2 hp3→R hp1 hp3) (hrf:∀hp,R hp hp) (hi:ops[i]?=some oi) (hne:effH H oi=false):
  ∀(fuel:Nat) (listed:Array Bool) (s:AS G),Shut ops listed→
  (∀(j:Nat) oj,ops[j]?=some oj→j≠i→listed.getD j true=false→Reach ops i j∨(oi.apart ops oj=true∧((H oj=false∧(isEff oj.op=false∨∀hp hp',ChgAt C j hp hp'→R hp hp'))∨(H oj=true∧isEff oj.op=false∧∃l,X.getD j none=some l∧∀hp hp',HpFr l hp hp'→R hp hp'))))→
  i∈Region.ready .any ops listed→Stab Γ ops oi s x R→AAnyW Γ ops H C X Q fuel (listed.setIfInBounds i true) (s.put oi.dst x)→AAnyW Γ ops H C X Q (fuel+1) listed s:=by
 have own:∀{K:AS G→Prop} {s:AS G},Stab Γ ops oi s x R→K (s.put oi.dst x)→AOpAtW Γ ops H C X i K s:=by
  intro K s hy hK
  unfold AOpAtW
  rw[hi]
  simp only[(effH_false hne).1,(effH_false hne).2,Bool.false_eq_true,if_false]
  exact⟨x,⟨hy.1,hy.2.imp (fun g=>⟨g.1,fun s' h1 h2=>g.2 s' h1 (by rw[h2];exact hrf _)⟩) id⟩,hK⟩
 intro fuel
 induction fuel with
 |zero=>
  intro listed s _ _ hr hy H1
  refine⟨fun h=>(by rw[h] at hr;cases hr),fun j hj=>?_⟩
  by_cases hji:j=i
  ·subst hji;exact own hy H1
  ·have:=ready_mono hj hji
   rw[H1.1] at this
   cases this
 |succ fuel ih=>
  intro listed s hshut hfree hr hy H1
  refine⟨fun h=>(by rw[h] at hr;cases hr),fun j hj=>?_⟩
  by_cases hji:j=i
  ·subst hji;exact own hy H1
  ·have h1:=H1.2 j (ready_mono hj hji)
   obtain⟨hjun,oj,hoj,hall⟩:=mem_ready.1 hj
   rcases hfree j oj hoj hji hjun with h2|⟨hap,hcase⟩
   ·exact(not_reach hshut hr hj h2).elim
   obtain⟨p1,p2,p3⟩:=Oper.apart_spec hap
   have p1':∀t,t∈oj.looksAt ops→(s.put oi.dst x).tmps t=s.tmps t:=by
    intro t ht
    cases hd:oi.dst with
    |none=>rfl
    |some d=>
     show upd _ _ _ _=_
     rw[upd_eq,if_neg]
     intro e;subst e;exact p1 _ hd ht
   have hnext:∀k ok,ops[k]?=some ok→k≠i→(listed.setIfInBounds j true).getD k true=false→Reach ops i k∨(oi.apart ops ok=true∧((H ok=false∧(isEff ok.op=false∨∀hp hp',ChgAt C k hp hp'→R hp hp'))∨(H ok=true∧isEff ok.op=false∧∃l,X.getD k none=some l∧∀hp hp',HpFr l hp hp'→R hp hp'))):=by
    intro k ok hk hki hun
    refine hfree k ok hk hki ?_
    by_cases hjk:j=k
    ·subst hjk;exact hjun
    ·rw[getD_set_ne true hjk] at hun;exact hun
   have ecomm:∀(hp':List AObj) (r:AV),(AS.put { s with hp:=hp' } oj.dst r).put oi.dst x=AS.put { s.put oi.dst x with hp:=hp' } oj.dst r:=by
    intro hp' r
    rw[←put_comm p2]
    congr 1
    cases oi.dst<;>rfl
   have hhp:(s.put oi.dst x).hp=s.hp:=by cases oi.dst<;>rfl
   rcases hcase with⟨hnH,hkind⟩|⟨hyH,hnE,l,hl,hR⟩
   ·unfold AOpAtW at h1 ⊢
    rw[hoj] at h1 ⊢
    simp only at h1 ⊢
    split at h1
    ·rename_i hej
     rw[if_pos hej]
     obtain⟨g1,g2,r,hp',g3,g4,g5⟩:=h1
     rw[hhp] at g4
     have hR:=(hkind.resolve_left (by rw[hej];simp)) _ _ g4
     refine⟨g1,g2,r,hp',g3.of_put p1,g4,ih (listed.setIfInBounds j true) _ (shut_ready hshut hj) hnext (ready_mono hr (Ne.symm hji)) ((hy.heap htr hR).put p3) ?_⟩
     rw[Array.setIfInBounds_comm _ _ hji]
     rw[ecomm]
     exact g5
    ·rename_i hej
     rw[if_neg hej,if_neg (by rw[hnH];simp)]
     rw[if_neg (by rw[hnH];simp)] at h1
     obtain⟨y,hyj,hK⟩:=h1
     refine⟨y,hyj.of_put p1,ih (listed.setIfInBounds j true) (s.put oj.dst y) (shut_ready hshut hj) hnext (ready_mono hr (Ne.symm hji)) (hy.put p3) ?_⟩
     rw[Array.setIfInBounds_comm _ _ hji,←put_comm p2]
     exact hK
   ·unfold AOpAtW at h1 ⊢
    rw[hoj] at h1 ⊢
    simp only[hnE,hyH,Bool.false_eq_true,if_true,if_false] at h1 ⊢
    unfold GCall at h1 ⊢
    rw[guardVal_put p1] at h1
    refine h1.imp (fun h1=>⟨h1.1,?_⟩) fun h1=>⟨h1.1,h1.2.1,?_⟩
    rotate_left
    ·refine ih (listed.setIfInBounds j true) _ (shut_ready hshut hj) hnext (ready_mono hr (Ne.symm hji)) (hy.put p3) ?_
     rw[Array.setIfInBounds_comm _ _ hji,←put_comm p2]
     exact h1.2.2
    have h2:=h1.2
    unfold HAtW at h2 ⊢
    rw[hl] at h2 ⊢
    obtain⟨N,h3,h4⟩:=h2
    refine⟨N,fun s' h5 h6=>h3 s' (fun t ht=>(h5 t ht).trans (p1' t ht).symm) (h6.trans hhp.symm),fun r hp' hn=>?_⟩
    obtain⟨g4,g5⟩:=h4 r hp' hn
    rw[hhp] at g4
    refine⟨g4,ih (listed.setIfInBounds j true) _ (shut_ready hshut hj) hnext (ready_mono hr (Ne.symm hji)) ((hy.heap htr (hR _ _ g4)).put p3) ?_⟩
    rw[Array.setIfInBounds_comm _ _ hji]
    rw[ecomm]
    exact g5
theorem AAnyW.firstEff {C X:List (Option (List Nat))} {Q:AS G→Prop} {i:Nat} {fuel:Nat} {listed:Array Bool} (hshut:Shut ops listed) (hfree:∀(j:Nat) oj,ops[j]?=some oj→j≠i→listed.getD j true=false→Reach ops i j)
  (hr:i∈Region.ready .any ops listed) (H0:AOpAtW Γ ops H C X i (AAnyW Γ ops H C X Q fuel (listed.setIfInBounds i true)) s):AAnyW Γ ops H C X Q (fuel+1) listed s:=by
 refine⟨fun h=>(by rw[h] at hr;cases hr),fun j hj=>?_⟩
 by_cases hji:j=i
 ·subst hji;exact H0
 ·obtain⟨hjun,oj,hoj,_⟩:=mem_ready.1 hj
  exact(not_reach hshut hr hj (hfree j oj hoj hji hjun)).elim
def drawOkW (H:Oper→Bool) (C M:List (Option (List Nat))) (l:List Oper):Bool:=
 let m:=ancL l []
 (List.range l.length).all fun k=>match l[k]? with
  |none=>false
  |some ok=>ok.after.toList.all (fun e=>!Region.binds .any e||decide (e.on<k)) &&
    (List.range l.length).all fun j=>decide (j≤k)||(m.getD j 0).testBit k||match l[j]? with
     |none=>true
     |some oj=>!effH H ok&&(!H oj&&ok.apart l.toArray oj&&(!isEff oj.op||mayAhead C M k j ok.op))
def ALexW (Γ:Env G) (ops:Array Oper) (H:Oper→Bool) (C M:List (Option (List Nat))) (K:AS G→Prop):Nat→List Oper→AS G→Prop
 |_,[],s=>K s
 |k,o::rest,s=>if isEff o.op=true then dstOk Γ.nt o.dst∧o.guard=none∧∃r hp',ERunX Γ ops o s r hp'∧ChgAt C k s.hp hp'∧ALexW Γ ops H C M K (k+1) rest (AS.put { s with hp:=hp' } o.dst r)
  else if H o=true then GCall Γ ops o s (ACall Γ o s (ALexW Γ ops H C M K (k+1) rest)) (ALexW Γ ops H C M K (k+1) rest)
  else ∃x,Stab Γ ops o s x (Rof M k o.op)∧ALexW Γ ops H C M K (k+1) rest (s.put o.dst x)
theorem ALexW.any {C M:List (Option (List Nat))} {Q:AS G→Prop} {l0:List Oper} (hd:drawOkW H C M l0=true):∀(l:List Oper) (k:Nat) (listed:Array Bool) (s:AS G),(∀(j:Nat),l[j]?=l0[k+j]?)→listed.size=l0.length→(∀(j:Nat),j<l0.length→listed.getD j true=decide (j<k))→k+l.length=l0.length→
  ALexW Γ l0.toArray H C M Q k l s→AAnyW Γ l0.toArray H C [] Q l.length listed s:=by
 intro l
 induction l with
 |nil=>
  intro k listed s _ hsz hlist hk h
  refine⟨?_,h⟩
  apply List.eq_nil_iff_forall_not_mem.2
  intro j hj
  obtain⟨h1,o,ho,_⟩:=mem_ready.1 hj
  have hlt:j<l0.length:=by have:=(Array.getElem?_eq_some_iff.1 ho).1;simpa using this
  rw[hlist j hlt] at h1
  simp at h1
  simp at hk
  omega
 |cons o l ih=>
  intro k listed s hl hsz hlist hk h
  have hok:l0[k]?=some o:=by have:=hl 0;simpa using this.symm
  have hka:l0.toArray[k]?=some o:=by simpa using hok
  have hkl:k<l0.length:=(List.getElem?_eq_some_iff.1 hok).1
  have hd':=hd
  simp only[drawOkW,List.all_eq_true,List.mem_range] at hd'
  have hdk:=hd' k hkl
  rw[hok] at hdk
  simp only[Bool.and_eq_true,List.all_eq_true,List.mem_range] at hdk
  obtain⟨hd1,hd2⟩:=hdk
  have hunl:listed.getD k true=false:=by rw[hlist k hkl];simp
  have hgetF:∀j,j<l0.length→listed.getD j false=decide (j<k):=by
   intro j hj
   have:=hlist j hj
   simp only[Array.getD_eq_getD_getElem?,Array.getElem?_eq_getElem (show j<listed.size by omega),Option.getD_some] at this ⊢
   exact this
  have hrd:k∈Region.ready .any l0.toArray listed:=by
   refine mem_ready.2 ⟨hunl,o,hka,fun e he hb=>?_⟩
   have:=hd1 e (by simpa using he)
   rw[hb] at this
   simp at this
   rw[hgetF e.on (by omega)];simp;exact this
  have hshut:Shut l0.toArray listed:=by
   intro q oq hq hoq e he hb
   have hql:q<l0.length:=by have:=(Array.getElem?_eq_some_iff.1 hoq).1;simpa using this
   rw[hgetF q hql] at hq
   have hq':q<k:=by simpa using hq
   have h2:=hd' q hql
   have hoq':l0[q]?=some oq:=by simpa using hoq
   rw[hoq'] at h2
   simp only[Bool.and_eq_true,List.all_eq_true] at h2
   have h3:=h2.1 e (by simpa using he)
   rw[hb] at h3
   simp at h3
   rw[hgetF e.on (by omega)];simp;omega
  have hreach:∀(j:Nat),(List.getD (ancL l0 []) j 0).testBit k=true→Reach l0.toArray k j:=by
   intro j hj
   cases hm:(ancL l0 [])[j]? with
   |none=>simp[List.getD,hm] at hj
   |some m=>
    simp only[List.getD,hm,Option.getD_some] at hj
    exact ancL_spec (ops:=l0.toArray) l0 [] (fun j=>by simp) (fun j m i hj=>by simp at hj) j m k hm hj
  have hpair:∀(j:Nat) oj,l0.toArray[j]?=some oj→j≠k→listed.getD j true=false→Reach l0.toArray k j∨(effH H o=false∧H oj=false∧o.apart l0.toArray oj=true∧(isEff oj.op=false∨mayAhead C M k j o.op=true)):=by
   intro j oj hoj hjk hun
   have hjl:j<l0.length:=by have:=(Array.getElem?_eq_some_iff.1 hoj).1;simpa using this
   rw[hlist j hjl] at hun
   have hoj':l0[j]?=some oj:=by simpa using hoj
   have h2:=hd2 j hjl
   rw[hoj'] at h2
   simp only[Bool.or_eq_true,decide_eq_true_eq,Bool.and_eq_true,Bool.not_eq_true'] at h2
   rcases h2 with(h2|h2)|h2
   ·simp at hun;omega
   ·exact .inl (hreach j h2)
   ·exact .inr ⟨h2.1,h2.2.1.1,h2.2.1.2,h2.2.2⟩
  have hnext:∀s',ALexW Γ l0.toArray H C M Q (k+1) l s'→AAnyW Γ l0.toArray H C [] Q l.length (listed.setIfInBounds k true) s':=by
   intro s' h'
   refine ih (k+1) _ s' (fun j=>by have:=hl (j+1);simp only[List.getElem?_cons_succ] at this;rw[this];congr 1;omega) (by simpa using hsz) (fun j hj=>?_) (by simp at hk;omega) h'
   by_cases hjk:j=k
   ·subst hjk
    have:j<listed.size:=by omega
    simp[this]
   ·rw[getD_set_ne true (Ne.symm hjk),hlist j hj]
    simp;omega
  simp only[ALexW] at h
  split at h
  ·rename_i he
   obtain⟨h1,h2,r,hp',h3,h4,h5⟩:=h
   have he':effH H o=true:=by simp[effH,he]
   refine AAnyW.firstEff hshut (fun j oj hoj hjk hun=>?_) hrd ?_
   ·rcases hpair j oj hoj hjk hun with h5|h5
    ·exact h5
    ·rw[he'] at h5;cases h5.1
   ·unfold AOpAtW
    rw[hka]
    simp only[he,if_true]
    exact⟨h1,h2,r,hp',h3,h4,hnext _ h5⟩
  ·rename_i he
   split at h
   ·rename_i hH
    have he':effH H o=true:=by simp[effH,hH]
    refine AAnyW.firstEff hshut (fun j oj hoj hjk hun=>?_) hrd ?_
    ·rcases hpair j oj hoj hjk hun with h5|h5
     ·exact h5
     ·rw[he'] at h5;cases h5.1
    ·unfold AOpAtW
     rw[hka]
     simp only[he,hH,Bool.false_eq_true,if_true,if_false]
     refine h.mono (fun h2=>?_) hnext
     show ACall Γ o s _
     exact fun a w η Kc Qc hk hr=>h2 a w η Kc Qc (fun s' a' w' η' hs hr'=>hk s' a' w' η' (hnext _ hs) hr') hr
   ·rename_i hH
    obtain⟨x,h1,h2⟩:=h
    exact AAnyW.first (R:=Rof M k o.op) (fun _ _ _=>Rof.trans) (fun _=>Rof.refl) hka (by simp[effH,he,hH]) l.length listed s hshut
     (fun j oj hoj hjk hun=>(hpair j oj hoj hjk hun).imp id fun h=>⟨h.2.2.1,.inl ⟨h.2.1,h.2.2.2.imp id fun hm hp hp' hc=>mayAhead_spec hm hc⟩⟩) hrd h1 (hnext _ h2)
theorem AWp.drawW (hok:Γ.Ok) (hm:Γ.P.follows .mixedOrders=true) {id:Nat} {l:List Oper} {Q:Exit→AS G→Prop} (C M:List (Option (List Nat))) (hd:drawOkW H C M l=true)
  (h:ALexW Γ l.toArray H C M (Q .normal) 0 l s):AWp Γ (.region id l.toArray true) Q s:=by
 intro a w η hr
 refine wpIn_region_any hm ?_
 have:=(ALexW.any (Γ:=Γ) (C:=C) (M:=M) hd l 0 (Array.replicate l.length false) s (fun j=>by simp) (by simp) (fun j hj=>by simp[hj]) (by simp) h).any hok
 have h2:=AAnyH.sound (Qc:=fun e a' w'=>∃s' η',Q e s'∧Rel Γ s' a' w' η') hok (fun s' a' w' η' h1 h2=>⟨s',η',h1,h2⟩) _ _ _ a w.drew η this (hr.same hok (Same.drew w))
 simpa using h2
end Go.Proofs.YtjhanogfpkbamaaGreatDoor
