/- Texts of ours laid together for a claim: VcG. -/
import Derived.Test.YtjhanogfpkbamaaGreatDoorQ15
namespace Go.Proofs.YtjhanogfpkbamaaGreatDoor
open Go
set_option linter.unusedSimpArgs false
set_option linter.unusedVariables false
variable {G:Type} {Γ:Env G} {s s':AS G} {a:Act} {w w':World} {η:List Value} {hp:List AObj} {P:Program} {ops:Array Oper} {H:Oper→Bool}
def effH (H:Oper→Bool) (o:Oper):Bool:=isEff o.op||H o
theorem effH_false {o:Oper} (h:effH H o=false):isEff o.op=false∧H o=false:=by
 unfold effH at h;exact Bool.or_eq_false_iff.1 h
def GCall (Γ:Env G) (ops:Array Oper) (o:Oper) (s:AS G) (A:Prop) (K:AS G→Prop):Prop:=
 (guardVal ops s o=some true∧A)∨(guardVal ops s o=some false∧dstOk Γ.nt o.dst∧K (s.put o.dst (.prim (.tuple #[]))))
theorem GCall.mono {o:Oper} {A B:Prop} {K L:AS G→Prop} (h:GCall Γ ops o s A K) (ha:A→B) (hk:∀s,K s→L s):GCall Γ ops o s B L:=
 h.imp (fun h=>⟨h.1,ha h.2⟩) fun h=>⟨h.1,h.2.1,hk _ h.2.2⟩
def AOpAtH (Γ:Env G) (ops:Array Oper) (H:Oper→Bool) (i:Nat) (K:AS G→Prop) (s:AS G):Prop:=
 match ops[i]? with
 |none=>K s
 |some o=>if isEff o.op=true then dstOk Γ.nt o.dst∧o.guard=none∧∃r hp',ERun Γ o s r hp'∧K (AS.put { s with hp:=hp' } o.dst r)
  else if H o=true then GCall Γ ops o s (ACall Γ o s K) K
  else ∃x,Yields Γ ops o s x∧K (s.put o.dst x)
theorem AOpAtH.sound (hok:Γ.Ok) {i:Nat} {K:AS G→Prop} {Kc:Act→World→Prop} {Qc:Exit→Act→World→Prop} (h:AOpAtH Γ ops H i K s) (hr:Rel Γ s a w η) (hk:∀s' a' w' η',K s'→Rel Γ s' a' w' η'→Kc a' w'):
  wpOpIn Γ.fence 0 Γ.P ops Qc i Kc a w:=by
 unfold AOpAtH at h
 unfold wpOpIn
 split at h
 ·rename_i ho;rw[ho];exact hk _ _ _ _ h hr
 ·rename_i o ho
  rw[ho]
  simp only
  split at h
  ·obtain⟨h1,h2,r,hp',h3,h4⟩:=h
   rw[if_pos (by simp[Region.wanted,h2])]
   exact(ACall.eff h3 h1 h4) a w η Kc Qc hk hr
  ·split at h
   ·rcases h with⟨h2,h3⟩|⟨h2,h1,h3⟩
    ·rw[if_pos (guardVal_wanted hr h2)]
     exact h3 a w η Kc Qc hk hr
    ·rw[if_neg (by rw[guardVal_wanted hr h2];simp)]
     exact⟨fun _ _=>trivial,hk _ _ _ _ h3 (hr.put (dstOk_spec h1) (.prim _))⟩
   ·obtain⟨x,⟨h1,h2⟩,h3⟩:=h
    rcases h2 with⟨h2,h4⟩|⟨h2,rfl⟩
    ·rw[if_pos (guardVal_wanted hr h2)]
     exact h4 a w η Kc Qc (hr.only _) fun v w' hs hrep=>hk _ _ _ _ h3 ((hr.same hok hs).put (dstOk_spec h1) hrep)
    ·rw[if_neg (by rw[guardVal_wanted hr h2];simp)]
     exact⟨fun _ _=>trivial,hk _ _ _ _ h3 (hr.put (dstOk_spec h1) (.prim _))⟩
def AAnyH (Γ:Env G) (ops:Array Oper) (H:Oper→Bool) (Q:AS G→Prop):Nat→Array Bool→AS G→Prop
 |0,listed,s=>Region.ready .any ops listed=[]∧Q s
 |fuel+1,listed,s=>(Region.ready .any ops listed=[]→Q s)∧∀i∈Region.ready .any ops listed,AOpAtH Γ ops H i (AAnyH Γ ops H Q fuel (listed.setIfInBounds i true)) s
theorem AAnyH.sound (hok:Γ.Ok) {Q:AS G→Prop} {Qc:Exit→Act→World→Prop} (hq:∀s' a' w' η',Q s'→Rel Γ s' a' w' η'→Qc .normal a' w'):∀(fuel:Nat) (listed:Array Bool) (s:AS G) (a:Act) (w:World) (η:List Value),AAnyH Γ ops H Q fuel listed s→Rel Γ s a w η→
  wpAnyIn Γ.fence 0 Γ.P .any ops Qc fuel listed a w:=by
 intro fuel
 induction fuel with
 |zero=>intro listed s a w η h hr;exact⟨h.1,hq _ _ _ _ h.2 hr⟩
 |succ fuel ih=>intro listed s a w η h hr;exact⟨fun he=>hq _ _ _ _ (h.1 he) hr,fun i hi=>(h.2 i hi).sound hok hr fun s' a' w' η' h1 h2=>ih _ s' a' w' η' h1 h2⟩
theorem AAnyH.first {Q:AS G→Prop} {i:Nat} {oi:Oper} {x:AV} (hi:ops[i]?=some oi) (hne:effH H oi=false):∀(fuel:Nat) (listed:Array Bool) (s:AS G),Shut ops listed→
  (∀(j:Nat) oj,ops[j]?=some oj→j≠i→listed.getD j true=false→Reach ops i j∨(effH H oj=false∧oi.apart ops oj=true))→
  i∈Region.ready .any ops listed→Yields Γ ops oi s x→AAnyH Γ ops H Q fuel (listed.setIfInBounds i true) (s.put oi.dst x)→AAnyH Γ ops H Q (fuel+1) listed s:=by
 have own:∀{K:AS G→Prop} {s:AS G},Yields Γ ops oi s x→K (s.put oi.dst x)→AOpAtH Γ ops H i K s:=by
  intro K s hy hK
  unfold AOpAtH
  rw[hi]
  simp only[(effH_false hne).1,(effH_false hne).2,Bool.false_eq_true,if_false]
  exact⟨x,hy,hK⟩
 intro fuel
 induction fuel with
 |zero=>
  intro listed s _ _ hr hy H
  refine⟨fun h=>(by rw[h] at hr;cases hr),fun j hj=>?_⟩
  by_cases hji:j=i
  ·subst hji;exact own hy H
  ·have:=ready_mono hj hji
   rw[H.1] at this
   cases this
 |succ fuel ih=>
  intro listed s hshut hfree hr hy H
  refine⟨fun h=>(by rw[h] at hr;cases hr),fun j hj=>?_⟩
  by_cases hji:j=i
  ·subst hji;exact own hy H
  ·have h1:=H.2 j (ready_mono hj hji)
   obtain⟨hjun,oj,hoj,hall⟩:=mem_ready.1 hj
   rcases hfree j oj hoj hji hjun with h2|⟨hej,hap⟩
   ·exact(not_reach hshut hr hj h2).elim
   obtain⟨p1,p2,p3⟩:=Oper.apart_spec hap
   unfold AOpAtH at h1 ⊢
   rw[hoj] at h1 ⊢
   simp only[(effH_false hej).1,(effH_false hej).2,Bool.false_eq_true,if_false] at h1 ⊢
   obtain⟨y,hyj,hK⟩:=h1
   refine⟨y,hyj.of_put p1,ih (listed.setIfInBounds j true) (s.put oj.dst y) (shut_ready hshut hj) (fun k ok hk hki hun=>?_) (ready_mono hr (Ne.symm hji)) (hy.put p3) ?_⟩
   ·refine hfree k ok hk hki ?_
    by_cases hjk:j=k
    ·subst hjk;exact hjun
    ·rw[getD_set_ne true hjk] at hun;exact hun
   ·rw[Array.setIfInBounds_comm _ _ hji,←put_comm p2]
    exact hK
theorem AAnyH.firstEff {Q:AS G→Prop} {i:Nat} {fuel:Nat} {listed:Array Bool} (hshut:Shut ops listed) (hfree:∀(j:Nat) oj,ops[j]?=some oj→j≠i→listed.getD j true=false→Reach ops i j)
  (hr:i∈Region.ready .any ops listed) (H0:AOpAtH Γ ops H i (AAnyH Γ ops H Q fuel (listed.setIfInBounds i true)) s):AAnyH Γ ops H Q (fuel+1) listed s:=by
 refine⟨fun h=>(by rw[h] at hr;cases hr),fun j hj=>?_⟩
 by_cases hji:j=i
 ·subst hji;exact H0
 ·obtain⟨hjun,oj,hoj,_⟩:=mem_ready.1 hj
  exact(not_reach hshut hr hj (hfree j oj hoj hji hjun)).elim
def drawOkH (H:Oper→Bool) (l:List Oper):Bool:=
 let m:=ancL l []
 (List.range l.length).all fun k=>match l[k]? with
  |none=>false
  |some ok=>ok.after.toList.all (fun e=>!Region.binds .any e||decide (e.on<k)) &&
    (List.range l.length).all fun j=>decide (j≤k)||(m.getD j 0).testBit k||match l[j]? with
     |none=>true
     |some oj=>!effH H ok&&!effH H oj&&ok.apart l.toArray oj
def ALexH (Γ:Env G) (ops:Array Oper) (H:Oper→Bool) (K:AS G→Prop):List Oper→AS G→Prop
 | [],s=>K s
 |o::rest,s=>if isEff o.op=true then dstOk Γ.nt o.dst∧o.guard=none∧∃r hp',ERun Γ o s r hp'∧ALexH Γ ops H K rest (AS.put { s with hp:=hp' } o.dst r)
  else if H o=true then GCall Γ ops o s (ACall Γ o s (ALexH Γ ops H K rest)) (ALexH Γ ops H K rest)
  else ∃x,Yields Γ ops o s x∧ALexH Γ ops H K rest (s.put o.dst x)
theorem ALexH.any {Q:AS G→Prop} {l0:List Oper} (hd:drawOkH H l0=true):∀(l:List Oper) (k:Nat) (listed:Array Bool) (s:AS G),(∀(j:Nat),l[j]?=l0[k+j]?)→listed.size=l0.length→(∀(j:Nat),j<l0.length→listed.getD j true=decide (j<k))→k+l.length=l0.length→
  ALexH Γ l0.toArray H Q l s→AAnyH Γ l0.toArray H Q l.length listed s:=by
 intro l
 induction l with
 |nil=>
  intro k listed s _ hsz hlist hk h
  refine⟨?_,h⟩
  apply List.eq_nil_iff_forall_not_mem.2
  intro j hj
  obtain⟨h1,o,ho,_⟩:=mem_ready.1 hj
  have hlt:j<l0.length:=by have:=(Array.getElem?_eq_some_iff.1 ho).1;simpa using this
  rw[hlist j hlt] at h1
  simp at h1
  simp at hk
  omega
 |cons o l ih=>
  intro k listed s hl hsz hlist hk h
  have hok:l0[k]?=some o:=by have:=hl 0;simpa using this.symm
  have hka:l0.toArray[k]?=some o:=by simpa using hok
  have hkl:k<l0.length:=(List.getElem?_eq_some_iff.1 hok).1
  have hd':=hd
  simp only[drawOkH,List.all_eq_true,List.mem_range] at hd'
  have hdk:=hd' k hkl
  rw[hok] at hdk
  simp only[Bool.and_eq_true,List.all_eq_true,List.mem_range] at hdk
  obtain⟨hd1,hd2⟩:=hdk
  have hunl:listed.getD k true=false:=by rw[hlist k hkl];simp
  have hgetF:∀j,j<l0.length→listed.getD j false=decide (j<k):=by
   intro j hj
   have:=hlist j hj
   simp only[Array.getD_eq_getD_getElem?,Array.getElem?_eq_getElem (show j<listed.size by omega),Option.getD_some] at this ⊢
   exact this
  have hrd:k∈Region.ready .any l0.toArray listed:=by
   refine mem_ready.2 ⟨hunl,o,hka,fun e he hb=>?_⟩
   have:=hd1 e (by simpa using he)
   rw[hb] at this
   simp at this
   rw[hgetF e.on (by omega)];simp;exact this
  have hshut:Shut l0.toArray listed:=by
   intro q oq hq hoq e he hb
   have hql:q<l0.length:=by have:=(Array.getElem?_eq_some_iff.1 hoq).1;simpa using this
   rw[hgetF q hql] at hq
   have hq':q<k:=by simpa using hq
   have h2:=hd' q hql
   have hoq':l0[q]?=some oq:=by simpa using hoq
   rw[hoq'] at h2
   simp only[Bool.and_eq_true,List.all_eq_true] at h2
   have h3:=h2.1 e (by simpa using he)
   rw[hb] at h3
   simp at h3
   rw[hgetF e.on (by omega)];simp;omega
  have hreach:∀(j:Nat),(List.getD (ancL l0 []) j 0).testBit k=true→Reach l0.toArray k j:=by
   intro j hj
   cases hm:(ancL l0 [])[j]? with
   |none=>simp[List.getD,hm] at hj
   |some m=>
    simp only[List.getD,hm,Option.getD_some] at hj
    exact ancL_spec (ops:=l0.toArray) l0 [] (fun j=>by simp) (fun j m i hj=>by simp at hj) j m k hm hj
  have hpair:∀(j:Nat) oj,l0.toArray[j]?=some oj→j≠k→listed.getD j true=false→Reach l0.toArray k j∨(effH H o=false∧effH H oj=false∧o.apart l0.toArray oj=true):=by
   intro j oj hoj hjk hun
   have hjl:j<l0.length:=by have:=(Array.getElem?_eq_some_iff.1 hoj).1;simpa using this
   rw[hlist j hjl] at hun
   have hoj':l0[j]?=some oj:=by simpa using hoj
   have h2:=hd2 j hjl
   rw[hoj'] at h2
   simp only[Bool.or_eq_true,decide_eq_true_eq,Bool.and_eq_true,Bool.not_eq_true'] at h2
   rcases h2 with(h2|h2)|h2
   ·simp at hun;omega
   ·exact .inl (hreach j h2)
   ·exact .inr ⟨h2.1.1,h2.1.2,h2.2⟩
  have hnext:∀s',ALexH Γ l0.toArray H Q l s'→AAnyH Γ l0.toArray H Q l.length (listed.setIfInBounds k true) s':=by
   intro s' h'
   refine ih (k+1) _ s' (fun j=>by have:=hl (j+1);simp only[List.getElem?_cons_succ] at this;rw[this];congr 1;omega) (by simpa using hsz) (fun j hj=>?_) (by simp at hk;omega) h'
   by_cases hjk:j=k
   ·subst hjk
    have:j<listed.size:=by omega
    simp[this]
   ·rw[getD_set_ne true (Ne.symm hjk),hlist j hj]
    simp;omega
  simp only[ALexH] at h
  split at h
  ·rename_i he
   obtain⟨h1,h2,r,hp',h3,h4⟩:=h
   have he':effH H o=true:=by simp[effH,he]
   refine AAnyH.firstEff hshut (fun j oj hoj hjk hun=>?_) hrd ?_
   ·rcases hpair j oj hoj hjk hun with h5|h5
    ·exact h5
    ·rw[he'] at h5;cases h5.1
   ·unfold AOpAtH
    rw[hka]
    simp only[he,if_true]
    exact⟨h1,h2,r,hp',h3,hnext _ h4⟩
  ·rename_i he
   split at h
   ·rename_i hH
    have he':effH H o=true:=by simp[effH,hH]
    refine AAnyH.firstEff hshut (fun j oj hoj hjk hun=>?_) hrd ?_
    ·rcases hpair j oj hoj hjk hun with h5|h5
     ·exact h5
     ·rw[he'] at h5;cases h5.1
    ·unfold AOpAtH
     rw[hka]
     simp only[he,hH,Bool.false_eq_true,if_true,if_false]
     exact h.mono (fun h2 a w η Kc Qc hk hr=>h2 a w η Kc Qc (fun s' a' w' η' hs hr'=>hk s' a' w' η' (hnext _ hs) hr') hr) hnext
   ·rename_i hH
    obtain⟨x,h1,h2⟩:=h
    exact AAnyH.first hka (by simp[effH,he,hH]) l.length listed s hshut (fun j oj hoj hjk hun=>(hpair j oj hoj hjk hun).imp id fun h=>⟨h.2.1,h.2.2⟩) hrd h1 (hnext _ h2)
theorem AWp.drawH (hok:Γ.Ok) (hm:Γ.P.follows .mixedOrders=true) {id:Nat} {l:List Oper} {Q:Exit→AS G→Prop} (hd:drawOkH H l=true) (h:ALexH Γ l.toArray H (Q .normal) l s):AWp Γ (.region id l.toArray true) Q s:=by
 intro a w η hr
 refine wpIn_region_any hm ?_
 have:=ALexH.any (Γ:=Γ) hd l 0 (Array.replicate l.length false) s (fun j=>by simp) (by simp) (fun j hj=>by simp[hj]) (by simp) h
 have h2:=AAnyH.sound (Qc:=fun e a' w'=>∃s' η',Q e s'∧Rel Γ s' a' w' η') hok (fun s' a' w' η' h1 h2=>⟨s',η',h1,h2⟩) _ _ _ a w.drew η this (hr.same hok (Same.drew w))
 simpa using h2
end Go.Proofs.YtjhanogfpkbamaaGreatDoor
