/- Texts of ours laid together for a claim: FilP. -/
import Derived.Test.YtjhanogfpkbamaaGreatDoorQ03
namespace Go.Proofs.YtjhanogfpkbamaaGreatDoor
open Go
set_option linter.unusedSimpArgs false
set_option linter.unusedVariables false
variable {G:Type} {Γ:Env G} {s s':AS G} {a:Act} {w w':World} {η:List Value} {hp:List AObj} {P:Program} {ops:Array Oper}
def VStep (Γ:Env G) (o:Oper) (s:AS G) (r:AV):Prop:=
 ∀a w η (Kc:Act→World→Prop) (Qc:Exit→Act→World→Prop),Rel Γ s a w η→(∀v w',Same w w'→Rep w' (Fok Γ w' η s.hp) η s.hp r v→Kc (a.put o.dst v) w')→o.wpIn Γ.fence 0 Γ.P a w Kc Qc
def AS.only (s:AS G) (L:List Nat):AS G:={ s with tmps:=fun t=>if t∈L then s.tmps t else .top }
theorem Rel.only (h:Rel Γ s a w η) (L:List Nat):Rel Γ (s.only L) a w η:=by
 refine⟨h.nt,fun t=>?_,h.heap,h.mine,h.keeps,h.inv,h.marks,h.ext⟩
 show Rep w _ η s.hp (if t∈L then s.tmps t else .top) _
 split
 ·exact h.tmps t
 ·exact .top _
def isEff:Op→Bool
 | .alloc _ | .box .. | .store .. | .makeSlice .. | .makeMap .. | .mapUpdate .. | .insert .. | .range .. | .next ..=>true
 | .call { callee:=.builtin .append,.. } | .call { callee:=.builtin .copy,.. } | .call { callee:=.builtin .delete,.. }=>true
 |_=>false
def guardVal (ops:Array Oper) (s:AS G) (o:Oper):Option Bool:=
 match o.guard with
 |none=>some true
 |some (j,want)=>(gslot ops s j).map (·==some want)
def Yields (Γ:Env G) (ops:Array Oper) (o:Oper) (s:AS G) (x:AV):Prop:=
 dstOk Γ.nt o.dst∧((guardVal ops s o=some true∧VStep Γ o (s.only (o.looksAt ops)) x)∨(guardVal ops s o=some false∧x=.prim (.tuple #[])))
def AOpAt (Γ:Env G) (ops:Array Oper) (i:Nat) (K:AS G→Prop) (s:AS G):Prop:=
 match ops[i]? with
 |none=>K s
 |some o=>if isEff o.op=true then dstOk Γ.nt o.dst∧o.guard=none∧∃r hp',ERun Γ o s r hp'∧K (AS.put { s with hp:=hp' } o.dst r)
  else ∃x,Yields Γ ops o s x∧K (s.put o.dst x)
theorem guardVal_wanted (hr:Rel Γ s a w η) {o:Oper} {b:Bool} (h:guardVal ops s o=some b):Region.wanted o (yielded ops a.tmps)=b:=by
 unfold guardVal at h
 split at h
 ·rename_i hg
  obtain rfl:=Option.some.inj h
  simp[Region.wanted,hg]
 ·rename_i j want hg
  cases hs:gslot ops s j with
  |none=>rw[hs] at h;cases h
  |some c=>
   rw[hs] at h
   obtain rfl:=Option.some.inj h
   simp[Region.wanted,hg,gslot_yielded hr hs]
theorem AOpAt.sound (hok:Γ.Ok) {i:Nat} {K:AS G→Prop} {Kc:Act→World→Prop} {Qc:Exit→Act→World→Prop} (h:AOpAt Γ ops i K s) (hr:Rel Γ s a w η) (hk:∀s' a' w' η',K s'→Rel Γ s' a' w' η'→Kc a' w'):
  wpOpIn Γ.fence 0 Γ.P ops Qc i Kc a w:=by
 unfold AOpAt at h
 unfold wpOpIn
 split at h
 ·rename_i ho;rw[ho];exact hk _ _ _ _ h hr
 ·rename_i o ho
  rw[ho]
  simp only
  split at h
  ·obtain⟨h1,h2,r,hp',h3,h4⟩:=h
   rw[if_pos (by simp[Region.wanted,h2])]
   exact(ACall.eff h3 h1 h4) a w η Kc Qc hk hr
  ·obtain⟨x,⟨h1,h2⟩,h3⟩:=h
   rcases h2 with⟨h2,h4⟩|⟨h2,rfl⟩
   ·rw[if_pos (guardVal_wanted hr h2)]
    exact h4 a w η Kc Qc (hr.only _) fun v w' hs hrep=>hk _ _ _ _ h3 ((hr.same hok hs).put (dstOk_spec h1) hrep)
   ·rw[if_neg (by rw[guardVal_wanted hr h2];simp)]
    exact⟨fun _ _=>trivial,hk _ _ _ _ h3 (hr.put (dstOk_spec h1) (.prim _))⟩
def AAny (Γ:Env G) (ops:Array Oper) (Q:AS G→Prop):Nat→Array Bool→AS G→Prop
 |0,listed,s=>Region.ready .any ops listed=[]∧Q s
 |fuel+1,listed,s=>(Region.ready .any ops listed=[]→Q s)∧∀i∈Region.ready .any ops listed,AOpAt Γ ops i (AAny Γ ops Q fuel (listed.setIfInBounds i true)) s
theorem AAny.sound (hok:Γ.Ok) {Q:AS G→Prop} {Qc:Exit→Act→World→Prop} (hq:∀s' a' w' η',Q s'→Rel Γ s' a' w' η'→Qc .normal a' w'):∀(fuel:Nat) (listed:Array Bool) (s:AS G) (a:Act) (w:World) (η:List Value),AAny Γ ops Q fuel listed s→Rel Γ s a w η→
  wpAnyIn Γ.fence 0 Γ.P .any ops Qc fuel listed a w:=by
 intro fuel
 induction fuel with
 |zero=>intro listed s a w η h hr;exact⟨h.1,hq _ _ _ _ h.2 hr⟩
 |succ fuel ih=>intro listed s a w η h hr;exact⟨fun he=>hq _ _ _ _ (h.1 he) hr,fun i hi=>(h.2 i hi).sound hok hr fun s' a' w' η' h1 h2=>ih _ s' a' w' η' h1 h2⟩
inductive Reach (ops:Array Oper) (i:Nat):Nat→Prop
 |edge (j:Nat) (o:Oper) (e:Edge) (ho:ops[j]?=some o) (he:e∈o.after) (hb:Region.binds .any e=true) (hi:e.on=i):Reach ops i j
 |step (j:Nat) (o:Oper) (e:Edge) (ho:ops[j]?=some o) (he:e∈o.after) (hb:Region.binds .any e=true) (h:Reach ops i e.on):Reach ops i j
def Shut (ops:Array Oper) (listed:Array Bool):Prop:=∀(k:Nat) (o:Oper),listed.getD k false=true→ops[k]?=some o→∀e∈o.after,Region.binds .any e=true→listed.getD e.on false=true
theorem Reach.listed {listed:Array Bool} (hs:Shut ops listed) {i j:Nat} (h:Reach ops i j) (hj:∀o,ops[j]?=some o→∀e∈o.after,Region.binds .any e=true→listed.getD e.on false=true):listed.getD i false=true:=by
 induction h with
 |edge j o e ho he hb hi=>rw[←hi];exact hj o ho e he hb
 |step j o e ho he hb _ ih=>exact ih fun o' ho'=>hs e.on o' (hj o ho e he hb) ho'
theorem shut_ready {listed:Array Bool} (hs:Shut ops listed) {i:Nat} (hi:i∈Region.ready .any ops listed):Shut ops (listed.setIfInBounds i true):=by
 obtain⟨_,o,ho,hall⟩:=mem_ready.1 hi
 intro k o' hk ho' e he hb
 by_cases hki:k=i
 ·subst hki
  rw[ho] at ho'
  obtain rfl:=Option.some.inj ho'
  exact getD_set_true (hall e he hb)
 ·refine getD_set_true (hs k o' ?_ ho' e he hb)
  simpa [Array.getElem?_setIfInBounds_ne (Ne.symm hki)] using hk
theorem not_reach {listed:Array Bool} (hs:Shut ops listed) {i j:Nat} (hi:i∈Region.ready .any ops listed) (hj:j∈Region.ready .any ops listed):¬Reach ops i j:=by
 intro h
 obtain⟨_,oj,hoj,hallj⟩:=mem_ready.1 hj
 have h1:=h.listed hs fun o ho e he hb=>by rw[hoj] at ho;obtain rfl:=Option.some.inj ho;exact hallj e he hb
 have h0:=(mem_ready.1 hi).1
 rcases Nat.lt_or_ge i listed.size with h' | h'
 ·simp[h'] at h0 h1;rw[h0] at h1;cases h1
 ·simp[Array.getElem?_eq_none h'] at h1
theorem only_put {d:Option Nat} {x:AV} {L:List Nat} (h:∀t,d=some t→t∉L):(s.put d x).only L=s.only L:=by
 cases d with
 |none=>rfl
 |some d=>
  unfold AS.only AS.put
  simp only
  congr 1
  funext t
  by_cases ht:t∈L
  ·have hne:¬t=d:=by
    intro e;subst e;exact h t rfl ht
   rw[if_pos ht,if_pos ht,upd_eq,if_neg hne]
  ·rw[if_neg ht,if_neg ht]
theorem guardVal_put {d:Option Nat} {x:AV} {o:Oper} (h:∀t,d=some t→t∉o.looksAt ops):guardVal ops (s.put d x) o=guardVal ops s o:=by
 unfold guardVal
 split
 ·rfl
 ·rename_i j want hg
  have:gslot ops (s.put d x) j=gslot ops s j:=by
   unfold gslot
   split
   ·rename_i t ht
    cases d with
    |none=>rfl
    |some d=>
     have hne:t≠d:=by
      intro e
      refine h d rfl ?_
      simp[Oper.looksAt,hg,ht,e]
     have:(s.put (some d) x).tmps t=s.tmps t:=by show upd s.tmps d x t=_;rw[upd_eq,if_neg hne]
     rw[this]
   ·rfl
  rw[this]
theorem Yields.put {o:Oper} {x y:AV} {d:Option Nat} (h:∀t,d=some t→t∉o.looksAt ops) (hy:Yields Γ ops o s y):Yields Γ ops o (s.put d x) y:=by
 unfold Yields at *
 rw[guardVal_put h,only_put h];exact hy
theorem Yields.of_put {o:Oper} {x y:AV} {d:Option Nat} (h:∀t,d=some t→t∉o.looksAt ops) (hy:Yields Γ ops o (s.put d x) y):Yields Γ ops o s y:=by
 unfold Yields at *
 rw[guardVal_put h,only_put h] at hy;exact hy
theorem put_comm {d e:Option Nat} {x y:AV} (h:∀t,d=some t→e≠some t):(s.put d x).put e y=(s.put e y).put d x:=by
 cases d with
 |none=>rfl
 |some d=>
  cases e with
  |none=>rfl
  |some e=>
   have hne:e≠d:=fun he=>h d rfl (he▸rfl)
   unfold AS.put
   simp only
   congr 1
   funext t
   simp only[upd_eq]
   split<;>split<;>first|rfl|(rename_i h1 h2;exact(hne (h1▸h2)).elim)|omega
theorem AAny.first {Q:AS G→Prop} {i:Nat} {oi:Oper} {x:AV} (hi:ops[i]?=some oi) (hne:isEff oi.op=false):∀(fuel:Nat) (listed:Array Bool) (s:AS G),Shut ops listed→
  (∀(j:Nat) oj,ops[j]?=some oj→j≠i→listed.getD j true=false→Reach ops i j∨(isEff oj.op=false∧oi.apart ops oj=true))→
  i∈Region.ready .any ops listed→Yields Γ ops oi s x→AAny Γ ops Q fuel (listed.setIfInBounds i true) (s.put oi.dst x)→AAny Γ ops Q (fuel+1) listed s:=by
 have own:∀{K:AS G→Prop} {s:AS G},Yields Γ ops oi s x→K (s.put oi.dst x)→AOpAt Γ ops i K s:=by
  intro K s hy hK
  unfold AOpAt
  rw[hi]
  simp only[hne,Bool.false_eq_true,if_false]
  exact⟨x,hy,hK⟩
 intro fuel
 induction fuel with
 |zero=>
  intro listed s _ _ hr hy H
  refine⟨fun h=>(by rw[h] at hr;cases hr),fun j hj=>?_⟩
  by_cases hji:j=i
  ·subst hji;exact own hy H
  ·have:=ready_mono hj hji
   rw[H.1] at this
   cases this
 |succ fuel ih=>
  intro listed s hshut hfree hr hy H
  refine⟨fun h=>(by rw[h] at hr;cases hr),fun j hj=>?_⟩
  by_cases hji:j=i
  ·subst hji;exact own hy H
  ·have h1:=H.2 j (ready_mono hj hji)
   obtain⟨hjun,oj,hoj,hall⟩:=mem_ready.1 hj
   rcases hfree j oj hoj hji hjun with h2|⟨hej,hap⟩
   ·exact(not_reach hshut hr hj h2).elim
   obtain⟨p1,p2,p3⟩:=Oper.apart_spec hap
   unfold AOpAt at h1 ⊢
   rw[hoj] at h1 ⊢
   simp only[hej,Bool.false_eq_true,if_false] at h1 ⊢
   obtain⟨y,hyj,hK⟩:=h1
   refine⟨y,hyj.of_put p1,ih (listed.setIfInBounds j true) (s.put oj.dst y) (shut_ready hshut hj) (fun k ok hk hki hun=>?_) (ready_mono hr (Ne.symm hji)) (hy.put p3) ?_⟩
   ·refine hfree k ok hk hki ?_
    by_cases hjk:j=k
    ·subst hjk;exact hjun
    ·rw[getD_set_ne true hjk] at hun;exact hun
   ·rw[Array.setIfInBounds_comm _ _ hji,←put_comm p2]
    exact hK
theorem AAny.firstEff {Q:AS G→Prop} {i:Nat} {fuel:Nat} {listed:Array Bool} (hshut:Shut ops listed) (hfree:∀(j:Nat) oj,ops[j]?=some oj→j≠i→listed.getD j true=false→Reach ops i j)
  (hr:i∈Region.ready .any ops listed) (H:AOpAt Γ ops i (AAny Γ ops Q fuel (listed.setIfInBounds i true)) s):AAny Γ ops Q (fuel+1) listed s:=by
 refine⟨fun h=>(by rw[h] at hr;cases hr),fun j hj=>?_⟩
 by_cases hji:j=i
 ·subst hji;exact H
 ·obtain⟨hjun,oj,hoj,_⟩:=mem_ready.1 hj
  exact(not_reach hshut hr hj (hfree j oj hoj hji hjun)).elim
def ancOf (acc:List Nat) (o:Oper):Nat:=o.after.toList.foldl (fun m e=>if Region.binds .any e=true then m ||| 2 ^ e.on ||| acc.getD e.on 0 else m) 0
def ancL:List Oper→List Nat→List Nat
 | [],acc=>acc
 |o::l,acc=>ancL l (acc++[ancOf acc o])
theorem ancOf_spec {acc:List Nat} {o:Oper} {k:Nat} (ho:ops[k]?=some o) (hacc:∀(j:Nat) m i,acc[j]?=some m→m.testBit i=true→Reach ops i j) {i:Nat} (h:(ancOf acc o).testBit i=true):Reach ops i k:=by
 unfold ancOf at h
 have key:∀(es:List Edge) (m:Nat),(∀e∈es,e∈o.after)→(es.foldl (fun m e=>if Region.binds .any e=true then m ||| 2 ^ e.on ||| acc.getD e.on 0 else m) m).testBit i=true→m.testBit i=true∨Reach ops i k:=by
  intro es
  induction es with
  |nil=>intro m _ h;exact .inl h
  |cons e es ih=>
   intro m hm h
   rcases ih _ (fun e' he'=>hm e' (List.mem_cons_of_mem _ he')) h with h1|h1
   ·simp only at h1
    split at h1
    ·rename_i hb
     rw[Nat.testBit_or,Nat.testBit_or,Bool.or_eq_true,Bool.or_eq_true] at h1
     rcases h1 with(h1|h1)|h1
     ·exact .inl h1
     ·rw[Nat.testBit_two_pow] at h1
      exact .inr (.edge k o e ho (hm e List.mem_cons_self) hb (by simpa using h1))
     ·cases hj:acc[e.on]? with
      |none=>simp[List.getD,hj] at h1
      |some m'=>
       simp only[List.getD,hj,Option.getD_some] at h1
       exact .inr (.step k o e ho (hm e List.mem_cons_self) hb (hacc _ _ _ hj h1))
    ·exact .inl h1
   ·exact .inr h1
 rcases key o.after.toList 0 (fun e he=>by simpa using he) h with h1|h1
 ·simp at h1
 ·exact h1
theorem ancL_spec:∀(l:List Oper) (acc:List Nat),(∀(j:Nat),l[j]?=ops[acc.length+j]?)→(∀(j:Nat) m i,acc[j]?=some m→m.testBit i=true→Reach ops i j)→∀(j:Nat) m i,(ancL l acc)[j]?=some m→m.testBit i=true→Reach ops i j:=by
 intro l
 induction l with
 |nil=>intro acc _ h;exact h
 |cons o l ih=>
  intro acc hl hacc
  refine ih (acc++[ancOf acc o]) (fun j=>?_) (fun j m i hj hm=>?_)
  ·have:=hl (j+1)
   simp only[List.getElem?_cons_succ] at this
   rw[this];congr 1;simp;omega
  ·rcases getElem?_snoc hj with h1|⟨rfl,rfl⟩
   ·exact hacc j m i h1 hm
   ·exact ancOf_spec (by have:=hl 0;simpa using this.symm) hacc hm
def drawOk (l:List Oper):Bool:=
 let m:=ancL l []
 (List.range l.length).all fun k=>match l[k]? with
  |none=>false
  |some ok=>ok.after.toList.all (fun e=>!Region.binds .any e||decide (e.on<k)) &&
    (List.range l.length).all fun j=>decide (j≤k)||(m.getD j 0).testBit k||match l[j]? with
     |none=>true
     |some oj=>!isEff ok.op&&!isEff oj.op&&ok.apart l.toArray oj
def ALex (Γ:Env G) (ops:Array Oper) (K:AS G→Prop):List Oper→AS G→Prop
 | [],s=>K s
 |o::rest,s=>if isEff o.op=true then dstOk Γ.nt o.dst∧o.guard=none∧∃r hp',ERun Γ o s r hp'∧ALex Γ ops K rest (AS.put { s with hp:=hp' } o.dst r)
  else ∃x,Yields Γ ops o s x∧ALex Γ ops K rest (s.put o.dst x)
theorem ALex.any {Q:AS G→Prop} {l0:List Oper} (hd:drawOk l0=true):∀(l:List Oper) (k:Nat) (listed:Array Bool) (s:AS G),(∀(j:Nat),l[j]?=l0[k+j]?)→listed.size=l0.length→(∀(j:Nat),j<l0.length→listed.getD j true=decide (j<k))→k+l.length=l0.length→
  ALex Γ l0.toArray Q l s→AAny Γ l0.toArray Q l.length listed s:=by
 intro l
 induction l with
 |nil=>
  intro k listed s _ hsz hlist hk h
  refine⟨?_,h⟩
  apply List.eq_nil_iff_forall_not_mem.2
  intro j hj
  obtain⟨h1,o,ho,_⟩:=mem_ready.1 hj
  have hlt:j<l0.length:=by have:=(Array.getElem?_eq_some_iff.1 ho).1;simpa using this
  rw[hlist j hlt] at h1
  simp at h1
  simp at hk
  omega
 |cons o l ih=>
  intro k listed s hl hsz hlist hk h
  have hok:l0[k]?=some o:=by have:=hl 0;simpa using this.symm
  have hka:l0.toArray[k]?=some o:=by simpa using hok
  have hkl:k<l0.length:=(List.getElem?_eq_some_iff.1 hok).1
  have hd':=hd
  simp only[drawOk,List.all_eq_true,List.mem_range] at hd'
  have hdk:=hd' k hkl
  rw[hok] at hdk
  simp only[Bool.and_eq_true,List.all_eq_true,List.mem_range] at hdk
  obtain⟨hd1,hd2⟩:=hdk
  have hunl:listed.getD k true=false:=by rw[hlist k hkl];simp
  have hgetF:∀j,j<l0.length→listed.getD j false=decide (j<k):=by
   intro j hj
   have:=hlist j hj
   simp only[Array.getD_eq_getD_getElem?,Array.getElem?_eq_getElem (show j<listed.size by omega),Option.getD_some] at this ⊢
   exact this
  have hrd:k∈Region.ready .any l0.toArray listed:=by
   refine mem_ready.2 ⟨hunl,o,hka,fun e he hb=>?_⟩
   have:=hd1 e (by simpa using he)
   rw[hb] at this
   simp at this
   rw[hgetF e.on (by omega)];simp;exact this
  have hshut:Shut l0.toArray listed:=by
   intro q oq hq hoq e he hb
   have hql:q<l0.length:=by have:=(Array.getElem?_eq_some_iff.1 hoq).1;simpa using this
   rw[hgetF q hql] at hq
   have hq':q<k:=by simpa using hq
   have h2:=hd' q hql
   have hoq':l0[q]?=some oq:=by simpa using hoq
   rw[hoq'] at h2
   simp only[Bool.and_eq_true,List.all_eq_true] at h2
   have h3:=h2.1 e (by simpa using he)
   rw[hb] at h3
   simp at h3
   rw[hgetF e.on (by omega)];simp;omega
  have hreach:∀(j:Nat),(List.getD (ancL l0 []) j 0).testBit k=true→Reach l0.toArray k j:=by
   intro j hj
   cases hm:(ancL l0 [])[j]? with
   |none=>simp[List.getD,hm] at hj
   |some m=>
    simp only[List.getD,hm,Option.getD_some] at hj
    exact ancL_spec (ops:=l0.toArray) l0 [] (fun j=>by simp) (fun j m i hj=>by simp at hj) j m k hm hj
  have hpair:∀(j:Nat) oj,l0.toArray[j]?=some oj→j≠k→listed.getD j true=false→Reach l0.toArray k j∨(isEff o.op=false∧isEff oj.op=false∧o.apart l0.toArray oj=true):=by
   intro j oj hoj hjk hun
   have hjl:j<l0.length:=by have:=(Array.getElem?_eq_some_iff.1 hoj).1;simpa using this
   rw[hlist j hjl] at hun
   have hoj':l0[j]?=some oj:=by simpa using hoj
   have h2:=hd2 j hjl
   rw[hoj'] at h2
   simp only[Bool.or_eq_true,decide_eq_true_eq,Bool.and_eq_true,Bool.not_eq_true'] at h2
   rcases h2 with(h2|h2)|h2
   ·simp at hun;omega
   ·exact .inl (hreach j h2)
   ·exact .inr ⟨h2.1.1,h2.1.2,h2.2⟩
  have hnext:∀s',ALex Γ l0.toArray Q l s'→AAny Γ l0.toArray Q l.length (listed.setIfInBounds k true) s':=by
   intro s' h'
   refine ih (k+1) _ s' (fun j=>by have:=hl (j+1);simp only[List.getElem?_cons_succ] at this;rw[this];congr 1;omega) (by simpa using hsz) (fun j hj=>?_) (by simp at hk;omega) h'
   by_cases hjk:j=k
   ·subst hjk
    have:j<listed.size:=by omega
    simp[this]
   ·rw[getD_set_ne true (Ne.symm hjk),hlist j hj]
    simp;omega
  simp only[ALex] at h
  split at h
  ·rename_i he
   obtain⟨h1,h2,r,hp',h3,h4⟩:=h
   refine AAny.firstEff hshut (fun j oj hoj hjk hun=>?_) hrd ?_
   ·rcases hpair j oj hoj hjk hun with h5|h5
    ·exact h5
    ·rw[he] at h5;cases h5.1
   ·unfold AOpAt
    rw[hka]
    simp only[he,if_true]
    exact⟨h1,h2,r,hp',h3,hnext _ h4⟩
  ·rename_i he
   obtain⟨x,h1,h2⟩:=h
   exact AAny.first hka (by simpa using he) l.length listed s hshut (fun j oj hoj hjk hun=>(hpair j oj hoj hjk hun).imp id fun h=>⟨h.2.1,h.2.2⟩) hrd h1 (hnext _ h2)
end Go.Proofs.YtjhanogfpkbamaaGreatDoor
