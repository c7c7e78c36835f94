/- Texts of ours laid together for a claim: FilP. -/
import Derived.Test.YtdcikhleahfknaaGreatDoorQ03
namespace Go.Proofs.YtdcikhleahfknaaGreatDoor
open Go
set_option linter.unusedSimpArgs false
set_option linter.unusedVariables false
variable {G:Type} {Γ:Env G} {s s':AS G} {a:Act} {w w':World} {η:List Value} {hp:List af} {P:Program} {ops:Array Oper}
def po (Γ:Env G) (o:Oper) (s:AS G) (r:AV):Prop:=
 ∀a w η (Kc:Act→World→Prop) (Qc:Exit→Act→World→Prop),Rel Γ s a w η→(∀v w',bt w w'→aV w' (aU Γ w' η s.hp) η s.hp r v→Kc (a.put o.dst v) w')→o.wpIn Γ.dA 0 Γ.P a w Kc Qc
def AS.only (s:AS G) (L:List Nat):AS G:={ s with tmps:=fun t=>if t∈L then s.tmps t else .top }
theorem Rel.only (h:Rel Γ s a w η) (L:List Nat):Rel Γ (s.only L) a w η:=by
 refine⟨h.nt,fun t=>?_,h.heap,h.bA,h.keeps,h.inv,h.marks,h.ext⟩
 show aV w _ η s.hp (if t∈L then s.tmps t else .top) _
 split
 ·exact h.tmps t
 ·exact .top _
def bL:Op→Bool
 | .alloc _ | .box .. | .store .. | .makeSlice .. | .makeMap .. | .mapUpdate .. | .insert .. | .range .. | .next ..=>true
 | .call { callee:=.builtin .append,.. } | .call { callee:=.builtin .copy,.. } | .call { callee:=.builtin .delete,.. }=>true
 |_=>false
def aD (ops:Array Oper) (s:AS G) (o:Oper):Option Bool:=
 match o.guard with
 |none=>some true
 |some (j,want)=>(gA ops s j).map (·==some want)
def Yields (Γ:Env G) (ops:Array Oper) (o:Oper) (s:AS G) (x:AV):Prop:=
 cw Γ.nt o.dst∧((aD ops s o=some true∧po Γ o (s.only (o.looksAt ops)) x)∨(aD ops s o=some false∧x=.ae (.tuple #[])))
def n9 (Γ:Env G) (ops:Array Oper) (i:Nat) (K:AS G→Prop) (s:AS G):Prop:=
 match ops[i]? with
 |none=>K s
 |some o=>if bL o.op=true then cw Γ.nt o.dst∧o.guard=none∧∃r hp',eA Γ o s r hp'∧K (AS.put { s with hp:=hp' } o.dst r)
  else ∃x,Yields Γ ops o s x∧K (s.put o.dst x)
theorem cU (hr:Rel Γ s a w η) {o:Oper} {b:Bool} (h:aD ops s o=some b):Region.wanted o (yielded ops a.tmps)=b:=by
 unfold aD at h
 split at h
 ·rename_i hg
  obtain rfl:=Option.some.inj h
  simp[Region.wanted,hg]
 ·rename_i j want hg
  cases hs:gA ops s j with
  |none=>rw[hs] at h;cases h
  |some c=>
   rw[hs] at h
   obtain rfl:=Option.some.inj h
   simp[Region.wanted,hg,dj hr hs]
theorem n9.sound (aq:Γ.Ok) {i:Nat} {K:AS G→Prop} {Kc:Act→World→Prop} {Qc:Exit→Act→World→Prop} (h:n9 Γ ops i K s) (hr:Rel Γ s a w η) (hk:∀s' a' w' aM,K s'→Rel Γ s' a' w' aM→Kc a' w'):
  wpOpIn Γ.dA 0 Γ.P ops Qc i Kc a w:=by
 unfold n9 at h
 unfold wpOpIn
 split at h
 ·rename_i ho;rw[ho];exact hk _ _ _ _ h hr
 ·rename_i o ho
  rw[ho]
  simp only
  split at h
  ·obtain⟨h1,h2,r,hp',h3,h4⟩:=h
   rw[if_pos (by simp[Region.wanted,h2])]
   exact(bn.zB h3 h1 h4) a w η Kc Qc hk hr
  ·obtain⟨x,⟨h1,h2⟩,h3⟩:=h
   rcases h2 with⟨h2,h4⟩|⟨h2,rfl⟩
   ·rw[if_pos (cU hr h2)]
    exact h4 a w η Kc Qc (hr.only _) fun v w' hs cD=>hk _ _ _ _ h3 ((hr.same aq hs).put (bG h1) cD)
   ·rw[if_neg (by rw[cU hr h2];simp)]
    exact⟨fun _ _=>trivial,hk _ _ _ _ h3 (hr.put (bG h1) (.ae _))⟩
def nV (Γ:Env G) (ops:Array Oper) (Q:AS G→Prop):Nat→Array Bool→AS G→Prop
 |0,listed,s=>Region.ready .any ops listed=[]∧Q s
 |fuel+1,listed,s=>(Region.ready .any ops listed=[]→Q s)∧∀i∈Region.ready .any ops listed,n9 Γ ops i (nV Γ ops Q fuel (listed.setIfInBounds i true)) s
theorem nV.sound (aq:Γ.Ok) {Q:AS G→Prop} {Qc:Exit→Act→World→Prop} (hq:∀s' a' w' aM,Q s'→Rel Γ s' a' w' aM→Qc .normal a' w'):∀(fuel:Nat) (listed:Array Bool) (s:AS G) (a:Act) (w:World) (η:List Value),nV Γ ops Q fuel listed s→Rel Γ s a w η→
  wpAnyIn Γ.dA 0 Γ.P .any ops Qc fuel listed a w:=by
 intro fuel
 induction fuel with
 |zero=>intro listed s a w η h hr;exact⟨h.1,hq _ _ _ _ h.2 hr⟩
 |succ fuel ih=>intro listed s a w η h hr;exact⟨fun he=>hq _ _ _ _ (h.1 he) hr,fun i hi=>(h.2 i hi).sound aq hr fun s' a' w' aM h1 h2=>ih _ s' a' w' aM h1 h2⟩
inductive Reach (ops:Array Oper) (i:Nat):Nat→Prop
 |R9 (j:Nat) (o:Oper) (e:Edge) (ho:ops[j]?=some o) (he:e∈o.after) (hb:Region.binds .any e=true) (hi:e.on=i):Reach ops i j
 |step (j:Nat) (o:Oper) (e:Edge) (ho:ops[j]?=some o) (he:e∈o.after) (hb:Region.binds .any e=true) (h:Reach ops i e.on):Reach ops i j
def mj (ops:Array Oper) (listed:Array Bool):Prop:=∀(k:Nat) (o:Oper),listed.getD k false=true→ops[k]?=some o→∀e∈o.after,Region.binds .any e=true→listed.getD e.on false=true
theorem Reach.listed {listed:Array Bool} (hs:mj ops listed) {i j:Nat} (h:Reach ops i j) (hj:∀o,ops[j]?=some o→∀e∈o.after,Region.binds .any e=true→listed.getD e.on false=true):listed.getD i false=true:=by
 induction h with
 |R9 j o e ho he hb hi=>rw[←hi];exact hj o ho e he hb
 |step j o e ho he hb _ ih=>exact ih fun o' s9=>hs e.on o' (hj o ho e he hb) s9
theorem bR {listed:Array Bool} (hs:mj ops listed) {i:Nat} (hi:i∈Region.ready .any ops listed):mj ops (listed.setIfInBounds i true):=by
 obtain⟨_,o,ho,qH⟩:=mem_ready.1 hi
 intro k o' hk s9 e he hb
 by_cases Ci:k=i
 ·subst Ci
  rw[ho] at s9
  obtain rfl:=Option.some.inj s9
  exact getD_set_true (qH e he hb)
 ·refine getD_set_true (hs k o' ?_ s9 e he hb)
  simpa [Array.getElem?_setIfInBounds_ne (Ne.symm Ci)] using hk
theorem fc {listed:Array Bool} (hs:mj ops listed) {i j:Nat} (hi:i∈Region.ready .any ops listed) (hj:j∈Region.ready .any ops listed):¬Reach ops i j:=by
 intro h
 obtain⟨_,oj,gp,Sa⟩:=mem_ready.1 hj
 have h1:=h.listed hs fun o ho e he hb=>by rw[gp] at ho;obtain rfl:=Option.some.inj ho;exact Sa e he hb
 have h0:=(mem_ready.1 hi).1
 rcases Nat.lt_or_ge i listed.size with h' | h'
 ·simp[h'] at h0 h1;rw[h0] at h1;cases h1
 ·simp[Array.getElem?_eq_none h'] at h1
theorem tF {d:Option Nat} {x:AV} {L:List Nat} (h:∀t,d=some t→t∉L):(s.put d x).only L=s.only L:=by
 cases d with
 |none=>rfl
 |some d=>
  unfold AS.only AS.put
  simp only
  congr 1
  funext t
  by_cases ht:t∈L
  ·have bj:¬t=d:=by
    intro e;subst e;exact h t rfl ht
   rw[if_pos ht,if_pos ht,eF,if_neg bj]
  ·rw[if_neg ht,if_neg ht]
theorem fz {d:Option Nat} {x:AV} {o:Oper} (h:∀t,d=some t→t∉o.looksAt ops):aD ops (s.put d x) o=aD ops s o:=by
 unfold aD
 split
 ·rfl
 ·rename_i j want hg
  have:gA ops (s.put d x) j=gA ops s j:=by
   unfold gA
   split
   ·rename_i t ht
    cases d with
    |none=>rfl
    |some d=>
     have bj:t≠d:=by
      intro e
      refine h d rfl ?_
      simp[Oper.looksAt,hg,ht,e]
     have:(s.put (some d) x).tmps t=s.tmps t:=by show xa s.tmps d x t=_;rw[eF,if_neg bj]
     rw[this]
   ·rfl
  rw[this]
theorem Yields.put {o:Oper} {x y:AV} {d:Option Nat} (h:∀t,d=some t→t∉o.looksAt ops) (hy:Yields Γ ops o s y):Yields Γ ops o (s.put d x) y:=by
 unfold Yields at *
 rw[fz h,tF h];exact hy
theorem Yields.ml {o:Oper} {x y:AV} {d:Option Nat} (h:∀t,d=some t→t∉o.looksAt ops) (hy:Yields Γ ops o (s.put d x) y):Yields Γ ops o s y:=by
 unfold Yields at *
 rw[fz h,tF h] at hy;exact hy
theorem put_comm {d e:Option Nat} {x y:AV} (h:∀t,d=some t→e≠some t):(s.put d x).put e y=(s.put e y).put d x:=by
 cases d with
 |none=>rfl
 |some d=>
  cases e with
  |none=>rfl
  |some e=>
   have bj:e≠d:=fun he=>h d rfl (he▸rfl)
   unfold AS.put
   simp only
   congr 1
   funext t
   simp only[eF]
   split<;>split<;>first|rfl|(rename_i h1 h2;exact(bj (h1▸h2)).elim)|omega
theorem nV.first {Q:AS G→Prop} {i:Nat} {oi:Oper} {x:AV} (hi:ops[i]?=some oi) (bj:bL oi.op=false):∀(fuel:Nat) (listed:Array Bool) (s:AS G),mj ops listed→
  (∀(j:Nat) oj,ops[j]?=some oj→j≠i→listed.getD j true=false→Reach ops i j∨(bL oj.op=false∧oi.apart ops oj=true))→
  i∈Region.ready .any ops listed→Yields Γ ops oi s x→nV Γ ops Q fuel (listed.setIfInBounds i true) (s.put oi.dst x)→nV Γ ops Q (fuel+1) listed s:=by
 have own:∀{K:AS G→Prop} {s:AS G},Yields Γ ops oi s x→K (s.put oi.dst x)→n9 Γ ops i K s:=by
  intro K s hy hK
  unfold n9
  rw[hi]
  simp only[bj,Bool.false_eq_true,if_false]
  exact⟨x,hy,hK⟩
 intro fuel
 induction fuel with
 |zero=>
  intro listed s _ _ hr hy H
  refine⟨fun h=>(by rw[h] at hr;cases hr),fun j hj=>?_⟩
  by_cases fl:j=i
  ·subst fl;exact own hy H
  ·have:=ready_mono hj fl
   rw[H.1] at this
   cases this
 |succ fuel ih=>
  intro listed s cr cf hr hy H
  refine⟨fun h=>(by rw[h] at hr;cases hr),fun j hj=>?_⟩
  by_cases fl:j=i
  ·subst fl;exact own hy H
  ·have h1:=H.2 j (ready_mono hj fl)
   obtain⟨kX,oj,gp,qH⟩:=mem_ready.1 hj
   rcases cf j oj gp fl kX with h2|⟨Es,P4⟩
   ·exact(fc cr hr hj h2).elim
   obtain⟨p1,p2,p3⟩:=Oper.apart_spec P4
   unfold n9 at h1 ⊢
   rw[gp] at h1 ⊢
   simp only[Es,Bool.false_eq_true,if_false] at h1 ⊢
   obtain⟨y,P5,hK⟩:=h1
   refine⟨y,P5.ml p1,ih (listed.setIfInBounds j true) (s.put oj.dst y) (bR cr hj) (fun k ok hk Ci iU=>?_) (ready_mono hr (Ne.symm fl)) (hy.put p3) ?_⟩
   ·refine cf k ok hk Ci ?_
    by_cases ie:j=k
    ·subst ie;exact kX
    ·rw[getD_set_ne true ie] at iU;exact iU
   ·rw[Array.setIfInBounds_comm _ _ fl,←put_comm p2]
    exact hK
theorem nV.fA {Q:AS G→Prop} {i:Nat} {fuel:Nat} {listed:Array Bool} (cr:mj ops listed) (cf:∀(j:Nat) oj,ops[j]?=some oj→j≠i→listed.getD j true=false→Reach ops i j)
  (hr:i∈Region.ready .any ops listed) (H:n9 Γ ops i (nV Γ ops Q fuel (listed.setIfInBounds i true)) s):nV Γ ops Q (fuel+1) listed s:=by
 refine⟨fun h=>(by rw[h] at hr;cases hr),fun j hj=>?_⟩
 by_cases fl:j=i
 ·subst fl;exact H
 ·obtain⟨kX,oj,gp,_⟩:=mem_ready.1 hj
  exact(fc cr hr hj (cf j oj gp fl kX)).elim
def Et (acc:List Nat) (o:Oper):Nat:=o.after.toList.foldl (fun m e=>if Region.binds .any e=true then m ||| 2 ^ e.on ||| acc.getD e.on 0 else m) 0
def kb:List Oper→List Nat→List Nat
 | [],acc=>acc
 |o::l,acc=>kb l (acc++[Et acc o])
theorem CG {acc:List Nat} {o:Oper} {k:Nat} (ho:ops[k]?=some o) (L2:∀(j:Nat) m i,acc[j]?=some m→m.testBit i=true→Reach ops i j) {i:Nat} (h:(Et acc o).testBit i=true):Reach ops i k:=by
 unfold Et at h
 have key:∀(es:List Edge) (m:Nat),(∀e∈es,e∈o.after)→(es.foldl (fun m e=>if Region.binds .any e=true then m ||| 2 ^ e.on ||| acc.getD e.on 0 else m) m).testBit i=true→m.testBit i=true∨Reach ops i k:=by
  intro es
  induction es with
  |nil=>intro m _ h;exact .inl h
  |cons e es ih=>
   intro m hm h
   rcases ih _ (fun e' L3=>hm e' (List.mem_cons_of_mem _ L3)) h with h1|h1
   ·simp only at h1
    split at h1
    ·rename_i hb
     rw[Nat.testBit_or,Nat.testBit_or,Bool.or_eq_true,Bool.or_eq_true] at h1
     rcases h1 with(h1|h1)|h1
     ·exact .inl h1
     ·rw[Nat.testBit_two_pow] at h1
      exact .inr (.R9 k o e ho (hm e List.mem_cons_self) hb (by simpa using h1))
     ·cases hj:acc[e.on]? with
      |none=>simp[List.getD,hj] at h1
      |some m'=>
       simp only[List.getD,hj,Option.getD_some] at h1
       exact .inr (.step k o e ho (hm e List.mem_cons_self) hb (L2 _ _ _ hj h1))
    ·exact .inl h1
   ·exact .inr h1
 rcases key o.after.toList 0 (fun e he=>by simpa using he) h with h1|h1
 ·simp at h1
 ·exact h1
theorem kc:∀(l:List Oper) (acc:List Nat),(∀(j:Nat),l[j]?=ops[acc.length+j]?)→(∀(j:Nat) m i,acc[j]?=some m→m.testBit i=true→Reach ops i j)→∀(j:Nat) m i,(kb l acc)[j]?=some m→m.testBit i=true→Reach ops i j:=by
 intro l
 induction l with
 |nil=>intro acc _ h;exact h
 |cons o l ih=>
  intro acc hl L2
  refine ih (acc++[Et acc o]) (fun j=>?_) (fun j m i hj hm=>?_)
  ·have:=hl (j+1)
   simp only[List.getElem?_cons_succ] at this
   rw[this];congr 1;simp;omega
  ·rcases cL hj with h1|⟨rfl,rfl⟩
   ·exact L2 j m i h1 hm
   ·exact CG (by have:=hl 0;simpa using this.symm) L2 hm
def tG (l:List Oper):Bool:=
 let m:=kb l []
 (List.range l.length).all fun k=>match l[k]? with
  |none=>false
  |some ok=>ok.after.toList.all (fun e=>!Region.binds .any e||decide (e.on<k)) &&
    (List.range l.length).all fun j=>decide (j≤k)||(m.getD j 0).testBit k||match l[j]? with
     |none=>true
     |some oj=>!bL ok.op&&!bL oj.op&&ok.apart l.toArray oj
def qI (Γ:Env G) (ops:Array Oper) (K:AS G→Prop):List Oper→AS G→Prop
 | [],s=>K s
 |o::rest,s=>if bL o.op=true then cw Γ.nt o.dst∧o.guard=none∧∃r hp',eA Γ o s r hp'∧qI Γ ops K rest (AS.put { s with hp:=hp' } o.dst r)
  else ∃x,Yields Γ ops o s x∧qI Γ ops K rest (s.put o.dst x)
theorem qI.any {Q:AS G→Prop} {l0:List Oper} (hd:tG l0=true):∀(l:List Oper) (k:Nat) (listed:Array Bool) (s:AS G),(∀(j:Nat),l[j]?=l0[k+j]?)→listed.size=l0.length→(∀(j:Nat),j<l0.length→listed.getD j true=decide (j<k))→k+l.length=l0.length→
  qI Γ l0.toArray Q l s→nV Γ l0.toArray Q l.length listed s:=by
 intro l
 induction l with
 |nil=>
  intro k listed s _ bE dC hk h
  refine⟨?_,h⟩
  apply List.eq_nil_iff_forall_not_mem.2
  intro j hj
  obtain⟨h1,o,ho,_⟩:=mem_ready.1 hj
  have al:j<l0.length:=by have:=(Array.getElem?_eq_some_iff.1 ho).1;simpa using this
  rw[dC j al] at h1
  simp at h1
  simp at hk
  omega
 |cons o l ih=>
  intro k listed s hl bE dC hk h
  have aq:l0[k]?=some o:=by have:=hl 0;simpa using this.symm
  have y9:l0.toArray[k]?=some o:=by simpa using aq
  have vZ:k<l0.length:=(List.getElem?_eq_some_iff.1 aq).1
  have cM:=hd
  simp only[tG,List.all_eq_true,List.mem_range] at cM
  have lJ:=cM k vZ
  rw[aq] at lJ
  simp only[Bool.and_eq_true,List.all_eq_true,List.mem_range] at lJ
  obtain⟨Ly,CH⟩:=lJ
  have CI:listed.getD k true=false:=by rw[dC k vZ];simp
  have iC:∀j,j<l0.length→listed.getD j false=decide (j<k):=by
   intro j hj
   have:=dC j hj
   simp only[Array.getD_eq_getD_getElem?,Array.getElem?_eq_getElem (show j<listed.size by omega),Option.getD_some] at this ⊢
   exact this
  have vY:k∈Region.ready .any l0.toArray listed:=by
   refine mem_ready.2 ⟨CI,o,y9,fun e he hb=>?_⟩
   have:=Ly e (by simpa using he)
   rw[hb] at this
   simp at this
   rw[iC e.on (by omega)];simp;exact this
  have cr:mj l0.toArray listed:=by
   intro q oq hq HF e he hb
   have zF:q<l0.length:=by have:=(Array.getElem?_eq_some_iff.1 HF).1;simpa using this
   rw[iC q zF] at hq
   have HG:q<k:=by simpa using hq
   have h2:=cM q zF
   have CJ:l0[q]?=some oq:=by simpa using HF
   rw[CJ] at h2
   simp only[Bool.and_eq_true,List.all_eq_true] at h2
   have h3:=h2.1 e (by simpa using he)
   rw[hb] at h3
   simp at h3
   rw[iC e.on (by omega)];simp;omega
  have kY:∀(j:Nat),(List.getD (kb l0 []) j 0).testBit k=true→Reach l0.toArray k j:=by
   intro j hj
   cases hm:(kb l0 [])[j]? with
   |none=>simp[List.getD,hm] at hj
   |some m=>
    simp only[List.getD,hm,Option.getD_some] at hj
    exact kc (ops:=l0.toArray) l0 [] (fun j=>by simp) (fun j m i hj=>by simp at hj) j m k hm hj
  have kf:∀(j:Nat) oj,l0.toArray[j]?=some oj→j≠k→listed.getD j true=false→Reach l0.toArray k j∨(bL o.op=false∧bL oj.op=false∧o.apart l0.toArray oj=true):=by
   intro j oj gp ie iU
   have rq:j<l0.length:=by have:=(Array.getElem?_eq_some_iff.1 gp).1;simpa using this
   rw[dC j rq] at iU
   have CK:l0[j]?=some oj:=by simpa using gp
   have h2:=CH j rq
   rw[CK] at h2
   simp only[Bool.or_eq_true,decide_eq_true_eq,Bool.and_eq_true,Bool.not_eq_true'] at h2
   rcases h2 with(h2|h2)|h2
   ·simp at iU;omega
   ·exact .inl (kY j h2)
   ·exact .inr ⟨h2.1.1,h2.1.2,h2.2⟩
  have bC:∀s',qI Γ l0.toArray Q l s'→nV Γ l0.toArray Q l.length (listed.setIfInBounds k true) s':=by
   intro s' h'
   refine ih (k+1) _ s' (fun j=>by have:=hl (j+1);simp only[List.getElem?_cons_succ] at this;rw[this];congr 1;omega) (by simpa using bE) (fun j hj=>?_) (by simp at hk;omega) h'
   by_cases ie:j=k
   ·subst ie
    have:j<listed.size:=by omega
    simp[this]
   ·rw[getD_set_ne true (Ne.symm ie),dC j hj]
    simp;omega
  simp only[qI] at h
  split at h
  ·rename_i he
   obtain⟨h1,h2,r,hp',h3,h4⟩:=h
   refine nV.fA cr (fun j oj gp ie iU=>?_) vY ?_
   ·rcases kf j oj gp ie iU with h5|h5
    ·exact h5
    ·rw[he] at h5;cases h5.1
   ·unfold n9
    rw[y9]
    simp only[he,if_true]
    exact⟨h1,h2,r,hp',h3,bC _ h4⟩
  ·rename_i he
   obtain⟨x,h1,h2⟩:=h
   exact nV.first y9 (by simpa using he) l.length listed s cr (fun j oj gp ie iU=>(kf j oj gp ie iU).imp id fun h=>⟨h.2.1,h.2.2⟩) vY h1 (bC _ h2)
end Go.Proofs.YtdcikhleahfknaaGreatDoor
