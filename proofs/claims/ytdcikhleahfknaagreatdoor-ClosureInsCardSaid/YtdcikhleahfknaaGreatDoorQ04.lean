/- Texts of ours laid together for a claim: FilP. -/
import Derived.Test.YtdcikhleahfknaaGreatDoorQ03
namespace Go.Proofs.YtdcikhleahfknaaGreatDoor
open Go
set_option linter.unusedSimpArgs false
set_option linter.unusedVariables false
variable {G:Type} {Γ:Env G} {s s':AS G} {a:Act} {w w':World} {η:List Value} {hp:List af} {P:Program} {ops:Array Oper}
def pT (Γ:Env G) (o:Oper) (s:AS G) (r:AV):Prop:=
 ∀a w η (Kc:Act→World→Prop) (Qc:Exit→Act→World→Prop),Rel Γ s a w η→(∀v w',bu w w'→aY w' (aW Γ w' η s.hp) η s.hp r v→Kc (a.put o.dst v) w')→o.wpIn Γ.dM 0 Γ.P a w Kc Qc
def AS.only (s:AS G) (L:List Nat):AS G:={ s with tmps:=fun t=>if t∈L then s.tmps t else .top }
theorem Rel.only (h:Rel Γ s a w η) (L:List Nat):Rel Γ (s.only L) a w η:=by
 refine⟨h.nt,fun t=>?_,h.heap,h.bA,h.keeps,h.inv,h.marks,h.ext⟩
 show aY w _ η s.hp (if t∈L then s.tmps t else .top) _
 split
 ·exact h.tmps t
 ·exact .top _
def bP:Op→Bool
 | .alloc _ | .box .. | .store .. | .makeSlice .. | .makeMap .. | .mapUpdate .. | .insert .. | .range .. | .next ..=>true
 | .call { callee:=.builtin .append,.. } | .call { callee:=.builtin .copy,.. } | .call { callee:=.builtin .delete,.. }=>true
 |_=>false
def aG (ops:Array Oper) (s:AS G) (o:Oper):Option Bool:=
 match o.guard with
 |none=>some true
 |some (j,want)=>(gS ops s j).map (·==some want)
def Yields (Γ:Env G) (ops:Array Oper) (o:Oper) (s:AS G) (x:AV):Prop:=
 cx Γ.nt o.dst∧((aG ops s o=some true∧pT Γ o (s.only (o.looksAt ops)) x)∨(aG ops s o=some false∧x=.ae (.tuple #[])))
def oJ (Γ:Env G) (ops:Array Oper) (i:Nat) (K:AS G→Prop) (s:AS G):Prop:=
 match ops[i]? with
 |none=>K s
 |some o=>if bP o.op=true then cx Γ.nt o.dst∧o.guard=none∧∃r hp',eW Γ o s r hp'∧K (AS.put { s with hp:=hp' } o.dst r)
  else ∃x,Yields Γ ops o s x∧K (s.put o.dst x)
theorem dq (hr:Rel Γ s a w η) {o:Oper} {b:Bool} (h:aG ops s o=some b):Region.wanted o (yielded ops a.tmps)=b:=by
 unfold aG at h
 split at h
 ·rename_i hg
  obtain rfl:=Option.some.inj h
  simp[Region.wanted,hg]
 ·rename_i j want hg
  cases hs:gS ops s j with
  |none=>rw[hs] at h;cases h
  |some c=>
   rw[hs] at h
   obtain rfl:=Option.some.inj h
   simp[Region.wanted,hg,dD hr hs]
theorem oJ.sound (ao:Γ.Ok) {i:Nat} {K:AS G→Prop} {Kc:Act→World→Prop} {Qc:Exit→Act→World→Prop} (h:oJ Γ ops i K s) (hr:Rel Γ s a w η) (hk:∀s' a' w' aH,K s'→Rel Γ s' a' w' aH→Kc a' w'):
  wpOpIn Γ.dM 0 Γ.P ops Qc i Kc a w:=by
 unfold oJ at h
 unfold wpOpIn
 split at h
 ·rename_i ho;rw[ho];exact hk _ _ _ _ h hr
 ·rename_i o ho
  rw[ho]
  simp only
  split at h
  ·obtain⟨h1,h2,r,hp',h3,h4⟩:=h
   rw[if_pos (by simp[Region.wanted,h2])]
   exact(bn.ya h3 h1 h4) a w η Kc Qc hk hr
  ·obtain⟨x,⟨h1,h2⟩,h3⟩:=h
   rcases h2 with⟨h2,h4⟩|⟨h2,rfl⟩
   ·rw[if_pos (dq hr h2)]
    exact h4 a w η Kc Qc (hr.only _) fun v w' hs cE=>hk _ _ _ _ h3 ((hr.same ao hs).put (bN h1) cE)
   ·rw[if_neg (by rw[dq hr h2];simp)]
    exact⟨fun _ _=>trivial,hk _ _ _ _ h3 (hr.put (bN h1) (.ae _))⟩
def oA (Γ:Env G) (ops:Array Oper) (Q:AS G→Prop):Nat→Array Bool→AS G→Prop
 |0,listed,s=>Region.ready .any ops listed=[]∧Q s
 |fuel+1,listed,s=>(Region.ready .any ops listed=[]→Q s)∧∀i∈Region.ready .any ops listed,oJ Γ ops i (oA Γ ops Q fuel (listed.setIfInBounds i true)) s
theorem oA.sound (ao:Γ.Ok) {Q:AS G→Prop} {Qc:Exit→Act→World→Prop} (hq:∀s' a' w' aH,Q s'→Rel Γ s' a' w' aH→Qc .normal a' w'):∀(fuel:Nat) (listed:Array Bool) (s:AS G) (a:Act) (w:World) (η:List Value),oA Γ ops Q fuel listed s→Rel Γ s a w η→
  wpAnyIn Γ.dM 0 Γ.P .any ops Qc fuel listed a w:=by
 intro fuel
 induction fuel with
 |zero=>intro listed s a w η h hr;exact⟨h.1,hq _ _ _ _ h.2 hr⟩
 |succ fuel ih=>intro listed s a w η h hr;exact⟨fun he=>hq _ _ _ _ (h.1 he) hr,fun i hi=>(h.2 i hi).sound ao hr fun s' a' w' aH h1 h2=>ih _ s' a' w' aH h1 h2⟩
inductive Reach (ops:Array Oper) (i:Nat):Nat→Prop
 |G9 (j:Nat) (o:Oper) (e:Edge) (ho:ops[j]?=some o) (he:e∈o.after) (hb:Region.binds .any e=true) (hi:e.on=i):Reach ops i j
 |step (j:Nat) (o:Oper) (e:Edge) (ho:ops[j]?=some o) (he:e∈o.after) (hb:Region.binds .any e=true) (h:Reach ops i e.on):Reach ops i j
def mR (ops:Array Oper) (listed:Array Bool):Prop:=∀(k:Nat) (o:Oper),listed.getD k false=true→ops[k]?=some o→∀e∈o.after,Region.binds .any e=true→listed.getD e.on false=true
theorem Reach.listed {listed:Array Bool} (hs:mR ops listed) {i j:Nat} (h:Reach ops i j) (hj:∀o,ops[j]?=some o→∀e∈o.after,Region.binds .any e=true→listed.getD e.on false=true):listed.getD i false=true:=by
 induction h with
 |G9 j o e ho he hb hi=>rw[←hi];exact hj o ho e he hb
 |step j o e ho he hb _ ih=>exact ih fun o' tW=>hs e.on o' (hj o ho e he hb) tW
theorem bT {listed:Array Bool} (hs:mR ops listed) {i:Nat} (hi:i∈Region.ready .any ops listed):mR ops (listed.setIfInBounds i true):=by
 obtain⟨_,o,ho,mS⟩:=mem_ready.1 hi
 intro k o' hk tW e he hb
 by_cases DB:k=i
 ·subst DB
  rw[ho] at tW
  obtain rfl:=Option.some.inj tW
  exact getD_set_true (mS e he hb)
 ·refine getD_set_true (hs k o' ?_ tW e he hb)
  simpa [Array.getElem?_setIfInBounds_ne (Ne.symm DB)] using hk
theorem fD {listed:Array Bool} (hs:mR ops listed) {i j:Nat} (hi:i∈Region.ready .any ops listed) (hj:j∈Region.ready .any ops listed):¬Reach ops i j:=by
 intro h
 obtain⟨_,oj,gL,TU⟩:=mem_ready.1 hj
 have h1:=h.listed hs fun o ho e he hb=>by rw[gL] at ho;obtain rfl:=Option.some.inj ho;exact TU e he hb
 have h0:=(mem_ready.1 hi).1
 rcases Nat.lt_or_ge i listed.size with h' | h'
 ·simp[h'] at h0 h1;rw[h0] at h1;cases h1
 ·simp[Array.getElem?_eq_none h'] at h1
theorem uv {d:Option Nat} {x:AV} {L:List Nat} (h:∀t,d=some t→t∉L):(s.put d x).only L=s.only L:=by
 cases d with
 |none=>rfl
 |some d=>
  unfold AS.only AS.put
  simp only
  congr 1
  funext t
  by_cases ht:t∈L
  ·have bh:¬t=d:=by
    intro e;subst e;exact h t rfl ht
   rw[if_pos ht,if_pos ht,fc,if_neg bh]
  ·rw[if_neg ht,if_neg ht]
theorem fR {d:Option Nat} {x:AV} {o:Oper} (h:∀t,d=some t→t∉o.looksAt ops):aG ops (s.put d x) o=aG ops s o:=by
 unfold aG
 split
 ·rfl
 ·rename_i j want hg
  have:gS ops (s.put d x) j=gS ops s j:=by
   unfold gS
   split
   ·rename_i t ht
    cases d with
    |none=>rfl
    |some d=>
     have bh:t≠d:=by
      intro e
      refine h d rfl ?_
      simp[Oper.looksAt,hg,ht,e]
     have:(s.put (some d) x).tmps t=s.tmps t:=by show xQ s.tmps d x t=_;rw[fc,if_neg bh]
     rw[this]
   ·rfl
  rw[this]
theorem Yields.put {o:Oper} {x y:AV} {d:Option Nat} (h:∀t,d=some t→t∉o.looksAt ops) (hy:Yields Γ ops o s y):Yields Γ ops o (s.put d x) y:=by
 unfold Yields at *
 rw[fR h,uv h];exact hy
theorem Yields.mU {o:Oper} {x y:AV} {d:Option Nat} (h:∀t,d=some t→t∉o.looksAt ops) (hy:Yields Γ ops o (s.put d x) y):Yields Γ ops o s y:=by
 unfold Yields at *
 rw[fR h,uv h] at hy;exact hy
theorem put_comm {d e:Option Nat} {x y:AV} (h:∀t,d=some t→e≠some t):(s.put d x).put e y=(s.put e y).put d x:=by
 cases d with
 |none=>rfl
 |some d=>
  cases e with
  |none=>rfl
  |some e=>
   have bh:e≠d:=fun he=>h d rfl (he▸rfl)
   unfold AS.put
   simp only
   congr 1
   funext t
   simp only[fc]
   split<;>split<;>first|rfl|(rename_i h1 h2;exact(bh (h1▸h2)).elim)|omega
theorem oA.first {Q:AS G→Prop} {i:Nat} {oi:Oper} {x:AV} (hi:ops[i]?=some oi) (bh:bP oi.op=false):∀(fuel:Nat) (listed:Array Bool) (s:AS G),mR ops listed→
  (∀(j:Nat) oj,ops[j]?=some oj→j≠i→listed.getD j true=false→Reach ops i j∨(bP oj.op=false∧oi.apart ops oj=true))→
  i∈Region.ready .any ops listed→Yields Γ ops oi s x→oA Γ ops Q fuel (listed.setIfInBounds i true) (s.put oi.dst x)→oA Γ ops Q (fuel+1) listed s:=by
 have own:∀{K:AS G→Prop} {s:AS G},Yields Γ ops oi s x→K (s.put oi.dst x)→oJ Γ ops i K s:=by
  intro K s hy hK
  unfold oJ
  rw[hi]
  simp only[bh,Bool.false_eq_true,if_false]
  exact⟨x,hy,hK⟩
 intro fuel
 induction fuel with
 |zero=>
  intro listed s _ _ hr hy H
  refine⟨fun h=>(by rw[h] at hr;cases hr),fun j hj=>?_⟩
  by_cases fK:j=i
  ·subst fK;exact own hy H
  ·have:=ready_mono hj fK
   rw[H.1] at this
   cases this
 |succ fuel ih=>
  intro listed s cq cg hr hy H
  refine⟨fun h=>(by rw[h] at hr;cases hr),fun j hj=>?_⟩
  by_cases fK:j=i
  ·subst fK;exact own hy H
  ·have h1:=H.2 j (ready_mono hj fK)
   obtain⟨lE,oj,gL,mS⟩:=mem_ready.1 hj
   rcases cg j oj gL fK lE with h2|⟨FG,RL⟩
   ·exact(fD cq hr hj h2).elim
   obtain⟨p1,p2,p3⟩:=Oper.apart_spec RL
   unfold oJ at h1 ⊢
   rw[gL] at h1 ⊢
   simp only[FG,Bool.false_eq_true,if_false] at h1 ⊢
   obtain⟨y,RM,hK⟩:=h1
   refine⟨y,RM.mU p1,ih (listed.setIfInBounds j true) (s.put oj.dst y) (bT cq hj) (fun k ok hk DB jA=>?_) (ready_mono hr (Ne.symm fK)) (hy.put p3) ?_⟩
   ·refine cg k ok hk DB ?_
    by_cases iP:j=k
    ·subst iP;exact lE
    ·rw[getD_set_ne true iP] at jA;exact jA
   ·rw[Array.setIfInBounds_comm _ _ fK,←put_comm p2]
    exact hK
theorem oA.fS {Q:AS G→Prop} {i:Nat} {fuel:Nat} {listed:Array Bool} (cq:mR ops listed) (cg:∀(j:Nat) oj,ops[j]?=some oj→j≠i→listed.getD j true=false→Reach ops i j)
  (hr:i∈Region.ready .any ops listed) (H:oJ Γ ops i (oA Γ ops Q fuel (listed.setIfInBounds i true)) s):oA Γ ops Q (fuel+1) listed s:=by
 refine⟨fun h=>(by rw[h] at hr;cases hr),fun j hj=>?_⟩
 by_cases fK:j=i
 ·subst fK;exact H
 ·obtain⟨lE,oj,gL,_⟩:=mem_ready.1 hj
  exact(fD cq hr hj (cg j oj gL fK lE)).elim
def FH (acc:List Nat) (o:Oper):Nat:=o.after.toList.foldl (fun m e=>if Region.binds .any e=true then m ||| 2 ^ e.on ||| acc.getD e.on 0 else m) 0
def kK:List Oper→List Nat→List Nat
 | [],acc=>acc
 |o::l,acc=>kK l (acc++[FH acc o])
theorem DZ {acc:List Nat} {o:Oper} {k:Nat} (ho:ops[k]?=some o) (Ha:∀(j:Nat) m i,acc[j]?=some m→m.testBit i=true→Reach ops i j) {i:Nat} (h:(FH acc o).testBit i=true):Reach ops i k:=by
 unfold FH at h
 have key:∀(es:List Edge) (m:Nat),(∀e∈es,e∈o.after)→(es.foldl (fun m e=>if Region.binds .any e=true then m ||| 2 ^ e.on ||| acc.getD e.on 0 else m) m).testBit i=true→m.testBit i=true∨Reach ops i k:=by
  intro es
  induction es with
  |nil=>intro m _ h;exact .inl h
  |cons e es ih=>
   intro m hm h
   rcases ih _ (fun e' NA=>hm e' (List.mem_cons_of_mem _ NA)) h with h1|h1
   ·simp only at h1
    split at h1
    ·rename_i hb
     rw[Nat.testBit_or,Nat.testBit_or,Bool.or_eq_true,Bool.or_eq_true] at h1
     rcases h1 with(h1|h1)|h1
     ·exact .inl h1
     ·rw[Nat.testBit_two_pow] at h1
      exact .inr (.G9 k o e ho (hm e List.mem_cons_self) hb (by simpa using h1))
     ·cases hj:acc[e.on]? with
      |none=>simp[List.getD,hj] at h1
      |some m'=>
       simp only[List.getD,hj,Option.getD_some] at h1
       exact .inr (.step k o e ho (hm e List.mem_cons_self) hb (Ha _ _ _ hj h1))
    ·exact .inl h1
   ·exact .inr h1
 rcases key o.after.toList 0 (fun e he=>by simpa using he) h with h1|h1
 ·simp at h1
 ·exact h1
theorem kL:∀(l:List Oper) (acc:List Nat),(∀(j:Nat),l[j]?=ops[acc.length+j]?)→(∀(j:Nat) m i,acc[j]?=some m→m.testBit i=true→Reach ops i j)→∀(j:Nat) m i,(kK l acc)[j]?=some m→m.testBit i=true→Reach ops i j:=by
 intro l
 induction l with
 |nil=>intro acc _ h;exact h
 |cons o l ih=>
  intro acc hl Ha
  refine ih (acc++[FH acc o]) (fun j=>?_) (fun j m i hj hm=>?_)
  ·have:=hl (j+1)
   simp only[List.getElem?_cons_succ] at this
   rw[this];congr 1;simp;omega
  ·rcases cN hj with h1|⟨rfl,rfl⟩
   ·exact Ha j m i h1 hm
   ·exact DZ (by have:=hl 0;simpa using this.symm) Ha hm
def uw (l:List Oper):Bool:=
 let m:=kK l []
 (List.range l.length).all fun k=>match l[k]? with
  |none=>false
  |some ok=>ok.after.toList.all (fun e=>!Region.binds .any e||decide (e.on<k)) &&
    (List.range l.length).all fun j=>decide (j≤k)||(m.getD j 0).testBit k||match l[j]? with
     |none=>true
     |some oj=>!bP ok.op&&!bP oj.op&&ok.apart l.toArray oj
def rj (Γ:Env G) (ops:Array Oper) (K:AS G→Prop):List Oper→AS G→Prop
 | [],s=>K s
 |o::rest,s=>if bP o.op=true then cx Γ.nt o.dst∧o.guard=none∧∃r hp',eW Γ o s r hp'∧rj Γ ops K rest (AS.put { s with hp:=hp' } o.dst r)
  else ∃x,Yields Γ ops o s x∧rj Γ ops K rest (s.put o.dst x)
theorem rj.any {Q:AS G→Prop} {l0:List Oper} (hd:uw l0=true):∀(l:List Oper) (k:Nat) (listed:Array Bool) (s:AS G),(∀(j:Nat),l[j]?=l0[k+j]?)→listed.size=l0.length→(∀(j:Nat),j<l0.length→listed.getD j true=decide (j<k))→k+l.length=l0.length→
  rj Γ l0.toArray Q l s→oA Γ l0.toArray Q l.length listed s:=by
 intro l
 induction l with
 |nil=>
  intro k listed s _ bC dO hk h
  refine⟨?_,h⟩
  apply List.eq_nil_iff_forall_not_mem.2
  intro j hj
  obtain⟨h1,o,ho,_⟩:=mem_ready.1 hj
  have ak:j<l0.length:=by have:=(Array.getElem?_eq_some_iff.1 ho).1;simpa using this
  rw[dO j ak] at h1
  simp at h1
  simp at hk
  omega
 |cons o l ih=>
  intro k listed s hl bC dO hk h
  have ao:l0[k]?=some o:=by have:=hl 0;simpa using this.symm
  have Am:l0.toArray[k]?=some o:=by simpa using ao
  have yf:k<l0.length:=(List.getElem?_eq_some_iff.1 ao).1
  have cO:=hd
  simp only[uw,List.all_eq_true,List.mem_range] at cO
  have mo:=cO k yf
  rw[ao] at mo
  simp only[Bool.and_eq_true,List.all_eq_true,List.mem_range] at mo
  obtain⟨M6,AR⟩:=mo
  have D3:listed.getD k true=false:=by rw[dO k yf];simp
  have jd:∀j,j<l0.length→listed.getD j false=decide (j<k):=by
   intro j hj
   have:=dO j hj
   simp only[Array.getD_eq_getD_getElem?,Array.getElem?_eq_getElem (show j<listed.size by omega),Option.getD_some] at this ⊢
   exact this
  have wW:k∈Region.ready .any l0.toArray listed:=by
   refine mem_ready.2 ⟨D3,o,Am,fun e he hb=>?_⟩
   have:=M6 e (by simpa using he)
   rw[hb] at this
   simp at this
   rw[jd e.on (by omega)];simp;exact this
  have cq:mR l0.toArray listed:=by
   intro q oq hq Ji e he hb
   have AU:q<l0.length:=by have:=(Array.getElem?_eq_some_iff.1 Ji).1;simpa using this
   rw[jd q AU] at hq
   have Hb:q<k:=by simpa using hq
   have h2:=cO q AU
   have D4:l0[q]?=some oq:=by simpa using Ji
   rw[D4] at h2
   simp only[Bool.and_eq_true,List.all_eq_true] at h2
   have h3:=h2.1 e (by simpa using he)
   rw[hb] at h3
   simp at h3
   rw[jd e.on (by omega)];simp;omega
  have lF:∀(j:Nat),(List.getD (kK l0 []) j 0).testBit k=true→Reach l0.toArray k j:=by
   intro j hj
   cases hm:(kK l0 [])[j]? with
   |none=>simp[List.getD,hm] at hj
   |some m=>
    simp only[List.getD,hm,Option.getD_some] at hj
    exact kL (ops:=l0.toArray) l0 [] (fun j=>by simp) (fun j m i hj=>by simp at hj) j m k hm hj
  have kM:∀(j:Nat) oj,l0.toArray[j]?=some oj→j≠k→listed.getD j true=false→Reach l0.toArray k j∨(bP o.op=false∧bP oj.op=false∧o.apart l0.toArray oj=true):=by
   intro j oj gL iP jA
   have rX:j<l0.length:=by have:=(Array.getElem?_eq_some_iff.1 gL).1;simpa using this
   rw[dO j rX] at jA
   have D5:l0[j]?=some oj:=by simpa using gL
   have h2:=AR j rX
   rw[D5] at h2
   simp only[Bool.or_eq_true,decide_eq_true_eq,Bool.and_eq_true,Bool.not_eq_true'] at h2
   rcases h2 with(h2|h2)|h2
   ·simp at jA;omega
   ·exact .inl (lF j h2)
   ·exact .inr ⟨h2.1.1,h2.1.2,h2.2⟩
  have bD:∀s',rj Γ l0.toArray Q l s'→oA Γ l0.toArray Q l.length (listed.setIfInBounds k true) s':=by
   intro s' h'
   refine ih (k+1) _ s' (fun j=>by have:=hl (j+1);simp only[List.getElem?_cons_succ] at this;rw[this];congr 1;omega) (by simpa using bC) (fun j hj=>?_) (by simp at hk;omega) h'
   by_cases iP:j=k
   ·subst iP
    have:j<listed.size:=by omega
    simp[this]
   ·rw[getD_set_ne true (Ne.symm iP),dO j hj]
    simp;omega
  simp only[rj] at h
  split at h
  ·rename_i he
   obtain⟨h1,h2,r,hp',h3,h4⟩:=h
   refine oA.fS cq (fun j oj gL iP jA=>?_) wW ?_
   ·rcases kM j oj gL iP jA with h5|h5
    ·exact h5
    ·rw[he] at h5;cases h5.1
   ·unfold oJ
    rw[Am]
    simp only[he,if_true]
    exact⟨h1,h2,r,hp',h3,bD _ h4⟩
  ·rename_i he
   obtain⟨x,h1,h2⟩:=h
   exact oA.first Am (by simpa using he) l.length listed s cq (fun j oj gL iP jA=>(kM j oj gL iP jA).imp id fun h=>⟨h.2.1,h.2.2⟩) wW h1 (bD _ h2)
end Go.Proofs.YtdcikhleahfknaaGreatDoor
