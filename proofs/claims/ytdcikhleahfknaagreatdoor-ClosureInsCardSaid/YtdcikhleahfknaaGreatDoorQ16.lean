/- Texts of ours laid together for a claim: VcG. -/
import Derived.Test.YtdcikhleahfknaaGreatDoorQ15
namespace Go.Proofs.YtdcikhleahfknaaGreatDoor
open Go
set_option linter.unusedSimpArgs false
set_option linter.unusedVariables false
variable {G:Type} {Γ:Env G} {s s':AS G} {a:Act} {w w':World} {η:List Value} {hp:List af} {P:Program} {ops:Array Oper} {H:Oper→Bool}
def jB (H:Oper→Bool) (o:Oper):Bool:=bP o.op||H o
theorem gD {o:Oper} (h:jB H o=false):bP o.op=false∧H o=false:=by
 unfold jB at h;exact Bool.or_eq_false_iff.1 h
def r4 (Γ:Env G) (ops:Array Oper) (o:Oper) (s:AS G) (A:Prop) (K:AS G→Prop):Prop:=
 (aG ops s o=some true∧A)∨(aG ops s o=some false∧cx Γ.nt o.dst∧K (s.put o.dst (.ae (.tuple #[]))))
theorem r4.mono {o:Oper} {A B:Prop} {K L:AS G→Prop} (h:r4 Γ ops o s A K) (ha:A→B) (hk:∀s,K s→L s):r4 Γ ops o s B L:=
 h.imp (fun h=>⟨h.1,ha h.2⟩) fun h=>⟨h.1,h.2.1,hk _ h.2.2⟩
def jg (Γ:Env G) (ops:Array Oper) (H:Oper→Bool) (i:Nat) (K:AS G→Prop) (s:AS G):Prop:=
 match ops[i]? with
 |none=>K s
 |some o=>if bP o.op=true then cx Γ.nt o.dst∧o.guard=none∧∃r hp',eW Γ o s r hp'∧K (AS.put { s with hp:=hp' } o.dst r)
  else if H o=true then r4 Γ ops o s (bn Γ o s K) K
  else ∃x,Yields Γ ops o s x∧K (s.put o.dst x)
theorem jg.sound (ao:Γ.Ok) {i:Nat} {K:AS G→Prop} {Kc:Act→World→Prop} {Qc:Exit→Act→World→Prop} (h:jg Γ ops H i K s) (hr:Rel Γ s a w η) (hk:∀s' a' w' aH,K s'→Rel Γ s' a' w' aH→Kc a' w'):
  wpOpIn Γ.dM 0 Γ.P ops Qc i Kc a w:=by
 unfold jg at h
 unfold wpOpIn
 split at h
 ·rename_i ho;rw[ho];exact hk _ _ _ _ h hr
 ·rename_i o ho
  rw[ho]
  simp only
  split at h
  ·obtain⟨h1,h2,r,hp',h3,h4⟩:=h
   rw[if_pos (by simp[Region.wanted,h2])]
   exact(bn.ya h3 h1 h4) a w η Kc Qc hk hr
  ·split at h
   ·rcases h with⟨h2,h3⟩|⟨h2,h1,h3⟩
    ·rw[if_pos (dq hr h2)]
     exact h3 a w η Kc Qc hk hr
    ·rw[if_neg (by rw[dq hr h2];simp)]
     exact⟨fun _ _=>trivial,hk _ _ _ _ h3 (hr.put (bN h1) (.ae _))⟩
   ·obtain⟨x,⟨h1,h2⟩,h3⟩:=h
    rcases h2 with⟨h2,h4⟩|⟨h2,rfl⟩
    ·rw[if_pos (dq hr h2)]
     exact h4 a w η Kc Qc (hr.only _) fun v w' hs cE=>hk _ _ _ _ h3 ((hr.same ao hs).put (bN h1) cE)
    ·rw[if_neg (by rw[dq hr h2];simp)]
     exact⟨fun _ _=>trivial,hk _ _ _ _ h3 (hr.put (bN h1) (.ae _))⟩
def gq (Γ:Env G) (ops:Array Oper) (H:Oper→Bool) (Q:AS G→Prop):Nat→Array Bool→AS G→Prop
 |0,listed,s=>Region.ready .any ops listed=[]∧Q s
 |fuel+1,listed,s=>(Region.ready .any ops listed=[]→Q s)∧∀i∈Region.ready .any ops listed,jg Γ ops H i (gq Γ ops H Q fuel (listed.setIfInBounds i true)) s
theorem gq.sound (ao:Γ.Ok) {Q:AS G→Prop} {Qc:Exit→Act→World→Prop} (hq:∀s' a' w' aH,Q s'→Rel Γ s' a' w' aH→Qc .normal a' w'):∀(fuel:Nat) (listed:Array Bool) (s:AS G) (a:Act) (w:World) (η:List Value),gq Γ ops H Q fuel listed s→Rel Γ s a w η→
  wpAnyIn Γ.dM 0 Γ.P .any ops Qc fuel listed a w:=by
 intro fuel
 induction fuel with
 |zero=>intro listed s a w η h hr;exact⟨h.1,hq _ _ _ _ h.2 hr⟩
 |succ fuel ih=>intro listed s a w η h hr;exact⟨fun he=>hq _ _ _ _ (h.1 he) hr,fun i hi=>(h.2 i hi).sound ao hr fun s' a' w' aH h1 h2=>ih _ s' a' w' aH h1 h2⟩
theorem gq.first {Q:AS G→Prop} {i:Nat} {oi:Oper} {x:AV} (hi:ops[i]?=some oi) (bh:jB H oi=false):∀(fuel:Nat) (listed:Array Bool) (s:AS G),mR ops listed→
  (∀(j:Nat) oj,ops[j]?=some oj→j≠i→listed.getD j true=false→Reach ops i j∨(jB H oj=false∧oi.apart ops oj=true))→
  i∈Region.ready .any ops listed→Yields Γ ops oi s x→gq Γ ops H Q fuel (listed.setIfInBounds i true) (s.put oi.dst x)→gq Γ ops H Q (fuel+1) listed s:=by
 have own:∀{K:AS G→Prop} {s:AS G},Yields Γ ops oi s x→K (s.put oi.dst x)→jg Γ ops H i K s:=by
  intro K s hy hK
  unfold jg
  rw[hi]
  simp only[(gD bh).1,(gD bh).2,Bool.false_eq_true,if_false]
  exact⟨x,hy,hK⟩
 intro fuel
 induction fuel with
 |zero=>
  intro listed s _ _ hr hy H
  refine⟨fun h=>(by rw[h] at hr;cases hr),fun j hj=>?_⟩
  by_cases fK:j=i
  ·subst fK;exact own hy H
  ·have:=ready_mono hj fK
   rw[H.1] at this
   cases this
 |succ fuel ih=>
  intro listed s cq cg hr hy H
  refine⟨fun h=>(by rw[h] at hr;cases hr),fun j hj=>?_⟩
  by_cases fK:j=i
  ·subst fK;exact own hy H
  ·have h1:=H.2 j (ready_mono hj fK)
   obtain⟨lE,oj,gL,mS⟩:=mem_ready.1 hj
   rcases cg j oj gL fK lE with h2|⟨FG,RL⟩
   ·exact(fD cq hr hj h2).elim
   obtain⟨p1,p2,p3⟩:=Oper.apart_spec RL
   unfold jg at h1 ⊢
   rw[gL] at h1 ⊢
   simp only[(gD FG).1,(gD FG).2,Bool.false_eq_true,if_false] at h1 ⊢
   obtain⟨y,RM,hK⟩:=h1
   refine⟨y,RM.mU p1,ih (listed.setIfInBounds j true) (s.put oj.dst y) (bT cq hj) (fun k ok hk DB jA=>?_) (ready_mono hr (Ne.symm fK)) (hy.put p3) ?_⟩
   ·refine cg k ok hk DB ?_
    by_cases iP:j=k
    ·subst iP;exact lE
    ·rw[getD_set_ne true iP] at jA;exact jA
   ·rw[Array.setIfInBounds_comm _ _ fK,←put_comm p2]
    exact hK
theorem gq.fS {Q:AS G→Prop} {i:Nat} {fuel:Nat} {listed:Array Bool} (cq:mR ops listed) (cg:∀(j:Nat) oj,ops[j]?=some oj→j≠i→listed.getD j true=false→Reach ops i j)
  (hr:i∈Region.ready .any ops listed) (H0:jg Γ ops H i (gq Γ ops H Q fuel (listed.setIfInBounds i true)) s):gq Γ ops H Q (fuel+1) listed s:=by
 refine⟨fun h=>(by rw[h] at hr;cases hr),fun j hj=>?_⟩
 by_cases fK:j=i
 ·subst fK;exact H0
 ·obtain⟨lE,oj,gL,_⟩:=mem_ready.1 hj
  exact(fD cq hr hj (cg j oj gL fK lE)).elim
def tD (H:Oper→Bool) (l:List Oper):Bool:=
 let m:=kK l []
 (List.range l.length).all fun k=>match l[k]? with
  |none=>false
  |some ok=>ok.after.toList.all (fun e=>!Region.binds .any e||decide (e.on<k)) &&
    (List.range l.length).all fun j=>decide (j≤k)||(m.getD j 0).testBit k||match l[j]? with
     |none=>true
     |some oj=>!jB H ok&&!jB H oj&&ok.apart l.toArray oj
def iD (Γ:Env G) (ops:Array Oper) (H:Oper→Bool) (K:AS G→Prop):List Oper→AS G→Prop
 | [],s=>K s
 |o::rest,s=>if bP o.op=true then cx Γ.nt o.dst∧o.guard=none∧∃r hp',eW Γ o s r hp'∧iD Γ ops H K rest (AS.put { s with hp:=hp' } o.dst r)
  else if H o=true then r4 Γ ops o s (bn Γ o s (iD Γ ops H K rest)) (iD Γ ops H K rest)
  else ∃x,Yields Γ ops o s x∧iD Γ ops H K rest (s.put o.dst x)
theorem iD.any {Q:AS G→Prop} {l0:List Oper} (hd:tD H l0=true):∀(l:List Oper) (k:Nat) (listed:Array Bool) (s:AS G),(∀(j:Nat),l[j]?=l0[k+j]?)→listed.size=l0.length→(∀(j:Nat),j<l0.length→listed.getD j true=decide (j<k))→k+l.length=l0.length→
  iD Γ l0.toArray H Q l s→gq Γ l0.toArray H Q l.length listed s:=by
 intro l
 induction l with
 |nil=>
  intro k listed s _ bC dO hk h
  refine⟨?_,h⟩
  apply List.eq_nil_iff_forall_not_mem.2
  intro j hj
  obtain⟨h1,o,ho,_⟩:=mem_ready.1 hj
  have ak:j<l0.length:=by have:=(Array.getElem?_eq_some_iff.1 ho).1;simpa using this
  rw[dO j ak] at h1
  simp at h1
  simp at hk
  omega
 |cons o l ih=>
  intro k listed s hl bC dO hk h
  have ao:l0[k]?=some o:=by have:=hl 0;simpa using this.symm
  have Am:l0.toArray[k]?=some o:=by simpa using ao
  have yf:k<l0.length:=(List.getElem?_eq_some_iff.1 ao).1
  have cO:=hd
  simp only[tD,List.all_eq_true,List.mem_range] at cO
  have mo:=cO k yf
  rw[ao] at mo
  simp only[Bool.and_eq_true,List.all_eq_true,List.mem_range] at mo
  obtain⟨M6,AR⟩:=mo
  have D3:listed.getD k true=false:=by rw[dO k yf];simp
  have jd:∀j,j<l0.length→listed.getD j false=decide (j<k):=by
   intro j hj
   have:=dO j hj
   simp only[Array.getD_eq_getD_getElem?,Array.getElem?_eq_getElem (show j<listed.size by omega),Option.getD_some] at this ⊢
   exact this
  have wW:k∈Region.ready .any l0.toArray listed:=by
   refine mem_ready.2 ⟨D3,o,Am,fun e he hb=>?_⟩
   have:=M6 e (by simpa using he)
   rw[hb] at this
   simp at this
   rw[jd e.on (by omega)];simp;exact this
  have cq:mR l0.toArray listed:=by
   intro q oq hq Ji e he hb
   have AU:q<l0.length:=by have:=(Array.getElem?_eq_some_iff.1 Ji).1;simpa using this
   rw[jd q AU] at hq
   have Hb:q<k:=by simpa using hq
   have h2:=cO q AU
   have D4:l0[q]?=some oq:=by simpa using Ji
   rw[D4] at h2
   simp only[Bool.and_eq_true,List.all_eq_true] at h2
   have h3:=h2.1 e (by simpa using he)
   rw[hb] at h3
   simp at h3
   rw[jd e.on (by omega)];simp;omega
  have lF:∀(j:Nat),(List.getD (kK l0 []) j 0).testBit k=true→Reach l0.toArray k j:=by
   intro j hj
   cases hm:(kK l0 [])[j]? with
   |none=>simp[List.getD,hm] at hj
   |some m=>
    simp only[List.getD,hm,Option.getD_some] at hj
    exact kL (ops:=l0.toArray) l0 [] (fun j=>by simp) (fun j m i hj=>by simp at hj) j m k hm hj
  have kM:∀(j:Nat) oj,l0.toArray[j]?=some oj→j≠k→listed.getD j true=false→Reach l0.toArray k j∨(jB H o=false∧jB H oj=false∧o.apart l0.toArray oj=true):=by
   intro j oj gL iP jA
   have rX:j<l0.length:=by have:=(Array.getElem?_eq_some_iff.1 gL).1;simpa using this
   rw[dO j rX] at jA
   have D5:l0[j]?=some oj:=by simpa using gL
   have h2:=AR j rX
   rw[D5] at h2
   simp only[Bool.or_eq_true,decide_eq_true_eq,Bool.and_eq_true,Bool.not_eq_true'] at h2
   rcases h2 with(h2|h2)|h2
   ·simp at jA;omega
   ·exact .inl (lF j h2)
   ·exact .inr ⟨h2.1.1,h2.1.2,h2.2⟩
  have bD:∀s',iD Γ l0.toArray H Q l s'→gq Γ l0.toArray H Q l.length (listed.setIfInBounds k true) s':=by
   intro s' h'
   refine ih (k+1) _ s' (fun j=>by have:=hl (j+1);simp only[List.getElem?_cons_succ] at this;rw[this];congr 1;omega) (by simpa using bC) (fun j hj=>?_) (by simp at hk;omega) h'
   by_cases iP:j=k
   ·subst iP
    have:j<listed.size:=by omega
    simp[this]
   ·rw[getD_set_ne true (Ne.symm iP),dO j hj]
    simp;omega
  simp only[iD] at h
  split at h
  ·rename_i he
   obtain⟨h1,h2,r,hp',h3,h4⟩:=h
   have NA:jB H o=true:=by simp[jB,he]
   refine gq.fS cq (fun j oj gL iP jA=>?_) wW ?_
   ·rcases kM j oj gL iP jA with h5|h5
    ·exact h5
    ·rw[NA] at h5;cases h5.1
   ·unfold jg
    rw[Am]
    simp only[he,if_true]
    exact⟨h1,h2,r,hp',h3,bD _ h4⟩
  ·rename_i he
   split at h
   ·rename_i hH
    have NA:jB H o=true:=by simp[jB,hH]
    refine gq.fS cq (fun j oj gL iP jA=>?_) wW ?_
    ·rcases kM j oj gL iP jA with h5|h5
     ·exact h5
     ·rw[NA] at h5;cases h5.1
    ·unfold jg
     rw[Am]
     simp only[he,hH,Bool.false_eq_true,if_true,if_false]
     exact h.mono (fun h2 a w η Kc Qc hk hr=>h2 a w η Kc Qc (fun s' a' w' aH hs ec=>hk s' a' w' aH (bD _ hs) ec) hr) bD
   ·rename_i hH
    obtain⟨x,h1,h2⟩:=h
    exact gq.first Am (by simp[jB,he,hH]) l.length listed s cq (fun j oj gL iP jA=>(kM j oj gL iP jA).imp id fun h=>⟨h.2.1,h.2.2⟩) wW h1 (bD _ h2)
theorem dG.Ud (ao:Γ.Ok) (hm:Γ.P.follows .mixedOrders=true) {id:Nat} {l:List Oper} {Q:Exit→AS G→Prop} (hd:tD H l=true) (h:iD Γ l.toArray H (Q .normal) l s):dG Γ (.region id l.toArray true) Q s:=by
 intro a w η hr
 refine wpIn_region_any hm ?_
 have:=iD.any (Γ:=Γ) hd l 0 (Array.replicate l.length false) s (fun j=>by simp) (by simp) (fun j hj=>by simp[hj]) (by simp) h
 have h2:=gq.sound (Qc:=fun e a' w'=>∃s' aH,Q e s'∧Rel Γ s' a' w' aH) ao (fun s' a' w' aH h1 h2=>⟨s',aH,h1,h2⟩) _ _ _ a w.drew η this (hr.same ao (bu.drew w))
 simpa using h2
end Go.Proofs.YtdcikhleahfknaaGreatDoor
