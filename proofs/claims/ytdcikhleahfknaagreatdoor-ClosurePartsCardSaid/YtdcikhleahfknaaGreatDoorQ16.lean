/- Texts of ours laid together for a claim: VcG. -/
import Derived.Test.YtdcikhleahfknaaGreatDoorQ15
namespace Go.Proofs.YtdcikhleahfknaaGreatDoor
open Go
set_option linter.unusedSimpArgs false
set_option linter.unusedVariables false
variable {G:Type} {Γ:Env G} {s s':AS G} {a:Act} {w w':World} {η:List Value} {hp:List af} {P:Program} {ops:Array Oper} {H:Oper→Bool}
def iV (H:Oper→Bool) (o:Oper):Bool:=bL o.op||H o
theorem ga {o:Oper} (h:iV H o=false):bL o.op=false∧H o=false:=by
 unfold iV at h;exact Bool.or_eq_false_iff.1 h
def rz (Γ:Env G) (ops:Array Oper) (o:Oper) (s:AS G) (A:Prop) (K:AS G→Prop):Prop:=
 (aD ops s o=some true∧A)∨(aD ops s o=some false∧cw Γ.nt o.dst∧K (s.put o.dst (.ae (.tuple #[]))))
theorem rz.mono {o:Oper} {A B:Prop} {K L:AS G→Prop} (h:rz Γ ops o s A K) (ha:A→B) (hk:∀s,K s→L s):rz Γ ops o s B L:=
 h.imp (fun h=>⟨h.1,ha h.2⟩) fun h=>⟨h.1,h.2.1,hk _ h.2.2⟩
def iF (Γ:Env G) (ops:Array Oper) (H:Oper→Bool) (i:Nat) (K:AS G→Prop) (s:AS G):Prop:=
 match ops[i]? with
 |none=>K s
 |some o=>if bL o.op=true then cw Γ.nt o.dst∧o.guard=none∧∃r hp',eA Γ o s r hp'∧K (AS.put { s with hp:=hp' } o.dst r)
  else if H o=true then rz Γ ops o s (bn Γ o s K) K
  else ∃x,Yields Γ ops o s x∧K (s.put o.dst x)
theorem iF.sound (aq:Γ.Ok) {i:Nat} {K:AS G→Prop} {Kc:Act→World→Prop} {Qc:Exit→Act→World→Prop} (h:iF Γ ops H i K s) (hr:Rel Γ s a w η) (hk:∀s' a' w' aM,K s'→Rel Γ s' a' w' aM→Kc a' w'):
  wpOpIn Γ.dA 0 Γ.P ops Qc i Kc a w:=by
 unfold iF at h
 unfold wpOpIn
 split at h
 ·rename_i ho;rw[ho];exact hk _ _ _ _ h hr
 ·rename_i o ho
  rw[ho]
  simp only
  split at h
  ·obtain⟨h1,h2,r,hp',h3,h4⟩:=h
   rw[if_pos (by simp[Region.wanted,h2])]
   exact(bn.zB h3 h1 h4) a w η Kc Qc hk hr
  ·split at h
   ·rcases h with⟨h2,h3⟩|⟨h2,h1,h3⟩
    ·rw[if_pos (cU hr h2)]
     exact h3 a w η Kc Qc hk hr
    ·rw[if_neg (by rw[cU hr h2];simp)]
     exact⟨fun _ _=>trivial,hk _ _ _ _ h3 (hr.put (bG h1) (.ae _))⟩
   ·obtain⟨x,⟨h1,h2⟩,h3⟩:=h
    rcases h2 with⟨h2,h4⟩|⟨h2,rfl⟩
    ·rw[if_pos (cU hr h2)]
     exact h4 a w η Kc Qc (hr.only _) fun v w' hs cD=>hk _ _ _ _ h3 ((hr.same aq hs).put (bG h1) cD)
    ·rw[if_neg (by rw[cU hr h2];simp)]
     exact⟨fun _ _=>trivial,hk _ _ _ _ h3 (hr.put (bG h1) (.ae _))⟩
def fT (Γ:Env G) (ops:Array Oper) (H:Oper→Bool) (Q:AS G→Prop):Nat→Array Bool→AS G→Prop
 |0,listed,s=>Region.ready .any ops listed=[]∧Q s
 |fuel+1,listed,s=>(Region.ready .any ops listed=[]→Q s)∧∀i∈Region.ready .any ops listed,iF Γ ops H i (fT Γ ops H Q fuel (listed.setIfInBounds i true)) s
theorem fT.sound (aq:Γ.Ok) {Q:AS G→Prop} {Qc:Exit→Act→World→Prop} (hq:∀s' a' w' aM,Q s'→Rel Γ s' a' w' aM→Qc .normal a' w'):∀(fuel:Nat) (listed:Array Bool) (s:AS G) (a:Act) (w:World) (η:List Value),fT Γ ops H Q fuel listed s→Rel Γ s a w η→
  wpAnyIn Γ.dA 0 Γ.P .any ops Qc fuel listed a w:=by
 intro fuel
 induction fuel with
 |zero=>intro listed s a w η h hr;exact⟨h.1,hq _ _ _ _ h.2 hr⟩
 |succ fuel ih=>intro listed s a w η h hr;exact⟨fun he=>hq _ _ _ _ (h.1 he) hr,fun i hi=>(h.2 i hi).sound aq hr fun s' a' w' aM h1 h2=>ih _ s' a' w' aM h1 h2⟩
theorem fT.first {Q:AS G→Prop} {i:Nat} {oi:Oper} {x:AV} (hi:ops[i]?=some oi) (bj:iV H oi=false):∀(fuel:Nat) (listed:Array Bool) (s:AS G),mj ops listed→
  (∀(j:Nat) oj,ops[j]?=some oj→j≠i→listed.getD j true=false→Reach ops i j∨(iV H oj=false∧oi.apart ops oj=true))→
  i∈Region.ready .any ops listed→Yields Γ ops oi s x→fT Γ ops H Q fuel (listed.setIfInBounds i true) (s.put oi.dst x)→fT Γ ops H Q (fuel+1) listed s:=by
 have own:∀{K:AS G→Prop} {s:AS G},Yields Γ ops oi s x→K (s.put oi.dst x)→iF Γ ops H i K s:=by
  intro K s hy hK
  unfold iF
  rw[hi]
  simp only[(ga bj).1,(ga bj).2,Bool.false_eq_true,if_false]
  exact⟨x,hy,hK⟩
 intro fuel
 induction fuel with
 |zero=>
  intro listed s _ _ hr hy H
  refine⟨fun h=>(by rw[h] at hr;cases hr),fun j hj=>?_⟩
  by_cases fl:j=i
  ·subst fl;exact own hy H
  ·have:=ready_mono hj fl
   rw[H.1] at this
   cases this
 |succ fuel ih=>
  intro listed s cr cf hr hy H
  refine⟨fun h=>(by rw[h] at hr;cases hr),fun j hj=>?_⟩
  by_cases fl:j=i
  ·subst fl;exact own hy H
  ·have h1:=H.2 j (ready_mono hj fl)
   obtain⟨kX,oj,gp,qH⟩:=mem_ready.1 hj
   rcases cf j oj gp fl kX with h2|⟨Es,P4⟩
   ·exact(fc cr hr hj h2).elim
   obtain⟨p1,p2,p3⟩:=Oper.apart_spec P4
   unfold iF at h1 ⊢
   rw[gp] at h1 ⊢
   simp only[(ga Es).1,(ga Es).2,Bool.false_eq_true,if_false] at h1 ⊢
   obtain⟨y,P5,hK⟩:=h1
   refine⟨y,P5.ml p1,ih (listed.setIfInBounds j true) (s.put oj.dst y) (bR cr hj) (fun k ok hk Ci iU=>?_) (ready_mono hr (Ne.symm fl)) (hy.put p3) ?_⟩
   ·refine cf k ok hk Ci ?_
    by_cases ie:j=k
    ·subst ie;exact kX
    ·rw[getD_set_ne true ie] at iU;exact iU
   ·rw[Array.setIfInBounds_comm _ _ fl,←put_comm p2]
    exact hK
theorem fT.fA {Q:AS G→Prop} {i:Nat} {fuel:Nat} {listed:Array Bool} (cr:mj ops listed) (cf:∀(j:Nat) oj,ops[j]?=some oj→j≠i→listed.getD j true=false→Reach ops i j)
  (hr:i∈Region.ready .any ops listed) (H0:iF Γ ops H i (fT Γ ops H Q fuel (listed.setIfInBounds i true)) s):fT Γ ops H Q (fuel+1) listed s:=by
 refine⟨fun h=>(by rw[h] at hr;cases hr),fun j hj=>?_⟩
 by_cases fl:j=i
 ·subst fl;exact H0
 ·obtain⟨kX,oj,gp,_⟩:=mem_ready.1 hj
  exact(fc cr hr hj (cf j oj gp fl kX)).elim
def sL (H:Oper→Bool) (l:List Oper):Bool:=
 let m:=kb l []
 (List.range l.length).all fun k=>match l[k]? with
  |none=>false
  |some ok=>ok.after.toList.all (fun e=>!Region.binds .any e||decide (e.on<k)) &&
    (List.range l.length).all fun j=>decide (j≤k)||(m.getD j 0).testBit k||match l[j]? with
     |none=>true
     |some oj=>!iV H ok&&!iV H oj&&ok.apart l.toArray oj
def gU (Γ:Env G) (ops:Array Oper) (H:Oper→Bool) (K:AS G→Prop):List Oper→AS G→Prop
 | [],s=>K s
 |o::rest,s=>if bL o.op=true then cw Γ.nt o.dst∧o.guard=none∧∃r hp',eA Γ o s r hp'∧gU Γ ops H K rest (AS.put { s with hp:=hp' } o.dst r)
  else if H o=true then rz Γ ops o s (bn Γ o s (gU Γ ops H K rest)) (gU Γ ops H K rest)
  else ∃x,Yields Γ ops o s x∧gU Γ ops H K rest (s.put o.dst x)
theorem gU.any {Q:AS G→Prop} {l0:List Oper} (hd:sL H l0=true):∀(l:List Oper) (k:Nat) (listed:Array Bool) (s:AS G),(∀(j:Nat),l[j]?=l0[k+j]?)→listed.size=l0.length→(∀(j:Nat),j<l0.length→listed.getD j true=decide (j<k))→k+l.length=l0.length→
  gU Γ l0.toArray H Q l s→fT Γ l0.toArray H Q l.length listed s:=by
 intro l
 induction l with
 |nil=>
  intro k listed s _ bE dC hk h
  refine⟨?_,h⟩
  apply List.eq_nil_iff_forall_not_mem.2
  intro j hj
  obtain⟨h1,o,ho,_⟩:=mem_ready.1 hj
  have al:j<l0.length:=by have:=(Array.getElem?_eq_some_iff.1 ho).1;simpa using this
  rw[dC j al] at h1
  simp at h1
  simp at hk
  omega
 |cons o l ih=>
  intro k listed s hl bE dC hk h
  have aq:l0[k]?=some o:=by have:=hl 0;simpa using this.symm
  have y9:l0.toArray[k]?=some o:=by simpa using aq
  have vZ:k<l0.length:=(List.getElem?_eq_some_iff.1 aq).1
  have cM:=hd
  simp only[sL,List.all_eq_true,List.mem_range] at cM
  have lJ:=cM k vZ
  rw[aq] at lJ
  simp only[Bool.and_eq_true,List.all_eq_true,List.mem_range] at lJ
  obtain⟨Ly,CH⟩:=lJ
  have CI:listed.getD k true=false:=by rw[dC k vZ];simp
  have iC:∀j,j<l0.length→listed.getD j false=decide (j<k):=by
   intro j hj
   have:=dC j hj
   simp only[Array.getD_eq_getD_getElem?,Array.getElem?_eq_getElem (show j<listed.size by omega),Option.getD_some] at this ⊢
   exact this
  have vY:k∈Region.ready .any l0.toArray listed:=by
   refine mem_ready.2 ⟨CI,o,y9,fun e he hb=>?_⟩
   have:=Ly e (by simpa using he)
   rw[hb] at this
   simp at this
   rw[iC e.on (by omega)];simp;exact this
  have cr:mj l0.toArray listed:=by
   intro q oq hq HF e he hb
   have zF:q<l0.length:=by have:=(Array.getElem?_eq_some_iff.1 HF).1;simpa using this
   rw[iC q zF] at hq
   have HG:q<k:=by simpa using hq
   have h2:=cM q zF
   have CJ:l0[q]?=some oq:=by simpa using HF
   rw[CJ] at h2
   simp only[Bool.and_eq_true,List.all_eq_true] at h2
   have h3:=h2.1 e (by simpa using he)
   rw[hb] at h3
   simp at h3
   rw[iC e.on (by omega)];simp;omega
  have kY:∀(j:Nat),(List.getD (kb l0 []) j 0).testBit k=true→Reach l0.toArray k j:=by
   intro j hj
   cases hm:(kb l0 [])[j]? with
   |none=>simp[List.getD,hm] at hj
   |some m=>
    simp only[List.getD,hm,Option.getD_some] at hj
    exact kc (ops:=l0.toArray) l0 [] (fun j=>by simp) (fun j m i hj=>by simp at hj) j m k hm hj
  have kf:∀(j:Nat) oj,l0.toArray[j]?=some oj→j≠k→listed.getD j true=false→Reach l0.toArray k j∨(iV H o=false∧iV H oj=false∧o.apart l0.toArray oj=true):=by
   intro j oj gp ie iU
   have rq:j<l0.length:=by have:=(Array.getElem?_eq_some_iff.1 gp).1;simpa using this
   rw[dC j rq] at iU
   have CK:l0[j]?=some oj:=by simpa using gp
   have h2:=CH j rq
   rw[CK] at h2
   simp only[Bool.or_eq_true,decide_eq_true_eq,Bool.and_eq_true,Bool.not_eq_true'] at h2
   rcases h2 with(h2|h2)|h2
   ·simp at iU;omega
   ·exact .inl (kY j h2)
   ·exact .inr ⟨h2.1.1,h2.1.2,h2.2⟩
  have bC:∀s',gU Γ l0.toArray H Q l s'→fT Γ l0.toArray H Q l.length (listed.setIfInBounds k true) s':=by
   intro s' h'
   refine ih (k+1) _ s' (fun j=>by have:=hl (j+1);simp only[List.getElem?_cons_succ] at this;rw[this];congr 1;omega) (by simpa using bE) (fun j hj=>?_) (by simp at hk;omega) h'
   by_cases ie:j=k
   ·subst ie
    have:j<listed.size:=by omega
    simp[this]
   ·rw[getD_set_ne true (Ne.symm ie),dC j hj]
    simp;omega
  simp only[gU] at h
  split at h
  ·rename_i he
   obtain⟨h1,h2,r,hp',h3,h4⟩:=h
   have L3:iV H o=true:=by simp[iV,he]
   refine fT.fA cr (fun j oj gp ie iU=>?_) vY ?_
   ·rcases kf j oj gp ie iU with h5|h5
    ·exact h5
    ·rw[L3] at h5;cases h5.1
   ·unfold iF
    rw[y9]
    simp only[he,if_true]
    exact⟨h1,h2,r,hp',h3,bC _ h4⟩
  ·rename_i he
   split at h
   ·rename_i hH
    have L3:iV H o=true:=by simp[iV,hH]
    refine fT.fA cr (fun j oj gp ie iU=>?_) vY ?_
    ·rcases kf j oj gp ie iU with h5|h5
     ·exact h5
     ·rw[L3] at h5;cases h5.1
    ·unfold iF
     rw[y9]
     simp only[he,hH,Bool.false_eq_true,if_true,if_false]
     exact h.mono (fun h2 a w η Kc Qc hk hr=>h2 a w η Kc Qc (fun s' a' w' aM hs dM=>hk s' a' w' aM (bC _ hs) dM) hr) bC
   ·rename_i hH
    obtain⟨x,h1,h2⟩:=h
    exact fT.first y9 (by simp[iV,he,hH]) l.length listed s cr (fun j oj gp ie iU=>(kf j oj gp ie iU).imp id fun h=>⟨h.2.1,h.2.2⟩) vY h1 (bC _ h2)
theorem dq.Su (aq:Γ.Ok) (hm:Γ.P.follows .mixedOrders=true) {id:Nat} {l:List Oper} {Q:Exit→AS G→Prop} (hd:sL H l=true) (h:gU Γ l.toArray H (Q .normal) l s):dq Γ (.region id l.toArray true) Q s:=by
 intro a w η hr
 refine wpIn_region_any hm ?_
 have:=gU.any (Γ:=Γ) hd l 0 (Array.replicate l.length false) s (fun j=>by simp) (by simp) (fun j hj=>by simp[hj]) (by simp) h
 have h2:=fT.sound (Qc:=fun e a' w'=>∃s' aM,Q e s'∧Rel Γ s' a' w' aM) aq (fun s' a' w' aM h1 h2=>⟨s',aM,h1,h2⟩) _ _ _ a w.drew η this (hr.same aq (bt.drew w))
 simpa using h2
end Go.Proofs.YtdcikhleahfknaaGreatDoor
