/- Texts of ours laid together for a claim: VcG. -/
import Derived.Test.YtjhanogfpkbamaaGreatDoorQ15
namespace Go.Proofs.YtjhanogfpkbamaaGreatDoor
open Go
set_option linter.unusedSimpArgs false
set_option linter.unusedVariables false
variable {G:Type} {Γ:Env G} {s s':AS G} {a:Act} {w w':World} {η:List Value} {hp:List af} {P:Program} {ops:Array Oper} {H:Oper→Bool}
def lP (H:Oper→Bool) (o:Oper):Bool:=cF o.op||H o
theorem jB {o:Oper} (h:lP H o=false):cF o.op=false∧H o=false:=by
 unfold lP at h;exact Bool.or_eq_false_iff.1 h
def vL (Γ:Env G) (ops:Array Oper) (o:Oper) (s:AS G) (A:Prop) (K:AS G→Prop):Prop:=
 (aM ops s o=some true∧A)∨(aM ops s o=some false∧dB Γ.nt o.dst∧K (s.put o.dst (.ah (.tuple #[]))))
theorem vL.mono {o:Oper} {A B:Prop} {K L:AS G→Prop} (h:vL Γ ops o s A K) (ha:A→B) (hk:∀s,K s→L s):vL Γ ops o s B L:=
 h.imp (fun h=>⟨h.1,ha h.2⟩) fun h=>⟨h.1,h.2.1,hk _ h.2.2⟩
def ld (Γ:Env G) (ops:Array Oper) (H:Oper→Bool) (i:Nat) (K:AS G→Prop) (s:AS G):Prop:=
 match ops[i]? with
 |none=>K s
 |some o=>if cF o.op=true then dB Γ.nt o.dst∧o.guard=none∧∃r hp',gR Γ o s r hp'∧K (AS.put { s with hp:=hp' } o.dst r)
  else if H o=true then vL Γ ops o s (bR Γ o s K) K
  else ∃x,Yields Γ ops o s x∧K (s.put o.dst x)
theorem ld.sound (aD:Γ.Ok) {i:Nat} {K:AS G→Prop} {Kc:Act→World→Prop} {Qc:Exit→Act→World→Prop} (h:ld Γ ops H i K s) (hr:Rel Γ s a w η) (hk:∀s' a' w' aU,K s'→Rel Γ s' a' w' aU→Kc a' w'):
  wpOpIn Γ.eV 0 Γ.P ops Qc i Kc a w:=by
 unfold ld at h
 unfold wpOpIn
 split at h
 ·rename_i ho;rw[ho];exact hk _ _ _ _ h hr
 ·rename_i o ho
  rw[ho]
  simp only
  split at h
  ·obtain⟨h1,h2,r,hp',h3,h4⟩:=h
   rw[if_pos (by simp[Region.wanted,h2])]
   exact(bR.oV h3 h1 h4) a w η Kc Qc hk hr
  ·split at h
   ·rcases h with⟨h2,h3⟩|⟨h2,h1,h3⟩
    ·rw[if_pos (eA hr h2)]
     exact h3 a w η Kc Qc hk hr
    ·rw[if_neg (by rw[eA hr h2];simp)]
     exact⟨fun _ _=>trivial,hk _ _ _ _ h3 (hr.put (cA h1) (.ah _))⟩
   ·obtain⟨x,⟨h1,h2⟩,h3⟩:=h
    rcases h2 with⟨h2,h4⟩|⟨h2,rfl⟩
    ·rw[if_pos (eA hr h2)]
     exact h4 a w η Kc Qc (hr.only _) fun v w' hs ec=>hk _ _ _ _ h3 ((hr.same aD hs).put (cA h1) ec)
    ·rw[if_neg (by rw[eA hr h2];simp)]
     exact⟨fun _ _=>trivial,hk _ _ _ _ h3 (hr.put (cA h1) (.ah _))⟩
def jv (Γ:Env G) (ops:Array Oper) (H:Oper→Bool) (Q:AS G→Prop):Nat→Array Bool→AS G→Prop
 |0,listed,s=>Region.ready .any ops listed=[]∧Q s
 |fuel+1,listed,s=>(Region.ready .any ops listed=[]→Q s)∧∀i∈Region.ready .any ops listed,ld Γ ops H i (jv Γ ops H Q fuel (listed.setIfInBounds i true)) s
theorem jv.sound (aD:Γ.Ok) {Q:AS G→Prop} {Qc:Exit→Act→World→Prop} (hq:∀s' a' w' aU,Q s'→Rel Γ s' a' w' aU→Qc .normal a' w'):∀(fuel:Nat) (listed:Array Bool) (s:AS G) (a:Act) (w:World) (η:List Value),jv Γ ops H Q fuel listed s→Rel Γ s a w η→
  wpAnyIn Γ.eV 0 Γ.P .any ops Qc fuel listed a w:=by
 intro fuel
 induction fuel with
 |zero=>intro listed s a w η h hr;exact⟨h.1,hq _ _ _ _ h.2 hr⟩
 |succ fuel ih=>intro listed s a w η h hr;exact⟨fun he=>hq _ _ _ _ (h.1 he) hr,fun i hi=>(h.2 i hi).sound aD hr fun s' a' w' aU h1 h2=>ih _ s' a' w' aU h1 h2⟩
theorem jv.first {Q:AS G→Prop} {i:Nat} {oi:Oper} {x:AV} (hi:ops[i]?=some oi) (bK:lP H oi=false):∀(fuel:Nat) (listed:Array Bool) (s:AS G),pY ops listed→
  (∀(j:Nat) oj,ops[j]?=some oj→j≠i→listed.getD j true=false→Reach ops i j∨(lP H oj=false∧oi.apart ops oj=true))→
  i∈Region.ready .any ops listed→Yields Γ ops oi s x→jv Γ ops H Q fuel (listed.setIfInBounds i true) (s.put oi.dst x)→jv Γ ops H Q (fuel+1) listed s:=by
 have own:∀{K:AS G→Prop} {s:AS G},Yields Γ ops oi s x→K (s.put oi.dst x)→ld Γ ops H i K s:=by
  intro K s hy hK
  unfold ld
  rw[hi]
  simp only[(jB bK).1,(jB bK).2,aij,if_false]
  exact⟨x,hy,hK⟩
 intro fuel
 induction fuel with
 |zero=>
  intro listed s _ _ hr hy H
  refine⟨fun h=>(by rw[h] at hr;cases hr),fun j hj=>?_⟩
  by_cases iE:j=i
  ·subst iE;exact own hy H
  ·have:=ready_mono hj iE
   rw[H.1] at this
   cases this
 |succ fuel ih=>
  intro listed s cZ cU hr hy H
  refine⟨fun h=>(by rw[h] at hr;cases hr),fun j hj=>?_⟩
  by_cases iE:j=i
  ·subst iE;exact own hy H
  ·have h1:=H.2 j (ready_mono hj iE)
   obtain⟨nP,oj,jN,jz⟩:=mem_ready.1 hj
   rcases cU j oj jN iE nP with h2|⟨IZ,VP⟩
   ·exact(iD cZ hr hj h2).elim
   obtain⟨p1,p2,p3⟩:=Oper.apart_spec VP
   unfold ld at h1 ⊢
   rw[jN] at h1 ⊢
   simp only[(jB IZ).1,(jB IZ).2,aij,if_false] at h1 ⊢
   obtain⟨y,VQ,hK⟩:=h1
   refine⟨y,VQ.pZ p1,ih (listed.setIfInBounds j true) (s.put oj.dst y) (cK cZ hj) (fun k ok hk Qy kE=>?_) (ready_mono hr (ajz iE)) (hy.put p3) ?_⟩
   ·refine cU k ok hk Qy ?_
    by_cases kQ:j=k
    ·subst kQ;exact nP
    ·rw[getD_set_ne true kQ] at kE;exact kE
   ·rw[ai9 _ _ iE,←put_comm p2]
    exact hK
theorem jv.iR {Q:AS G→Prop} {i:Nat} {fuel:Nat} {listed:Array Bool} (cZ:pY ops listed) (cU:∀(j:Nat) oj,ops[j]?=some oj→j≠i→listed.getD j true=false→Reach ops i j)
  (hr:i∈Region.ready .any ops listed) (H0:ld Γ ops H i (jv Γ ops H Q fuel (listed.setIfInBounds i true)) s):jv Γ ops H Q (fuel+1) listed s:=by
 refine⟨fun h=>(by rw[h] at hr;cases hr),fun j hj=>?_⟩
 by_cases iE:j=i
 ·subst iE;exact H0
 ·obtain⟨nP,oj,jN,_⟩:=mem_ready.1 hj
  exact(iD cZ hr hj (cU j oj jN iE nP)).elim
def xw (H:Oper→Bool) (l:List Oper):Bool:=
 let m:=mS l []
 (List.range l.length).all fun k=>match l[k]? with
  |none=>false
  |some ok=>ok.after.toList.all (fun e=>!Region.binds .any e||decide (e.on<k)) &&
    (List.range l.length).all fun j=>decide (j≤k)||(m.getD j 0).testBit k||match l[j]? with
     |none=>true
     |some oj=>!lP H ok&&!lP H oj&&ok.apart l.toArray oj
def kF (Γ:Env G) (ops:Array Oper) (H:Oper→Bool) (K:AS G→Prop):List Oper→AS G→Prop
 | [],s=>K s
 |o::rest,s=>if cF o.op=true then dB Γ.nt o.dst∧o.guard=none∧∃r hp',gR Γ o s r hp'∧kF Γ ops H K rest (AS.put { s with hp:=hp' } o.dst r)
  else if H o=true then vL Γ ops o s (bR Γ o s (kF Γ ops H K rest)) (kF Γ ops H K rest)
  else ∃x,Yields Γ ops o s x∧kF Γ ops H K rest (s.put o.dst x)
theorem kF.any {Q:AS G→Prop} {l0:List Oper} (hd:xw H l0=true):∀(l:List Oper) (k:Nat) (listed:Array Bool) (s:AS G),(∀(j:Nat),l[j]?=l0[k+j]?)→listed.size=l0.length→(∀(j:Nat),j<l0.length→listed.getD j true=decide (j<k))→k+l.length=l0.length→
  kF Γ l0.toArray H Q l s→jv Γ l0.toArray H Q l.length listed s:=by
 intro l
 induction l with
 |nil=>
  intro k listed s _ cJ eX hk h
  refine⟨?_,h⟩
  apply ajp.2
  intro j hj
  obtain⟨h1,o,ho,_⟩:=mem_ready.1 hj
  have ay:j<l0.length:=by have:=(ail.1 ho).1;simpa using this
  rw[eX j ay] at h1
  simp at h1
  simp at hk
  omega
 |cons o l ih=>
  intro k listed s hl cJ eX hk h
  have aD:l0[k]?=some o:=by have:=hl 0;simpa using this.symm
  have D8:l0.toArray[k]?=some o:=by simpa using aD
  have DE:k<l0.length:=(ahY.1 aD).1
  have eG:=hd
  simp only[xw,ah4,aja] at eG
  have oT:=eG k DE
  rw[aD] at oT
  simp only[ahZ,ah4,aja] at oT
  obtain⟨Qz,VR⟩:=oT
  have Hs:listed.getD k true=false:=by rw[eX k DE];simp
  have k7:∀j,j<l0.length→listed.getD j false=decide (j<k):=by
   intro j hj
   have:=eX j hj
   simp only[aiu,aiT (show j<listed.size by omega),aiP] at this ⊢
   exact this
  have qM:k∈Region.ready .any l0.toArray listed:=by
   refine mem_ready.2 ⟨Hs,o,D8,fun e he hb=>?_⟩
   have:=Qz e (by simpa using he)
   rw[hb] at this
   simp at this
   rw[k7 e.on (by omega)];simp;exact this
  have cZ:pY l0.toArray listed:=by
   intro q oq hq MS e he hb
   have D9:q<l0.length:=by have:=(ail.1 MS).1;simpa using this
   rw[k7 q D9] at hq
   have MT:q<k:=by simpa using hq
   have h2:=eG q D9
   have Ht:l0[q]?=some oq:=by simpa using MS
   rw[Ht] at h2
   simp only[ahZ,ah4] at h2
   have h3:=h2.1 e (by simpa using he)
   rw[hb] at h3
   simp at h3
   rw[k7 e.on (by omega)];simp;omega
  have nQ:∀(j:Nat),(List.getD (mS l0 []) j 0).testBit k=true→Reach l0.toArray k j:=by
   intro j hj
   cases hm:(mS l0 [])[j]? with
   |none=>simp[List.getD,hm] at hj
   |some m=>
    simp only[List.getD,hm,aiP] at hj
    exact mT (ops:=l0.toArray) l0 [] (fun j=>by simp) (fun j m i hj=>by simp at hj) j m k hm hj
  have mU:∀(j:Nat) oj,l0.toArray[j]?=some oj→j≠k→listed.getD j true=false→Reach l0.toArray k j∨(lP H o=false∧lP H oj=false∧o.apart l0.toArray oj=true):=by
   intro j oj jN kQ kE
   have s7:j<l0.length:=by have:=(ail.1 jN).1;simpa using this
   rw[eX j s7] at kE
   have Hu:l0[j]?=some oj:=by simpa using jN
   have h2:=VR j s7
   rw[Hu] at h2
   simp only[ai6,decide_eq_true_eq,ahZ,aiA] at h2
   rcases h2 with(h2|h2)|h2
   ·simp at kE;omega
   ·exact .inl (nQ j h2)
   ·exact .inr ⟨h2.1.1,h2.1.2,h2.2⟩
  have aV:∀s',kF Γ l0.toArray H Q l s'→jv Γ l0.toArray H Q l.length (listed.setIfInBounds k true) s':=by
   intro s' h'
   refine ih (k+1) _ s' (fun j=>by have:=hl (j+1);simp only[aiB] at this;rw[this];congr 1;omega) (by simpa using cJ) (fun j hj=>?_) (by simp at hk;omega) h'
   by_cases kQ:j=k
   ·subst kQ
    have:j<listed.size:=by omega
    simp[this]
   ·rw[getD_set_ne true (ajz kQ),eX j hj]
    simp;omega
  simp only[kF] at h
  split at h
  ·rename_i he
   obtain⟨h1,h2,r,hp',h3,h4⟩:=h
   have Q6:lP H o=true:=by simp[lP,he]
   refine jv.iR cZ (fun j oj jN kQ kE=>?_) qM ?_
   ·rcases mU j oj jN kQ kE with h5|h5
    ·exact h5
    ·rw[Q6] at h5;cases h5.1
   ·unfold ld
    rw[D8]
    simp only[he,if_true]
    exact⟨h1,h2,r,hp',h3,aV _ h4⟩
  ·rename_i he
   split at h
   ·rename_i hH
    have Q6:lP H o=true:=by simp[lP,hH]
    refine jv.iR cZ (fun j oj jN kQ kE=>?_) qM ?_
    ·rcases mU j oj jN kQ kE with h5|h5
     ·exact h5
     ·rw[Q6] at h5;cases h5.1
    ·unfold ld
     rw[D8]
     simp only[he,hH,aij,if_true,if_false]
     exact h.mono (fun h2 a w η Kc Qc hk hr=>h2 a w η Kc Qc (fun s' a' w' aU hs fZ=>hk s' a' w' aU (aV _ hs) fZ) hr) aV
   ·rename_i hH
    obtain⟨x,h1,h2⟩:=h
    exact jv.first D8 (by simp[lP,he,hH]) l.length listed s cZ (fun j oj jN kQ kE=>(mU j oj jN kQ kE).imp id fun h=>⟨h.2.1,h.2.2⟩) qM h1 (aV _ h2)
theorem eM.X2 (aD:Γ.Ok) (hm:Γ.P.follows .mixedOrders=true) {id:Nat} {l:List Oper} {Q:Exit→AS G→Prop} (hd:xw H l=true) (h:kF Γ l.toArray H (Q .normal) l s):eM Γ (.region id l.toArray true) Q s:=by
 intro a w η hr
 refine wpIn_region_any hm ?_
 have:=kF.any (Γ:=Γ) hd l 0 (Array.replicate l.length false) s (fun j=>by simp) (by simp) (fun j hj=>by simp[hj]) (by simp) h
 have h2:=jv.sound (Qc:=fun e a' w'=>∃s' aU,Q e s'∧Rel Γ s' a' w' aU) aD (fun s' a' w' aU h1 h2=>⟨s',aU,h1,h2⟩) _ _ _ a w.drew η this (hr.same aD (bX.drew w))
 simpa using h2
end Go.Proofs.YtjhanogfpkbamaaGreatDoor
