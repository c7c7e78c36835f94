/- Texts of ours laid together for a claim: VcH. -/
import Derived.Test.YtjhanogfpkbamaaGreatDoorQ16
namespace Go.Proofs.YtjhanogfpkbamaaGreatDoor
open Go
set_option linter.unusedSimpArgs false
set_option linter.unusedVariables false
variable {G:Type} {Γ:Env G} {s s':AS G} {a:Act} {w w':World} {η:List Value} {hp hp':List af} {P:Program} {ops:Array Oper} {H:Oper→Bool}
def Nd (Γ:Env G) (ops:Array Oper) (o:Oper) (l:List Nat) (s:AS G) (K:AS G→Prop):Prop:=
 ∃N:AV→List af→Prop,(∀s':AS G,(∀t,t∈o.looksAt ops→s'.tmps t=s.tmps t)→s'.hp=s.hp→∀K':AS G→Prop,(∀r hp',N r hp'→K' (AS.put { s' with hp:=hp' } o.dst r))→bR Γ o s' K')∧
  ∀r hp',N r hp'→mW l s.hp hp'∧K (AS.put { s with hp:=hp' } o.dst r)
def HC (Γ:Env G) (ops:Array Oper) (X:List (Option (List Nat))) (i:Nat) (o:Oper) (s:AS G) (K:AS G→Prop):Prop:=
 match X.getD i none with
 |none=>bR Γ o s K
 |some l=>Nd Γ ops o l s K
theorem HC.call {X:List (Option (List Nat))} {i:Nat} {o:Oper} {K:AS G→Prop} (h:HC Γ ops X i o s K):bR Γ o s K:=by
 unfold HC at h
 split at h
 ·exact h
 ·obtain⟨N,h1,h2⟩:=h
  exact h1 s (fun _ _=>rfl) rfl K fun r hp' hn=>(h2 r hp' hn).2
def kq (Γ:Env G) (ops:Array Oper) (H:Oper→Bool) (C X:List (Option (List Nat))) (i:Nat) (K:AS G→Prop) (s:AS G):Prop:=
 match ops[i]? with
 |none=>K s
 |some o=>if cF o.op=true then dB Γ.nt o.dst∧o.guard=none∧∃r hp',rP Γ ops o s r hp'∧k9 C i s.hp hp'∧K (AS.put { s with hp:=hp' } o.dst r)
  else if H o=true then vL Γ ops o s (HC Γ ops X i o s K) K
  else ∃x,kM Γ ops o s x (fun hp hp'=>hp'=hp)∧K (s.put o.dst x)
def gK (Γ:Env G) (ops:Array Oper) (H:Oper→Bool) (C X:List (Option (List Nat))) (Q:AS G→Prop):Nat→Array Bool→AS G→Prop
 |0,listed,s=>Region.ready .any ops listed=[]∧Q s
 |fuel+1,listed,s=>(Region.ready .any ops listed=[]→Q s)∧∀i∈Region.ready .any ops listed,kq Γ ops H C X i (gK Γ ops H C X Q fuel (listed.setIfInBounds i true)) s
theorem gK.any (aD:Γ.Ok) {C X:List (Option (List Nat))} {Q:AS G→Prop}:∀(fuel:Nat) (listed:Array Bool) (s:AS G),gK Γ ops H C X Q fuel listed s→jv Γ ops H Q fuel listed s:=by
 intro fuel
 induction fuel with
 |zero=>intro listed s h;exact h
 |succ fuel ih=>
  intro listed s h
  refine⟨h.1,fun i hi=>?_⟩
  have h1:=h.2 i hi
  unfold kq at h1
  unfold ld
  split at h1
  ·rename_i ho;rw[ho];exact ih _ _ h1
  ·rename_i o ho
   rw[ho]
   simp only
   split at h1
   ·rename_i he
    rw[if_pos he]
    obtain⟨g1,g2,r,hp',g3,_,g4⟩:=h1
    exact⟨g1,g2,r,hp',g3.run aD,ih _ _ g4⟩
   ·rename_i he
    rw[if_neg he]
    split at h1
    ·rename_i hH
     rw[if_pos hH]
     exact h1.mono (fun h2 a w η Kc Qc hk hr=>h2.call a w η Kc Qc (fun s' a' w' aU hs fZ=>hk s' a' w' aU (ih _ _ hs) fZ) hr) (ih _)
    rename_i hH
    rw[if_neg hH]
    obtain⟨x,g1,g2⟩:=h1
    exact⟨x,kM.M5 (R:=fun hp hp'=>hp'=hp) aD rfl g1,ih _ _ g2⟩
theorem gK.first {C X:List (Option (List Nat))} {Q:AS G→Prop} {i:Nat} {oi:Oper} {x:AV} {R:List af→List af→Prop} (Xr:∀iM qI pM,R iM qI→R qI pM→R iM pM) (XU:∀hp,R hp hp) (hi:ops[i]?=some oi) (bK:lP H oi=false):
  ∀(fuel:Nat) (listed:Array Bool) (s:AS G),pY ops listed→
  (∀(j:Nat) oj,ops[j]?=some oj→j≠i→listed.getD j true=false→Reach ops i j∨(oi.apart ops oj=true∧((H oj=false∧(cF oj.op=false∨∀hp hp',k9 C j hp hp'→R hp hp'))∨(H oj=true∧cF oj.op=false∧∃l,X.getD j none=some l∧∀hp hp',mW l hp hp'→R hp hp'))))→
  i∈Region.ready .any ops listed→kM Γ ops oi s x R→gK Γ ops H C X Q fuel (listed.setIfInBounds i true) (s.put oi.dst x)→gK Γ ops H C X Q (fuel+1) listed s:=by
 have own:∀{K:AS G→Prop} {s:AS G},kM Γ ops oi s x R→K (s.put oi.dst x)→kq Γ ops H C X i K s:=by
  intro K s hy hK
  unfold kq
  rw[hi]
  simp only[(jB bK).1,(jB bK).2,aij,if_false]
  exact⟨x,⟨hy.1,hy.2.imp (fun g=>⟨g.1,fun s' h1 h2=>g.2 s' h1 (by rw[h2];exact XU _)⟩) id⟩,hK⟩
 intro fuel
 induction fuel with
 |zero=>
  intro listed s _ _ hr hy H1
  refine⟨fun h=>(by rw[h] at hr;cases hr),fun j hj=>?_⟩
  by_cases iE:j=i
  ·subst iE;exact own hy H1
  ·have:=ready_mono hj iE
   rw[H1.1] at this
   cases this
 |succ fuel ih=>
  intro listed s cZ cU hr hy H1
  refine⟨fun h=>(by rw[h] at hr;cases hr),fun j hj=>?_⟩
  by_cases iE:j=i
  ·subst iE;exact own hy H1
  ·have h1:=H1.2 j (ready_mono hj iE)
   obtain⟨nP,oj,jN,jz⟩:=mem_ready.1 hj
   rcases cU j oj jN iE nP with h2|⟨VP,MJ⟩
   ·exact(iD cZ hr hj h2).elim
   obtain⟨p1,p2,p3⟩:=Oper.apart_spec VP
   have p1':∀t,t∈oj.looksAt ops→(s.put oi.dst x).tmps t=s.tmps t:=by
    intro t ht
    cases hd:oi.dst with
    |none=>rfl
    |some d=>
     show Bx _ _ _ _=_
     rw[gL,if_neg]
     intro e;subst e;exact p1 _ hd ht
   have aV:∀k ok,ops[k]?=some ok→k≠i→(listed.setIfInBounds j true).getD k true=false→Reach ops i k∨(oi.apart ops ok=true∧((H ok=false∧(cF ok.op=false∨∀hp hp',k9 C k hp hp'→R hp hp'))∨(H ok=true∧cF ok.op=false∧∃l,X.getD k none=some l∧∀hp hp',mW l hp hp'→R hp hp'))):=by
    intro k ok hk Qy kE
    refine cU k ok hk Qy ?_
    by_cases kQ:j=k
    ·subst kQ;exact nP
    ·rw[getD_set_ne true kQ] at kE;exact kE
   have UY:∀(hp':List af) (r:AV),(AS.put { s with hp:=hp' } oj.dst r).put oi.dst x=AS.put { s.put oi.dst x with hp:=hp' } oj.dst r:=by
    intro hp' r
    rw[←put_comm p2]
    congr 1
    cases oi.dst<;>rfl
   have BP:(s.put oi.dst x).hp=s.hp:=by cases oi.dst<;>rfl
   rcases MJ with⟨hnH,jV⟩|⟨hyH,hnE,l,hl,hR⟩
   ·unfold kq at h1 ⊢
    rw[jN] at h1 ⊢
    simp only at h1 ⊢
    split at h1
    ·rename_i IZ
     rw[if_pos IZ]
     obtain⟨g1,g2,r,hp',g3,g4,g5⟩:=h1
     rw[BP] at g4
     have hR:=(jV.resolve_left (by rw[IZ];simp)) _ _ g4
     refine⟨g1,g2,r,hp',g3.pZ p1,g4,ih (listed.setIfInBounds j true) _ (cK cZ hj) aV (ready_mono hr (ajz iE)) ((hy.heap Xr hR).put p3) ?_⟩
     rw[ai9 _ _ iE]
     rw[UY]
     exact g5
    ·rename_i IZ
     rw[if_neg IZ,if_neg (by rw[hnH];simp)]
     rw[if_neg (by rw[hnH];simp)] at h1
     obtain⟨y,VQ,hK⟩:=h1
     refine⟨y,VQ.pZ p1,ih (listed.setIfInBounds j true) (s.put oj.dst y) (cK cZ hj) aV (ready_mono hr (ajz iE)) (hy.put p3) ?_⟩
     rw[ai9 _ _ iE,←put_comm p2]
     exact hK
   ·unfold kq at h1 ⊢
    rw[jN] at h1 ⊢
    simp only[hnE,hyH,aij,if_true,if_false] at h1 ⊢
    unfold vL at h1 ⊢
    rw[iQ p1] at h1
    refine h1.imp (fun h1=>⟨h1.1,?_⟩) fun h1=>⟨h1.1,h1.2.1,?_⟩
    rotate_left
    ·refine ih (listed.setIfInBounds j true) _ (cK cZ hj) aV (ready_mono hr (ajz iE)) (hy.put p3) ?_
     rw[ai9 _ _ iE,←put_comm p2]
     exact h1.2.2
    have h2:=h1.2
    unfold HC at h2 ⊢
    rw[hl] at h2 ⊢
    obtain⟨N,h3,h4⟩:=h2
    refine⟨N,fun s' h5 h6=>h3 s' (fun t ht=>(h5 t ht).trans (p1' t ht).symm) (h6.trans BP.symm),fun r hp' hn=>?_⟩
    obtain⟨g4,g5⟩:=h4 r hp' hn
    rw[BP] at g4
    refine⟨g4,ih (listed.setIfInBounds j true) _ (cK cZ hj) aV (ready_mono hr (ajz iE)) ((hy.heap Xr (hR _ _ g4)).put p3) ?_⟩
    rw[ai9 _ _ iE]
    rw[UY]
    exact g5
theorem gK.iR {C X:List (Option (List Nat))} {Q:AS G→Prop} {i:Nat} {fuel:Nat} {listed:Array Bool} (cZ:pY ops listed) (cU:∀(j:Nat) oj,ops[j]?=some oj→j≠i→listed.getD j true=false→Reach ops i j)
  (hr:i∈Region.ready .any ops listed) (H0:kq Γ ops H C X i (gK Γ ops H C X Q fuel (listed.setIfInBounds i true)) s):gK Γ ops H C X Q (fuel+1) listed s:=by
 refine⟨fun h=>(by rw[h] at hr;cases hr),fun j hj=>?_⟩
 by_cases iE:j=i
 ·subst iE;exact H0
 ·obtain⟨nP,oj,jN,_⟩:=mem_ready.1 hj
  exact(iD cZ hr hj (cU j oj jN iE nP)).elim
def xx (H:Oper→Bool) (C M:List (Option (List Nat))) (l:List Oper):Bool:=
 let m:=mS l []
 (List.range l.length).all fun k=>match l[k]? with
  |none=>false
  |some ok=>ok.after.toList.all (fun e=>!Region.binds .any e||decide (e.on<k)) &&
    (List.range l.length).all fun j=>decide (j≤k)||(m.getD j 0).testBit k||match l[j]? with
     |none=>true
     |some oj=>!lP H ok&&(!H oj&&ok.apart l.toArray oj&&(!cF oj.op||iS C M k j ok.op))
def kG (Γ:Env G) (ops:Array Oper) (H:Oper→Bool) (C M:List (Option (List Nat))) (K:AS G→Prop):Nat→List Oper→AS G→Prop
 |_,[],s=>K s
 |k,o::rest,s=>if cF o.op=true then dB Γ.nt o.dst∧o.guard=none∧∃r hp',rP Γ ops o s r hp'∧k9 C k s.hp hp'∧kG Γ ops H C M K (k+1) rest (AS.put { s with hp:=hp' } o.dst r)
  else if H o=true then vL Γ ops o s (bR Γ o s (kG Γ ops H C M K (k+1) rest)) (kG Γ ops H C M K (k+1) rest)
  else ∃x,kM Γ ops o s x (qO M k o.op)∧kG Γ ops H C M K (k+1) rest (s.put o.dst x)
theorem kG.any {C M:List (Option (List Nat))} {Q:AS G→Prop} {l0:List Oper} (hd:xx H C M l0=true):∀(l:List Oper) (k:Nat) (listed:Array Bool) (s:AS G),(∀(j:Nat),l[j]?=l0[k+j]?)→listed.size=l0.length→(∀(j:Nat),j<l0.length→listed.getD j true=decide (j<k))→k+l.length=l0.length→
  kG Γ l0.toArray H C M Q k l s→gK Γ l0.toArray H C [] Q l.length listed s:=by
 intro l
 induction l with
 |nil=>
  intro k listed s _ cJ eX hk h
  refine⟨?_,h⟩
  apply ajp.2
  intro j hj
  obtain⟨h1,o,ho,_⟩:=mem_ready.1 hj
  have ay:j<l0.length:=by have:=(ail.1 ho).1;simpa using this
  rw[eX j ay] at h1
  simp at h1
  simp at hk
  omega
 |cons o l ih=>
  intro k listed s hl cJ eX hk h
  have aD:l0[k]?=some o:=by have:=hl 0;simpa using this.symm
  have D8:l0.toArray[k]?=some o:=by simpa using aD
  have DE:k<l0.length:=(ahY.1 aD).1
  have eG:=hd
  simp only[xx,ah4,aja] at eG
  have oT:=eG k DE
  rw[aD] at oT
  simp only[ahZ,ah4,aja] at oT
  obtain⟨Qz,VR⟩:=oT
  have Hs:listed.getD k true=false:=by rw[eX k DE];simp
  have k7:∀j,j<l0.length→listed.getD j false=decide (j<k):=by
   intro j hj
   have:=eX j hj
   simp only[aiu,aiT (show j<listed.size by omega),aiP] at this ⊢
   exact this
  have qM:k∈Region.ready .any l0.toArray listed:=by
   refine mem_ready.2 ⟨Hs,o,D8,fun e he hb=>?_⟩
   have:=Qz e (by simpa using he)
   rw[hb] at this
   simp at this
   rw[k7 e.on (by omega)];simp;exact this
  have cZ:pY l0.toArray listed:=by
   intro q oq hq MS e he hb
   have D9:q<l0.length:=by have:=(ail.1 MS).1;simpa using this
   rw[k7 q D9] at hq
   have MT:q<k:=by simpa using hq
   have h2:=eG q D9
   have Ht:l0[q]?=some oq:=by simpa using MS
   rw[Ht] at h2
   simp only[ahZ,ah4] at h2
   have h3:=h2.1 e (by simpa using he)
   rw[hb] at h3
   simp at h3
   rw[k7 e.on (by omega)];simp;omega
  have nQ:∀(j:Nat),(List.getD (mS l0 []) j 0).testBit k=true→Reach l0.toArray k j:=by
   intro j hj
   cases hm:(mS l0 [])[j]? with
   |none=>simp[List.getD,hm] at hj
   |some m=>
    simp only[List.getD,hm,aiP] at hj
    exact mT (ops:=l0.toArray) l0 [] (fun j=>by simp) (fun j m i hj=>by simp at hj) j m k hm hj
  have mU:∀(j:Nat) oj,l0.toArray[j]?=some oj→j≠k→listed.getD j true=false→Reach l0.toArray k j∨(lP H o=false∧H oj=false∧o.apart l0.toArray oj=true∧(cF oj.op=false∨iS C M k j o.op=true)):=by
   intro j oj jN kQ kE
   have s7:j<l0.length:=by have:=(ail.1 jN).1;simpa using this
   rw[eX j s7] at kE
   have Hu:l0[j]?=some oj:=by simpa using jN
   have h2:=VR j s7
   rw[Hu] at h2
   simp only[ai6,decide_eq_true_eq,ahZ,aiA] at h2
   rcases h2 with(h2|h2)|h2
   ·simp at kE;omega
   ·exact .inl (nQ j h2)
   ·exact .inr ⟨h2.1,h2.2.1.1,h2.2.1.2,h2.2.2⟩
  have aV:∀s',kG Γ l0.toArray H C M Q (k+1) l s'→gK Γ l0.toArray H C [] Q l.length (listed.setIfInBounds k true) s':=by
   intro s' h'
   refine ih (k+1) _ s' (fun j=>by have:=hl (j+1);simp only[aiB] at this;rw[this];congr 1;omega) (by simpa using cJ) (fun j hj=>?_) (by simp at hk;omega) h'
   by_cases kQ:j=k
   ·subst kQ
    have:j<listed.size:=by omega
    simp[this]
   ·rw[getD_set_ne true (ajz kQ),eX j hj]
    simp;omega
  simp only[kG] at h
  split at h
  ·rename_i he
   obtain⟨h1,h2,r,hp',h3,h4,h5⟩:=h
   have Q6:lP H o=true:=by simp[lP,he]
   refine gK.iR cZ (fun j oj jN kQ kE=>?_) qM ?_
   ·rcases mU j oj jN kQ kE with h5|h5
    ·exact h5
    ·rw[Q6] at h5;cases h5.1
   ·unfold kq
    rw[D8]
    simp only[he,if_true]
    exact⟨h1,h2,r,hp',h3,h4,aV _ h5⟩
  ·rename_i he
   split at h
   ·rename_i hH
    have Q6:lP H o=true:=by simp[lP,hH]
    refine gK.iR cZ (fun j oj jN kQ kE=>?_) qM ?_
    ·rcases mU j oj jN kQ kE with h5|h5
     ·exact h5
     ·rw[Q6] at h5;cases h5.1
    ·unfold kq
     rw[D8]
     simp only[he,hH,aij,if_true,if_false]
     refine h.mono (fun h2=>?_) aV
     show bR Γ o s _
     exact fun a w η Kc Qc hk hr=>h2 a w η Kc Qc (fun s' a' w' aU hs fZ=>hk s' a' w' aU (aV _ hs) fZ) hr
   ·rename_i hH
    obtain⟨x,h1,h2⟩:=h
    exact gK.first (R:=qO M k o.op) (fun _ _ _=>qO.trans) (fun _=>qO.refl) D8 (by simp[lP,he,hH]) l.length listed s cZ
     (fun j oj jN kQ kE=>(mU j oj jN kQ kE).imp id fun h=>⟨h.2.2.1,.inl ⟨h.2.1,h.2.2.2.imp id fun hm hp hp' hc=>jO hm hc⟩⟩) qM h1 (aV _ h2)
theorem eM.X3 (aD:Γ.Ok) (hm:Γ.P.follows .mixedOrders=true) {id:Nat} {l:List Oper} {Q:Exit→AS G→Prop} (C M:List (Option (List Nat))) (hd:xx H C M l=true)
  (h:kG Γ l.toArray H C M (Q .normal) 0 l s):eM Γ (.region id l.toArray true) Q s:=by
 intro a w η hr
 refine wpIn_region_any hm ?_
 have:=(kG.any (Γ:=Γ) (C:=C) (M:=M) hd l 0 (Array.replicate l.length false) s (fun j=>by simp) (by simp) (fun j hj=>by simp[hj]) (by simp) h).any aD
 have h2:=jv.sound (Qc:=fun e a' w'=>∃s' aU,Q e s'∧Rel Γ s' a' w' aU) aD (fun s' a' w' aU h1 h2=>⟨s',aU,h1,h2⟩) _ _ _ a w.drew η this (hr.same aD (bX.drew w))
 simpa using h2
end Go.Proofs.YtjhanogfpkbamaaGreatDoor
