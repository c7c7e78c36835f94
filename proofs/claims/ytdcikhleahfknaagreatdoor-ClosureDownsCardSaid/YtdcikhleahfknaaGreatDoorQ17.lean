/- Texts of ours laid together for a claim: VcH. -/
import Derived.Test.YtdcikhleahfknaaGreatDoorQ16
namespace Go.Proofs.YtdcikhleahfknaaGreatDoor
open Go
set_option linter.unusedSimpArgs false
set_option linter.unusedVariables false
variable {G:Type} {Γ:Env G} {s s':AS G} {a:Act} {w w':World} {η:List Value} {hp hp':List af} {P:Program} {ops:Array Oper} {H:Oper->Bool}
def NL (Γ:Env G) (ops:Array Oper) (o:Oper) (l:List Nat) (s:AS G) (K:AS G->Prop):Prop:=
 ∃N:AV->List af->Prop,(∀s':AS G,(∀t,t∈o.looksAt ops->s'.tmps t=s.tmps t)->s'.hp=s.hp->∀K':AS G->Prop,(∀r hp',N r hp'->K' (AS.put { s' with hp:=hp' } o.dst r))->bD Γ o s' K')/\
  ∀r hp',N r hp'->mh l s.hp hp'/\K (AS.put { s with hp:=hp' } o.dst r)
def HA (Γ:Env G) (ops:Array Oper) (X:List (Option (List Nat))) (i:Nat) (o:Oper) (s:AS G) (K:AS G->Prop):Prop:=
 match X.getD i none with
 |none=>bD Γ o s K
 |some l=>NL Γ ops o l s K
theorem HA.call {X:List (Option (List Nat))} {i:Nat} {o:Oper} {K:AS G->Prop} (h:HA Γ ops X i o s K):bD Γ o s K:=by
 unfold HA at h;split at h
 ·exact h
 ·obtain⟨N,h1,h2⟩:=h;exact h1 s (fun _ _=>rfl) rfl K fun r hp' hn=>(h2 r hp' hn).2
def jr (Γ:Env G) (ops:Array Oper) (H:Oper->Bool) (C X:List (Option (List Nat))) (i:Nat) (K:AS G->Prop) (s:AS G):Prop:=
 match ops[i]? with
 |none=>K s
 |some o=>if cj o.op=true then cR Γ.nt o.dst/\o.guard=none/\∃r hp',qy Γ ops o s r hp'/\kb C i s.hp hp'/\K (AS.put { s with hp:=hp' } o.dst r)
  else if H o=true then uK Γ ops o s (HA Γ ops X i o s K) K
  else ∃x,jH Γ ops o s x (fun hp hp'=>hp'=hp)/\K (s.put o.dst x)
def fE (Γ:Env G) (ops:Array Oper) (H:Oper->Bool) (C X:List (Option (List Nat))) (Q:AS G->Prop):Nat->Array Bool->AS G->Prop
 |0,listed,s=>Region.ready .any ops listed=[]/\Q s
 |fuel+1,listed,s=>(Region.ready .any ops listed=[]->Q s)/\∀i∈Region.ready .any ops listed,jr Γ ops H C X i (fE Γ ops H C X Q fuel (listed.setIfInBounds i true)) s
theorem fE.any (ax:Γ.Ok) {C X:List (Option (List Nat))} {Q:AS G->Prop}:∀(fuel:Nat) (listed:Array Bool) (s:AS G),fE Γ ops H C X Q fuel listed s->iy Γ ops H Q fuel listed s:=by
 intro fuel
 induction fuel with
 |zero=>intro listed s h;exact h
 |succ fuel ih=>
  intro listed s h;refine⟨h.1,fun i hi=>?_⟩;have h1:=h.2 i hi;unfold jr at h1;unfold kc;split at h1
  ·rename_i ho;rw[ho];exact ih _ _ h1
  ·rename_i o ho;rw[ho];simp only;split at h1
   ·rename_i he;rw[if_pos he];obtain⟨g1,g2,r,hp',g3,_,g4⟩:=h1;exact⟨g1,g2,r,hp',g3.run ax,ih _ _ g4⟩
   ·rename_i he;rw[if_neg he];split at h1
    ·rename_i hH;rw[if_pos hH];exact h1.mono (fun h2 a w η Kc Qc hk hr=>h2.call a w η Kc Qc (fun s' a' w' aN hs eH=>hk s' a' w' aN (ih _ _ hs) eH) hr) (ih _)
    rename_i hH;rw[if_neg hH];obtain⟨x,g1,g2⟩:=h1;exact⟨x,jH.ND (R:=fun hp hp'=>hp'=hp) ax rfl g1,ih _ _ g2⟩
theorem fE.first {C X:List (Option (List Nat))} {Q:AS G->Prop} {i:Nat} {oi:Oper} {x:AV} {R:List af->List af->Prop} (ZT:∀fG mO hp3,R fG mO->R mO hp3->R fG hp3) (hrf:∀hp,R hp hp) (hi:ops[i]?=some oi) (bu:kF H oi=false):
  ∀(fuel:Nat) (listed:Array Bool) (s:AS G),oF ops listed->
  (∀(j:Nat) oj,ops[j]?=some oj->j≠i->listed.getD j true=false->Reach ops i j\/(oi.apart ops oj=true/\((H oj=false/\(cj oj.op=false\/∀hp hp',kb C j hp hp'->R hp hp'))\/(H oj=true/\cj oj.op=false/\∃l,X.getD j none=some l/\∀hp hp',mh l hp hp'->R hp hp'))))->
  i∈Region.ready .any ops listed->jH Γ ops oi s x R->fE Γ ops H C X Q fuel (listed.setIfInBounds i true) (s.put oi.dst x)->fE Γ ops H C X Q (fuel+1) listed s:=by
 have own:∀{K:AS G->Prop} {s:AS G},jH Γ ops oi s x R->K (s.put oi.dst x)->jr Γ ops H C X i K s:=by
  intro K s hy hK;unfold jr;rw[hi];simp only[(iD bu).1,(iD bu).2,alQ,if_false];exact⟨x,⟨hy.1,hy.2.imp (fun g=>⟨g.1,fun s' h1 h2=>g.2 s' h1 (by rw[h2];exact hrf _)⟩) id⟩,hK⟩
 intro fuel
 induction fuel with
 |zero=>
  intro listed s _ _ hr hy H1;refine⟨fun h=>(by rw[h] at hr;cases hr),fun j hj=>?_⟩
  by_cases gJ:j=i
  ·subst gJ;exact own hy H1
  ·have:=ready_mono hj gJ;rw[H1.1] at this;cases this
 |succ fuel ih=>
  intro listed s cM cG hr hy H1;refine⟨fun h=>(by rw[h] at hr;cases hr),fun j hj=>?_⟩
  by_cases gJ:j=i
  ·subst gJ;exact own hy H1
  ·have h1:=H1.2 j (ready_mono hj gJ);obtain⟨mY,oj,iM,jo⟩:=mem_ready.1 hj;rcases cG j oj iM gJ mY with h2|⟨Yb,Nj⟩
   ·exact(gz cM hr hj h2).elim
   obtain⟨p1,p2,p3⟩:=Oper.apart_spec Yb;have p1':∀t,t∈oj.looksAt ops->(s.put oi.dst x).tmps t=s.tmps t:=by
    intro t ht
    cases hd:oi.dst with
    |none=>rfl
    |some d=>
     show yZ _ _ _ _=_;rw[fc,if_neg];intro e;subst e;exact p1 _ hd ht
   have bS:∀k ok,ops[k]?=some ok->k≠i->(listed.setIfInBounds j true).getD k true=false->Reach ops i k\/(oi.apart ops ok=true/\((H ok=false/\(cj ok.op=false\/∀hp hp',kb C k hp hp'->R hp hp'))\/(H ok=true/\cj ok.op=false/\∃l,X.getD k none=some l/\∀hp hp',mh l hp hp'->R hp hp'))):=by
    intro k ok hk G0 jF;refine cG k ok hk G0 ?_
    by_cases jL:j=k
    ·subst jL;exact mY
    ·rw[getD_set_ne true jL] at jF;exact jF
   have W9:∀(hp':List af) (r:AV),(AS.put { s with hp:=hp' } oj.dst r).put oi.dst x=AS.put { s.put oi.dst x with hp:=hp' } oj.dst r:=by
    intro hp' r;rw[<-put_comm p2]
    congr 1
    cases oi.dst<;>rfl
   have Br:(s.put oi.dst x).hp=s.hp:=by cases oi.dst<;>rfl
   rcases Nj with⟨hnH,lZ⟩|⟨hyH,hnE,l,hl,hR⟩
   ·unfold jr at h1 ⊢;rw[iM] at h1 ⊢;simp only at h1 ⊢;split at h1
    ·rename_i JD;rw[if_pos JD];obtain⟨g1,g2,r,hp',g3,g4,g5⟩:=h1;rw[Br] at g4;have hR:=(lZ.resolve_left (by rw[JD];simp)) _ _ g4;refine⟨g1,g2,r,hp',g3.oG p1,g4,ih (listed.setIfInBounds j true) _ (cu cM hj) bS (ready_mono hr (am5 gJ)) ((hy.heap ZT hR).put p3) ?_⟩;rw[amF _ _ gJ];rw[W9];exact g5
    ·rename_i JD;rw[if_neg JD,if_neg (by rw[hnH];simp)];rw[if_neg (by rw[hnH];simp)] at h1;obtain⟨y,Yc,hK⟩:=h1;refine⟨y,Yc.oG p1,ih (listed.setIfInBounds j true) (s.put oj.dst y) (cu cM hj) bS (ready_mono hr (am5 gJ)) (hy.put p3) ?_⟩;rw[amF _ _ gJ,<-put_comm p2];exact hK
   ·unfold jr at h1 ⊢;rw[iM] at h1 ⊢;simp only[hnE,hyH,alQ,if_true,if_false] at h1 ⊢;unfold uK at h1 ⊢;rw[gS p1] at h1;refine h1.imp (fun h1=>⟨h1.1,?_⟩) fun h1=>⟨h1.1,h1.2.1,?_⟩
    rotate_left
    ·refine ih (listed.setIfInBounds j true) _ (cu cM hj) bS (ready_mono hr (am5 gJ)) (hy.put p3) ?_;rw[amF _ _ gJ,<-put_comm p2];exact h1.2.2
    have h2:=h1.2;unfold HA at h2 ⊢;rw[hl] at h2 ⊢;obtain⟨N,h3,h4⟩:=h2;refine⟨N,fun s' h5 h6=>h3 s' (fun t ht=>(h5 t ht).trans (p1' t ht).symm) (h6.trans Br.symm),fun r hp' hn=>?_⟩;obtain⟨g4,g5⟩:=h4 r hp' hn;rw[Br] at g4;refine⟨g4,ih (listed.setIfInBounds j true) _ (cu cM hj) bS (ready_mono hr (am5 gJ)) ((hy.heap ZT (hR _ _ g4)).put p3) ?_⟩;rw[amF _ _ gJ];rw[W9];exact g5
theorem fE.gU {C X:List (Option (List Nat))} {Q:AS G->Prop} {i:Nat} {fuel:Nat} {listed:Array Bool} (cM:oF ops listed) (cG:∀(j:Nat) oj,ops[j]?=some oj->j≠i->listed.getD j true=false->Reach ops i j)
  (hr:i∈Region.ready .any ops listed) (H0:jr Γ ops H C X i (fE Γ ops H C X Q fuel (listed.setIfInBounds i true)) s):fE Γ ops H C X Q (fuel+1) listed s:=by
 refine⟨fun h=>(by rw[h] at hr;cases hr),fun j hj=>?_⟩
 by_cases gJ:j=i
 ·subst gJ;exact H0
 ·obtain⟨mY,oj,iM,_⟩:=mem_ready.1 hj;exact(gz cM hr hj (cG j oj iM gJ mY)).elim
def v8 (H:Oper->Bool) (C M:List (Option (List Nat))) (l:List Oper):Bool:=
 let m:=l9 l []
 (List.range l.length).all fun k=>match l[k]? with
  |none=>false
  |some ok=>ok.after.toList.all (fun e=>!Region.binds .any e||decide (e.on<k)) &&
    (List.range l.length).all fun j=>decide (j<=k)||(m.getD j 0).testBit k||match l[j]? with
     |none=>true
     |some oj=>!kF H ok&&(!H oj&&ok.apart l.toArray oj&&(!cj oj.op||gV C M k j ok.op))
def jy (Γ:Env G) (ops:Array Oper) (H:Oper->Bool) (C M:List (Option (List Nat))) (K:AS G->Prop):Nat->List Oper->AS G->Prop
 |_,[],s=>K s
 |k,o::rest,s=>if cj o.op=true then cR Γ.nt o.dst/\o.guard=none/\∃r hp',qy Γ ops o s r hp'/\kb C k s.hp hp'/\jy Γ ops H C M K (k+1) rest (AS.put { s with hp:=hp' } o.dst r)
  else if H o=true then uK Γ ops o s (bD Γ o s (jy Γ ops H C M K (k+1) rest)) (jy Γ ops H C M K (k+1) rest)
  else ∃x,jH Γ ops o s x (pL M k o.op)/\jy Γ ops H C M K (k+1) rest (s.put o.dst x)
theorem jy.any {C M:List (Option (List Nat))} {Q:AS G->Prop} {l0:List Oper} (hd:v8 H C M l0=true):∀(l:List Oper) (k:Nat) (listed:Array Bool) (s:AS G),(∀(j:Nat),l[j]?=l0[k+j]?)->listed.size=l0.length->(∀(j:Nat),j<l0.length->listed.getD j true=decide (j<k))->k+l.length=l0.length->
  jy Γ l0.toArray H C M Q k l s->fE Γ l0.toArray H C [] Q l.length listed s:=by
 intro l
 induction l with
 |nil=>
  intro k listed s _ bN ef hk h;refine⟨?_,h⟩;apply amV.2;intro j hj;obtain⟨h1,o,ho,_⟩:=mem_ready.1 hj;have ak:j<l0.length:=by have:=(alY.1 ho).1;simpa using this
  rw[ef j ak] at h1;simp at h1;simp at hk;omega
 |cons o l ih=>
  intro k listed s hl bN ef hk h;have ax:l0[k]?=some o:=by have:=hl 0;simpa using this.symm
  have Dg:l0.toArray[k]?=some o:=by simpa using ax
  have tO:k<l0.length:=(alu.1 ax).1;have dv:=hd;simp only[v8,alK,amR] at dv;have nR:=dv k tO;rw[ax] at nR;simp only[alB,alK,amR] at nR;obtain⟨JF,vJ⟩:=nR;have Hp:listed.getD k true=false:=by rw[ef k tO];simp
  have j6:∀j,j<l0.length->listed.getD j false=decide (j<k):=by
   intro j hj;have:=ef j hj;simp only[al9,alX (show j<listed.size by omega),amt] at this ⊢;exact this
  have zO:k∈Region.ready .any l0.toArray listed:=by
   refine mem_ready.2 ⟨Hp,o,Dg,fun e he hb=>?_⟩;have:=JF e (by simpa using he);rw[hb] at this;simp at this;rw[j6 e.on (by omega)];simp;exact this
  have cM:oF l0.toArray listed:=by
   intro q oq hq Nr e he hb;have Bq:q<l0.length:=by have:=(alY.1 Nr).1;simpa using this
   rw[j6 q Bq] at hq;have Hq:q<k:=by simpa using hq
   have h2:=dv q Bq;have Hr:l0[q]?=some oq:=by simpa using Nr
   rw[Hr] at h2;simp only[alB,alK] at h2;have h3:=h2.1 e (by simpa using he);rw[hb] at h3;simp at h3;rw[j6 e.on (by omega)];simp;omega
  have mZ:∀(j:Nat),(List.getD (l9 l0 []) j 0).testBit k=true->Reach l0.toArray k j:=by
   intro j hj
   cases hm:(l9 l0 [])[j]? with
   |none=>simp[List.getD,hm] at hj
   |some m=>
    simp only[List.getD,hm,amt] at hj;exact ma (ops:=l0.toArray) l0 [] (fun j=>by simp) (fun j m i hj=>by simp at hj) j m k hm hj
  have mc:∀(j:Nat) oj,l0.toArray[j]?=some oj->j≠k->listed.getD j true=false->Reach l0.toArray k j\/(kF H o=false/\H oj=false/\o.apart l0.toArray oj=true/\(cj oj.op=false\/gV C M k j o.op=true)):=by
   intro j oj iM jL jF;have qm:j<l0.length:=by have:=(alY.1 iM).1;simpa using this
   rw[ef j qm] at jF;have Hs:l0[j]?=some oj:=by simpa using iM
   have h2:=vJ j qm;rw[Hs] at h2;simp only[amo,decide_eq_true_eq,alB,ame] at h2;rcases h2 with(h2|h2)|h2
   ·simp at jF;omega
   ·exact .inl (mZ j h2)
   ·exact .inr ⟨h2.1,h2.2.1.1,h2.2.1.2,h2.2.2⟩
  have bS:∀s',jy Γ l0.toArray H C M Q (k+1) l s'->fE Γ l0.toArray H C [] Q l.length (listed.setIfInBounds k true) s':=by
   intro s' h';refine ih (k+1) _ s' (fun j=>by have:=hl (j+1);simp only[al5] at this;rw[this];congr 1;omega) (by simpa using bN) (fun j hj=>?_) (by simp at hk;omega) h'
   by_cases jL:j=k
   ·subst jL;have:j<listed.size:=by omega
    simp[this]
   ·rw[getD_set_ne true (am5 jL),ef j hj];simp;omega
  simp only[jy] at h;split at h
  ·rename_i he;obtain⟨h1,h2,r,hp',h3,h4,h5⟩:=h;have S7:kF H o=true:=by simp[kF,he]
   refine fE.gU cM (fun j oj iM jL jF=>?_) zO ?_
   ·rcases mc j oj iM jL jF with h5|h5
    ·exact h5
    ·rw[S7] at h5;cases h5.1
   ·unfold jr;rw[Dg];simp only[he,if_true];exact⟨h1,h2,r,hp',h3,h4,bS _ h5⟩
  ·rename_i he;split at h
   ·rename_i hH;have S7:kF H o=true:=by simp[kF,hH]
    refine fE.gU cM (fun j oj iM jL jF=>?_) zO ?_
    ·rcases mc j oj iM jL jF with h5|h5
     ·exact h5
     ·rw[S7] at h5;cases h5.1
    ·unfold jr;rw[Dg];simp only[he,hH,alQ,if_true,if_false];refine h.mono (fun h2=>?_) bS;show bD Γ o s _;exact fun a w η Kc Qc hk hr=>h2 a w η Kc Qc (fun s' a' w' aN hs eH=>hk s' a' w' aN (bS _ hs) eH) hr
   ·rename_i hH;obtain⟨x,h1,h2⟩:=h;exact fE.first (R:=pL M k o.op) (fun _ _ _=>pL.trans) (fun _=>pL.refl) Dg (by simp[kF,he,hH]) l.length listed s cM
     (fun j oj iM jL jF=>(mc j oj iM jL jF).imp id fun h=>⟨h.2.2.1,.inl ⟨h.2.1,h.2.2.2.imp id fun hm hp hp' hc=>iO hm hc⟩⟩) zO h1 (bS _ h2)
theorem dT.aax (ax:Γ.Ok) (hm:Γ.P.follows .mixedOrders=true) {id:Nat} {l:List Oper} {Q:Exit->AS G->Prop} (C M:List (Option (List Nat))) (hd:v8 H C M l=true)
  (h:jy Γ l.toArray H C M (Q .normal) 0 l s):dT Γ (.region id l.toArray true) Q s:=by
 intro a w η hr;refine wpIn_region_any hm ?_;have:=(jy.any (Γ:=Γ) (C:=C) (M:=M) hd l 0 (Array.replicate l.length false) s (fun j=>by simp) (by simp) (fun j hj=>by simp[hj]) (by simp) h).any ax;have h2:=iy.sound (Qc:=fun e a' w'=>∃s' aN,Q e s'/\Rel Γ s' a' w' aN) ax (fun s' a' w' aN h1 h2=>⟨s',aN,h1,h2⟩) _ _ _ a w.drew η this (hr.same ax (bI.drew w));simpa using h2
end Go.Proofs.YtdcikhleahfknaaGreatDoor
