/- Texts of ours laid together for a claim: VcG. -/
import Derived.Test.YtdcikhleahfknaaGreatDoorQ15
namespace Go.Proofs.YtdcikhleahfknaaGreatDoor
open Go
set_option linter.unusedSimpArgs false
set_option linter.unusedVariables false
variable {G:Type} {Γ:Env G} {s s':AS G} {a:Act} {w w':World} {η:List Value} {hp:List af} {P:Program} {ops:Array Oper} {H:Oper->Bool}
def kF (H:Oper->Bool) (o:Oper):Bool:=cj o.op||H o
theorem iD {o:Oper} (h:kF H o=false):cj o.op=false/\H o=false:=by
 unfold kF at h;exact Bool.or_eq_false_iff.1 h
def uK (Γ:Env G) (ops:Array Oper) (o:Oper) (s:AS G) (A:Prop) (K:AS G->Prop):Prop:=
 (aO ops s o=some true/\A)\/(aO ops s o=some false/\cR Γ.nt o.dst/\K (s.put o.dst (.ae (.tuple #[]))))
theorem uK.mono {o:Oper} {A B:Prop} {K L:AS G->Prop} (h:uK Γ ops o s A K) (ha:A->B) (hk:∀s,K s->L s):uK Γ ops o s B L:=
 h.imp (fun h=>⟨h.1,ha h.2⟩) fun h=>⟨h.1,h.2.1,hk _ h.2.2⟩
def kc (Γ:Env G) (ops:Array Oper) (H:Oper->Bool) (i:Nat) (K:AS G->Prop) (s:AS G):Prop:=
 match ops[i]? with
 |none=>K s
 |some o=>if cj o.op=true then cR Γ.nt o.dst/\o.guard=none/\∃r hp',fA Γ o s r hp'/\K (AS.put { s with hp:=hp' } o.dst r)
  else if H o=true then uK Γ ops o s (bD Γ o s K) K
  else ∃x,Yields Γ ops o s x/\K (s.put o.dst x)
theorem kc.sound (ax:Γ.Ok) {i:Nat} {K:AS G->Prop} {Kc:Act->World->Prop} {Qc:Exit->Act->World->Prop} (h:kc Γ ops H i K s) (hr:Rel Γ s a w η) (hk:∀s' a' w' aN,K s'->Rel Γ s' a' w' aN->Kc a' w'):
  wpOpIn Γ.ec 0 Γ.P ops Qc i Kc a w:=by
 unfold kc at h;unfold wpOpIn;split at h
 ·rename_i ho;rw[ho];exact hk _ _ _ _ h hr
 ·rename_i o ho;rw[ho];simp only;split at h
  ·obtain⟨h1,h2,r,hp',h3,h4⟩:=h;rw[if_pos (by simp[Region.wanted,h2])];exact(bD.jY h3 h1 h4) a w η Kc Qc hk hr
  ·split at h
   ·rcases h with⟨h2,h3⟩|⟨h2,h1,h3⟩
    ·rw[if_pos (dG hr h2)];exact h3 a w η Kc Qc hk hr
    ·rw[if_neg (by rw[dG hr h2];simp)];exact⟨fun _ _=>trivial,hk _ _ _ _ h3 (hr.put (cd h1) (.ae _))⟩
   ·obtain⟨x,⟨h1,h2⟩,h3⟩:=h;rcases h2 with⟨h2,h4⟩|⟨h2,rfl⟩
    ·rw[if_pos (dG hr h2)];exact h4 a w η Kc Qc (hr.only _) fun v w' hs cX=>hk _ _ _ _ h3 ((hr.same ax hs).put (cd h1) cX)
    ·rw[if_neg (by rw[dG hr h2];simp)];exact⟨fun _ _=>trivial,hk _ _ _ _ h3 (hr.put (cd h1) (.ae _))⟩
def iy (Γ:Env G) (ops:Array Oper) (H:Oper->Bool) (Q:AS G->Prop):Nat->Array Bool->AS G->Prop
 |0,listed,s=>Region.ready .any ops listed=[]/\Q s
 |fuel+1,listed,s=>(Region.ready .any ops listed=[]->Q s)/\∀i∈Region.ready .any ops listed,kc Γ ops H i (iy Γ ops H Q fuel (listed.setIfInBounds i true)) s
theorem iy.sound (ax:Γ.Ok) {Q:AS G->Prop} {Qc:Exit->Act->World->Prop} (hq:∀s' a' w' aN,Q s'->Rel Γ s' a' w' aN->Qc .normal a' w'):∀(fuel:Nat) (listed:Array Bool) (s:AS G) (a:Act) (w:World) (η:List Value),iy Γ ops H Q fuel listed s->Rel Γ s a w η->
  wpAnyIn Γ.ec 0 Γ.P .any ops Qc fuel listed a w:=by
 intro fuel
 induction fuel with
 |zero=>intro listed s a w η h hr;exact⟨h.1,hq _ _ _ _ h.2 hr⟩
 |succ fuel ih=>intro listed s a w η h hr;exact⟨fun he=>hq _ _ _ _ (h.1 he) hr,fun i hi=>(h.2 i hi).sound ax hr fun s' a' w' aN h1 h2=>ih _ s' a' w' aN h1 h2⟩
theorem iy.first {Q:AS G->Prop} {i:Nat} {oi:Oper} {x:AV} (hi:ops[i]?=some oi) (bu:kF H oi=false):∀(fuel:Nat) (listed:Array Bool) (s:AS G),oF ops listed->
  (∀(j:Nat) oj,ops[j]?=some oj->j≠i->listed.getD j true=false->Reach ops i j\/(kF H oj=false/\oi.apart ops oj=true))->
  i∈Region.ready .any ops listed->Yields Γ ops oi s x->iy Γ ops H Q fuel (listed.setIfInBounds i true) (s.put oi.dst x)->iy Γ ops H Q (fuel+1) listed s:=by
 have own:∀{K:AS G->Prop} {s:AS G},Yields Γ ops oi s x->K (s.put oi.dst x)->kc Γ ops H i K s:=by
  intro K s hy hK;unfold kc;rw[hi];simp only[(iD bu).1,(iD bu).2,alQ,if_false];exact⟨x,hy,hK⟩
 intro fuel
 induction fuel with
 |zero=>
  intro listed s _ _ hr hy H;refine⟨fun h=>(by rw[h] at hr;cases hr),fun j hj=>?_⟩
  by_cases gJ:j=i
  ·subst gJ;exact own hy H
  ·have:=ready_mono hj gJ;rw[H.1] at this;cases this
 |succ fuel ih=>
  intro listed s cM cG hr hy H;refine⟨fun h=>(by rw[h] at hr;cases hr),fun j hj=>?_⟩
  by_cases gJ:j=i
  ·subst gJ;exact own hy H
  ·have h1:=H.2 j (ready_mono hj gJ);obtain⟨mY,oj,iM,jo⟩:=mem_ready.1 hj;rcases cG j oj iM gJ mY with h2|⟨JD,Yb⟩
   ·exact(gz cM hr hj h2).elim
   obtain⟨p1,p2,p3⟩:=Oper.apart_spec Yb;unfold kc at h1 ⊢;rw[iM] at h1 ⊢;simp only[(iD JD).1,(iD JD).2,alQ,if_false] at h1 ⊢;obtain⟨y,Yc,hK⟩:=h1;refine⟨y,Yc.oG p1,ih (listed.setIfInBounds j true) (s.put oj.dst y) (cu cM hj) (fun k ok hk G0 jF=>?_) (ready_mono hr (am5 gJ)) (hy.put p3) ?_⟩
   ·refine cG k ok hk G0 ?_
    by_cases jL:j=k
    ·subst jL;exact mY
    ·rw[getD_set_ne true jL] at jF;exact jF
   ·rw[amF _ _ gJ,<-put_comm p2];exact hK
theorem iy.gU {Q:AS G->Prop} {i:Nat} {fuel:Nat} {listed:Array Bool} (cM:oF ops listed) (cG:∀(j:Nat) oj,ops[j]?=some oj->j≠i->listed.getD j true=false->Reach ops i j)
  (hr:i∈Region.ready .any ops listed) (H0:kc Γ ops H i (iy Γ ops H Q fuel (listed.setIfInBounds i true)) s):iy Γ ops H Q (fuel+1) listed s:=by
 refine⟨fun h=>(by rw[h] at hr;cases hr),fun j hj=>?_⟩
 by_cases gJ:j=i
 ·subst gJ;exact H0
 ·obtain⟨mY,oj,iM,_⟩:=mem_ready.1 hj;exact(gz cM hr hj (cG j oj iM gJ mY)).elim
def v7 (H:Oper->Bool) (l:List Oper):Bool:=
 let m:=l9 l []
 (List.range l.length).all fun k=>match l[k]? with
  |none=>false
  |some ok=>ok.after.toList.all (fun e=>!Region.binds .any e||decide (e.on<k)) &&
    (List.range l.length).all fun j=>decide (j<=k)||(m.getD j 0).testBit k||match l[j]? with
     |none=>true
     |some oj=>!kF H ok&&!kF H oj&&ok.apart l.toArray oj
def jx (Γ:Env G) (ops:Array Oper) (H:Oper->Bool) (K:AS G->Prop):List Oper->AS G->Prop
 | [],s=>K s
 |o::rest,s=>if cj o.op=true then cR Γ.nt o.dst/\o.guard=none/\∃r hp',fA Γ o s r hp'/\jx Γ ops H K rest (AS.put { s with hp:=hp' } o.dst r)
  else if H o=true then uK Γ ops o s (bD Γ o s (jx Γ ops H K rest)) (jx Γ ops H K rest)
  else ∃x,Yields Γ ops o s x/\jx Γ ops H K rest (s.put o.dst x)
theorem jx.any {Q:AS G->Prop} {l0:List Oper} (hd:v7 H l0=true):∀(l:List Oper) (k:Nat) (listed:Array Bool) (s:AS G),(∀(j:Nat),l[j]?=l0[k+j]?)->listed.size=l0.length->(∀(j:Nat),j<l0.length->listed.getD j true=decide (j<k))->k+l.length=l0.length->
  jx Γ l0.toArray H Q l s->iy Γ l0.toArray H Q l.length listed s:=by
 intro l
 induction l with
 |nil=>
  intro k listed s _ bN ef hk h;refine⟨?_,h⟩;apply amV.2;intro j hj;obtain⟨h1,o,ho,_⟩:=mem_ready.1 hj;have ak:j<l0.length:=by have:=(alY.1 ho).1;simpa using this
  rw[ef j ak] at h1;simp at h1;simp at hk;omega
 |cons o l ih=>
  intro k listed s hl bN ef hk h;have ax:l0[k]?=some o:=by have:=hl 0;simpa using this.symm
  have Dg:l0.toArray[k]?=some o:=by simpa using ax
  have tO:k<l0.length:=(alu.1 ax).1;have dv:=hd;simp only[v7,alK,amR] at dv;have nR:=dv k tO;rw[ax] at nR;simp only[alB,alK,amR] at nR;obtain⟨JF,vJ⟩:=nR;have Hp:listed.getD k true=false:=by rw[ef k tO];simp
  have j6:∀j,j<l0.length->listed.getD j false=decide (j<k):=by
   intro j hj;have:=ef j hj;simp only[al9,alX (show j<listed.size by omega),amt] at this ⊢;exact this
  have zO:k∈Region.ready .any l0.toArray listed:=by
   refine mem_ready.2 ⟨Hp,o,Dg,fun e he hb=>?_⟩;have:=JF e (by simpa using he);rw[hb] at this;simp at this;rw[j6 e.on (by omega)];simp;exact this
  have cM:oF l0.toArray listed:=by
   intro q oq hq Nr e he hb;have Bq:q<l0.length:=by have:=(alY.1 Nr).1;simpa using this
   rw[j6 q Bq] at hq;have Hq:q<k:=by simpa using hq
   have h2:=dv q Bq;have Hr:l0[q]?=some oq:=by simpa using Nr
   rw[Hr] at h2;simp only[alB,alK] at h2;have h3:=h2.1 e (by simpa using he);rw[hb] at h3;simp at h3;rw[j6 e.on (by omega)];simp;omega
  have mZ:∀(j:Nat),(List.getD (l9 l0 []) j 0).testBit k=true->Reach l0.toArray k j:=by
   intro j hj
   cases hm:(l9 l0 [])[j]? with
   |none=>simp[List.getD,hm] at hj
   |some m=>
    simp only[List.getD,hm,amt] at hj;exact ma (ops:=l0.toArray) l0 [] (fun j=>by simp) (fun j m i hj=>by simp at hj) j m k hm hj
  have mc:∀(j:Nat) oj,l0.toArray[j]?=some oj->j≠k->listed.getD j true=false->Reach l0.toArray k j\/(kF H o=false/\kF H oj=false/\o.apart l0.toArray oj=true):=by
   intro j oj iM jL jF;have qm:j<l0.length:=by have:=(alY.1 iM).1;simpa using this
   rw[ef j qm] at jF;have Hs:l0[j]?=some oj:=by simpa using iM
   have h2:=vJ j qm;rw[Hs] at h2;simp only[amo,decide_eq_true_eq,alB,ame] at h2;rcases h2 with(h2|h2)|h2
   ·simp at jF;omega
   ·exact .inl (mZ j h2)
   ·exact .inr ⟨h2.1.1,h2.1.2,h2.2⟩
  have bS:∀s',jx Γ l0.toArray H Q l s'->iy Γ l0.toArray H Q l.length (listed.setIfInBounds k true) s':=by
   intro s' h';refine ih (k+1) _ s' (fun j=>by have:=hl (j+1);simp only[al5] at this;rw[this];congr 1;omega) (by simpa using bN) (fun j hj=>?_) (by simp at hk;omega) h'
   by_cases jL:j=k
   ·subst jL;have:j<listed.size:=by omega
    simp[this]
   ·rw[getD_set_ne true (am5 jL),ef j hj];simp;omega
  simp only[jx] at h;split at h
  ·rename_i he;obtain⟨h1,h2,r,hp',h3,h4⟩:=h;have S7:kF H o=true:=by simp[kF,he]
   refine iy.gU cM (fun j oj iM jL jF=>?_) zO ?_
   ·rcases mc j oj iM jL jF with h5|h5
    ·exact h5
    ·rw[S7] at h5;cases h5.1
   ·unfold kc;rw[Dg];simp only[he,if_true];exact⟨h1,h2,r,hp',h3,bS _ h4⟩
  ·rename_i he;split at h
   ·rename_i hH;have S7:kF H o=true:=by simp[kF,hH]
    refine iy.gU cM (fun j oj iM jL jF=>?_) zO ?_
    ·rcases mc j oj iM jL jF with h5|h5
     ·exact h5
     ·rw[S7] at h5;cases h5.1
    ·unfold kc;rw[Dg];simp only[he,hH,alQ,if_true,if_false];exact h.mono (fun h2 a w η Kc Qc hk hr=>h2 a w η Kc Qc (fun s' a' w' aN hs eH=>hk s' a' w' aN (bS _ hs) eH) hr) bS
   ·rename_i hH;obtain⟨x,h1,h2⟩:=h;exact iy.first Dg (by simp[kF,he,hH]) l.length listed s cM (fun j oj iM jL jF=>(mc j oj iM jL jF).imp id fun h=>⟨h.2.1,h.2.2⟩) zO h1 (bS _ h2)
theorem dT.aaw (ax:Γ.Ok) (hm:Γ.P.follows .mixedOrders=true) {id:Nat} {l:List Oper} {Q:Exit->AS G->Prop} (hd:v7 H l=true) (h:jx Γ l.toArray H (Q .normal) l s):dT Γ (.region id l.toArray true) Q s:=by
 intro a w η hr;refine wpIn_region_any hm ?_;have:=jx.any (Γ:=Γ) hd l 0 (Array.replicate l.length false) s (fun j=>by simp) (by simp) (fun j hj=>by simp[hj]) (by simp) h;have h2:=iy.sound (Qc:=fun e a' w'=>∃s' aN,Q e s'/\Rel Γ s' a' w' aN) ax (fun s' a' w' aN h1 h2=>⟨s',aN,h1,h2⟩) _ _ _ a w.drew η this (hr.same ax (bI.drew w));simpa using h2
end Go.Proofs.YtdcikhleahfknaaGreatDoor
