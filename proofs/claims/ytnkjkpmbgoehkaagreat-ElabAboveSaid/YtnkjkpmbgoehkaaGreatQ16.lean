/- Texts of ours laid together for a claim: VcG. -/
import Derived.Test.YtnkjkpmbgoehkaaGreatQ15
namespace Go.Proofs.YtnkjkpmbgoehkaaGreat
open Go
set_option linter.unusedSimpArgs false
set_option linter.unusedVariables false
variable {G:Type} {Γ:Env G} {s s':AS G} {a:Act} {w w':World} {η:List Value} {hp:List ab} {P:Program} {ops:Array Oper} {H:Oper->Bool}
def lp (H:Oper->Bool) (o:Oper):Bool:=cf o.op||H o
theorem iO {o:Oper} (h:lp H o=false):cf o.op=false/\H o=false:=by
 unfold lp at h;exact Bool.or_eq_false_iff.1 h
def uM (Γ:Env G) (ops:Array Oper) (o:Oper) (s:AS G) (A:Prop) (K:AS G->Prop):Prop:=
 (aC ops s o=some true/\A)\/(aC ops s o=some false/\cP Γ.nt o.dst/\K (s.put o.dst (.ae (.tuple #[]))))
theorem uM.mono {o:Oper} {A B:Prop} {K L:AS G->Prop} (h:uM Γ ops o s A K) (ha:A->B) (hk:∀s,K s->L s):uM Γ ops o s B L:=
 h.imp (fun h=>⟨h.1,ha h.2⟩) fun h=>⟨h.1,h.2.1,hk _ h.2.2⟩
def kK (Γ:Env G) (ops:Array Oper) (H:Oper->Bool) (i:Nat) (K:AS G->Prop) (s:AS G):Prop:=
 match ops[i]? with
 |none=>K s
 |some o=>if cf o.op=true then cP Γ.nt o.dst/\o.guard=none/\∃r hp',fS Γ o s r hp'/\K (AS.put { s with hp:=hp' } o.dst r)
  else if H o=true then uM Γ ops o s (bq Γ o s K) K
  else ∃x,Yields Γ ops o s x/\K (s.put o.dst x)
theorem kK.sound (al:Γ.Ok) {i:Nat} {K:AS G->Prop} {Kc:Act->World->Prop} {Qc:Exit->Act->World->Prop} (h:kK Γ ops H i K s) (hr:Rel Γ s a w η) (hk:∀s' a' w' aO,K s'->Rel Γ s' a' w' aO->Kc a' w'):
  wpOpIn Γ.eB 0 Γ.P ops Qc i Kc a w:=by
 unfold kK at h;unfold wpOpIn;split at h
 ·rename_i ho;rw[ho];exact hk _ _ _ _ h hr
 ·rename_i o ho;rw[ho];simp only;split at h
  ·obtain⟨h1,h2,r,hp',h3,h4⟩:=h;rw[if_pos (by simp[Region.wanted,h2])];exact(bq.di h3 h1 h4) a w η Kc Qc hk hr
  ·split at h
   ·rcases h with⟨h2,h3⟩|⟨h2,h1,h3⟩
    ·rw[if_pos (dN hr h2)];exact h3 a w η Kc Qc hk hr
    ·rw[if_neg (by rw[dN hr h2];simp)];exact⟨fun _ _=>trivial,hk _ _ _ _ h3 (hr.put (bT h1) (.ae _))⟩
   ·obtain⟨x,⟨h1,h2⟩,h3⟩:=h;rcases h2 with⟨h2,h4⟩|⟨h2,rfl⟩
    ·rw[if_pos (dN hr h2)];exact h4 a w η Kc Qc (hr.only _) fun v w' hs dG=>hk _ _ _ _ h3 ((hr.same al hs).put (bT h1) dG)
    ·rw[if_neg (by rw[dN hr h2];simp)];exact⟨fun _ _=>trivial,hk _ _ _ _ h3 (hr.put (bT h1) (.ae _))⟩
def iF (Γ:Env G) (ops:Array Oper) (H:Oper->Bool) (Q:AS G->Prop):Nat->Array Bool->AS G->Prop
 |0,listed,s=>Region.ready .any ops listed=[]/\Q s
 |fuel+1,listed,s=>(Region.ready .any ops listed=[]->Q s)/\∀i∈Region.ready .any ops listed,kK Γ ops H i (iF Γ ops H Q fuel (listed.setIfInBounds i true)) s
theorem iF.sound (al:Γ.Ok) {Q:AS G->Prop} {Qc:Exit->Act->World->Prop} (hq:∀s' a' w' aO,Q s'->Rel Γ s' a' w' aO->Qc .normal a' w'):∀(fuel:Nat) (listed:Array Bool) (s:AS G) (a:Act) (w:World) (η:List Value),iF Γ ops H Q fuel listed s->Rel Γ s a w η->
  wpAnyIn Γ.eB 0 Γ.P .any ops Qc fuel listed a w:=by
 intro fuel
 induction fuel with
 |zero=>intro listed s a w η h hr;exact⟨h.1,hq _ _ _ _ h.2 hr⟩
 |succ fuel ih=>intro listed s a w η h hr;exact⟨fun he=>hq _ _ _ _ (h.1 he) hr,fun i hi=>(h.2 i hi).sound al hr fun s' a' w' aO h1 h2=>ih _ s' a' w' aO h1 h2⟩
theorem iF.first {Q:AS G->Prop} {i:Nat} {oi:Oper} {x:AV} (hi:ops[i]?=some oi) (bL:lp H oi=false):∀(fuel:Nat) (listed:Array Bool) (s:AS G),oP ops listed->
  (∀(j:Nat) oj,ops[j]?=some oj->j≠i->listed.getD j true=false->Reach ops i j\/(lp H oj=false/\oi.apart ops oj=true))->
  i∈Region.ready .any ops listed->Yields Γ ops oi s x->iF Γ ops H Q fuel (listed.setIfInBounds i true) (s.put oi.dst x)->iF Γ ops H Q (fuel+1) listed s:=by
 have own:∀{K:AS G->Prop} {s:AS G},Yields Γ ops oi s x->K (s.put oi.dst x)->kK Γ ops H i K s:=by
  intro K s hy hK;unfold kK;rw[hi];simp only[(iO bL).1,(iO bL).2,alx,if_false];exact⟨x,hy,hK⟩
 intro fuel
 induction fuel with
 |zero=>
  intro listed s _ _ hr hy H;refine⟨fun h=>(by rw[h] at hr;cases hr),fun j hj=>?_⟩
  by_cases gM:j=i
  ·subst gM;exact own hy H
  ·have:=ready_mono hj gM;rw[H.1] at this;cases this
 |succ fuel ih=>
  intro listed s cC cQ hr hy H;refine⟨fun h=>(by rw[h] at hr;cases hr),fun j hj=>?_⟩
  by_cases gM:j=i
  ·subst gM;exact own hy H
  ·have h1:=H.2 j (ready_mono hj gM);obtain⟨np,oj,iV,G3⟩:=mem_ready.1 hj;rcases cQ j oj iV gM np with h2|⟨I6,Nj⟩
   ·exact(gB cC hr hj h2).elim
   obtain⟨p1,p2,p3⟩:=Oper.apart_spec Nj;unfold kK at h1 ⊢;rw[iV] at h1 ⊢;simp only[(iO I6).1,(iO I6).2,alx,if_false] at h1 ⊢;obtain⟨y,Xg,hK⟩:=h1;refine⟨y,Xg.oQ p1,ih (listed.setIfInBounds j true) (s.put oj.dst y) (cg cC hj) (fun k ok hk SS jE=>?_) (ready_mono hr (amK gM)) (hy.put p3) ?_⟩
   ·refine cQ k ok hk SS ?_
    by_cases km:j=k
    ·subst km;exact np
    ·rw[getD_set_ne true km] at jE;exact jE
   ·rw[amm _ _ gM,<-put_comm p2];exact hK
theorem iF.gV {Q:AS G->Prop} {i:Nat} {fuel:Nat} {listed:Array Bool} (cC:oP ops listed) (cQ:∀(j:Nat) oj,ops[j]?=some oj->j≠i->listed.getD j true=false->Reach ops i j)
  (hr:i∈Region.ready .any ops listed) (H0:kK Γ ops H i (iF Γ ops H Q fuel (listed.setIfInBounds i true)) s):iF Γ ops H Q (fuel+1) listed s:=by
 refine⟨fun h=>(by rw[h] at hr;cases hr),fun j hj=>?_⟩
 by_cases gM:j=i
 ·subst gM;exact H0
 ·obtain⟨np,oj,iV,_⟩:=mem_ready.1 hj;exact(gB cC hr hj (cQ j oj iV gM np)).elim
def v7 (H:Oper->Bool) (l:List Oper):Bool:=
 let m:=mz l []
 (List.range l.length).all fun k=>match l[k]? with
  |none=>false
  |some ok=>ok.after.toList.all (fun e=>!Region.binds .any e||decide (e.on<k)) &&
    (List.range l.length).all fun j=>decide (j<=k)||(m.getD j 0).testBit k||match l[j]? with
     |none=>true
     |some oj=>!lp H ok&&!lp H oj&&ok.apart l.toArray oj
def jF (Γ:Env G) (ops:Array Oper) (H:Oper->Bool) (K:AS G->Prop):List Oper->AS G->Prop
 | [],s=>K s
 |o::rest,s=>if cf o.op=true then cP Γ.nt o.dst/\o.guard=none/\∃r hp',fS Γ o s r hp'/\jF Γ ops H K rest (AS.put { s with hp:=hp' } o.dst r)
  else if H o=true then uM Γ ops o s (bq Γ o s (jF Γ ops H K rest)) (jF Γ ops H K rest)
  else ∃x,Yields Γ ops o s x/\jF Γ ops H K rest (s.put o.dst x)
theorem jF.any {Q:AS G->Prop} {l0:List Oper} (hd:v7 H l0=true):∀(l:List Oper) (k:Nat) (listed:Array Bool) (s:AS G),(∀(j:Nat),l[j]?=l0[k+j]?)->listed.size=l0.length->(∀(j:Nat),j<l0.length->listed.getD j true=decide (j<k))->k+l.length=l0.length->
  jF Γ l0.toArray H Q l s->iF Γ l0.toArray H Q l.length listed s:=by
 intro l
 induction l with
 |nil=>
  intro k listed s _ bO eC hk h;refine⟨?_,h⟩;apply amB.2;intro j hj;obtain⟨h1,o,ho,_⟩:=mem_ready.1 hj;have aq:j<l0.length:=by have:=(alE.1 ho).1;simpa using this
  rw[eC j aq] at h1;simp at h1;simp at hk;omega
 |cons o l ih=>
  intro k listed s hl bO eC hk h;have al:l0[k]?=some o:=by have:=hl 0;simpa using this.symm
  have Dm:l0.toArray[k]?=some o:=by simpa using al
  have Nk:k<l0.length:=(ali.1 al).1;have dy:=hd;simp only[v7,alv,amD] at dy;have ma:=dy k Nk;rw[al] at ma;simp only[aln,alv,amD] at ma;obtain⟨MH,KZ⟩:=ma;have G5:listed.getD k true=false:=by rw[eC k Nk];simp
  have kH:∀j,j<l0.length->listed.getD j false=decide (j<k):=by
   intro j hj;have:=eC j hj;simp only[alR,al4 (show j<listed.size by omega),al1] at this ⊢;exact this
  have z7:k∈Region.ready .any l0.toArray listed:=by
   refine mem_ready.2 ⟨G5,o,Dm,fun e he hb=>?_⟩;have:=MH e (by simpa using he);rw[hb] at this;simp at this;rw[kH e.on (by omega)];simp;exact this
  have cC:oP l0.toArray listed:=by
   intro q oq hq Nl e he hb;have I8:q<l0.length:=by have:=(alE.1 Nl).1;simpa using this
   rw[kH q I8] at hq;have Nn:q<k:=by simpa using hq
   have h2:=dy q I8;have G6:l0[q]?=some oq:=by simpa using Nl
   rw[G6] at h2;simp only[aln,alv] at h2;have h3:=h2.1 e (by simpa using he);rw[hb] at h3;simp at h3;rw[kH e.on (by omega)];simp;omega
  have nq:∀(j:Nat),(List.getD (mz l0 []) j 0).testBit k=true->Reach l0.toArray k j:=by
   intro j hj
   cases hm:(mz l0 [])[j]? with
   |none=>simp[List.getD,hm] at hj
   |some m=>
    simp only[List.getD,hm,al1] at hj;exact mA (ops:=l0.toArray) l0 [] (fun j=>by simp) (fun j m i hj=>by simp at hj) j m k hm hj
  have mB:∀(j:Nat) oj,l0.toArray[j]?=some oj->j≠k->listed.getD j true=false->Reach l0.toArray k j\/(lp H o=false/\lp H oj=false/\o.apart l0.toArray oj=true):=by
   intro j oj iV km jE;have uG:j<l0.length:=by have:=(alE.1 iV).1;simpa using this
   rw[eC j uG] at jE;have G7:l0[j]?=some oj:=by simpa using iV
   have h2:=KZ j uG;rw[G7] at h2;simp only[al7,decide_eq_true_eq,aln,al0] at h2;rcases h2 with(h2|h2)|h2
   ·simp at jE;omega
   ·exact .inl (nq j h2)
   ·exact .inr ⟨h2.1.1,h2.1.2,h2.2⟩
  have bV:∀s',jF Γ l0.toArray H Q l s'->iF Γ l0.toArray H Q l.length (listed.setIfInBounds k true) s':=by
   intro s' h';refine ih (k+1) _ s' (fun j=>by have:=hl (j+1);simp only[alP] at this;rw[this];congr 1;omega) (by simpa using bO) (fun j hj=>?_) (by simp at hk;omega) h'
   by_cases km:j=k
   ·subst km;have:j<listed.size:=by omega
    simp[this]
   ·rw[getD_set_ne true (amK km),eC j hj];simp;omega
  simp only[jF] at h;split at h
  ·rename_i he;obtain⟨h1,h2,r,hp',h3,h4⟩:=h;have KY:lp H o=true:=by simp[lp,he]
   refine iF.gV cC (fun j oj iV km jE=>?_) z7 ?_
   ·rcases mB j oj iV km jE with h5|h5
    ·exact h5
    ·rw[KY] at h5;cases h5.1
   ·unfold kK;rw[Dm];simp only[he,if_true];exact⟨h1,h2,r,hp',h3,bV _ h4⟩
  ·rename_i he;split at h
   ·rename_i hH;have KY:lp H o=true:=by simp[lp,hH]
    refine iF.gV cC (fun j oj iV km jE=>?_) z7 ?_
    ·rcases mB j oj iV km jE with h5|h5
     ·exact h5
     ·rw[KY] at h5;cases h5.1
    ·unfold kK;rw[Dm];simp only[he,hH,alx,if_true,if_false];exact h.mono (fun h2 a w η Kc Qc hk hr=>h2 a w η Kc Qc (fun s' a' w' aO hs fI=>hk s' a' w' aO (bV _ hs) fI) hr) bV
   ·rename_i hH;obtain⟨x,h1,h2⟩:=h;exact iF.first Dm (by simp[lp,he,hH]) l.length listed s cC (fun j oj iV km jE=>(mB j oj iV km jE).imp id fun h=>⟨h.2.1,h.2.2⟩) z7 h1 (bV _ h2)
theorem ej.Zs (al:Γ.Ok) (hm:Γ.P.follows .mixedOrders=true) {id:Nat} {l:List Oper} {Q:Exit->AS G->Prop} (hd:v7 H l=true) (h:jF Γ l.toArray H (Q .normal) l s):ej Γ (.region id l.toArray true) Q s:=by
 intro a w η hr;refine wpIn_region_any hm ?_;have:=jF.any (Γ:=Γ) hd l 0 (Array.replicate l.length false) s (fun j=>by simp) (by simp) (fun j hj=>by simp[hj]) (by simp) h;have h2:=iF.sound (Qc:=fun e a' w'=>∃s' aO,Q e s'/\Rel Γ s' a' w' aO) al (fun s' a' w' aO h1 h2=>⟨s',aO,h1,h2⟩) _ _ _ a w.drew η this (hr.same al (bD.drew w));simpa using h2
end Go.Proofs.YtnkjkpmbgoehkaaGreat
