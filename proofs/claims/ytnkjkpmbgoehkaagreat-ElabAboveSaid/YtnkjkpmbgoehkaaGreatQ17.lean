/- Texts of ours laid together for a claim: VcH. -/
import Derived.Test.YtnkjkpmbgoehkaaGreatQ16
namespace Go.Proofs.YtnkjkpmbgoehkaaGreat
open Go
set_option linter.unusedSimpArgs false
set_option linter.unusedVariables false
variable {G:Type} {Γ:Env G} {s s':AS G} {a:Act} {w w':World} {η:List Value} {hp hp':List ab} {P:Program} {ops:Array Oper} {H:Oper->Bool}
def NN (Γ:Env G) (ops:Array Oper) (o:Oper) (l:List Nat) (s:AS G) (K:AS G->Prop):Prop:=
 ∃N:AV->List ab->Prop,(∀s':AS G,(∀t,t∈o.looksAt ops->s'.tmps t=s.tmps t)->s'.hp=s.hp->∀K':AS G->Prop,(∀r hp',N r hp'->K' (AS.put { s' with hp:=hp' } o.dst r))->bq Γ o s' K')/\
  ∀r hp',N r hp'->mD l s.hp hp'/\K (AS.put { s with hp:=hp' } o.dst r)
def Hj (Γ:Env G) (ops:Array Oper) (X:List (Option (List Nat))) (i:Nat) (o:Oper) (s:AS G) (K:AS G->Prop):Prop:=
 match X.getD i none with
 |none=>bq Γ o s K
 |some l=>NN Γ ops o l s K
theorem Hj.call {X:List (Option (List Nat))} {i:Nat} {o:Oper} {K:AS G->Prop} (h:Hj Γ ops X i o s K):bq Γ o s K:=by
 unfold Hj at h;split at h
 ·exact h
 ·obtain⟨N,h1,h2⟩:=h;exact h1 s (fun _ _=>rfl) rfl K fun r hp' hn=>(h2 r hp' hn).2
def jx (Γ:Env G) (ops:Array Oper) (H:Oper->Bool) (C X:List (Option (List Nat))) (i:Nat) (K:AS G->Prop) (s:AS G):Prop:=
 match ops[i]? with
 |none=>K s
 |some o=>if cf o.op=true then cP Γ.nt o.dst/\o.guard=none/\∃r hp',qI Γ ops o s r hp'/\kJ C i s.hp hp'/\K (AS.put { s with hp:=hp' } o.dst r)
  else if H o=true then uM Γ ops o s (Hj Γ ops X i o s K) K
  else ∃x,jQ Γ ops o s x (fun hp hp'=>hp'=hp)/\K (s.put o.dst x)
def fW (Γ:Env G) (ops:Array Oper) (H:Oper->Bool) (C X:List (Option (List Nat))) (Q:AS G->Prop):Nat->Array Bool->AS G->Prop
 |0,listed,s=>Region.ready .any ops listed=[]/\Q s
 |fuel+1,listed,s=>(Region.ready .any ops listed=[]->Q s)/\∀i∈Region.ready .any ops listed,jx Γ ops H C X i (fW Γ ops H C X Q fuel (listed.setIfInBounds i true)) s
theorem fW.any (al:Γ.Ok) {C X:List (Option (List Nat))} {Q:AS G->Prop}:∀(fuel:Nat) (listed:Array Bool) (s:AS G),fW Γ ops H C X Q fuel listed s->iF Γ ops H Q fuel listed s:=by
 intro fuel
 induction fuel with
 |zero=>intro listed s h;exact h
 |succ fuel ih=>
  intro listed s h;refine⟨h.1,fun i hi=>?_⟩;have h1:=h.2 i hi;unfold jx at h1;unfold kK;split at h1
  ·rename_i ho;rw[ho];exact ih _ _ h1
  ·rename_i o ho;rw[ho];simp only;split at h1
   ·rename_i he;rw[if_pos he];obtain⟨g1,g2,r,hp',g3,_,g4⟩:=h1;exact⟨g1,g2,r,hp',g3.run al,ih _ _ g4⟩
   ·rename_i he;rw[if_neg he];split at h1
    ·rename_i hH;rw[if_pos hH];exact h1.mono (fun h2 a w η Kc Qc hk hr=>h2.call a w η Kc Qc (fun s' a' w' aO hs fI=>hk s' a' w' aO (ih _ _ hs) fI) hr) (ih _)
    rename_i hH;rw[if_neg hH];obtain⟨x,g1,g2⟩:=h1;exact⟨x,jQ.NC (R:=fun hp hp'=>hp'=hp) al rfl g1,ih _ _ g2⟩
theorem fW.first {C X:List (Option (List Nat))} {Q:AS G->Prop} {i:Nat} {oi:Oper} {x:AV} {R:List ab->List ab->Prop} (YK:∀iC zj hp3,R iC zj->R zj hp3->R iC hp3) (Zj:∀hp,R hp hp) (hi:ops[i]?=some oi) (bL:lp H oi=false):
  ∀(fuel:Nat) (listed:Array Bool) (s:AS G),oP ops listed->
  (∀(j:Nat) oj,ops[j]?=some oj->j≠i->listed.getD j true=false->Reach ops i j\/(oi.apart ops oj=true/\((H oj=false/\(cf oj.op=false\/∀hp hp',kJ C j hp hp'->R hp hp'))\/(H oj=true/\cf oj.op=false/\∃l,X.getD j none=some l/\∀hp hp',mD l hp hp'->R hp hp'))))->
  i∈Region.ready .any ops listed->jQ Γ ops oi s x R->fW Γ ops H C X Q fuel (listed.setIfInBounds i true) (s.put oi.dst x)->fW Γ ops H C X Q (fuel+1) listed s:=by
 have own:∀{K:AS G->Prop} {s:AS G},jQ Γ ops oi s x R->K (s.put oi.dst x)->jx Γ ops H C X i K s:=by
  intro K s hy hK;unfold jx;rw[hi];simp only[(iO bL).1,(iO bL).2,alx,if_false];exact⟨x,⟨hy.1,hy.2.imp (fun g=>⟨g.1,fun s' h1 h2=>g.2 s' h1 (by rw[h2];exact Zj _)⟩) id⟩,hK⟩
 intro fuel
 induction fuel with
 |zero=>
  intro listed s _ _ hr hy H1;refine⟨fun h=>(by rw[h] at hr;cases hr),fun j hj=>?_⟩
  by_cases gM:j=i
  ·subst gM;exact own hy H1
  ·have:=ready_mono hj gM;rw[H1.1] at this;cases this
 |succ fuel ih=>
  intro listed s cC cQ hr hy H1;refine⟨fun h=>(by rw[h] at hr;cases hr),fun j hj=>?_⟩
  by_cases gM:j=i
  ·subst gM;exact own hy H1
  ·have h1:=H1.2 j (ready_mono hj gM);obtain⟨np,oj,iV,G3⟩:=mem_ready.1 hj;rcases cQ j oj iV gM np with h2|⟨Nj,Nb⟩
   ·exact(gB cC hr hj h2).elim
   obtain⟨p1,p2,p3⟩:=Oper.apart_spec Nj;have p1':∀t,t∈oj.looksAt ops->(s.put oi.dst x).tmps t=s.tmps t:=by
    intro t ht
    cases hd:oi.dst with
    |none=>rfl
    |some d=>
     show zb _ _ _ _=_;rw[fX,if_neg];intro e;subst e;exact p1 _ hd ht
   have bV:∀k ok,ops[k]?=some ok->k≠i->(listed.setIfInBounds j true).getD k true=false->Reach ops i k\/(oi.apart ops ok=true/\((H ok=false/\(cf ok.op=false\/∀hp hp',kJ C k hp hp'->R hp hp'))\/(H ok=true/\cf ok.op=false/\∃l,X.getD k none=some l/\∀hp hp',mD l hp hp'->R hp hp'))):=by
    intro k ok hk SS jE;refine cQ k ok hk SS ?_
    by_cases km:j=k
    ·subst km;exact np
    ·rw[getD_set_ne true km] at jE;exact jE
   have Wc:∀(hp':List ab) (r:AV),(AS.put { s with hp:=hp' } oj.dst r).put oi.dst x=AS.put { s.put oi.dst x with hp:=hp' } oj.dst r:=by
    intro hp' r;rw[<-put_comm p2]
    congr 1
    cases oi.dst<;>rfl
   have Bj:(s.put oi.dst x).hp=s.hp:=by cases oi.dst<;>rfl
   rcases Nb with⟨hnH,mu⟩|⟨hyH,hnE,l,hl,hR⟩
   ·unfold jx at h1 ⊢;rw[iV] at h1 ⊢;simp only at h1 ⊢;split at h1
    ·rename_i I6;rw[if_pos I6];obtain⟨g1,g2,r,hp',g3,g4,g5⟩:=h1;rw[Bj] at g4;have hR:=(mu.resolve_left (by rw[I6];simp)) _ _ g4;refine⟨g1,g2,r,hp',g3.oQ p1,g4,ih (listed.setIfInBounds j true) _ (cg cC hj) bV (ready_mono hr (amK gM)) ((hy.heap YK hR).put p3) ?_⟩;rw[amm _ _ gM];rw[Wc];exact g5
    ·rename_i I6;rw[if_neg I6,if_neg (by rw[hnH];simp)];rw[if_neg (by rw[hnH];simp)] at h1;obtain⟨y,Xg,hK⟩:=h1;refine⟨y,Xg.oQ p1,ih (listed.setIfInBounds j true) (s.put oj.dst y) (cg cC hj) bV (ready_mono hr (amK gM)) (hy.put p3) ?_⟩;rw[amm _ _ gM,<-put_comm p2];exact hK
   ·unfold jx at h1 ⊢;rw[iV] at h1 ⊢;simp only[hnE,hyH,alx,if_true,if_false] at h1 ⊢;unfold uM at h1 ⊢;rw[gU p1] at h1;refine h1.imp (fun h1=>⟨h1.1,?_⟩) fun h1=>⟨h1.1,h1.2.1,?_⟩
    rotate_left
    ·refine ih (listed.setIfInBounds j true) _ (cg cC hj) bV (ready_mono hr (amK gM)) (hy.put p3) ?_;rw[amm _ _ gM,<-put_comm p2];exact h1.2.2
    have h2:=h1.2;unfold Hj at h2 ⊢;rw[hl] at h2 ⊢;obtain⟨N,h3,h4⟩:=h2;refine⟨N,fun s' h5 h6=>h3 s' (fun t ht=>(h5 t ht).trans (p1' t ht).symm) (h6.trans Bj.symm),fun r hp' hn=>?_⟩;obtain⟨g4,g5⟩:=h4 r hp' hn;rw[Bj] at g4;refine⟨g4,ih (listed.setIfInBounds j true) _ (cg cC hj) bV (ready_mono hr (amK gM)) ((hy.heap YK (hR _ _ g4)).put p3) ?_⟩;rw[amm _ _ gM];rw[Wc];exact g5
theorem fW.gV {C X:List (Option (List Nat))} {Q:AS G->Prop} {i:Nat} {fuel:Nat} {listed:Array Bool} (cC:oP ops listed) (cQ:∀(j:Nat) oj,ops[j]?=some oj->j≠i->listed.getD j true=false->Reach ops i j)
  (hr:i∈Region.ready .any ops listed) (H0:jx Γ ops H C X i (fW Γ ops H C X Q fuel (listed.setIfInBounds i true)) s):fW Γ ops H C X Q (fuel+1) listed s:=by
 refine⟨fun h=>(by rw[h] at hr;cases hr),fun j hj=>?_⟩
 by_cases gM:j=i
 ·subst gM;exact H0
 ·obtain⟨np,oj,iV,_⟩:=mem_ready.1 hj;exact(gB cC hr hj (cQ j oj iV gM np)).elim
def v8 (H:Oper->Bool) (C M:List (Option (List Nat))) (l:List Oper):Bool:=
 let m:=mz l []
 (List.range l.length).all fun k=>match l[k]? with
  |none=>false
  |some ok=>ok.after.toList.all (fun e=>!Region.binds .any e||decide (e.on<k)) &&
    (List.range l.length).all fun j=>decide (j<=k)||(m.getD j 0).testBit k||match l[j]? with
     |none=>true
     |some oj=>!lp H ok&&(!H oj&&ok.apart l.toArray oj&&(!cf oj.op||gW C M k j ok.op))
def jG (Γ:Env G) (ops:Array Oper) (H:Oper->Bool) (C M:List (Option (List Nat))) (K:AS G->Prop):Nat->List Oper->AS G->Prop
 |_,[],s=>K s
 |k,o::rest,s=>if cf o.op=true then cP Γ.nt o.dst/\o.guard=none/\∃r hp',qI Γ ops o s r hp'/\kJ C k s.hp hp'/\jG Γ ops H C M K (k+1) rest (AS.put { s with hp:=hp' } o.dst r)
  else if H o=true then uM Γ ops o s (bq Γ o s (jG Γ ops H C M K (k+1) rest)) (jG Γ ops H C M K (k+1) rest)
  else ∃x,jQ Γ ops o s x (pY M k o.op)/\jG Γ ops H C M K (k+1) rest (s.put o.dst x)
theorem jG.any {C M:List (Option (List Nat))} {Q:AS G->Prop} {l0:List Oper} (hd:v8 H C M l0=true):∀(l:List Oper) (k:Nat) (listed:Array Bool) (s:AS G),(∀(j:Nat),l[j]?=l0[k+j]?)->listed.size=l0.length->(∀(j:Nat),j<l0.length->listed.getD j true=decide (j<k))->k+l.length=l0.length->
  jG Γ l0.toArray H C M Q k l s->fW Γ l0.toArray H C [] Q l.length listed s:=by
 intro l
 induction l with
 |nil=>
  intro k listed s _ bO eC hk h;refine⟨?_,h⟩;apply amB.2;intro j hj;obtain⟨h1,o,ho,_⟩:=mem_ready.1 hj;have aq:j<l0.length:=by have:=(alE.1 ho).1;simpa using this
  rw[eC j aq] at h1;simp at h1;simp at hk;omega
 |cons o l ih=>
  intro k listed s hl bO eC hk h;have al:l0[k]?=some o:=by have:=hl 0;simpa using this.symm
  have Dm:l0.toArray[k]?=some o:=by simpa using al
  have Nk:k<l0.length:=(ali.1 al).1;have dy:=hd;simp only[v8,alv,amD] at dy;have ma:=dy k Nk;rw[al] at ma;simp only[aln,alv,amD] at ma;obtain⟨MH,KZ⟩:=ma;have G5:listed.getD k true=false:=by rw[eC k Nk];simp
  have kH:∀j,j<l0.length->listed.getD j false=decide (j<k):=by
   intro j hj;have:=eC j hj;simp only[alR,al4 (show j<listed.size by omega),al1] at this ⊢;exact this
  have z7:k∈Region.ready .any l0.toArray listed:=by
   refine mem_ready.2 ⟨G5,o,Dm,fun e he hb=>?_⟩;have:=MH e (by simpa using he);rw[hb] at this;simp at this;rw[kH e.on (by omega)];simp;exact this
  have cC:oP l0.toArray listed:=by
   intro q oq hq Nl e he hb;have I8:q<l0.length:=by have:=(alE.1 Nl).1;simpa using this
   rw[kH q I8] at hq;have Nn:q<k:=by simpa using hq
   have h2:=dy q I8;have G6:l0[q]?=some oq:=by simpa using Nl
   rw[G6] at h2;simp only[aln,alv] at h2;have h3:=h2.1 e (by simpa using he);rw[hb] at h3;simp at h3;rw[kH e.on (by omega)];simp;omega
  have nq:∀(j:Nat),(List.getD (mz l0 []) j 0).testBit k=true->Reach l0.toArray k j:=by
   intro j hj
   cases hm:(mz l0 [])[j]? with
   |none=>simp[List.getD,hm] at hj
   |some m=>
    simp only[List.getD,hm,al1] at hj;exact mA (ops:=l0.toArray) l0 [] (fun j=>by simp) (fun j m i hj=>by simp at hj) j m k hm hj
  have mB:∀(j:Nat) oj,l0.toArray[j]?=some oj->j≠k->listed.getD j true=false->Reach l0.toArray k j\/(lp H o=false/\H oj=false/\o.apart l0.toArray oj=true/\(cf oj.op=false\/gW C M k j o.op=true)):=by
   intro j oj iV km jE;have uG:j<l0.length:=by have:=(alE.1 iV).1;simpa using this
   rw[eC j uG] at jE;have G7:l0[j]?=some oj:=by simpa using iV
   have h2:=KZ j uG;rw[G7] at h2;simp only[al7,decide_eq_true_eq,aln,al0] at h2;rcases h2 with(h2|h2)|h2
   ·simp at jE;omega
   ·exact .inl (nq j h2)
   ·exact .inr ⟨h2.1,h2.2.1.1,h2.2.1.2,h2.2.2⟩
  have bV:∀s',jG Γ l0.toArray H C M Q (k+1) l s'->fW Γ l0.toArray H C [] Q l.length (listed.setIfInBounds k true) s':=by
   intro s' h';refine ih (k+1) _ s' (fun j=>by have:=hl (j+1);simp only[alP] at this;rw[this];congr 1;omega) (by simpa using bO) (fun j hj=>?_) (by simp at hk;omega) h'
   by_cases km:j=k
   ·subst km;have:j<listed.size:=by omega
    simp[this]
   ·rw[getD_set_ne true (amK km),eC j hj];simp;omega
  simp only[jG] at h;split at h
  ·rename_i he;obtain⟨h1,h2,r,hp',h3,h4,h5⟩:=h;have KY:lp H o=true:=by simp[lp,he]
   refine fW.gV cC (fun j oj iV km jE=>?_) z7 ?_
   ·rcases mB j oj iV km jE with h5|h5
    ·exact h5
    ·rw[KY] at h5;cases h5.1
   ·unfold jx;rw[Dm];simp only[he,if_true];exact⟨h1,h2,r,hp',h3,h4,bV _ h5⟩
  ·rename_i he;split at h
   ·rename_i hH;have KY:lp H o=true:=by simp[lp,hH]
    refine fW.gV cC (fun j oj iV km jE=>?_) z7 ?_
    ·rcases mB j oj iV km jE with h5|h5
     ·exact h5
     ·rw[KY] at h5;cases h5.1
    ·unfold jx;rw[Dm];simp only[he,hH,alx,if_true,if_false];refine h.mono (fun h2=>?_) bV;show bq Γ o s _;exact fun a w η Kc Qc hk hr=>h2 a w η Kc Qc (fun s' a' w' aO hs fI=>hk s' a' w' aO (bV _ hs) fI) hr
   ·rename_i hH;obtain⟨x,h1,h2⟩:=h;exact fW.first (R:=pY M k o.op) (fun _ _ _=>pY.trans) (fun _=>pY.refl) Dm (by simp[lp,he,hH]) l.length listed s cC
     (fun j oj iV km jE=>(mB j oj iV km jE).imp id fun h=>⟨h.2.2.1,.inl ⟨h.2.1,h.2.2.2.imp id fun hm hp hp' hc=>iX hm hc⟩⟩) z7 h1 (bV _ h2)
theorem ej.Zt (al:Γ.Ok) (hm:Γ.P.follows .mixedOrders=true) {id:Nat} {l:List Oper} {Q:Exit->AS G->Prop} (C M:List (Option (List Nat))) (hd:v8 H C M l=true)
  (h:jG Γ l.toArray H C M (Q .normal) 0 l s):ej Γ (.region id l.toArray true) Q s:=by
 intro a w η hr;refine wpIn_region_any hm ?_;have:=(jG.any (Γ:=Γ) (C:=C) (M:=M) hd l 0 (Array.replicate l.length false) s (fun j=>by simp) (by simp) (fun j hj=>by simp[hj]) (by simp) h).any al;have h2:=iF.sound (Qc:=fun e a' w'=>∃s' aO,Q e s'/\Rel Γ s' a' w' aO) al (fun s' a' w' aO h1 h2=>⟨s',aO,h1,h2⟩) _ _ _ a w.drew η this (hr.same al (bD.drew w));simpa using h2
end Go.Proofs.YtnkjkpmbgoehkaaGreat
