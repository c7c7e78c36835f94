/- Lemmas. -/
import Derived.Test.YtnkjkpmbgoehkaaGreatQ16
namespace Go.Proofs.YtnkjkpmbgoehkaaGreat
open Go
set_option linter.unusedSimpArgs false
set_option linter.unusedVariables false
variable {G:Type} {Γ:Env G} {s s':AS G} {a:Act} {w w':World} {η:List Value} {hp hp':List aw} {P:Program} {ops:Array Oper} {H:Oper->Bool}
def RA (Γ:Env G) (ops:Array Oper) (o:Oper) (l:List Nat) (s:AS G) (K:AS G->Prop):Prop:=
 ∃N:AV->List aw->Prop,(∀s':AS G,(∀t,t∈o.looksAt ops->s'.tmps t=s.tmps t)->s'.hp=s.hp->∀K':AS G->Prop,(∀r hp',N r hp'->K' (AS.put { s' with hp:=hp' } o.dst r))->bO Γ o s' K')/\
  ∀r hp',N r hp'->nZ l s.hp hp'/\K (AS.put { s with hp:=hp' } o.dst r)
def Kh (Γ:Env G) (ops:Array Oper) (X:List (Option (List Nat))) (i:Nat) (o:Oper) (s:AS G) (K:AS G->Prop):Prop:=
 match X.getD i none with
 |none=>bO Γ o s K
 |some l=>RA Γ ops o l s K
theorem Kh.call {X:List (Option (List Nat))} {i:Nat} {o:Oper} {K:AS G->Prop} (h:Kh Γ ops X i o s K):bO Γ o s K:=by
 unfold Kh at h;split at h
 ·exact h
 ·obtain⟨N,h1,h2⟩:=h;exact h1 s (fun _ _=>rfl) rfl K fun r hp' hn=>(h2 r hp' hn).2
def kQ (Γ:Env G) (ops:Array Oper) (H:Oper->Bool) (C X:List (Option (List Nat))) (i:Nat) (K:AS G->Prop) (s:AS G):Prop:=
 match ops[i]? with
 |none=>K s
 |some o=>if cI o.op=true then dC Γ.nt o.dst/\o.guard=none/\∃r hp',sI Γ ops o s r hp'/\mc C i s.hp hp'/\K (AS.put { s with hp:=hp' } o.dst r)
  else if H o=true then wT Γ ops o s (Kh Γ ops X i o s K) K
  else ∃x,lh Γ ops o s x (fun hp hp'=>hp'=hp)/\K (s.put o.dst x)
def gR (Γ:Env G) (ops:Array Oper) (H:Oper->Bool) (C X:List (Option (List Nat))) (Q:AS G->Prop):Nat->Array Bool->AS G->Prop
 |0,listed,s=>Region.ready .any ops listed=[]/\Q s
 |fuel+1,listed,s=>(Region.ready .any ops listed=[]->Q s)/\∀i∈Region.ready .any ops listed,kQ Γ ops H C X i (gR Γ ops H C X Q fuel (listed.setIfInBounds i true)) s
theorem gR.any (aE:Γ.Ok) {C X:List (Option (List Nat))} {Q:AS G->Prop}:∀(fuel:Nat) (listed:Array Bool) (s:AS G),gR Γ ops H C X Q fuel listed s->jF Γ ops H Q fuel listed s:=by
 intro fuel
 induction fuel with
 |zero=>intro listed s h;exact h
 |succ fuel ih=>
  intro listed s h;refine⟨h.1,fun i hi=>?_⟩;have h1:=h.2 i hi;unfold kQ at h1;unfold mf;split at h1
  ·rename_i ho;rw[ho];exact ih _ _ h1
  ·rename_i o ho;rw[ho];simp only;split at h1
   ·rename_i he;rw[if_pos he];obtain⟨g1,g2,r,hp',g3,_,g4⟩:=h1;exact⟨g1,g2,r,hp',g3.run aE,ih _ _ g4⟩
   ·rename_i he;rw[if_neg he];split at h1
    ·rename_i hH;rw[if_pos hH];exact h1.mono (fun h2 a w η Kc Qc hk hr=>h2.call a w η Kc Qc (fun s' a' w' bf hs gy=>hk s' a' w' bf (ih _ _ hs) gy) hr) (ih _)
    rename_i hH;rw[if_neg hH];obtain⟨x,g1,g2⟩:=h1;exact⟨x,lh.Rp (R:=fun hp hp'=>hp'=hp) aE rfl g1,ih _ _ g2⟩
theorem gR.first {C X:List (Option (List Nat))} {Q:AS G->Prop} {i:Nat} {oi:Oper} {x:AV} {R:List aw->List aw->Prop} (htr:∀jC BI hp3,R jC BI->R BI hp3->R jC hp3) (hrf:∀hp,R hp hp) (hi:ops[i]?=some oi) (cg:mO H oi=false):
  ∀(fuel:Nat) (listed:Array Bool) (s:AS G),qH ops listed->
  (∀(j:Nat) oj,ops[j]?=some oj->j≠i->listed.getD j true=false->Reach ops i j\/(oi.apart ops oj=true/\((H oj=false/\(cI oj.op=false\/∀hp hp',mc C j hp hp'->R hp hp'))\/(H oj=true/\cI oj.op=false/\∃l,X.getD j none=some l/\∀hp hp',nZ l hp hp'->R hp hp'))))->
  i∈Region.ready .any ops listed->lh Γ ops oi s x R->gR Γ ops H C X Q fuel (listed.setIfInBounds i true) (s.put oi.dst x)->gR Γ ops H C X Q (fuel+1) listed s:=by
 have own:∀{K:AS G->Prop} {s:AS G},lh Γ ops oi s x R->K (s.put oi.dst x)->kQ Γ ops H C X i K s:=by
  intro K s hy hK;unfold kQ;rw[hi];simp only[(jR cg).1,(jR cg).2,aqH,if_false];exact⟨x,⟨hy.1,hy.2.imp (fun g=>⟨g.1,fun s' h1 h2=>g.2 s' h1 (by rw[h2];exact hrf _)⟩) id⟩,hK⟩
 intro fuel
 induction fuel with
 |zero=>
  intro listed s _ _ hr hy H1;refine⟨fun h=>(by rw[h] at hr;cases hr),fun j hj=>?_⟩
  by_cases iT:j=i
  ·subst iT;exact own hy H1
  ·have:=ready_mono hj iT;rw[H1.1] at this;cases this
 |succ fuel ih=>
  intro listed s dn dD hr hy H1;refine⟨fun h=>(by rw[h] at hr;cases hr),fun j hj=>?_⟩
  by_cases iT:j=i
  ·subst iT;exact own hy H1
  ·have h1:=H1.2 j (ready_mono hj iT);obtain⟨pb,oj,kg,DO⟩:=mem_ready.1 hj;rcases dD j oj kg iT pb with h2|⟨Q8,Q2⟩
   ·exact(iI dn hr hj h2).elim
   obtain⟨p1,p2,p3⟩:=Oper.apart_spec Q8;have p1':∀t,t∈oj.looksAt ops->(s.put oi.dst x).tmps t=s.tmps t:=by
    intro t ht
    cases hd:oi.dst with
    |none=>rfl
    |some d=>
     show Bz _ _ _ _=_;rw[gV,if_neg];intro e;subst e;exact p1 _ hd ht
   have cB:∀k ok,ops[k]?=some ok->k≠i->(listed.setIfInBounds j true).getD k true=false->Reach ops i k\/(oi.apart ops ok=true/\((H ok=false/\(cI ok.op=false\/∀hp hp',mc C k hp hp'->R hp hp'))\/(H ok=true/\cI ok.op=false/\∃l,X.getD k none=some l/\∀hp hp',nZ l hp hp'->R hp hp'))):=by
    intro k ok hk W3 jA;refine dD k ok hk W3 ?_
    by_cases lI:j=k
    ·subst lI;exact pb
    ·rw[getD_set_ne true lI] at jA;exact jA
   have aaE:∀(hp':List aw) (r:AV),(AS.put { s with hp:=hp' } oj.dst r).put oi.dst x=AS.put { s.put oi.dst x with hp:=hp' } oj.dst r:=by
    intro hp' r;rw[<-put_comm p2]
    congr 1
    cases oi.dst<;>rfl
   have DQ:(s.put oi.dst x).hp=s.hp:=by cases oi.dst<;>rfl
   rcases Q2 with⟨hnH,nT⟩|⟨hyH,hnE,l,hl,hR⟩
   ·unfold kQ at h1 ⊢;rw[kg] at h1 ⊢;simp only at h1 ⊢;split at h1
    ·rename_i L2;rw[if_pos L2];obtain⟨g1,g2,r,hp',g3,g4,g5⟩:=h1;rw[DQ] at g4;have hR:=(nT.resolve_left (by rw[L2];simp)) _ _ g4;refine⟨g1,g2,r,hp',g3.qI p1,g4,ih (listed.setIfInBounds j true) _ (cN dn hj) cB (ready_mono hr (ar1 iT)) ((hy.heap htr hR).put p3) ?_⟩;rw[arE _ _ iT];rw[aaE];exact g5
    ·rename_i L2;rw[if_neg L2,if_neg (by rw[hnH];simp)];rw[if_neg (by rw[hnH];simp)] at h1;obtain⟨y,hyj,hK⟩:=h1;refine⟨y,hyj.qI p1,ih (listed.setIfInBounds j true) (s.put oj.dst y) (cN dn hj) cB (ready_mono hr (ar1 iT)) (hy.put p3) ?_⟩;rw[arE _ _ iT,<-put_comm p2];exact hK
   ·unfold kQ at h1 ⊢;rw[kg] at h1 ⊢;simp only[hnE,hyH,aqH,if_true,if_false] at h1 ⊢;unfold wT at h1 ⊢;rw[ja p1] at h1;refine h1.imp (fun h1=>⟨h1.1,?_⟩) fun h1=>⟨h1.1,h1.2.1,?_⟩
    rotate_left
    ·refine ih (listed.setIfInBounds j true) _ (cN dn hj) cB (ready_mono hr (ar1 iT)) (hy.put p3) ?_;rw[arE _ _ iT,<-put_comm p2];exact h1.2.2
    have h2:=h1.2;unfold Kh at h2 ⊢;rw[hl] at h2 ⊢;obtain⟨N,h3,h4⟩:=h2;refine⟨N,fun s' h5 h6=>h3 s' (fun t ht=>(h5 t ht).trans (p1' t ht).symm) (h6.trans DQ.symm),fun r hp' hn=>?_⟩;obtain⟨g4,g5⟩:=h4 r hp' hn;rw[DQ] at g4;refine⟨g4,ih (listed.setIfInBounds j true) _ (cN dn hj) cB (ready_mono hr (ar1 iT)) ((hy.heap htr (hR _ _ g4)).put p3) ?_⟩;rw[arE _ _ iT];rw[aaE];exact g5
theorem gR.jb {C X:List (Option (List Nat))} {Q:AS G->Prop} {i:Nat} {fuel:Nat} {listed:Array Bool} (dn:qH ops listed) (dD:∀(j:Nat) oj,ops[j]?=some oj->j≠i->listed.getD j true=false->Reach ops i j)
  (hr:i∈Region.ready .any ops listed) (H0:kQ Γ ops H C X i (gR Γ ops H C X Q fuel (listed.setIfInBounds i true)) s):gR Γ ops H C X Q (fuel+1) listed s:=by
 refine⟨fun h=>(by rw[h] at hr;cases hr),fun j hj=>?_⟩
 by_cases iT:j=i
 ·subst iT;exact H0
 ·obtain⟨pb,oj,kg,_⟩:=mem_ready.1 hj;exact(iI dn hr hj (dD j oj kg iT pb)).elim
def ym (H:Oper->Bool) (C M:List (Option (List Nat))) (l:List Oper):Bool:=
 let m:=nV l []
 (List.range l.length).all fun k=>match l[k]? with
  |none=>false
  |some ok=>ok.after.toList.all (fun e=>!Region.binds .any e||decide (e.on<k)) &&
    (List.range l.length).all fun j=>decide (j<=k)||(m.getD j 0).testBit k||match l[j]? with
     |none=>true
     |some oj=>!mO H ok&&(!H oj&&ok.apart l.toArray oj&&(!cI oj.op||jc C M k j ok.op))
def lb (Γ:Env G) (ops:Array Oper) (H:Oper->Bool) (C M:List (Option (List Nat))) (K:AS G->Prop):Nat->List Oper->AS G->Prop
 |_,[],s=>K s
 |k,o::rest,s=>if cI o.op=true then dC Γ.nt o.dst/\o.guard=none/\∃r hp',sI Γ ops o s r hp'/\mc C k s.hp hp'/\lb Γ ops H C M K (k+1) rest (AS.put { s with hp:=hp' } o.dst r)
  else if H o=true then wT Γ ops o s (bO Γ o s (lb Γ ops H C M K (k+1) rest)) (lb Γ ops H C M K (k+1) rest)
  else ∃x,lh Γ ops o s x (rW M k o.op)/\lb Γ ops H C M K (k+1) rest (s.put o.dst x)
theorem lb.any {C M:List (Option (List Nat))} {Q:AS G->Prop} {l0:List Oper} (hd:ym H C M l0=true):∀(l:List Oper) (k:Nat) (listed:Array Bool) (s:AS G),(∀(j:Nat),l[j]?=l0[k+j]?)->listed.size=l0.length->(∀(j:Nat),j<l0.length->listed.getD j true=decide (j<k))->k+l.length=l0.length->
  lb Γ l0.toArray H C M Q k l s->gR Γ l0.toArray H C [] Q l.length listed s:=by
 intro l
 induction l with
 |nil=>
  intro k listed s _ cx fk hk h;refine⟨?_,h⟩;apply arP.2;intro j hj;obtain⟨h1,o,ho,_⟩:=mem_ready.1 hj;have aH:j<l0.length:=by have:=(aqO.1 ho).1;simpa using this
  rw[fk j aH] at h1;simp at h1;simp at hk;omega
 |cons o l ih=>
  intro k listed s hl cx fk hk h;have aE:l0[k]?=some o:=by have:=hl 0;simpa using this.symm
  have FZ:l0.toArray[k]?=some o:=by simpa using aE
  have Q9:k<l0.length:=(aqr.1 aE).1;have ef:=hd;simp only[ym,aqF,arS] at ef;have mN:=ef k Q9;rw[aE] at mN;simp only[aqv,aqF,arS] at mN;obtain⟨QI,OV⟩:=mN;have J1:listed.getD k true=false:=by rw[fk k Q9];simp
  have lZ:∀j,j<l0.length->listed.getD j false=decide (j<k):=by
   intro j hj;have:=fk j hj;simp only[aq3,arf (show j<listed.size by omega),aq9] at this ⊢;exact this
  have Cr:k∈Region.ready .any l0.toArray listed:=by
   refine mem_ready.2 ⟨J1,o,FZ,fun e he hb=>?_⟩;have:=QI e (by simpa using he);rw[hb] at this;simp at this;rw[lZ e.on (by omega)];simp;exact this
  have dn:qH l0.toArray listed:=by
   intro q oq hq Ra e he hb;have L4:q<l0.length:=by have:=(aqO.1 Ra).1;simpa using this
   rw[lZ q L4] at hq;have Rb:q<k:=by simpa using hq
   have h2:=ef q L4;have J2:l0[q]?=some oq:=by simpa using Ra
   rw[J2] at h2;simp only[aqv,aqF] at h2;have h3:=h2.1 e (by simpa using he);rw[hb] at h3;simp at h3;rw[lZ e.on (by omega)];simp;omega
  have pc:∀(j:Nat),(List.getD (nV l0 []) j 0).testBit k=true->Reach l0.toArray k j:=by
   intro j hj
   cases hm:(nV l0 [])[j]? with
   |none=>simp[List.getD,hm] at hj
   |some m=>
    simp only[List.getD,hm,aq9] at hj;exact nW (ops:=l0.toArray) l0 [] (fun j=>by simp) (fun j m i hj=>by simp at hj) j m k hm hj
  have nX:∀(j:Nat) oj,l0.toArray[j]?=some oj->j≠k->listed.getD j true=false->Reach l0.toArray k j\/(mO H o=false/\H oj=false/\o.apart l0.toArray oj=true/\(cI oj.op=false\/jc C M k j o.op=true)):=by
   intro j oj kg lI jA;have za:j<l0.length:=by have:=(aqO.1 kg).1;simpa using this
   rw[fk j za] at jA;have J3:l0[j]?=some oj:=by simpa using kg
   have h2:=OV j za;rw[J3] at h2;simp only[arh,decide_eq_true_eq,aqv,arc] at h2;rcases h2 with(h2|h2)|h2
   ·simp at jA;omega
   ·exact .inl (pc j h2)
   ·exact .inr ⟨h2.1,h2.2.1.1,h2.2.1.2,h2.2.2⟩
  have cB:∀s',lb Γ l0.toArray H C M Q (k+1) l s'->gR Γ l0.toArray H C [] Q l.length (listed.setIfInBounds k true) s':=by
   intro s' h';refine ih (k+1) _ s' (fun j=>by have:=hl (j+1);simp only[aq2] at this;rw[this];congr 1;omega) (by simpa using cx) (fun j hj=>?_) (by simp at hk;omega) h'
   by_cases lI:j=k
   ·subst lI;have:j<listed.size:=by omega
    simp[this]
   ·rw[getD_set_ne true (ar1 lI),fk j hj];simp;omega
  simp only[lb] at h;split at h
  ·rename_i he;obtain⟨h1,h2,r,hp',h3,h4,h5⟩:=h;have Cs:mO H o=true:=by simp[mO,he]
   refine gR.jb dn (fun j oj kg lI jA=>?_) Cr ?_
   ·rcases nX j oj kg lI jA with h5|h5
    ·exact h5
    ·rw[Cs] at h5;cases h5.1
   ·unfold kQ;rw[FZ];simp only[he,if_true];exact⟨h1,h2,r,hp',h3,h4,cB _ h5⟩
  ·rename_i he;split at h
   ·rename_i hH;have Cs:mO H o=true:=by simp[mO,hH]
    refine gR.jb dn (fun j oj kg lI jA=>?_) Cr ?_
    ·rcases nX j oj kg lI jA with h5|h5
     ·exact h5
     ·rw[Cs] at h5;cases h5.1
    ·unfold kQ;rw[FZ];simp only[he,hH,aqH,if_true,if_false];refine h.mono (fun h2=>?_) cB;show bO Γ o s _;exact fun a w η Kc Qc hk hr=>h2 a w η Kc Qc (fun s' a' w' bf hs gy=>hk s' a' w' bf (cB _ hs) gy) hr
   ·rename_i hH;obtain⟨x,h1,h2⟩:=h;exact gR.first (R:=rW M k o.op) (fun _ _ _=>rW.trans) (fun _=>rW.refl) FZ (by simp[mO,he,hH]) l.length listed s dn
     (fun j oj kg lI jA=>(nX j oj kg lI jA).imp id fun h=>⟨h.2.2.1,.inl ⟨h.2.1,h.2.2.2.imp id fun hm hp hp' hc=>ki hm hc⟩⟩) Cr h1 (cB _ h2)
theorem eY.ael (aE:Γ.Ok) (hm:Γ.P.follows .mixedOrders=true) {id:Nat} {l:List Oper} {Q:Exit->AS G->Prop} (C M:List (Option (List Nat))) (hd:ym H C M l=true)
  (h:lb Γ l.toArray H C M (Q .normal) 0 l s):eY Γ (.region id l.toArray true) Q s:=by
 intro a w η hr;refine wpIn_region_any hm ?_;have:=(lb.any (Γ:=Γ) (C:=C) (M:=M) hd l 0 (Array.replicate l.length false) s (fun j=>by simp) (by simp) (fun j hj=>by simp[hj]) (by simp) h).any aE;have h2:=jF.sound (Qc:=fun e a' w'=>∃s' bf,Q e s'/\Rel Γ s' a' w' bf) aE (fun s' a' w' bf h1 h2=>⟨s',bf,h1,h2⟩) _ _ _ a w.drew η this (hr.same aE (bV.drew w));simpa using h2
end Go.Proofs.YtnkjkpmbgoehkaaGreat
