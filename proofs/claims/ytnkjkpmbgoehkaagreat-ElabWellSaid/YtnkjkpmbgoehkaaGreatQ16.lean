/- Lemmas. -/
import Derived.Test.YtnkjkpmbgoehkaaGreatQ15
namespace Go.Proofs.YtnkjkpmbgoehkaaGreat
open Go
set_option linter.unusedSimpArgs false
set_option linter.unusedVariables false
variable {G:Type} {Γ:Env G} {s s':AS G} {a:Act} {w w':World} {η:List Value} {hp:List aw} {P:Program} {ops:Array Oper} {H:Oper->Bool}
def mO (H:Oper->Bool) (o:Oper):Bool:=cI o.op||H o
theorem jR {o:Oper} (h:mO H o=false):cI o.op=false/\H o=false:=by
 unfold mO at h;exact Bool.or_eq_false_iff.1 h
def wT (Γ:Env G) (ops:Array Oper) (o:Oper) (s:AS G) (A:Prop) (K:AS G->Prop):Prop:=
 (aV ops s o=some true/\A)\/(aV ops s o=some false/\dC Γ.nt o.dst/\K (s.put o.dst (.ax (.tuple #[]))))
theorem wT.mono {o:Oper} {A B:Prop} {K L:AS G->Prop} (h:wT Γ ops o s A K) (ha:A->B) (hk:∀s,K s->L s):wT Γ ops o s B L:=
 h.imp (fun h=>⟨h.1,ha h.2⟩) fun h=>⟨h.1,h.2.1,hk _ h.2.2⟩
def mf (Γ:Env G) (ops:Array Oper) (H:Oper->Bool) (i:Nat) (K:AS G->Prop) (s:AS G):Prop:=
 match ops[i]? with
 |none=>K s
 |some o=>if cI o.op=true then dC Γ.nt o.dst/\o.guard=none/\∃r hp',gL Γ o s r hp'/\K (AS.put { s with hp:=hp' } o.dst r)
  else if H o=true then wT Γ ops o s (bO Γ o s K) K
  else ∃x,Yields Γ ops o s x/\K (s.put o.dst x)
theorem mf.sound (aE:Γ.Ok) {i:Nat} {K:AS G->Prop} {Kc:Act->World->Prop} {Qc:Exit->Act->World->Prop} (h:mf Γ ops H i K s) (hr:Rel Γ s a w η) (hk:∀s' a' w' bf,K s'->Rel Γ s' a' w' bf->Kc a' w'):
  wpOpIn Γ.fj 0 Γ.P ops Qc i Kc a w:=by
 unfold mf at h;unfold wpOpIn;split at h
 ·rename_i ho;rw[ho];exact hk _ _ _ _ h hr
 ·rename_i o ho;rw[ho];simp only;split at h
  ·obtain⟨h1,h2,r,hp',h3,h4⟩:=h;rw[if_pos (by simp[Region.wanted,h2])];exact(bO.dQ h3 h1 h4) a w η Kc Qc hk hr
  ·split at h
   ·rcases h with⟨h2,h3⟩|⟨h2,h1,h3⟩
    ·rw[if_pos (eD hr h2)];exact h3 a w η Kc Qc hk hr
    ·rw[if_neg (by rw[eD hr h2];simp)];exact⟨fun _ _=>trivial,hk _ _ _ _ h3 (hr.put (cy h1) (.ax _))⟩
   ·obtain⟨x,⟨h1,h2⟩,h3⟩:=h;rcases h2 with⟨h2,h4⟩|⟨h2,rfl⟩
    ·rw[if_pos (eD hr h2)];exact h4 a w η Kc Qc (hr.only _) fun v w' hs eR=>hk _ _ _ _ h3 ((hr.same aE hs).put (cy h1) eR)
    ·rw[if_neg (by rw[eD hr h2];simp)];exact⟨fun _ _=>trivial,hk _ _ _ _ h3 (hr.put (cy h1) (.ax _))⟩
def jF (Γ:Env G) (ops:Array Oper) (H:Oper->Bool) (Q:AS G->Prop):Nat->Array Bool->AS G->Prop
 |0,listed,s=>Region.ready .any ops listed=[]/\Q s
 |fuel+1,listed,s=>(Region.ready .any ops listed=[]->Q s)/\∀i∈Region.ready .any ops listed,mf Γ ops H i (jF Γ ops H Q fuel (listed.setIfInBounds i true)) s
theorem jF.sound (aE:Γ.Ok) {Q:AS G->Prop} {Qc:Exit->Act->World->Prop} (hq:∀s' a' w' bf,Q s'->Rel Γ s' a' w' bf->Qc .normal a' w'):∀(fuel:Nat) (listed:Array Bool) (s:AS G) (a:Act) (w:World) (η:List Value),jF Γ ops H Q fuel listed s->Rel Γ s a w η->
  wpAnyIn Γ.fj 0 Γ.P .any ops Qc fuel listed a w:=by
 intro fuel
 induction fuel with
 |zero=>intro listed s a w η h hr;exact⟨h.1,hq _ _ _ _ h.2 hr⟩
 |succ fuel ih=>intro listed s a w η h hr;exact⟨fun he=>hq _ _ _ _ (h.1 he) hr,fun i hi=>(h.2 i hi).sound aE hr fun s' a' w' bf h1 h2=>ih _ s' a' w' bf h1 h2⟩
theorem jF.first {Q:AS G->Prop} {i:Nat} {oi:Oper} {x:AV} (hi:ops[i]?=some oi) (cg:mO H oi=false):∀(fuel:Nat) (listed:Array Bool) (s:AS G),qH ops listed->
  (∀(j:Nat) oj,ops[j]?=some oj->j≠i->listed.getD j true=false->Reach ops i j\/(mO H oj=false/\oi.apart ops oj=true))->
  i∈Region.ready .any ops listed->Yields Γ ops oi s x->jF Γ ops H Q fuel (listed.setIfInBounds i true) (s.put oi.dst x)->jF Γ ops H Q (fuel+1) listed s:=by
 have own:∀{K:AS G->Prop} {s:AS G},Yields Γ ops oi s x->K (s.put oi.dst x)->mf Γ ops H i K s:=by
  intro K s hy hK;unfold mf;rw[hi];simp only[(jR cg).1,(jR cg).2,aqH,if_false];exact⟨x,hy,hK⟩
 intro fuel
 induction fuel with
 |zero=>
  intro listed s _ _ hr hy H;refine⟨fun h=>(by rw[h] at hr;cases hr),fun j hj=>?_⟩
  by_cases iT:j=i
  ·subst iT;exact own hy H
  ·have:=ready_mono hj iT;rw[H.1] at this;cases this
 |succ fuel ih=>
  intro listed s dn dD hr hy H;refine⟨fun h=>(by rw[h] at hr;cases hr),fun j hj=>?_⟩
  by_cases iT:j=i
  ·subst iT;exact own hy H
  ·have h1:=H.2 j (ready_mono hj iT);obtain⟨pb,oj,kg,DO⟩:=mem_ready.1 hj;rcases dD j oj kg iT pb with h2|⟨L2,Q8⟩
   ·exact(iI dn hr hj h2).elim
   obtain⟨p1,p2,p3⟩:=Oper.apart_spec Q8;unfold mf at h1 ⊢;rw[kg] at h1 ⊢;simp only[(jR L2).1,(jR L2).2,aqH,if_false] at h1 ⊢;obtain⟨y,hyj,hK⟩:=h1;refine⟨y,hyj.qI p1,ih (listed.setIfInBounds j true) (s.put oj.dst y) (cN dn hj) (fun k ok hk W3 jA=>?_) (ready_mono hr (ar1 iT)) (hy.put p3) ?_⟩
   ·refine dD k ok hk W3 ?_
    by_cases lI:j=k
    ·subst lI;exact pb
    ·rw[getD_set_ne true lI] at jA;exact jA
   ·rw[arE _ _ iT,<-put_comm p2];exact hK
theorem jF.jb {Q:AS G->Prop} {i:Nat} {fuel:Nat} {listed:Array Bool} (dn:qH ops listed) (dD:∀(j:Nat) oj,ops[j]?=some oj->j≠i->listed.getD j true=false->Reach ops i j)
  (hr:i∈Region.ready .any ops listed) (H0:mf Γ ops H i (jF Γ ops H Q fuel (listed.setIfInBounds i true)) s):jF Γ ops H Q (fuel+1) listed s:=by
 refine⟨fun h=>(by rw[h] at hr;cases hr),fun j hj=>?_⟩
 by_cases iT:j=i
 ·subst iT;exact H0
 ·obtain⟨pb,oj,kg,_⟩:=mem_ready.1 hj;exact(iI dn hr hj (dD j oj kg iT pb)).elim
def yl (H:Oper->Bool) (l:List Oper):Bool:=
 let m:=nV l []
 (List.range l.length).all fun k=>match l[k]? with
  |none=>false
  |some ok=>ok.after.toList.all (fun e=>!Region.binds .any e||decide (e.on<k)) &&
    (List.range l.length).all fun j=>decide (j<=k)||(m.getD j 0).testBit k||match l[j]? with
     |none=>true
     |some oj=>!mO H ok&&!mO H oj&&ok.apart l.toArray oj
def kZ (Γ:Env G) (ops:Array Oper) (H:Oper->Bool) (K:AS G->Prop):List Oper->AS G->Prop
 | [],s=>K s
 |o::rest,s=>if cI o.op=true then dC Γ.nt o.dst/\o.guard=none/\∃r hp',gL Γ o s r hp'/\kZ Γ ops H K rest (AS.put { s with hp:=hp' } o.dst r)
  else if H o=true then wT Γ ops o s (bO Γ o s (kZ Γ ops H K rest)) (kZ Γ ops H K rest)
  else ∃x,Yields Γ ops o s x/\kZ Γ ops H K rest (s.put o.dst x)
theorem kZ.any {Q:AS G->Prop} {l0:List Oper} (hd:yl H l0=true):∀(l:List Oper) (k:Nat) (listed:Array Bool) (s:AS G),(∀(j:Nat),l[j]?=l0[k+j]?)->listed.size=l0.length->(∀(j:Nat),j<l0.length->listed.getD j true=decide (j<k))->k+l.length=l0.length->
  kZ Γ l0.toArray H Q l s->jF Γ l0.toArray H Q l.length listed s:=by
 intro l
 induction l with
 |nil=>
  intro k listed s _ cx fk hk h;refine⟨?_,h⟩;apply arP.2;intro j hj;obtain⟨h1,o,ho,_⟩:=mem_ready.1 hj;have aH:j<l0.length:=by have:=(aqO.1 ho).1;simpa using this
  rw[fk j aH] at h1;simp at h1;simp at hk;omega
 |cons o l ih=>
  intro k listed s hl cx fk hk h;have aE:l0[k]?=some o:=by have:=hl 0;simpa using this.symm
  have FZ:l0.toArray[k]?=some o:=by simpa using aE
  have Q9:k<l0.length:=(aqr.1 aE).1;have ef:=hd;simp only[yl,aqF,arS] at ef;have mN:=ef k Q9;rw[aE] at mN;simp only[aqv,aqF,arS] at mN;obtain⟨QI,OV⟩:=mN;have J1:listed.getD k true=false:=by rw[fk k Q9];simp
  have lZ:∀j,j<l0.length->listed.getD j false=decide (j<k):=by
   intro j hj;have:=fk j hj;simp only[aq3,arf (show j<listed.size by omega),aq9] at this ⊢;exact this
  have Cr:k∈Region.ready .any l0.toArray listed:=by
   refine mem_ready.2 ⟨J1,o,FZ,fun e he hb=>?_⟩;have:=QI e (by simpa using he);rw[hb] at this;simp at this;rw[lZ e.on (by omega)];simp;exact this
  have dn:qH l0.toArray listed:=by
   intro q oq hq Ra e he hb;have L4:q<l0.length:=by have:=(aqO.1 Ra).1;simpa using this
   rw[lZ q L4] at hq;have Rb:q<k:=by simpa using hq
   have h2:=ef q L4;have J2:l0[q]?=some oq:=by simpa using Ra
   rw[J2] at h2;simp only[aqv,aqF] at h2;have h3:=h2.1 e (by simpa using he);rw[hb] at h3;simp at h3;rw[lZ e.on (by omega)];simp;omega
  have pc:∀(j:Nat),(List.getD (nV l0 []) j 0).testBit k=true->Reach l0.toArray k j:=by
   intro j hj
   cases hm:(nV l0 [])[j]? with
   |none=>simp[List.getD,hm] at hj
   |some m=>
    simp only[List.getD,hm,aq9] at hj;exact nW (ops:=l0.toArray) l0 [] (fun j=>by simp) (fun j m i hj=>by simp at hj) j m k hm hj
  have nX:∀(j:Nat) oj,l0.toArray[j]?=some oj->j≠k->listed.getD j true=false->Reach l0.toArray k j\/(mO H o=false/\mO H oj=false/\o.apart l0.toArray oj=true):=by
   intro j oj kg lI jA;have za:j<l0.length:=by have:=(aqO.1 kg).1;simpa using this
   rw[fk j za] at jA;have J3:l0[j]?=some oj:=by simpa using kg
   have h2:=OV j za;rw[J3] at h2;simp only[arh,decide_eq_true_eq,aqv,arc] at h2;rcases h2 with(h2|h2)|h2
   ·simp at jA;omega
   ·exact .inl (pc j h2)
   ·exact .inr ⟨h2.1.1,h2.1.2,h2.2⟩
  have cB:∀s',kZ Γ l0.toArray H Q l s'->jF Γ l0.toArray H Q l.length (listed.setIfInBounds k true) s':=by
   intro s' h';refine ih (k+1) _ s' (fun j=>by have:=hl (j+1);simp only[aq2] at this;rw[this];congr 1;omega) (by simpa using cx) (fun j hj=>?_) (by simp at hk;omega) h'
   by_cases lI:j=k
   ·subst lI;have:j<listed.size:=by omega
    simp[this]
   ·rw[getD_set_ne true (ar1 lI),fk j hj];simp;omega
  simp only[kZ] at h;split at h
  ·rename_i he;obtain⟨h1,h2,r,hp',h3,h4⟩:=h;have Cs:mO H o=true:=by simp[mO,he]
   refine jF.jb dn (fun j oj kg lI jA=>?_) Cr ?_
   ·rcases nX j oj kg lI jA with h5|h5
    ·exact h5
    ·rw[Cs] at h5;cases h5.1
   ·unfold mf;rw[FZ];simp only[he,if_true];exact⟨h1,h2,r,hp',h3,cB _ h4⟩
  ·rename_i he;split at h
   ·rename_i hH;have Cs:mO H o=true:=by simp[mO,hH]
    refine jF.jb dn (fun j oj kg lI jA=>?_) Cr ?_
    ·rcases nX j oj kg lI jA with h5|h5
     ·exact h5
     ·rw[Cs] at h5;cases h5.1
    ·unfold mf;rw[FZ];simp only[he,hH,aqH,if_true,if_false];exact h.mono (fun h2 a w η Kc Qc hk hr=>h2 a w η Kc Qc (fun s' a' w' bf hs gy=>hk s' a' w' bf (cB _ hs) gy) hr) cB
   ·rename_i hH;obtain⟨x,h1,h2⟩:=h;exact jF.first FZ (by simp[mO,he,hH]) l.length listed s dn (fun j oj kg lI jA=>(nX j oj kg lI jA).imp id fun h=>⟨h.2.1,h.2.2⟩) Cr h1 (cB _ h2)
theorem eY.aek (aE:Γ.Ok) (hm:Γ.P.follows .mixedOrders=true) {id:Nat} {l:List Oper} {Q:Exit->AS G->Prop} (hd:yl H l=true) (h:kZ Γ l.toArray H (Q .normal) l s):eY Γ (.region id l.toArray true) Q s:=by
 intro a w η hr;refine wpIn_region_any hm ?_;have:=kZ.any (Γ:=Γ) hd l 0 (Array.replicate l.length false) s (fun j=>by simp) (by simp) (fun j hj=>by simp[hj]) (by simp) h;have h2:=jF.sound (Qc:=fun e a' w'=>∃s' bf,Q e s'/\Rel Γ s' a' w' bf) aE (fun s' a' w' bf h1 h2=>⟨s',bf,h1,h2⟩) _ _ _ a w.drew η this (hr.same aE (bV.drew w));simpa using h2
end Go.Proofs.YtnkjkpmbgoehkaaGreat
