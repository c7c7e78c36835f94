/- Lemmas. -/
import Derived.Test.YtnkjkpmbgoehkaaGreatQ03
namespace Go.Proofs.YtnkjkpmbgoehkaaGreat
open Go
open _root_.List renaming getD->ae
set_option linter.unusedSimpArgs false
set_option linter.unusedVariables false
variable {G:Type} {Γ:Env G} {s s':AS G} {a:Act} {w w':World} {η:List Value} {hp:List aw} {P:Program} {ops:Array Oper}
def ub (Γ:Env G) (o:Oper) (s:AS G) (r:AV):Prop:=
 ∀a w η (Kc:Act->World->Prop) (Qc:Exit->Act->World->Prop),Rel Γ s a w η->(∀v w',bV w w'->bB w' (bt Γ w' η s.hp) η s.hp r v->Kc (a.put o.dst v) w')->o.wpIn Γ.fj 0 Γ.P a w Kc Qc
def AS.only (s:AS G) (L:List Nat):AS G:={ s with tmps:=fun t=>if t∈L then s.tmps t else .top }
theorem Rel.only (h:Rel Γ s a w η) (L:List Nat):Rel Γ (s.only L) a w η:=by
 refine⟨h.nt,fun t=>?_,h.heap,h.cq,h.keeps,h.inv,h.marks,h.ext⟩;show bB w _ η s.hp (if t∈L then s.tmps t else .top) _;split
 ·exact h.tmps t
 ·exact .top _
def cI:Op->Bool
 | .alloc _ | .box .. | .store .. | .makeSlice .. | .makeMap .. | .mapUpdate .. | .insert .. | .range .. | .next ..=>true
 | .call { callee:=.builtin .append,.. } | .call { callee:=.builtin .copy,.. } | .call { callee:=.builtin .delete,.. }=>true
 |_=>false
def aV (ops:Array Oper) (s:AS G) (o:Oper):Option Bool:=
 match o.guard with
 |none=>some true
 |some (j,want)=>(kx ops s j).map (·==some want)
def Yields (Γ:Env G) (ops:Array Oper) (o:Oper) (s:AS G) (x:AV):Prop:=
 dC Γ.nt o.dst/\((aV ops s o=some true/\ub Γ o (s.only (o.looksAt ops)) x)\/(aV ops s o=some false/\x=.ax (.tuple #[])))
def sH (Γ:Env G) (ops:Array Oper) (i:Nat) (K:AS G->Prop) (s:AS G):Prop:=
 match ops[i]? with
 |none=>K s
 |some o=>if cI o.op=true then dC Γ.nt o.dst/\o.guard=none/\∃r hp',gL Γ o s r hp'/\K (AS.put { s with hp:=hp' } o.dst r)
  else ∃x,Yields Γ ops o s x/\K (s.put o.dst x)
theorem eD (hr:Rel Γ s a w η) {o:Oper} {b:Bool} (h:aV ops s o=some b):Region.wanted o (yielded ops a.tmps)=b:=by
 unfold aV at h;split at h
 ·rename_i hg;obtain rfl:=aqs h;simp[Region.wanted,hg]
 ·rename_i j want hg
  cases hs:kx ops s j with
  |none=>rw[hs] at h;cases h
  |some c=>
   rw[hs] at h;obtain rfl:=aqs h;simp[Region.wanted,hg,eS hr hs]
theorem sH.sound (aE:Γ.Ok) {i:Nat} {K:AS G->Prop} {Kc:Act->World->Prop} {Qc:Exit->Act->World->Prop} (h:sH Γ ops i K s) (hr:Rel Γ s a w η) (hk:∀s' a' w' bf,K s'->Rel Γ s' a' w' bf->Kc a' w'):
  wpOpIn Γ.fj 0 Γ.P ops Qc i Kc a w:=by
 unfold sH at h;unfold wpOpIn;split at h
 ·rename_i ho;rw[ho];exact hk _ _ _ _ h hr
 ·rename_i o ho;rw[ho];simp only;split at h
  ·obtain⟨h1,h2,r,hp',h3,h4⟩:=h;rw[if_pos (by simp[Region.wanted,h2])];exact(bO.dQ h3 h1 h4) a w η Kc Qc hk hr
  ·obtain⟨x,⟨h1,h2⟩,h3⟩:=h;rcases h2 with⟨h2,h4⟩|⟨h2,rfl⟩
   ·rw[if_pos (eD hr h2)];exact h4 a w η Kc Qc (hr.only _) fun v w' hs eR=>hk _ _ _ _ h3 ((hr.same aE hs).put (cy h1) eR)
   ·rw[if_neg (by rw[eD hr h2];simp)];exact⟨fun _ _=>trivial,hk _ _ _ _ h3 (hr.put (cy h1) (.ax _))⟩
def sw (Γ:Env G) (ops:Array Oper) (Q:AS G->Prop):Nat->Array Bool->AS G->Prop
 |0,listed,s=>Region.ready .any ops listed=[]/\Q s
 |fuel+1,listed,s=>(Region.ready .any ops listed=[]->Q s)/\∀i∈Region.ready .any ops listed,sH Γ ops i (sw Γ ops Q fuel (listed.setIfInBounds i true)) s
theorem sw.sound (aE:Γ.Ok) {Q:AS G->Prop} {Qc:Exit->Act->World->Prop} (hq:∀s' a' w' bf,Q s'->Rel Γ s' a' w' bf->Qc .normal a' w'):∀(fuel:Nat) (listed:Array Bool) (s:AS G) (a:Act) (w:World) (η:List Value),sw Γ ops Q fuel listed s->Rel Γ s a w η->
  wpAnyIn Γ.fj 0 Γ.P .any ops Qc fuel listed a w:=by
 intro fuel
 induction fuel with
 |zero=>intro listed s a w η h hr;exact⟨h.1,hq _ _ _ _ h.2 hr⟩
 |succ fuel ih=>intro listed s a w η h hr;exact⟨fun he=>hq _ _ _ _ (h.1 he) hr,fun i hi=>(h.2 i hi).sound aE hr fun s' a' w' bf h1 h2=>ih _ s' a' w' bf h1 h2⟩
inductive Reach (ops:Array Oper) (i:Nat):Nat->Prop
 |ad5 (j:Nat) (o:Oper) (e:Edge) (ho:ops[j]?=some o) (he:e∈o.after) (hb:Region.binds .any e=true) (hi:e.on=i):Reach ops i j
 |step (j:Nat) (o:Oper) (e:Edge) (ho:ops[j]?=some o) (he:e∈o.after) (hb:Region.binds .any e=true) (h:Reach ops i e.on):Reach ops i j
def qH (ops:Array Oper) (listed:Array Bool):Prop:=∀(k:Nat) (o:Oper),listed.getD k false=true->ops[k]?=some o->∀e∈o.after,Region.binds .any e=true->listed.getD e.on false=true
theorem Reach.listed {listed:Array Bool} (hs:qH ops listed) {i j:Nat} (h:Reach ops i j) (hj:∀o,ops[j]?=some o->∀e∈o.after,Region.binds .any e=true->listed.getD e.on false=true):listed.getD i false=true:=by
 induction h with
 |ad5 j o e ho he hb hi=>rw[<-hi];exact hj o ho e he hb
 |step j o e ho he hb _ ih=>exact ih fun o' BH=>hs e.on o' (hj o ho e he hb) BH
theorem cN {listed:Array Bool} (hs:qH ops listed) {i:Nat} (hi:i∈Region.ready .any ops listed):qH ops (listed.setIfInBounds i true):=by
 obtain⟨_,o,ho,DO⟩:=mem_ready.1 hi;intro k o' hk BH e he hb
 by_cases W3:k=i
 ·subst W3;rw[ho] at BH;obtain rfl:=aqs BH;exact getD_set_true (DO e he hb)
 ·refine getD_set_true (hs k o' ?_ BH e he hb);simpa [Array.getElem?_setIfInBounds_ne (ar1 W3)] using hk
theorem iI {listed:Array Bool} (hs:qH ops listed) {i j:Nat} (hi:i∈Region.ready .any ops listed) (hj:j∈Region.ready .any ops listed):¬Reach ops i j:=by
 intro h;obtain⟨_,oj,kg,ad6⟩:=mem_ready.1 hj;have h1:=h.listed hs fun o ho e he hb=>by rw[kg] at ho;obtain rfl:=aqs ho;exact ad6 e he hb
 have h0:=(mem_ready.1 hi).1;rcases Nat.lt_or_ge i listed.size with h' | h'
 ·simp[h'] at h0 h1;rw[h0] at h1;cases h1
 ·simp[Array.getElem?_eq_none h'] at h1
theorem ze {d:Option Nat} {x:AV} {L:List Nat} (h:∀t,d=some t->t∉L):(s.put d x).only L=s.only L:=by
 cases d with
 |none=>rfl
 |some d=>
  unfold AS.only AS.put;simp only
  congr 1
  funext t
  by_cases ht:t∈L
  ·have cg:¬t=d:=by
    intro e;subst e;exact h t rfl ht
   rw[if_pos ht,if_pos ht,gV,if_neg cg]
  ·rw[if_neg ht,if_neg ht]
theorem ja {d:Option Nat} {x:AV} {o:Oper} (h:∀t,d=some t->t∉o.looksAt ops):aV ops (s.put d x) o=aV ops s o:=by
 unfold aV;split
 ·rfl
 ·rename_i j want hg;have:kx ops (s.put d x) j=kx ops s j:=by
   unfold kx;split
   ·rename_i t ht
    cases d with
    |none=>rfl
    |some d=>
     have cg:t≠d:=by
      intro e;refine h d rfl ?_;simp[Oper.looksAt,hg,ht,e]
     have:(s.put (some d) x).tmps t=s.tmps t:=by show Bz s.tmps d x t=_;rw[gV,if_neg cg]
     rw[this]
   ·rfl
  rw[this]
theorem Yields.put {o:Oper} {x y:AV} {d:Option Nat} (h:∀t,d=some t->t∉o.looksAt ops) (hy:Yields Γ ops o s y):Yields Γ ops o (s.put d x) y:=by
 unfold Yields at *;rw[ja h,ze h];exact hy
theorem Yields.qI {o:Oper} {x y:AV} {d:Option Nat} (h:∀t,d=some t->t∉o.looksAt ops) (hy:Yields Γ ops o (s.put d x) y):Yields Γ ops o s y:=by
 unfold Yields at *;rw[ja h,ze h] at hy;exact hy
theorem put_comm {d e:Option Nat} {x y:AV} (h:∀t,d=some t->e≠some t):(s.put d x).put e y=(s.put e y).put d x:=by
 cases d with
 |none=>rfl
 |some d=>
  cases e with
  |none=>rfl
  |some e=>
   have cg:e≠d:=fun he=>h d rfl (he▸rfl);unfold AS.put;simp only
   congr 1
   funext t
   simp only[gV]
   split<;>split<;>first|rfl|(rename_i h1 h2;exact(cg (h1▸h2)).elim)|omega
theorem sw.first {Q:AS G->Prop} {i:Nat} {oi:Oper} {x:AV} (hi:ops[i]?=some oi) (cg:cI oi.op=false):∀(fuel:Nat) (listed:Array Bool) (s:AS G),qH ops listed->
  (∀(j:Nat) oj,ops[j]?=some oj->j≠i->listed.getD j true=false->Reach ops i j\/(cI oj.op=false/\oi.apart ops oj=true))->
  i∈Region.ready .any ops listed->Yields Γ ops oi s x->sw Γ ops Q fuel (listed.setIfInBounds i true) (s.put oi.dst x)->sw Γ ops Q (fuel+1) listed s:=by
 have own:∀{K:AS G->Prop} {s:AS G},Yields Γ ops oi s x->K (s.put oi.dst x)->sH Γ ops i K s:=by
  intro K s hy hK;unfold sH;rw[hi];simp only[cg,aqH,if_false];exact⟨x,hy,hK⟩
 intro fuel
 induction fuel with
 |zero=>
  intro listed s _ _ hr hy H;refine⟨fun h=>(by rw[h] at hr;cases hr),fun j hj=>?_⟩
  by_cases iT:j=i
  ·subst iT;exact own hy H
  ·have:=ready_mono hj iT;rw[H.1] at this;cases this
 |succ fuel ih=>
  intro listed s dn dD hr hy H;refine⟨fun h=>(by rw[h] at hr;cases hr),fun j hj=>?_⟩
  by_cases iT:j=i
  ·subst iT;exact own hy H
  ·have h1:=H.2 j (ready_mono hj iT);obtain⟨pb,oj,kg,DO⟩:=mem_ready.1 hj;rcases dD j oj kg iT pb with h2|⟨L2,Q8⟩
   ·exact(iI dn hr hj h2).elim
   obtain⟨p1,p2,p3⟩:=Oper.apart_spec Q8;unfold sH at h1 ⊢;rw[kg] at h1 ⊢;simp only[L2,aqH,if_false] at h1 ⊢;obtain⟨y,hyj,hK⟩:=h1;refine⟨y,hyj.qI p1,ih (listed.setIfInBounds j true) (s.put oj.dst y) (cN dn hj) (fun k ok hk W3 jA=>?_) (ready_mono hr (ar1 iT)) (hy.put p3) ?_⟩
   ·refine dD k ok hk W3 ?_
    by_cases lI:j=k
    ·subst lI;exact pb
    ·rw[getD_set_ne true lI] at jA;exact jA
   ·rw[arE _ _ iT,<-put_comm p2];exact hK
theorem sw.jb {Q:AS G->Prop} {i:Nat} {fuel:Nat} {listed:Array Bool} (dn:qH ops listed) (dD:∀(j:Nat) oj,ops[j]?=some oj->j≠i->listed.getD j true=false->Reach ops i j)
  (hr:i∈Region.ready .any ops listed) (H:sH Γ ops i (sw Γ ops Q fuel (listed.setIfInBounds i true)) s):sw Γ ops Q (fuel+1) listed s:=by
 refine⟨fun h=>(by rw[h] at hr;cases hr),fun j hj=>?_⟩
 by_cases iT:j=i
 ·subst iT;exact H
 ·obtain⟨pb,oj,kg,_⟩:=mem_ready.1 hj;exact(iI dn hr hj (dD j oj kg iT pb)).elim
def L3 (acc:List Nat) (o:Oper):Nat:=o.after.toList.foldl (fun m e=>if Region.binds .any e=true then m ||| 2 ^ e.on ||| acc.getD e.on 0 else m) 0
def nV:List Oper->List Nat->List Nat
 | [],acc=>acc
 |o::l,acc=>nV l (acc++[L3 acc o])
theorem J0 {acc:List Nat} {o:Oper} {k:Nat} (ho:ops[k]?=some o) (FY:∀(j:Nat) m i,acc[j]?=some m->m.testBit i=true->Reach ops i j) {i:Nat} (h:(L3 acc o).testBit i=true):Reach ops i k:=by
 unfold L3 at h;have key:∀(es:List Edge) (m:Nat),(∀e∈es,e∈o.after)->(es.foldl (fun m e=>if Region.binds .any e=true then m ||| 2 ^ e.on ||| acc.getD e.on 0 else m) m).testBit i=true->m.testBit i=true\/Reach ops i k:=by
  intro es
  induction es with
  |nil=>intro m _ h;exact .inl h
  |cons e es ih=>
   intro m hm h;rcases ih _ (fun e' Cs=>hm e' (aqI _ Cs)) h with h1|h1
   ·simp only at h1;split at h1
    ·rename_i hb;rw[Nat.testBit_or,Nat.testBit_or,arh,arh] at h1;rcases h1 with(h1|h1)|h1
     ·exact .inl h1
     ·rw[Nat.testBit_two_pow] at h1;exact .inr (.ad5 k o e ho (hm e aqG) hb (by simpa using h1))
     ·cases hj:acc[e.on]? with
      |none=>simp[ae,hj] at h1
      |some m'=>
       simp only[ae,hj,aq9] at h1;exact .inr (.step k o e ho (hm e aqG) hb (FY _ _ _ hj h1))
    ·exact .inl h1
   ·exact .inr h1
 rcases key o.after.toList 0 (fun e he=>by simpa using he) h with h1|h1
 ·simp at h1
 ·exact h1
theorem nW:∀(l:List Oper) (acc:List Nat),(∀(j:Nat),l[j]?=ops[acc.length+j]?)->(∀(j:Nat) m i,acc[j]?=some m->m.testBit i=true->Reach ops i j)->∀(j:Nat) m i,(nV l acc)[j]?=some m->m.testBit i=true->Reach ops i j:=by
 intro l
 induction l with
 |nil=>intro acc _ h;exact h
 |cons o l ih=>
  intro acc hl FY;refine ih (acc++[L3 acc o]) (fun j=>?_) (fun j m i hj hm=>?_)
  ·have:=hl (j+1);simp only[aq2] at this;rw[this];congr 1;simp;omega
  ·rcases ea hj with h1|⟨rfl,rfl⟩
   ·exact FY j m i h1 hm
   ·exact J0 (by have:=hl 0;simpa using this.symm) FY hm
def zf (l:List Oper):Bool:=
 let m:=nV l []
 (List.range l.length).all fun k=>match l[k]? with
  |none=>false
  |some ok=>ok.after.toList.all (fun e=>!Region.binds .any e||decide (e.on<k)) &&
    (List.range l.length).all fun j=>decide (j<=k)||(m.getD j 0).testBit k||match l[j]? with
     |none=>true
     |some oj=>!cI ok.op&&!cI oj.op&&ok.apart l.toArray oj
def vN (Γ:Env G) (ops:Array Oper) (K:AS G->Prop):List Oper->AS G->Prop
 | [],s=>K s
 |o::rest,s=>if cI o.op=true then dC Γ.nt o.dst/\o.guard=none/\∃r hp',gL Γ o s r hp'/\vN Γ ops K rest (AS.put { s with hp:=hp' } o.dst r)
  else ∃x,Yields Γ ops o s x/\vN Γ ops K rest (s.put o.dst x)
theorem vN.any {Q:AS G->Prop} {l0:List Oper} (hd:zf l0=true):∀(l:List Oper) (k:Nat) (listed:Array Bool) (s:AS G),(∀(j:Nat),l[j]?=l0[k+j]?)->listed.size=l0.length->(∀(j:Nat),j<l0.length->listed.getD j true=decide (j<k))->k+l.length=l0.length->
  vN Γ l0.toArray Q l s->sw Γ l0.toArray Q l.length listed s:=by
 intro l
 induction l with
 |nil=>
  intro k listed s _ cx fk hk h;refine⟨?_,h⟩;apply arP.2;intro j hj;obtain⟨h1,o,ho,_⟩:=mem_ready.1 hj;have aH:j<l0.length:=by have:=(aqO.1 ho).1;simpa using this
  rw[fk j aH] at h1;simp at h1;simp at hk;omega
 |cons o l ih=>
  intro k listed s hl cx fk hk h;have aE:l0[k]?=some o:=by have:=hl 0;simpa using this.symm
  have FZ:l0.toArray[k]?=some o:=by simpa using aE
  have Q9:k<l0.length:=(aqr.1 aE).1;have ef:=hd;simp only[zf,aqF,arS] at ef;have mN:=ef k Q9;rw[aE] at mN;simp only[aqv,aqF,arS] at mN;obtain⟨QI,OV⟩:=mN;have J1:listed.getD k true=false:=by rw[fk k Q9];simp
  have lZ:∀j,j<l0.length->listed.getD j false=decide (j<k):=by
   intro j hj;have:=fk j hj;simp only[aq3,arf (show j<listed.size by omega),aq9] at this ⊢;exact this
  have Cr:k∈Region.ready .any l0.toArray listed:=by
   refine mem_ready.2 ⟨J1,o,FZ,fun e he hb=>?_⟩;have:=QI e (by simpa using he);rw[hb] at this;simp at this;rw[lZ e.on (by omega)];simp;exact this
  have dn:qH l0.toArray listed:=by
   intro q oq hq Ra e he hb;have L4:q<l0.length:=by have:=(aqO.1 Ra).1;simpa using this
   rw[lZ q L4] at hq;have Rb:q<k:=by simpa using hq
   have h2:=ef q L4;have J2:l0[q]?=some oq:=by simpa using Ra
   rw[J2] at h2;simp only[aqv,aqF] at h2;have h3:=h2.1 e (by simpa using he);rw[hb] at h3;simp at h3;rw[lZ e.on (by omega)];simp;omega
  have pc:∀(j:Nat),(ae (nV l0 []) j 0).testBit k=true->Reach l0.toArray k j:=by
   intro j hj
   cases hm:(nV l0 [])[j]? with
   |none=>simp[ae,hm] at hj
   |some m=>
    simp only[ae,hm,aq9] at hj;exact nW (ops:=l0.toArray) l0 [] (fun j=>by simp) (fun j m i hj=>by simp at hj) j m k hm hj
  have nX:∀(j:Nat) oj,l0.toArray[j]?=some oj->j≠k->listed.getD j true=false->Reach l0.toArray k j\/(cI o.op=false/\cI oj.op=false/\o.apart l0.toArray oj=true):=by
   intro j oj kg lI jA;have za:j<l0.length:=by have:=(aqO.1 kg).1;simpa using this
   rw[fk j za] at jA;have J3:l0[j]?=some oj:=by simpa using kg
   have h2:=OV j za;rw[J3] at h2;simp only[arh,decide_eq_true_eq,aqv,arc] at h2;rcases h2 with(h2|h2)|h2
   ·simp at jA;omega
   ·exact .inl (pc j h2)
   ·exact .inr ⟨h2.1.1,h2.1.2,h2.2⟩
  have cB:∀s',vN Γ l0.toArray Q l s'->sw Γ l0.toArray Q l.length (listed.setIfInBounds k true) s':=by
   intro s' h';refine ih (k+1) _ s' (fun j=>by have:=hl (j+1);simp only[aq2] at this;rw[this];congr 1;omega) (by simpa using cx) (fun j hj=>?_) (by simp at hk;omega) h'
   by_cases lI:j=k
   ·subst lI;have:j<listed.size:=by omega
    simp[this]
   ·rw[getD_set_ne true (ar1 lI),fk j hj];simp;omega
  simp only[vN] at h;split at h
  ·rename_i he;obtain⟨h1,h2,r,hp',h3,h4⟩:=h;refine sw.jb dn (fun j oj kg lI jA=>?_) Cr ?_
   ·rcases nX j oj kg lI jA with h5|h5
    ·exact h5
    ·rw[he] at h5;cases h5.1
   ·unfold sH;rw[FZ];simp only[he,if_true];exact⟨h1,h2,r,hp',h3,cB _ h4⟩
  ·rename_i he;obtain⟨x,h1,h2⟩:=h;exact sw.first FZ (by simpa using he) l.length listed s dn (fun j oj kg lI jA=>(nX j oj kg lI jA).imp id fun h=>⟨h.2.1,h.2.2⟩) Cr h1 (cB _ h2)
end Go.Proofs.YtnkjkpmbgoehkaaGreat
