/- Texts of ours laid together for a claim: FilP. -/
import Derived.Test.YtnkjkpmbgoehkaaGreatQ03
namespace Go.Proofs.YtnkjkpmbgoehkaaGreat
open Go
set_option linter.unusedSimpArgs false
set_option linter.unusedVariables false
variable {G:Type} {Γ:Env G} {s s':AS G} {a:Act} {w w':World} {η:List Value} {hp:List ab} {P:Program} {ops:Array Oper}
def r3 (Γ:Env G) (o:Oper) (s:AS G) (r:AV):Prop:=
 ∀a w η (Kc:Act->World->Prop) (Qc:Exit->Act->World->Prop),Rel Γ s a w η->(∀v w',bD w w'->ba w' (aW Γ w' η s.hp) η s.hp r v->Kc (a.put o.dst v) w')->o.wpIn Γ.eB 0 Γ.P a w Kc Qc
def AS.only (s:AS G) (L:List Nat):AS G:={ s with tmps:=fun t=>if t∈L then s.tmps t else .top }
theorem Rel.only (h:Rel Γ s a w η) (L:List Nat):Rel Γ (s.only L) a w η:=by
 refine⟨h.nt,fun t=>?_,h.heap,h.bN,h.keeps,h.inv,h.marks,h.ext⟩;show ba w _ η s.hp (if t∈L then s.tmps t else .top) _;split
 ·exact h.tmps t
 ·exact .top _
def cf:Op->Bool
 | .alloc _ | .box .. | .store .. | .makeSlice .. | .makeMap .. | .mapUpdate .. | .insert .. | .range .. | .next ..=>true
 | .call { callee:=.builtin .append,.. } | .call { callee:=.builtin .copy,.. } | .call { callee:=.builtin .delete,.. }=>true
 |_=>false
def aC (ops:Array Oper) (s:AS G) (o:Oper):Option Bool:=
 match o.guard with
 |none=>some true
 |some (j,want)=>(jh ops s j).map (·==some want)
def Yields (Γ:Env G) (ops:Array Oper) (o:Oper) (s:AS G) (x:AV):Prop:=
 cP Γ.nt o.dst/\((aC ops s o=some true/\r3 Γ o (s.only (o.looksAt ops)) x)\/(aC ops s o=some false/\x=.ae (.tuple #[])))
def qH (Γ:Env G) (ops:Array Oper) (i:Nat) (K:AS G->Prop) (s:AS G):Prop:=
 match ops[i]? with
 |none=>K s
 |some o=>if cf o.op=true then cP Γ.nt o.dst/\o.guard=none/\∃r hp',fS Γ o s r hp'/\K (AS.put { s with hp:=hp' } o.dst r)
  else ∃x,Yields Γ ops o s x/\K (s.put o.dst x)
theorem dN (hr:Rel Γ s a w η) {o:Oper} {b:Bool} (h:aC ops s o=some b):Region.wanted o (yielded ops a.tmps)=b:=by
 unfold aC at h;split at h
 ·rename_i hg;obtain rfl:=alj h;simp[Region.wanted,hg]
 ·rename_i j want hg
  cases hs:jh ops s j with
  |none=>rw[hs] at h;cases h
  |some c=>
   rw[hs] at h;obtain rfl:=alj h;simp[Region.wanted,hg,ef hr hs]
theorem qH.sound (al:Γ.Ok) {i:Nat} {K:AS G->Prop} {Kc:Act->World->Prop} {Qc:Exit->Act->World->Prop} (h:qH Γ ops i K s) (hr:Rel Γ s a w η) (hk:∀s' a' w' aO,K s'->Rel Γ s' a' w' aO->Kc a' w'):
  wpOpIn Γ.eB 0 Γ.P ops Qc i Kc a w:=by
 unfold qH at h;unfold wpOpIn;split at h
 ·rename_i ho;rw[ho];exact hk _ _ _ _ h hr
 ·rename_i o ho;rw[ho];simp only;split at h
  ·obtain⟨h1,h2,r,hp',h3,h4⟩:=h;rw[if_pos (by simp[Region.wanted,h2])];exact(bq.di h3 h1 h4) a w η Kc Qc hk hr
  ·obtain⟨x,⟨h1,h2⟩,h3⟩:=h;rcases h2 with⟨h2,h4⟩|⟨h2,rfl⟩
   ·rw[if_pos (dN hr h2)];exact h4 a w η Kc Qc (hr.only _) fun v w' hs dG=>hk _ _ _ _ h3 ((hr.same al hs).put (bT h1) dG)
   ·rw[if_neg (by rw[dN hr h2];simp)];exact⟨fun _ _=>trivial,hk _ _ _ _ h3 (hr.put (bT h1) (.ae _))⟩
def qu (Γ:Env G) (ops:Array Oper) (Q:AS G->Prop):Nat->Array Bool->AS G->Prop
 |0,listed,s=>Region.ready .any ops listed=[]/\Q s
 |fuel+1,listed,s=>(Region.ready .any ops listed=[]->Q s)/\∀i∈Region.ready .any ops listed,qH Γ ops i (qu Γ ops Q fuel (listed.setIfInBounds i true)) s
theorem qu.sound (al:Γ.Ok) {Q:AS G->Prop} {Qc:Exit->Act->World->Prop} (hq:∀s' a' w' aO,Q s'->Rel Γ s' a' w' aO->Qc .normal a' w'):∀(fuel:Nat) (listed:Array Bool) (s:AS G) (a:Act) (w:World) (η:List Value),qu Γ ops Q fuel listed s->Rel Γ s a w η->
  wpAnyIn Γ.eB 0 Γ.P .any ops Qc fuel listed a w:=by
 intro fuel
 induction fuel with
 |zero=>intro listed s a w η h hr;exact⟨h.1,hq _ _ _ _ h.2 hr⟩
 |succ fuel ih=>intro listed s a w η h hr;exact⟨fun he=>hq _ _ _ _ (h.1 he) hr,fun i hi=>(h.2 i hi).sound al hr fun s' a' w' aO h1 h2=>ih _ s' a' w' aO h1 h2⟩
inductive Reach (ops:Array Oper) (i:Nat):Nat->Prop
 |Zd (j:Nat) (o:Oper) (e:Edge) (ho:ops[j]?=some o) (he:e∈o.after) (hb:Region.binds .any e=true) (hi:e.on=i):Reach ops i j
 |step (j:Nat) (o:Oper) (e:Edge) (ho:ops[j]?=some o) (he:e∈o.after) (hb:Region.binds .any e=true) (h:Reach ops i e.on):Reach ops i j
def oP (ops:Array Oper) (listed:Array Bool):Prop:=∀(k:Nat) (o:Oper),listed.getD k false=true->ops[k]?=some o->∀e∈o.after,Region.binds .any e=true->listed.getD e.on false=true
theorem Reach.listed {listed:Array Bool} (hs:oP ops listed) {i j:Nat} (h:Reach ops i j) (hj:∀o,ops[j]?=some o->∀e∈o.after,Region.binds .any e=true->listed.getD e.on false=true):listed.getD i false=true:=by
 induction h with
 |Zd j o e ho he hb hi=>rw[<-hi];exact hj o ho e he hb
 |step j o e ho he hb _ ih=>exact ih fun o' zh=>hs e.on o' (hj o ho e he hb) zh
theorem cg {listed:Array Bool} (hs:oP ops listed) {i:Nat} (hi:i∈Region.ready .any ops listed):oP ops (listed.setIfInBounds i true):=by
 obtain⟨_,o,ho,G3⟩:=mem_ready.1 hi;intro k o' hk zh e he hb
 by_cases SS:k=i
 ·subst SS;rw[ho] at zh;obtain rfl:=alj zh;exact getD_set_true (G3 e he hb)
 ·refine getD_set_true (hs k o' ?_ zh e he hb);simpa [Array.getElem?_setIfInBounds_ne (amK SS)] using hk
theorem gB {listed:Array Bool} (hs:oP ops listed) {i j:Nat} (hi:i∈Region.ready .any ops listed) (hj:j∈Region.ready .any ops listed):¬Reach ops i j:=by
 intro h;obtain⟨_,oj,iV,Ze⟩:=mem_ready.1 hj;have h1:=h.listed hs fun o ho e he hb=>by rw[iV] at ho;obtain rfl:=alj ho;exact Ze e he hb
 have h0:=(mem_ready.1 hi).1;rcases Nat.lt_or_ge i listed.size with h' | h'
 ·simp[h'] at h0 h1;rw[h0] at h1;cases h1
 ·simp[Array.getElem?_eq_none h'] at h1
theorem wV {d:Option Nat} {x:AV} {L:List Nat} (h:∀t,d=some t->t∉L):(s.put d x).only L=s.only L:=by
 cases d with
 |none=>rfl
 |some d=>
  unfold AS.only AS.put;simp only
  congr 1
  funext t
  by_cases ht:t∈L
  ·have bL:¬t=d:=by
    intro e;subst e;exact h t rfl ht
   rw[if_pos ht,if_pos ht,fX,if_neg bL]
  ·rw[if_neg ht,if_neg ht]
theorem gU {d:Option Nat} {x:AV} {o:Oper} (h:∀t,d=some t->t∉o.looksAt ops):aC ops (s.put d x) o=aC ops s o:=by
 unfold aC;split
 ·rfl
 ·rename_i j want hg;have:jh ops (s.put d x) j=jh ops s j:=by
   unfold jh;split
   ·rename_i t ht
    cases d with
    |none=>rfl
    |some d=>
     have bL:t≠d:=by
      intro e;refine h d rfl ?_;simp[Oper.looksAt,hg,ht,e]
     have:(s.put (some d) x).tmps t=s.tmps t:=by show zb s.tmps d x t=_;rw[fX,if_neg bL]
     rw[this]
   ·rfl
  rw[this]
theorem Yields.put {o:Oper} {x y:AV} {d:Option Nat} (h:∀t,d=some t->t∉o.looksAt ops) (hy:Yields Γ ops o s y):Yields Γ ops o (s.put d x) y:=by
 unfold Yields at *;rw[gU h,wV h];exact hy
theorem Yields.oQ {o:Oper} {x y:AV} {d:Option Nat} (h:∀t,d=some t->t∉o.looksAt ops) (hy:Yields Γ ops o (s.put d x) y):Yields Γ ops o s y:=by
 unfold Yields at *;rw[gU h,wV h] at hy;exact hy
theorem put_comm {d e:Option Nat} {x y:AV} (h:∀t,d=some t->e≠some t):(s.put d x).put e y=(s.put e y).put d x:=by
 cases d with
 |none=>rfl
 |some d=>
  cases e with
  |none=>rfl
  |some e=>
   have bL:e≠d:=fun he=>h d rfl (he▸rfl);unfold AS.put;simp only
   congr 1
   funext t
   simp only[fX]
   split<;>split<;>first|rfl|(rename_i h1 h2;exact(bL (h1▸h2)).elim)|omega
theorem qu.first {Q:AS G->Prop} {i:Nat} {oi:Oper} {x:AV} (hi:ops[i]?=some oi) (bL:cf oi.op=false):∀(fuel:Nat) (listed:Array Bool) (s:AS G),oP ops listed->
  (∀(j:Nat) oj,ops[j]?=some oj->j≠i->listed.getD j true=false->Reach ops i j\/(cf oj.op=false/\oi.apart ops oj=true))->
  i∈Region.ready .any ops listed->Yields Γ ops oi s x->qu Γ ops Q fuel (listed.setIfInBounds i true) (s.put oi.dst x)->qu Γ ops Q (fuel+1) listed s:=by
 have own:∀{K:AS G->Prop} {s:AS G},Yields Γ ops oi s x->K (s.put oi.dst x)->qH Γ ops i K s:=by
  intro K s hy hK;unfold qH;rw[hi];simp only[bL,alx,if_false];exact⟨x,hy,hK⟩
 intro fuel
 induction fuel with
 |zero=>
  intro listed s _ _ hr hy H;refine⟨fun h=>(by rw[h] at hr;cases hr),fun j hj=>?_⟩
  by_cases gM:j=i
  ·subst gM;exact own hy H
  ·have:=ready_mono hj gM;rw[H.1] at this;cases this
 |succ fuel ih=>
  intro listed s cC cQ hr hy H;refine⟨fun h=>(by rw[h] at hr;cases hr),fun j hj=>?_⟩
  by_cases gM:j=i
  ·subst gM;exact own hy H
  ·have h1:=H.2 j (ready_mono hj gM);obtain⟨np,oj,iV,G3⟩:=mem_ready.1 hj;rcases cQ j oj iV gM np with h2|⟨I6,Nj⟩
   ·exact(gB cC hr hj h2).elim
   obtain⟨p1,p2,p3⟩:=Oper.apart_spec Nj;unfold qH at h1 ⊢;rw[iV] at h1 ⊢;simp only[I6,alx,if_false] at h1 ⊢;obtain⟨y,Xg,hK⟩:=h1;refine⟨y,Xg.oQ p1,ih (listed.setIfInBounds j true) (s.put oj.dst y) (cg cC hj) (fun k ok hk SS jE=>?_) (ready_mono hr (amK gM)) (hy.put p3) ?_⟩
   ·refine cQ k ok hk SS ?_
    by_cases km:j=k
    ·subst km;exact np
    ·rw[getD_set_ne true km] at jE;exact jE
   ·rw[amm _ _ gM,<-put_comm p2];exact hK
theorem qu.gV {Q:AS G->Prop} {i:Nat} {fuel:Nat} {listed:Array Bool} (cC:oP ops listed) (cQ:∀(j:Nat) oj,ops[j]?=some oj->j≠i->listed.getD j true=false->Reach ops i j)
  (hr:i∈Region.ready .any ops listed) (H:qH Γ ops i (qu Γ ops Q fuel (listed.setIfInBounds i true)) s):qu Γ ops Q (fuel+1) listed s:=by
 refine⟨fun h=>(by rw[h] at hr;cases hr),fun j hj=>?_⟩
 by_cases gM:j=i
 ·subst gM;exact H
 ·obtain⟨np,oj,iV,_⟩:=mem_ready.1 hj;exact(gB cC hr hj (cQ j oj iV gM np)).elim
def I7 (acc:List Nat) (o:Oper):Nat:=o.after.toList.foldl (fun m e=>if Region.binds .any e=true then m ||| 2 ^ e.on ||| acc.getD e.on 0 else m) 0
def mz:List Oper->List Nat->List Nat
 | [],acc=>acc
 |o::l,acc=>mz l (acc++[I7 acc o])
theorem G4 {acc:List Nat} {o:Oper} {k:Nat} (ho:ops[k]?=some o) (Dl:∀(j:Nat) m i,acc[j]?=some m->m.testBit i=true->Reach ops i j) {i:Nat} (h:(I7 acc o).testBit i=true):Reach ops i k:=by
 unfold I7 at h;have key:∀(es:List Edge) (m:Nat),(∀e∈es,e∈o.after)->(es.foldl (fun m e=>if Region.binds .any e=true then m ||| 2 ^ e.on ||| acc.getD e.on 0 else m) m).testBit i=true->m.testBit i=true\/Reach ops i k:=by
  intro es
  induction es with
  |nil=>intro m _ h;exact .inl h
  |cons e es ih=>
   intro m hm h;rcases ih _ (fun e' KY=>hm e' (alK _ KY)) h with h1|h1
   ·simp only at h1;split at h1
    ·rename_i hb;rw[Nat.testBit_or,Nat.testBit_or,al7,al7] at h1;rcases h1 with(h1|h1)|h1
     ·exact .inl h1
     ·rw[Nat.testBit_two_pow] at h1;exact .inr (.Zd k o e ho (hm e alD) hb (by simpa using h1))
     ·cases hj:acc[e.on]? with
      |none=>simp[List.getD,hj] at h1
      |some m'=>
       simp only[List.getD,hj,al1] at h1;exact .inr (.step k o e ho (hm e alD) hb (Dl _ _ _ hj h1))
    ·exact .inl h1
   ·exact .inr h1
 rcases key o.after.toList 0 (fun e he=>by simpa using he) h with h1|h1
 ·simp at h1
 ·exact h1
theorem mA:∀(l:List Oper) (acc:List Nat),(∀(j:Nat),l[j]?=ops[acc.length+j]?)->(∀(j:Nat) m i,acc[j]?=some m->m.testBit i=true->Reach ops i j)->∀(j:Nat) m i,(mz l acc)[j]?=some m->m.testBit i=true->Reach ops i j:=by
 intro l
 induction l with
 |nil=>intro acc _ h;exact h
 |cons o l ih=>
  intro acc hl Dl;refine ih (acc++[I7 acc o]) (fun j=>?_) (fun j m i hj hm=>?_)
  ·have:=hl (j+1);simp only[alP] at this;rw[this];congr 1;simp;omega
  ·rcases dx hj with h1|⟨rfl,rfl⟩
   ·exact Dl j m i h1 hm
   ·exact G4 (by have:=hl 0;simpa using this.symm) Dl hm
def wW (l:List Oper):Bool:=
 let m:=mz l []
 (List.range l.length).all fun k=>match l[k]? with
  |none=>false
  |some ok=>ok.after.toList.all (fun e=>!Region.binds .any e||decide (e.on<k)) &&
    (List.range l.length).all fun j=>decide (j<=k)||(m.getD j 0).testBit k||match l[j]? with
     |none=>true
     |some oj=>!cf ok.op&&!cf oj.op&&ok.apart l.toArray oj
def tM (Γ:Env G) (ops:Array Oper) (K:AS G->Prop):List Oper->AS G->Prop
 | [],s=>K s
 |o::rest,s=>if cf o.op=true then cP Γ.nt o.dst/\o.guard=none/\∃r hp',fS Γ o s r hp'/\tM Γ ops K rest (AS.put { s with hp:=hp' } o.dst r)
  else ∃x,Yields Γ ops o s x/\tM Γ ops K rest (s.put o.dst x)
theorem tM.any {Q:AS G->Prop} {l0:List Oper} (hd:wW l0=true):∀(l:List Oper) (k:Nat) (listed:Array Bool) (s:AS G),(∀(j:Nat),l[j]?=l0[k+j]?)->listed.size=l0.length->(∀(j:Nat),j<l0.length->listed.getD j true=decide (j<k))->k+l.length=l0.length->
  tM Γ l0.toArray Q l s->qu Γ l0.toArray Q l.length listed s:=by
 intro l
 induction l with
 |nil=>
  intro k listed s _ bO eC hk h;refine⟨?_,h⟩;apply amB.2;intro j hj;obtain⟨h1,o,ho,_⟩:=mem_ready.1 hj;have aq:j<l0.length:=by have:=(alE.1 ho).1;simpa using this
  rw[eC j aq] at h1;simp at h1;simp at hk;omega
 |cons o l ih=>
  intro k listed s hl bO eC hk h;have al:l0[k]?=some o:=by have:=hl 0;simpa using this.symm
  have Dm:l0.toArray[k]?=some o:=by simpa using al
  have Nk:k<l0.length:=(ali.1 al).1;have dy:=hd;simp only[wW,alv,amD] at dy;have ma:=dy k Nk;rw[al] at ma;simp only[aln,alv,amD] at ma;obtain⟨MH,KZ⟩:=ma;have G5:listed.getD k true=false:=by rw[eC k Nk];simp
  have kH:∀j,j<l0.length->listed.getD j false=decide (j<k):=by
   intro j hj;have:=eC j hj;simp only[alR,al4 (show j<listed.size by omega),al1] at this ⊢;exact this
  have z7:k∈Region.ready .any l0.toArray listed:=by
   refine mem_ready.2 ⟨G5,o,Dm,fun e he hb=>?_⟩;have:=MH e (by simpa using he);rw[hb] at this;simp at this;rw[kH e.on (by omega)];simp;exact this
  have cC:oP l0.toArray listed:=by
   intro q oq hq Nl e he hb;have I8:q<l0.length:=by have:=(alE.1 Nl).1;simpa using this
   rw[kH q I8] at hq;have Nn:q<k:=by simpa using hq
   have h2:=dy q I8;have G6:l0[q]?=some oq:=by simpa using Nl
   rw[G6] at h2;simp only[aln,alv] at h2;have h3:=h2.1 e (by simpa using he);rw[hb] at h3;simp at h3;rw[kH e.on (by omega)];simp;omega
  have nq:∀(j:Nat),(List.getD (mz l0 []) j 0).testBit k=true->Reach l0.toArray k j:=by
   intro j hj
   cases hm:(mz l0 [])[j]? with
   |none=>simp[List.getD,hm] at hj
   |some m=>
    simp only[List.getD,hm,al1] at hj;exact mA (ops:=l0.toArray) l0 [] (fun j=>by simp) (fun j m i hj=>by simp at hj) j m k hm hj
  have mB:∀(j:Nat) oj,l0.toArray[j]?=some oj->j≠k->listed.getD j true=false->Reach l0.toArray k j\/(cf o.op=false/\cf oj.op=false/\o.apart l0.toArray oj=true):=by
   intro j oj iV km jE;have uG:j<l0.length:=by have:=(alE.1 iV).1;simpa using this
   rw[eC j uG] at jE;have G7:l0[j]?=some oj:=by simpa using iV
   have h2:=KZ j uG;rw[G7] at h2;simp only[al7,decide_eq_true_eq,aln,al0] at h2;rcases h2 with(h2|h2)|h2
   ·simp at jE;omega
   ·exact .inl (nq j h2)
   ·exact .inr ⟨h2.1.1,h2.1.2,h2.2⟩
  have bV:∀s',tM Γ l0.toArray Q l s'->qu Γ l0.toArray Q l.length (listed.setIfInBounds k true) s':=by
   intro s' h';refine ih (k+1) _ s' (fun j=>by have:=hl (j+1);simp only[alP] at this;rw[this];congr 1;omega) (by simpa using bO) (fun j hj=>?_) (by simp at hk;omega) h'
   by_cases km:j=k
   ·subst km;have:j<listed.size:=by omega
    simp[this]
   ·rw[getD_set_ne true (amK km),eC j hj];simp;omega
  simp only[tM] at h;split at h
  ·rename_i he;obtain⟨h1,h2,r,hp',h3,h4⟩:=h;refine qu.gV cC (fun j oj iV km jE=>?_) z7 ?_
   ·rcases mB j oj iV km jE with h5|h5
    ·exact h5
    ·rw[he] at h5;cases h5.1
   ·unfold qH;rw[Dm];simp only[he,if_true];exact⟨h1,h2,r,hp',h3,bV _ h4⟩
  ·rename_i he;obtain⟨x,h1,h2⟩:=h;exact qu.first Dm (by simpa using he) l.length listed s cC (fun j oj iV km jE=>(mB j oj iV km jE).imp id fun h=>⟨h.2.1,h.2.2⟩) z7 h1 (bV _ h2)
end Go.Proofs.YtnkjkpmbgoehkaaGreat
