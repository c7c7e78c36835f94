/- Texts of ours laid together for a claim: FilP. -/
import Derived.Test.YtdcikhleahfknaaGreatDoorQ03
namespace Go.Proofs.YtdcikhleahfknaaGreatDoor
open Go
set_option linter.unusedSimpArgs false
set_option linter.unusedVariables false
variable {G:Type} {Γ:Env G} {s s':AS G} {a:Act} {w w':World} {η:List Value} {hp:List af} {P:Program} {ops:Array Oper}
def rP (Γ:Env G) (o:Oper) (s:AS G) (r:AV):Prop:=
 ∀a w η (Kc:Act->World->Prop) (Qc:Exit->Act->World->Prop),Rel Γ s a w η->(∀v w',bI w w'->bm w' (bk Γ w' η s.hp) η s.hp r v->Kc (a.put o.dst v) w')->o.wpIn Γ.ec 0 Γ.P a w Kc Qc
def AS.only (s:AS G) (L:List Nat):AS G:={ s with tmps:=fun t=>if t∈L then s.tmps t else .top }
theorem Rel.only (h:Rel Γ s a w η) (L:List Nat):Rel Γ (s.only L) a w η:=by
 refine⟨h.nt,fun t=>?_,h.heap,h.bM,h.keeps,h.inv,h.marks,h.ext⟩;show bm w _ η s.hp (if t∈L then s.tmps t else .top) _;split
 ·exact h.tmps t
 ·exact .top _
def cj:Op->Bool
 | .alloc _ | .box .. | .store .. | .makeSlice .. | .makeMap .. | .mapUpdate .. | .insert .. | .range .. | .next ..=>true
 | .call { callee:=.builtin .append,.. } | .call { callee:=.builtin .copy,.. } | .call { callee:=.builtin .delete,.. }=>true
 |_=>false
def aO (ops:Array Oper) (s:AS G) (o:Oper):Option Bool:=
 match o.guard with
 |none=>some true
 |some (j,want)=>(iV ops s j).map (·==some want)
def Yields (Γ:Env G) (ops:Array Oper) (o:Oper) (s:AS G) (x:AV):Prop:=
 cR Γ.nt o.dst/\((aO ops s o=some true/\rP Γ o (s.only (o.looksAt ops)) x)\/(aO ops s o=some false/\x=.ae (.tuple #[])))
def qx (Γ:Env G) (ops:Array Oper) (i:Nat) (K:AS G->Prop) (s:AS G):Prop:=
 match ops[i]? with
 |none=>K s
 |some o=>if cj o.op=true then cR Γ.nt o.dst/\o.guard=none/\∃r hp',fA Γ o s r hp'/\K (AS.put { s with hp:=hp' } o.dst r)
  else ∃x,Yields Γ ops o s x/\K (s.put o.dst x)
theorem dG (hr:Rel Γ s a w η) {o:Oper} {b:Bool} (h:aO ops s o=some b):Region.wanted o (yielded ops a.tmps)=b:=by
 unfold aO at h;split at h
 ·rename_i hg;obtain rfl:=alw h;simp[Region.wanted,hg]
 ·rename_i j want hg
  cases hs:iV ops s j with
  |none=>rw[hs] at h;cases h
  |some c=>
   rw[hs] at h;obtain rfl:=alw h;simp[Region.wanted,hg,dP hr hs]
theorem qx.sound (ax:Γ.Ok) {i:Nat} {K:AS G->Prop} {Kc:Act->World->Prop} {Qc:Exit->Act->World->Prop} (h:qx Γ ops i K s) (hr:Rel Γ s a w η) (hk:∀s' a' w' aN,K s'->Rel Γ s' a' w' aN->Kc a' w'):
  wpOpIn Γ.ec 0 Γ.P ops Qc i Kc a w:=by
 unfold qx at h;unfold wpOpIn;split at h
 ·rename_i ho;rw[ho];exact hk _ _ _ _ h hr
 ·rename_i o ho;rw[ho];simp only;split at h
  ·obtain⟨h1,h2,r,hp',h3,h4⟩:=h;rw[if_pos (by simp[Region.wanted,h2])];exact(bD.jY h3 h1 h4) a w η Kc Qc hk hr
  ·obtain⟨x,⟨h1,h2⟩,h3⟩:=h;rcases h2 with⟨h2,h4⟩|⟨h2,rfl⟩
   ·rw[if_pos (dG hr h2)];exact h4 a w η Kc Qc (hr.only _) fun v w' hs cX=>hk _ _ _ _ h3 ((hr.same ax hs).put (cd h1) cX)
   ·rw[if_neg (by rw[dG hr h2];simp)];exact⟨fun _ _=>trivial,hk _ _ _ _ h3 (hr.put (cd h1) (.ae _))⟩
def qn (Γ:Env G) (ops:Array Oper) (Q:AS G->Prop):Nat->Array Bool->AS G->Prop
 |0,listed,s=>Region.ready .any ops listed=[]/\Q s
 |fuel+1,listed,s=>(Region.ready .any ops listed=[]->Q s)/\∀i∈Region.ready .any ops listed,qx Γ ops i (qn Γ ops Q fuel (listed.setIfInBounds i true)) s
theorem qn.sound (ax:Γ.Ok) {Q:AS G->Prop} {Qc:Exit->Act->World->Prop} (hq:∀s' a' w' aN,Q s'->Rel Γ s' a' w' aN->Qc .normal a' w'):∀(fuel:Nat) (listed:Array Bool) (s:AS G) (a:Act) (w:World) (η:List Value),qn Γ ops Q fuel listed s->Rel Γ s a w η->
  wpAnyIn Γ.ec 0 Γ.P .any ops Qc fuel listed a w:=by
 intro fuel
 induction fuel with
 |zero=>intro listed s a w η h hr;exact⟨h.1,hq _ _ _ _ h.2 hr⟩
 |succ fuel ih=>intro listed s a w η h hr;exact⟨fun he=>hq _ _ _ _ (h.1 he) hr,fun i hi=>(h.2 i hi).sound ax hr fun s' a' w' aN h1 h2=>ih _ s' a' w' aN h1 h2⟩
inductive Reach (ops:Array Oper) (i:Nat):Nat->Prop
 |Lj (j:Nat) (o:Oper) (e:Edge) (ho:ops[j]?=some o) (he:e∈o.after) (hb:Region.binds .any e=true) (hi:e.on=i):Reach ops i j
 |step (j:Nat) (o:Oper) (e:Edge) (ho:ops[j]?=some o) (he:e∈o.after) (hb:Region.binds .any e=true) (h:Reach ops i e.on):Reach ops i j
def oF (ops:Array Oper) (listed:Array Bool):Prop:=∀(k:Nat) (o:Oper),listed.getD k false=true->ops[k]?=some o->∀e∈o.after,Region.binds .any e=true->listed.getD e.on false=true
theorem Reach.listed {listed:Array Bool} (hs:oF ops listed) {i j:Nat} (h:Reach ops i j) (hj:∀o,ops[j]?=some o->∀e∈o.after,Region.binds .any e=true->listed.getD e.on false=true):listed.getD i false=true:=by
 induction h with
 |Lj j o e ho he hb hi=>rw[<-hi];exact hj o ho e he hb
 |step j o e ho he hb _ ih=>exact ih fun o' wF=>hs e.on o' (hj o ho e he hb) wF
theorem cu {listed:Array Bool} (hs:oF ops listed) {i:Nat} (hi:i∈Region.ready .any ops listed):oF ops (listed.setIfInBounds i true):=by
 obtain⟨_,o,ho,jo⟩:=mem_ready.1 hi;intro k o' hk wF e he hb
 by_cases G0:k=i
 ·subst G0;rw[ho] at wF;obtain rfl:=alw wF;exact getD_set_true (jo e he hb)
 ·refine getD_set_true (hs k o' ?_ wF e he hb);simpa [amS (am5 G0)] using hk
theorem gz {listed:Array Bool} (hs:oF ops listed) {i j:Nat} (hi:i∈Region.ready .any ops listed) (hj:j∈Region.ready .any ops listed):¬Reach ops i j:=by
 intro h;obtain⟨_,oj,iM,aah⟩:=mem_ready.1 hj;have h1:=h.listed hs fun o ho e he hb=>by rw[iM] at ho;obtain rfl:=alw ho;exact aah e he hb
 have h0:=(mem_ready.1 hi).1;rcases Nat.lt_or_ge i listed.size with h' | h'
 ·simp[h'] at h0 h1;rw[h0] at h1;cases h1
 ·simp[Array.getElem?_eq_none h'] at h1
theorem w4 {d:Option Nat} {x:AV} {L:List Nat} (h:∀t,d=some t->t∉L):(s.put d x).only L=s.only L:=by
 cases d with
 |none=>rfl
 |some d=>
  unfold AS.only AS.put;simp only
  congr 1
  funext t
  by_cases ht:t∈L
  ·have bu:¬t=d:=by
    intro e;subst e;exact h t rfl ht
   rw[if_pos ht,if_pos ht,fc,if_neg bu]
  ·rw[if_neg ht,if_neg ht]
theorem gS {d:Option Nat} {x:AV} {o:Oper} (h:∀t,d=some t->t∉o.looksAt ops):aO ops (s.put d x) o=aO ops s o:=by
 unfold aO;split
 ·rfl
 ·rename_i j want hg;have:iV ops (s.put d x) j=iV ops s j:=by
   unfold iV;split
   ·rename_i t ht
    cases d with
    |none=>rfl
    |some d=>
     have bu:t≠d:=by
      intro e;refine h d rfl ?_;simp[Oper.looksAt,hg,ht,e]
     have:(s.put (some d) x).tmps t=s.tmps t:=by show yZ s.tmps d x t=_;rw[fc,if_neg bu]
     rw[this]
   ·rfl
  rw[this]
theorem Yields.put {o:Oper} {x y:AV} {d:Option Nat} (h:∀t,d=some t->t∉o.looksAt ops) (hy:Yields Γ ops o s y):Yields Γ ops o (s.put d x) y:=by
 unfold Yields at *;rw[gS h,w4 h];exact hy
theorem Yields.oG {o:Oper} {x y:AV} {d:Option Nat} (h:∀t,d=some t->t∉o.looksAt ops) (hy:Yields Γ ops o (s.put d x) y):Yields Γ ops o s y:=by
 unfold Yields at *;rw[gS h,w4 h] at hy;exact hy
theorem put_comm {d e:Option Nat} {x y:AV} (h:∀t,d=some t->e≠some t):(s.put d x).put e y=(s.put e y).put d x:=by
 cases d with
 |none=>rfl
 |some d=>
  cases e with
  |none=>rfl
  |some e=>
   have bu:e≠d:=fun he=>h d rfl (he▸rfl);unfold AS.put;simp only
   congr 1
   funext t
   simp only[fc]
   split<;>split<;>first|rfl|(rename_i h1 h2;exact(bu (h1▸h2)).elim)|omega
theorem qn.first {Q:AS G->Prop} {i:Nat} {oi:Oper} {x:AV} (hi:ops[i]?=some oi) (bu:cj oi.op=false):∀(fuel:Nat) (listed:Array Bool) (s:AS G),oF ops listed->
  (∀(j:Nat) oj,ops[j]?=some oj->j≠i->listed.getD j true=false->Reach ops i j\/(cj oj.op=false/\oi.apart ops oj=true))->
  i∈Region.ready .any ops listed->Yields Γ ops oi s x->qn Γ ops Q fuel (listed.setIfInBounds i true) (s.put oi.dst x)->qn Γ ops Q (fuel+1) listed s:=by
 have own:∀{K:AS G->Prop} {s:AS G},Yields Γ ops oi s x->K (s.put oi.dst x)->qx Γ ops i K s:=by
  intro K s hy hK;unfold qx;rw[hi];simp only[bu,alQ,if_false];exact⟨x,hy,hK⟩
 intro fuel
 induction fuel with
 |zero=>
  intro listed s _ _ hr hy H;refine⟨fun h=>(by rw[h] at hr;cases hr),fun j hj=>?_⟩
  by_cases gJ:j=i
  ·subst gJ;exact own hy H
  ·have:=ready_mono hj gJ;rw[H.1] at this;cases this
 |succ fuel ih=>
  intro listed s cM cG hr hy H;refine⟨fun h=>(by rw[h] at hr;cases hr),fun j hj=>?_⟩
  by_cases gJ:j=i
  ·subst gJ;exact own hy H
  ·have h1:=H.2 j (ready_mono hj gJ);obtain⟨mY,oj,iM,jo⟩:=mem_ready.1 hj;rcases cG j oj iM gJ mY with h2|⟨JD,Yb⟩
   ·exact(gz cM hr hj h2).elim
   obtain⟨p1,p2,p3⟩:=Oper.apart_spec Yb;unfold qx at h1 ⊢;rw[iM] at h1 ⊢;simp only[JD,alQ,if_false] at h1 ⊢;obtain⟨y,Yc,hK⟩:=h1;refine⟨y,Yc.oG p1,ih (listed.setIfInBounds j true) (s.put oj.dst y) (cu cM hj) (fun k ok hk G0 jF=>?_) (ready_mono hr (am5 gJ)) (hy.put p3) ?_⟩
   ·refine cG k ok hk G0 ?_
    by_cases jL:j=k
    ·subst jL;exact mY
    ·rw[getD_set_ne true jL] at jF;exact jF
   ·rw[amF _ _ gJ,<-put_comm p2];exact hK
theorem qn.gU {Q:AS G->Prop} {i:Nat} {fuel:Nat} {listed:Array Bool} (cM:oF ops listed) (cG:∀(j:Nat) oj,ops[j]?=some oj->j≠i->listed.getD j true=false->Reach ops i j)
  (hr:i∈Region.ready .any ops listed) (H:qx Γ ops i (qn Γ ops Q fuel (listed.setIfInBounds i true)) s):qn Γ ops Q (fuel+1) listed s:=by
 refine⟨fun h=>(by rw[h] at hr;cases hr),fun j hj=>?_⟩
 by_cases gJ:j=i
 ·subst gJ;exact H
 ·obtain⟨mY,oj,iM,_⟩:=mem_ready.1 hj;exact(gz cM hr hj (cG j oj iM gJ mY)).elim
def JE (acc:List Nat) (o:Oper):Nat:=o.after.toList.foldl (fun m e=>if Region.binds .any e=true then m ||| 2 ^ e.on ||| acc.getD e.on 0 else m) 0
def l9:List Oper->List Nat->List Nat
 | [],acc=>acc
 |o::l,acc=>l9 l (acc++[JE acc o])
theorem Ho {acc:List Nat} {o:Oper} {k:Nat} (ho:ops[k]?=some o) (DL:∀(j:Nat) m i,acc[j]?=some m->m.testBit i=true->Reach ops i j) {i:Nat} (h:(JE acc o).testBit i=true):Reach ops i k:=by
 unfold JE at h;have key:∀(es:List Edge) (m:Nat),(∀e∈es,e∈o.after)->(es.foldl (fun m e=>if Region.binds .any e=true then m ||| 2 ^ e.on ||| acc.getD e.on 0 else m) m).testBit i=true->m.testBit i=true\/Reach ops i k:=by
  intro es
  induction es with
  |nil=>intro m _ h;exact .inl h
  |cons e es ih=>
   intro m hm h;rcases ih _ (fun e' S7=>hm e' (alR _ S7)) h with h1|h1
   ·simp only at h1;split at h1
    ·rename_i hb;rw[Nat.testBit_or,Nat.testBit_or,amo,amo] at h1;rcases h1 with(h1|h1)|h1
     ·exact .inl h1
     ·rw[Nat.testBit_two_pow] at h1;exact .inr (.Lj k o e ho (hm e alS) hb (by simpa using h1))
     ·cases hj:acc[e.on]? with
      |none=>simp[List.getD,hj] at h1
      |some m'=>
       simp only[List.getD,hj,amt] at h1;exact .inr (.step k o e ho (hm e alS) hb (DL _ _ _ hj h1))
    ·exact .inl h1
   ·exact .inr h1
 rcases key o.after.toList 0 (fun e he=>by simpa using he) h with h1|h1
 ·simp at h1
 ·exact h1
theorem ma:∀(l:List Oper) (acc:List Nat),(∀(j:Nat),l[j]?=ops[acc.length+j]?)->(∀(j:Nat) m i,acc[j]?=some m->m.testBit i=true->Reach ops i j)->∀(j:Nat) m i,(l9 l acc)[j]?=some m->m.testBit i=true->Reach ops i j:=by
 intro l
 induction l with
 |nil=>intro acc _ h;exact h
 |cons o l ih=>
  intro acc hl DL;refine ih (acc++[JE acc o]) (fun j=>?_) (fun j m i hj hm=>?_)
  ·have:=hl (j+1);simp only[al5] at this;rw[this];congr 1;simp;omega
  ·rcases dt hj with h1|⟨rfl,rfl⟩
   ·exact DL j m i h1 hm
   ·exact Ho (by have:=hl 0;simpa using this.symm) DL hm
def w5 (l:List Oper):Bool:=
 let m:=l9 l []
 (List.range l.length).all fun k=>match l[k]? with
  |none=>false
  |some ok=>ok.after.toList.all (fun e=>!Region.binds .any e||decide (e.on<k)) &&
    (List.range l.length).all fun j=>decide (j<=k)||(m.getD j 0).testBit k||match l[j]? with
     |none=>true
     |some oj=>!cj ok.op&&!cj oj.op&&ok.apart l.toArray oj
def tN (Γ:Env G) (ops:Array Oper) (K:AS G->Prop):List Oper->AS G->Prop
 | [],s=>K s
 |o::rest,s=>if cj o.op=true then cR Γ.nt o.dst/\o.guard=none/\∃r hp',fA Γ o s r hp'/\tN Γ ops K rest (AS.put { s with hp:=hp' } o.dst r)
  else ∃x,Yields Γ ops o s x/\tN Γ ops K rest (s.put o.dst x)
theorem tN.any {Q:AS G->Prop} {l0:List Oper} (hd:w5 l0=true):∀(l:List Oper) (k:Nat) (listed:Array Bool) (s:AS G),(∀(j:Nat),l[j]?=l0[k+j]?)->listed.size=l0.length->(∀(j:Nat),j<l0.length->listed.getD j true=decide (j<k))->k+l.length=l0.length->
  tN Γ l0.toArray Q l s->qn Γ l0.toArray Q l.length listed s:=by
 intro l
 induction l with
 |nil=>
  intro k listed s _ bN ef hk h;refine⟨?_,h⟩;apply amV.2;intro j hj;obtain⟨h1,o,ho,_⟩:=mem_ready.1 hj;have ak:j<l0.length:=by have:=(alY.1 ho).1;simpa using this
  rw[ef j ak] at h1;simp at h1;simp at hk;omega
 |cons o l ih=>
  intro k listed s hl bN ef hk h;have ax:l0[k]?=some o:=by have:=hl 0;simpa using this.symm
  have Dg:l0.toArray[k]?=some o:=by simpa using ax
  have tO:k<l0.length:=(alu.1 ax).1;have dv:=hd;simp only[w5,alK,amR] at dv;have nR:=dv k tO;rw[ax] at nR;simp only[alB,alK,amR] at nR;obtain⟨JF,vJ⟩:=nR;have Hp:listed.getD k true=false:=by rw[ef k tO];simp
  have j6:∀j,j<l0.length->listed.getD j false=decide (j<k):=by
   intro j hj;have:=ef j hj;simp only[al9,alX (show j<listed.size by omega),amt] at this ⊢;exact this
  have zO:k∈Region.ready .any l0.toArray listed:=by
   refine mem_ready.2 ⟨Hp,o,Dg,fun e he hb=>?_⟩;have:=JF e (by simpa using he);rw[hb] at this;simp at this;rw[j6 e.on (by omega)];simp;exact this
  have cM:oF l0.toArray listed:=by
   intro q oq hq Nr e he hb;have Bq:q<l0.length:=by have:=(alY.1 Nr).1;simpa using this
   rw[j6 q Bq] at hq;have Hq:q<k:=by simpa using hq
   have h2:=dv q Bq;have Hr:l0[q]?=some oq:=by simpa using Nr
   rw[Hr] at h2;simp only[alB,alK] at h2;have h3:=h2.1 e (by simpa using he);rw[hb] at h3;simp at h3;rw[j6 e.on (by omega)];simp;omega
  have mZ:∀(j:Nat),(List.getD (l9 l0 []) j 0).testBit k=true->Reach l0.toArray k j:=by
   intro j hj
   cases hm:(l9 l0 [])[j]? with
   |none=>simp[List.getD,hm] at hj
   |some m=>
    simp only[List.getD,hm,amt] at hj;exact ma (ops:=l0.toArray) l0 [] (fun j=>by simp) (fun j m i hj=>by simp at hj) j m k hm hj
  have mc:∀(j:Nat) oj,l0.toArray[j]?=some oj->j≠k->listed.getD j true=false->Reach l0.toArray k j\/(cj o.op=false/\cj oj.op=false/\o.apart l0.toArray oj=true):=by
   intro j oj iM jL jF;have qm:j<l0.length:=by have:=(alY.1 iM).1;simpa using this
   rw[ef j qm] at jF;have Hs:l0[j]?=some oj:=by simpa using iM
   have h2:=vJ j qm;rw[Hs] at h2;simp only[amo,decide_eq_true_eq,alB,ame] at h2;rcases h2 with(h2|h2)|h2
   ·simp at jF;omega
   ·exact .inl (mZ j h2)
   ·exact .inr ⟨h2.1.1,h2.1.2,h2.2⟩
  have bS:∀s',tN Γ l0.toArray Q l s'->qn Γ l0.toArray Q l.length (listed.setIfInBounds k true) s':=by
   intro s' h';refine ih (k+1) _ s' (fun j=>by have:=hl (j+1);simp only[al5] at this;rw[this];congr 1;omega) (by simpa using bN) (fun j hj=>?_) (by simp at hk;omega) h'
   by_cases jL:j=k
   ·subst jL;have:j<listed.size:=by omega
    simp[this]
   ·rw[getD_set_ne true (am5 jL),ef j hj];simp;omega
  simp only[tN] at h;split at h
  ·rename_i he;obtain⟨h1,h2,r,hp',h3,h4⟩:=h;refine qn.gU cM (fun j oj iM jL jF=>?_) zO ?_
   ·rcases mc j oj iM jL jF with h5|h5
    ·exact h5
    ·rw[he] at h5;cases h5.1
   ·unfold qx;rw[Dg];simp only[he,if_true];exact⟨h1,h2,r,hp',h3,bS _ h4⟩
  ·rename_i he;obtain⟨x,h1,h2⟩:=h;exact qn.first Dg (by simpa using he) l.length listed s cM (fun j oj iM jL jF=>(mc j oj iM jL jF).imp id fun h=>⟨h.2.1,h.2.2⟩) zO h1 (bS _ h2)
end Go.Proofs.YtdcikhleahfknaaGreatDoor
