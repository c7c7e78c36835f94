/- Texts of ours laid together for a claim: FilX. -/
import Derived.Test.YtnkjkpmbgoehkaaGreatQ11
namespace Go.Proofs.YtnkjkpmbgoehkaaGreat
open Go
set_option linter.unusedSimpArgs false
set_option linter.unusedVariables false
variable {G:Type} {Γ:Env G} {s s':AS G} {a:Act} {w w':World} {η aO:List Value} {hp hp':List ab} {P:Program} {ops:Array Oper}
def mF (l:List Nat):Nat->List ab->List ab->Prop
 |_,[],_=>True
 |_,_::_,[]=>False
 |q,o::hp,o'::hp'=>(q∈l\/o'=o)/\mF l (q+1) hp hp'
theorem mF.fr {l:List Nat}:∀(hp hp':List ab) (q:Nat),mF l q hp hp'->hp.length<=hp'.length/\∀(i:Nat) (o:ab),q+i∉l->hp[i]?=some o->hp'[i]?=some o:=by
 intro hp
 induction hp with
 |nil=>intro hp' q _;exact⟨aly _,fun i o _ h=>by simp at h⟩
 |cons o hp ih=>
  intro hp' q h
  cases hp' with
  |nil=>exact h.elim
  |cons o' hp'=>
   obtain⟨h1,h2⟩:=h;obtain⟨g1,g2⟩:=ih hp' (q+1) h2;refine⟨by simpa using g1,fun i ob hi hg=>?_⟩
   cases i with
   |zero=>
    simp only[al8,alh] at hg ⊢;rw[<-hg];exact h1.resolve_left (by simpa using hi)
   |succ i=>
    simp only[alP] at hg ⊢;exact g2 i ob (by rw[show q+1+i=q+(i+1) from by omega];exact hi) hg
def oR (K:List Nat):Nat->List ab->List ab
 |_,[]=>[]
 |q,o::hp=>(if q∈K then .dead else o)::oR K (q+1) hp
def kill:List Nat->List ab->List ab
 | [],hp=>hp
 |K,hp=>oR K 0 hp
theorem w6 (K:List Nat):∀(hp:List ab) (q:Nat),(oR K q hp).length=hp.length
 | [],_=>rfl
 |_::hp,q=>by simp[oR,w6 K hp (q+1)]
theorem w7 (K:List Nat):∀(hp:List ab) (q i:Nat) (o:ab),(oR K q hp)[i]?=some o->o.live->q+i∉K/\hp[i]?=some o
 | [],_,_,_,h,_=>by simp[oR] at h
 |x::hp,q,i,o,h,hl=>by
  cases i with
  |zero=>
   simp only[oR,al8,alh] at h ⊢;split at h
   ·subst h;exact hl.elim
   ·rename_i hq;exact⟨by simpa using hq,h⟩
  |succ i=>
   simp only[oR,alP] at h ⊢;obtain⟨g1,g2⟩:=w7 K hp (q+1) i o h hl;exact⟨by rw[show q+(i+1)=q+1+i from by omega];exact g1,g2⟩
theorem NF (K:List Nat) (hp:List ab):(kill K hp).length=hp.length:=by
 cases K with
 |nil=>rfl
 |cons=>exact w6 _ _ _
theorem NG {K:List Nat} {q:Nat} {o:ab} (h:(kill K hp)[q]?=some o) (hl:o.live):q∉K/\hp[q]?=some o:=by
 cases K with
 |nil=>exact⟨by simp,h⟩
 |cons k K=>
  have:=w7 (k::K) hp 0 q o h hl;rw[alM] at this;exact this
theorem zq {tab:Nat->Option TD} {ρ:Operand->AV} {op:Op} (h:gb op=true):bo tab hp ρ op=bo tab hp' ρ op:=by
 cases op with
 |makeFunc fn first caps=>cases fn<;>rfl
 |_=>first|rfl|(simp[gb] at h)
theorem q6 {tab:Nat->Option TD} {ρ I9:Operand->AV} {op:Op} (h:∀x∈op.operands,ρ x=I9 x):dB tab hp ρ op=dB tab hp I9 op:=by
 cases op with
 |alloc T=>rfl
 |box T x=>simp only[dB,h x (by simp[Op.operands])]
 |store T x y=>simp only[dB,h x (by simp[Op.operands]),h y (by simp[Op.operands])]
 |makeSlice T n c=>simp only[dB,h n (by simp[Op.operands]),h c (by simp[Op.operands])]
 |makeMap T r=>cases r<;>rfl
 |mapUpdate T m k x=>simp only[dB,h m (by simp[Op.operands]),h k (by simp[Op.operands]),h x (by simp[Op.operands])]
 |call c=>
  simp only[dB];have hl:∀l,c.args.toList=l->∀x∈l,ρ x=I9 x:=fun l hl x hx=>h x (by
   simp only[Op.operands,Call.operands,amJ]
   exact .inr (by rw[<-amH,hl];exact hx))
  split
  ·rename_i x y T T' hb KR hT;simp only[hl _ KR x (by simp),hl _ KR y (by simp)]
  ·rfl
 |_=>rfl
def pZ:Op->List Operand
 | .load _ x=>[x]
 | .indexAddr _ x i=>[x,i]
 | .lookup _ m k _=>[m,k]
 | .buildSlice _ _ ps=>ps.toList.map (·.2)
 | .call c=>(match c.callee with | .value f=>[f] | .invoke r _=>[r] | .builtin _=>[])++c.args.toList
 | .slice _ x l h m=>x::(l.toList++h.toList++m.toList)
 |op=>op.operands.toList
theorem Hd (op:Op):pZ op=op.operands.toList:=by
 cases op with
 |call c=>
  simp only[pZ,Op.operands,Call.operands]
  cases c.callee<;>simp
 |slice T x l h m=>simp[pZ,Op.operands]
 |_=>simp[pZ,Op.operands]
def gX (Γ:Env G) (tab:Nat->Option TD) (m:Option (List Nat)) (o:Oper) (s:AS G) (next rest:AS G->Prop):Prop:=
 if gb o.op=true then(match bo tab s.hp s.ev o.op with
  |some (c,r)=>c/\next (s.put o.dst r)
  |none=>False)
 else match m with
 |none=>DStep Γ tab o s next rest
 |some K=>((pZ o.op).all fun x=>(s.ev x).closed (kill K s.hp).length)=true/\(∀ob∈kill K s.hp,ab.closed (kill K s.hp).length ob=true)/\
  (match bo tab (kill K s.hp) s.ev o.op with
  |some (c,r)=>c/\r.held (kill K s.hp)=true/\next (s.put o.dst r)
  |none=>(match fg { s with hp:=kill K s.hp } o.op with
   |some (f,args)=>∃r,af Γ.P f args r/\r.held (kill K s.hp)=true/\rest (s.put o.dst r)
   |none=>False))
def mG (Γ:Env G) (tab:Nat->Option TD) (nt:Nat) (ops:Array Oper) (C M:List (Option (List Nat))) (K:AS G->Prop):Nat->List Oper->AS G->Prop
 |_,[],s=>K s
 |k,o::rest,s=>if cf o.op=true then cP nt o.dst/\o.guard=none/\(match dB tab s.hp s.ev o.op with
   |some (c,r,hp')=>c/\(match C.getD k none with|none=>True|some l=>mF l 0 s.hp hp')/\mG Γ tab nt ops C M K (k+1) rest (AS.put { s with hp:=hp' } o.dst r)
   |none=>False)
  else cP nt o.dst/\(match o.guard with
   |none=>gX Γ tab (M.getD k none) o s (mG Γ tab nt ops C M K (k+1) rest) (om Γ ops C M K (k+1) rest)
   |some (j,want)=>(match jh ops s j with
    |some (some b)=>(b=want->gX Γ tab (M.getD k none) o s (mG Γ tab nt ops C M K (k+1) rest) (om Γ ops C M K (k+1) rest))/\(¬b=want->mG Γ tab nt ops C M K (k+1) rest (s.put o.dst (.ae (.tuple #[]))))
    |some none=>mG Γ tab nt ops C M K (k+1) rest (s.put o.dst (.ae (.tuple #[])))
    |none=>False))
theorem oS {o:Oper} {L:List Nat} (hL:L=o.looksAt ops) (h:∀t,t∈L->s'.tmps t=s.tmps t) {x:Operand} (hx:x∈o.op.operands):(s'.only L).ev x=s.ev x:=by
 subst hL;rw[jP hx]
 cases x with
 |tmp t=>
  refine h t ?_;unfold Oper.looksAt;exact am1 _ (List.mem_filterMap.2 ⟨.tmp t,by simpa using hx,rfl⟩)
 |_=>rfl
theorem oT {tab:Nat->Option TD} (ah:aL Γ.P tab) {o:Oper} {c:Prop} {r:AV} (hp:bo tab s.hp s.ev o.op=some (c,r)) (hc:c):lN Γ o s r:=by
 intro r6 Bk e1 e2 e3;exact .Np (qY Bk (by rw[e1];exact ah) hp hc)
theorem uJ {o:Oper} {f:Nat} {args:List AV} {r:AV} (qE:fg s o.op=some (f,args)) (hP:af Γ.P f args r):lN Γ o s r:=by
 intro r6 Bk e1 e2 e3;unfold fg at qE;split at qE
 ·rename_i c hc;split at qE
  ·rename_i x hx;split at qE
   ·rename_i f' caps cY;simp only[alh,alk] at qE;obtain⟨rfl,rfl⟩:=qE;exact r3.pure Bk hc hx cY (by rw[e1];exact hP)
   ·cases qE
  ·cases qE
 ·cases qE
theorem oU {op:Op} (Bj:s'.hp=s.hp) (h:∀x∈op.operands,s'.ev x=s.ev x):fg s' op=fg s op:=by
 unfold fg;split
 ·rename_i c;split
  ·rename_i x hx;have h1:s'.ev x=s.ev x:=h x (by simp[Op.operands,Call.operands,hx]);have h2:c.args.toList.map s'.ev=c.args.toList.map s.ev:=amx fun y hy=>h y (by simp only[Op.operands,Call.operands,amJ];exact .inr (by simpa using hy));rw[h1,h2,Bj]
  ·rfl
 ·rfl
theorem Du {M:List (Option (List Nat))} {k:Nat} {op:Op} (hh:¬gb op=true) (hm:M.getD k none=none) (h:pY M k op hp hp'):hp'=hp:=by
 unfold pY at h;rw[if_neg hh,hm] at h;exact h
theorem Dv {M:List (Option (List Nat))} {k:Nat} {op:Op} {K:List Nat} (hh:¬gb op=true) (hm:M.getD k none=some K) (h:pY M k op hp hp'):mD K hp hp':=by
 unfold pY at h;rw[if_neg hh,hm] at h;exact h
theorem Ad {o:Oper} {K:List Nat} (cY:(o.op.operands.toList.all fun x=>(s.ev x).closed (kill K s.hp).length)=true) (ei:∀ob∈kill K s.hp,ab.closed (kill K s.hp).length ob=true)
  (hg:o.guard=none\/∃j want b,o.guard=some (j,want)/\jh ops s j=some b) (ht:∀t,t∈o.looksAt ops->s'.tmps t=s.tmps t) (hf:mD K s.hp s'.hp):Part { s with hp:=kill K s.hp } s' (o.looksAt ops):=by
 refine⟨fun t ee=>⟨ht t ee,?_⟩,fun q ob h1 h2=>?_,?_⟩
 ·unfold Oper.looksAt at ee;rcases amc.1 ee with h1|h1
  ·obtain⟨x,hx,hxt⟩:=List.mem_filterMap.1 h1
   cases x with
   |tmp u=>
    simp only[alh] at hxt;subst hxt;rw[alv] at cY;exact cY _ hx
   |_=>simp at hxt
  ·rcases hg with hg|⟨j,want,b,hg,hb⟩
   ·rw[hg] at h1;simp at h1
   ·rw[hg] at h1;simp only[Option.mem_toList] at h1;unfold jh at hb;rw[h1] at hb;simp only at hb;show (s.tmps t).closed _=true;split at hb
    ·rename_i b' hx;rw[hx];rfl
    ·rename_i b' hx;rw[hx];rfl
    ·cases hb
 ·obtain⟨g1,g2⟩:=NG h1 h2;exact⟨hf.2 q ob g1 g2,ei ob (alq h1)⟩
 ·show (kill K s.hp).length<=_;rw[NF];exact hf.1
theorem gX.sound {tab:Nat->Option TD} (ah:aL Γ.P tab) {M:List (Option (List Nat))} {k:Nat} {o:Oper} {next rest K':AS G->Prop} (h:gX Γ tab (M.getD k none) o s next rest) (h1:∀s,next s->K' s) (h2:∀s,rest s->K' s)
  (hg:o.guard=none\/∃j want b,o.guard=some (j,want)/\jh ops s j=some b):
  ∃x,(∀s':AS G,(∀t,t∈o.looksAt ops->s'.tmps t=s.tmps t)->pY M k o.op s.hp s'.hp->lN Γ o (s'.only (o.looksAt ops)) x)/\K' (s.put o.dst x):=by
 unfold gX at h;split at h
 ·rename_i hh;split at h
  ·rename_i c r hp';refine⟨r,fun s' ht _=>oT ah (c:=c) ?_ h.1,h1 _ h.2⟩;rw[<-hp',zq (hp':=s.hp) hh];exact nr fun x hx=>oS rfl ht hx
  ·exact h.elim
 ·rename_i hh;split at h
  ·rename_i hm;unfold DStep at h;split at h
   ·rename_i c r hp';refine⟨r,fun s' ht hr=>oT ah (c:=c) ?_ h.1,h1 _ h.2⟩;have he:(s'.only (o.looksAt ops)).hp=s.hp:=Du hh hm hr;rw[he,<-hp'];exact nr fun x hx=>oS rfl ht hx
   ·split at h
    ·rename_i f args qE;obtain⟨r,hP,hr⟩:=h;refine⟨r,fun s' ht Zj=>uJ (f:=f) (args:=args) ?_ hP,h2 _ hr⟩;rw[<-qE];exact oU (Du hh hm Zj) fun x hx=>oS rfl ht hx
    ·exact h.elim
  ·rename_i K hm;obtain⟨g1,g2,g3⟩:=h;rw[Hd] at g1;split at g3
   ·rename_i c r hp';refine⟨r,fun s' ht hr=>?_,h1 _ g3.2.2⟩;refine lN.part (s:={ s with hp:=kill K s.hp }) (oT ah (c:=c) ?_ g3.1) (Ad g1 g2 hg ht (Dv hh hm hr)) g3.2.1;rw[<-hp'];exact nr fun x hx=>jP hx
   ·split at g3
    ·rename_i f args qE;obtain⟨r,hP,Bi,pX⟩:=g3;refine⟨r,fun s' ht hr=>?_,h2 _ pX⟩;refine lN.part (s:={ s with hp:=kill K s.hp }) (uJ (f:=f) (args:=args) ?_ hP) (Ad g1 g2 hg ht (Dv hh hm hr)) Bi;rw[<-qE];exact oU rfl fun x hx=>jP hx
    ·exact g3.elim
theorem mG.sound {tab:Nat->Option TD} (ah:aL Γ.P tab) {nt:Nat} (dj:nt=Γ.nt) {C M:List (Option (List Nat))} {K:AS G->Prop}:∀(l:List Oper) (k:Nat) (s:AS G),mG Γ tab nt ops C M K k l s->om Γ ops C M K k l s:=by
 subst dj;intro l
 induction l with
 |nil=>intro k s h;exact h
 |cons o rest ih=>
  intro k s h;simp only[mG] at h;simp only[om];split at h
  ·rename_i he;rw[if_pos he];obtain⟨h1,h2,h3⟩:=h;split at h3
   ·rename_i c r hp' hh;refine⟨h1,h2,r,hp',fun r6 Bk e1 e2 e3=>iL Bk (tab:=tab) (by rw[e1];exact ah) (c:=c) ?_ h3.1,?_,ih _ _ h3.2.2⟩
    ·rw[<-hh];exact q6 fun x hx=>jP hx
    ·have h4:=h3.2.1;unfold kJ
     split at h4<;>rename_i hc<;>rw[hc]
     ·exact True.intro
     ·have:=mF.fr _ _ _ h4;exact⟨this.1,fun q ob hq ho=>this.2 q ob (by simpa using hq) ho⟩
   ·exact h3.elim
  ·rename_i he;rw[if_neg he];obtain⟨h1,h2⟩:=h;split at h2
   ·rename_i hg;obtain⟨x,h3,h4⟩:=gX.sound (ops:=ops) ah h2 (ih (k+1)) (fun _ h=>h) (.inl hg);exact⟨x,⟨h1,.inl ⟨by simp[aC,hg],h3⟩⟩,h4⟩
   ·rename_i j want hg;split at h2
    ·rename_i b hb
     by_cases iW:b=want
     ·obtain⟨x,h3,h4⟩:=gX.sound (ops:=ops) ah (h2.1 iW) (ih (k+1)) (fun _ h=>h) (.inr ⟨j,want,_,hg,hb⟩);exact⟨x,⟨h1,.inl ⟨by simp[aC,hg,hb,iW],h3⟩⟩,h4⟩
     ·exact⟨_,⟨h1,.inr ⟨by simp[aC,hg,hb,iW],rfl⟩⟩,ih _ _ (h2.2 iW)⟩
    ·rename_i hb;exact⟨_,⟨h1,.inr ⟨by simp[aC,hg,hb],rfl⟩⟩,ih _ _ h2⟩
    ·exact h2.elim
theorem ej.Zk (al:Γ.Ok) {tab:Nat->Option TD} (ah:aL Γ.P tab) {nt:Nat} (dj:nt=Γ.nt) (hm:Γ.P.follows .mixedOrders=true) {id:Nat} {l:List Oper} {Q:Exit->AS G->Prop} (C M:List (Option (List Nat))) (hd:vZ C M l=true)
  (h:mG Γ tab nt l.toArray C M (Q .normal) 0 l s):ej Γ (.region id l.toArray true) Q s:=by
 intro a w η hr;refine wpIn_region_any hm ?_;have:=(om.any (Γ:=Γ) (C:=C) (M:=M) hd l 0 (Array.replicate l.length false) s (fun j=>by simp) (by simp) (fun j hj=>by simp[hj]) (by simp) (mG.sound ah dj l 0 s h)).any al;have h2:=qu.sound (Qc:=fun e a' w'=>∃s' aO,Q e s'/\Rel Γ s' a' w' aO) al (fun s' a' w' aO h1 h2=>⟨s',aO,h1,h2⟩) _ _ _ a w.drew η this (hr.same al (bD.drew w));simpa using h2
end Go.Proofs.YtnkjkpmbgoehkaaGreat
