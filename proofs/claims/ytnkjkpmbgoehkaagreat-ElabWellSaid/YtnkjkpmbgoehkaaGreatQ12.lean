/- Lemmas. -/
import Derived.Test.YtnkjkpmbgoehkaaGreatQ11
namespace Go.Proofs.YtnkjkpmbgoehkaaGreat
open Go
set_option linter.unusedSimpArgs false
set_option linter.unusedVariables false
variable {G:Type} {Γ:Env G} {s s':AS G} {a:Act} {w w':World} {η bf:List Value} {hp hp':List aw} {P:Program} {ops:Array Oper}
def oc (l:List Nat):Nat->List aw->List aw->Prop
 |_,[],_=>True
 |_,_::_,[]=>False
 |q,o::hp,o'::hp'=>(q∈l\/o'=o)/\oc l (q+1) hp hp'
theorem oc.fr {l:List Nat}:∀(hp hp':List aw) (q:Nat),oc l q hp hp'->hp.length<=hp'.length/\∀(i:Nat) (o:aw),q+i∉l->hp[i]?=some o->hp'[i]?=some o:=by
 intro hp
 induction hp with
 |nil=>intro hp' q _;exact⟨aqC _,fun i o _ h=>by simp at h⟩
 |cons o hp ih=>
  intro hp' q h
  cases hp' with
  |nil=>exact h.elim
  |cons o' hp'=>
   obtain⟨h1,h2⟩:=h;obtain⟨g1,g2⟩:=ih hp' (q+1) h2;refine⟨by simpa using g1,fun i ob hi hg=>?_⟩
   cases i with
   |zero=>
    simp only[ari,aqq] at hg ⊢;rw[<-hg];exact h1.resolve_left (by simpa using hi)
   |succ i=>
    simp only[aq2] at hg ⊢;exact g2 i ob (by rw[show q+1+i=q+(i+1) from by omega];exact hi) hg
def qJ (K:List Nat):Nat->List aw->List aw
 |_,[]=>[]
 |q,o::hp=>(if q∈K then .dead else o)::qJ K (q+1) hp
def kill:List Nat->List aw->List aw
 | [],hp=>hp
 |K,hp=>qJ K 0 hp
theorem zl (K:List Nat):∀(hp:List aw) (q:Nat),(qJ K q hp).length=hp.length
 | [],_=>rfl
 |_::hp,q=>by simp[qJ,zl K hp (q+1)]
theorem zm (K:List Nat):∀(hp:List aw) (q i:Nat) (o:aw),(qJ K q hp)[i]?=some o->o.live->q+i∉K/\hp[i]?=some o
 | [],_,_,_,h,_=>by simp[qJ] at h
 |x::hp,q,i,o,h,hl=>by
  cases i with
  |zero=>
   simp only[qJ,ari,aqq] at h ⊢;split at h
   ·subst h;exact hl.elim
   ·rename_i hq;exact⟨by simpa using hq,h⟩
  |succ i=>
   simp only[qJ,aq2] at h ⊢;obtain⟨g1,g2⟩:=zm K hp (q+1) i o h hl;exact⟨by rw[show q+(i+1)=q+1+i from by omega];exact g1,g2⟩
theorem Rr (K:List Nat) (hp:List aw):(kill K hp).length=hp.length:=by
 cases K with
 |nil=>rfl
 |cons=>exact zl _ _ _
theorem Rs {K:List Nat} {q:Nat} {o:aw} (h:(kill K hp)[q]?=some o) (hl:o.live):q∉K/\hp[q]?=some o:=by
 cases K with
 |nil=>exact⟨by simp,h⟩
 |cons k K=>
  have:=zm (k::K) hp 0 q o h hl;rw[aqV] at this;exact this
theorem BP {tab:Nat->Option TD} {ρ:Operand->AV} {op:Op} (h:ic op=true):bL tab hp ρ op=bL tab hp' ρ op:=by
 cases op with
 |makeFunc fn first caps=>cases fn<;>rfl
 |_=>first|rfl|(simp[ic] at h)
theorem sY {tab:Nat->Option TD} {ρ uc:Operand->AV} {op:Op} (h:∀x∈op.operands,ρ x=uc x):eh tab hp ρ op=eh tab hp uc op:=by
 cases op with
 |alloc T=>rfl
 |box T x=>simp only[eh,h x (by simp[Op.operands])]
 |store T x y=>simp only[eh,h x (by simp[Op.operands]),h y (by simp[Op.operands])]
 |makeSlice T n c=>simp only[eh,h n (by simp[Op.operands]),h c (by simp[Op.operands])]
 |makeMap T r=>cases r<;>rfl
 |mapUpdate T m k x=>simp only[eh,h m (by simp[Op.operands]),h k (by simp[Op.operands]),h x (by simp[Op.operands])]
 |call c=>
  simp only[eh];have hl:∀l,c.args.toList=l->∀x∈l,ρ x=uc x:=fun l hl x hx=>h x (by
   simp only[Op.operands,Call.operands,arZ]
   exact .inr (by rw[<-arV,hl];exact hx))
  split
  ·rename_i x y T T' hb OL hT;simp only[hl _ OL x (by simp),hl _ OL y (by simp)]
  ·rfl
 |_=>rfl
def rX:Op->List Operand
 | .load _ x=>[x]
 | .indexAddr _ x i=>[x,i]
 | .lookup _ m k _=>[m,k]
 | .buildSlice _ _ ps=>ps.toList.map (·.2)
 | .call c=>(match c.callee with | .value f=>[f] | .invoke r _=>[r] | .builtin _=>[])++c.args.toList
 | .slice _ x l h m=>x::(l.toList++h.toList++m.toList)
 |op=>op.operands.toList
theorem Ka (op:Op):rX op=op.operands.toList:=by
 cases op with
 |call c=>
  simp only[rX,Op.operands,Call.operands]
  cases c.callee<;>simp
 |slice T x l h m=>simp[rX,Op.operands]
 |_=>simp[rX,Op.operands]
def jd (Γ:Env G) (tab:Nat->Option TD) (m:Option (List Nat)) (o:Oper) (s:AS G) (next rest:AS G->Prop):Prop:=
 if ic o.op=true then(match bL tab s.hp s.ev o.op with
  |some (c,r)=>c/\next (s.put o.dst r)
  |none=>False)
 else match m with
 |none=>DStep Γ tab o s next rest
 |some K=>((rX o.op).all fun x=>(s.ev x).closed (kill K s.hp).length)=true/\(∀ob∈kill K s.hp,aw.closed (kill K s.hp).length ob=true)/\
  (match bL tab (kill K s.hp) s.ev o.op with
  |some (c,r)=>c/\r.held (kill K s.hp)=true/\next (s.put o.dst r)
  |none=>(match fQ { s with hp:=kill K s.hp } o.op with
   |some (f,args)=>∃r,ay Γ.P f args r/\r.held (kill K s.hp)=true/\rest (s.put o.dst r)
   |none=>False))
def od (Γ:Env G) (tab:Nat->Option TD) (nt:Nat) (ops:Array Oper) (C M:List (Option (List Nat))) (K:AS G->Prop):Nat->List Oper->AS G->Prop
 |_,[],s=>K s
 |k,o::rest,s=>if cI o.op=true then dC nt o.dst/\o.guard=none/\(match eh tab s.hp s.ev o.op with
   |some (c,r,hp')=>c/\(match C.getD k none with|none=>True|some l=>oc l 0 s.hp hp')/\od Γ tab nt ops C M K (k+1) rest (AS.put { s with hp:=hp' } o.dst r)
   |none=>False)
  else dC nt o.dst/\(match o.guard with
   |none=>jd Γ tab (M.getD k none) o s (od Γ tab nt ops C M K (k+1) rest) (qe Γ ops C M K (k+1) rest)
   |some (j,want)=>(match kx ops s j with
    |some (some b)=>(b=want->jd Γ tab (M.getD k none) o s (od Γ tab nt ops C M K (k+1) rest) (qe Γ ops C M K (k+1) rest))/\(¬b=want->od Γ tab nt ops C M K (k+1) rest (s.put o.dst (.ax (.tuple #[]))))
    |some none=>od Γ tab nt ops C M K (k+1) rest (s.put o.dst (.ax (.tuple #[])))
    |none=>False))
theorem qK {o:Oper} {L:List Nat} (hL:L=o.looksAt ops) (h:∀t,t∈L->s'.tmps t=s.tmps t) {x:Operand} (hx:x∈o.op.operands):(s'.only L).ev x=s.ev x:=by
 subst hL;rw[lg hx]
 cases x with
 |tmp t=>
  refine h t ?_;unfold Oper.looksAt;exact ar7 _ (List.mem_filterMap.2 ⟨.tmp t,by simpa using hx,rfl⟩)
 |_=>rfl
theorem qL {tab:Nat->Option TD} (aA:bc Γ.P tab) {o:Oper} {c:Prop} {r:AV} (hp:bL tab s.hp s.ev o.op=some (c,r)) (hc:c):nu Γ o s r:=by
 intro ue DR e1 e2 e3;exact .Rc (sV DR (by rw[e1];exact aA) hp hc)
theorem wQ {o:Oper} {f:Nat} {args:List AV} {r:AV} (sE:fQ s o.op=some (f,args)) (hP:ay Γ.P f args r):nu Γ o s r:=by
 intro ue DR e1 e2 e3;unfold fQ at sE;split at sE
 ·rename_i c hc;split at sE
  ·rename_i x hx;split at sE
   ·rename_i f' caps dK;simp only[aqq,aqt] at sE;obtain⟨rfl,rfl⟩:=sE;exact ub.pure DR hc hx dK (by rw[e1];exact hP)
   ·cases sE
  ·cases sE
 ·cases sE
theorem qM {op:Op} (DQ:s'.hp=s.hp) (h:∀x∈op.operands,s'.ev x=s.ev x):fQ s' op=fQ s op:=by
 unfold fQ;split
 ·rename_i c;split
  ·rename_i x hx;have h1:s'.ev x=s.ev x:=h x (by simp[Op.operands,Call.operands,hx]);have h2:c.args.toList.map s'.ev=c.args.toList.map s.ev:=arD fun y hy=>h y (by simp only[Op.operands,Call.operands,arZ];exact .inr (by simpa using hy));rw[h1,h2,DQ]
  ·rfl
 ·rfl
theorem Gb {M:List (Option (List Nat))} {k:Nat} {op:Op} (hh:¬ic op=true) (hm:M.getD k none=none) (h:rW M k op hp hp'):hp'=hp:=by
 unfold rW at h;rw[if_neg hh,hm] at h;exact h
theorem Gc {M:List (Option (List Nat))} {k:Nat} {op:Op} {K:List Nat} (hh:¬ic op=true) (hm:M.getD k none=some K) (h:rW M k op hp hp'):nZ K hp hp':=by
 unfold rW at h;rw[if_neg hh,hm] at h;exact h
theorem Cx {o:Oper} {K:List Nat} (dK:(o.op.operands.toList.all fun x=>(s.ev x).closed (kill K s.hp).length)=true) (eX:∀ob∈kill K s.hp,aw.closed (kill K s.hp).length ob=true)
  (hg:o.guard=none\/∃j want b,o.guard=some (j,want)/\kx ops s j=some b) (ht:∀t,t∈o.looksAt ops->s'.tmps t=s.tmps t) (hf:nZ K s.hp s'.hp):Part { s with hp:=kill K s.hp } s' (o.looksAt ops):=by
 refine⟨fun t ep=>⟨ht t ep,?_⟩,fun q ob h1 h2=>?_,?_⟩
 ·unfold Oper.looksAt at ep;rcases aq7.1 ep with h1|h1
  ·obtain⟨x,hx,hxt⟩:=List.mem_filterMap.1 h1
   cases x with
   |tmp u=>
    simp only[aqq] at hxt;subst hxt;rw[aqF] at dK;exact dK _ hx
   |_=>simp at hxt
  ·rcases hg with hg|⟨j,want,b,hg,hb⟩
   ·rw[hg] at h1;simp at h1
   ·rw[hg] at h1;simp only[Option.mem_toList] at h1;unfold kx at hb;rw[h1] at hb;simp only at hb;show (s.tmps t).closed _=true;split at hb
    ·rename_i b' hx;rw[hx];rfl
    ·rename_i b' hx;rw[hx];rfl
    ·cases hb
 ·obtain⟨g1,g2⟩:=Rs h1 h2;exact⟨hf.2 q ob g1 g2,eX ob (aqA h1)⟩
 ·show (kill K s.hp).length<=_;rw[Rr];exact hf.1
theorem jd.sound {tab:Nat->Option TD} (aA:bc Γ.P tab) {M:List (Option (List Nat))} {k:Nat} {o:Oper} {next rest K':AS G->Prop} (h:jd Γ tab (M.getD k none) o s next rest) (h1:∀s,next s->K' s) (h2:∀s,rest s->K' s)
  (hg:o.guard=none\/∃j want b,o.guard=some (j,want)/\kx ops s j=some b):
  ∃x,(∀s':AS G,(∀t,t∈o.looksAt ops->s'.tmps t=s.tmps t)->rW M k o.op s.hp s'.hp->nu Γ o (s'.only (o.looksAt ops)) x)/\K' (s.put o.dst x):=by
 unfold jd at h;split at h
 ·rename_i hh;split at h
  ·rename_i c r hp';refine⟨r,fun s' ht _=>qL aA (c:=c) ?_ h.1,h1 _ h.2⟩;rw[<-hp',BP (hp':=s.hp) hh];exact pd fun x hx=>qK rfl ht hx
  ·exact h.elim
 ·rename_i hh;split at h
  ·rename_i hm;unfold DStep at h;split at h
   ·rename_i c r hp';refine⟨r,fun s' ht hr=>qL aA (c:=c) ?_ h.1,h1 _ h.2⟩;have he:(s'.only (o.looksAt ops)).hp=s.hp:=Gb hh hm hr;rw[he,<-hp'];exact pd fun x hx=>qK rfl ht hx
   ·split at h
    ·rename_i f args sE;obtain⟨r,hP,hr⟩:=h;refine⟨r,fun s' ht hrf=>wQ (f:=f) (args:=args) ?_ hP,h2 _ hr⟩;rw[<-sE];exact qM (Gb hh hm hrf) fun x hx=>qK rfl ht hx
    ·exact h.elim
  ·rename_i K hm;obtain⟨g1,g2,g3⟩:=h;rw[Ka] at g1;split at g3
   ·rename_i c r hp';refine⟨r,fun s' ht hr=>?_,h1 _ g3.2.2⟩;refine nu.part (s:={ s with hp:=kill K s.hp }) (qL aA (c:=c) ?_ g3.1) (Cx g1 g2 hg ht (Gc hh hm hr)) g3.2.1;rw[<-hp'];exact pd fun x hx=>lg hx
   ·split at g3
    ·rename_i f args sE;obtain⟨r,hP,DP,rV⟩:=g3;refine⟨r,fun s' ht hr=>?_,h2 _ rV⟩;refine nu.part (s:={ s with hp:=kill K s.hp }) (wQ (f:=f) (args:=args) ?_ hP) (Cx g1 g2 hg ht (Gc hh hm hr)) DP;rw[<-sE];exact qM rfl fun x hx=>lg hx
    ·exact g3.elim
theorem od.sound {tab:Nat->Option TD} (aA:bc Γ.P tab) {nt:Nat} (dS:nt=Γ.nt) {C M:List (Option (List Nat))} {K:AS G->Prop}:∀(l:List Oper) (k:Nat) (s:AS G),od Γ tab nt ops C M K k l s->qe Γ ops C M K k l s:=by
 subst dS;intro l
 induction l with
 |nil=>intro k s h;exact h
 |cons o rest ih=>
  intro k s h;simp only[od] at h;simp only[qe];split at h
  ·rename_i he;rw[if_pos he];obtain⟨h1,h2,h3⟩:=h;split at h3
   ·rename_i c r hp' hh;refine⟨h1,h2,r,hp',fun ue DR e1 e2 e3=>jO DR (tab:=tab) (by rw[e1];exact aA) (c:=c) ?_ h3.1,?_,ih _ _ h3.2.2⟩
    ·rw[<-hh];exact sY fun x hx=>lg hx
    ·have h4:=h3.2.1;unfold mc
     split at h4<;>rename_i hc<;>rw[hc]
     ·exact True.intro
     ·have:=oc.fr _ _ _ h4;exact⟨this.1,fun q ob hq ho=>this.2 q ob (by simpa using hq) ho⟩
   ·exact h3.elim
  ·rename_i he;rw[if_neg he];obtain⟨h1,h2⟩:=h;split at h2
   ·rename_i hg;obtain⟨x,h3,h4⟩:=jd.sound (ops:=ops) aA h2 (ih (k+1)) (fun _ h=>h) (.inl hg);exact⟨x,⟨h1,.inl ⟨by simp[aV,hg],h3⟩⟩,h4⟩
   ·rename_i j want hg;split at h2
    ·rename_i b hb
     by_cases kh:b=want
     ·obtain⟨x,h3,h4⟩:=jd.sound (ops:=ops) aA (h2.1 kh) (ih (k+1)) (fun _ h=>h) (.inr ⟨j,want,_,hg,hb⟩);exact⟨x,⟨h1,.inl ⟨by simp[aV,hg,hb,kh],h3⟩⟩,h4⟩
     ·exact⟨_,⟨h1,.inr ⟨by simp[aV,hg,hb,kh],rfl⟩⟩,ih _ _ (h2.2 kh)⟩
    ·rename_i hb;exact⟨_,⟨h1,.inr ⟨by simp[aV,hg,hb],rfl⟩⟩,ih _ _ h2⟩
    ·exact h2.elim
theorem eY.aec (aE:Γ.Ok) {tab:Nat->Option TD} (aA:bc Γ.P tab) {nt:Nat} (dS:nt=Γ.nt) (hm:Γ.P.follows .mixedOrders=true) {id:Nat} {l:List Oper} {Q:Exit->AS G->Prop} (C M:List (Option (List Nat))) (hd:yk C M l=true)
  (h:od Γ tab nt l.toArray C M (Q .normal) 0 l s):eY Γ (.region id l.toArray true) Q s:=by
 intro a w η hr;refine wpIn_region_any hm ?_;have:=(qe.any (Γ:=Γ) (C:=C) (M:=M) hd l 0 (Array.replicate l.length false) s (fun j=>by simp) (by simp) (fun j hj=>by simp[hj]) (by simp) (od.sound aA dS l 0 s h)).any aE;have h2:=sw.sound (Qc:=fun e a' w'=>∃s' bf,Q e s'/\Rel Γ s' a' w' bf) aE (fun s' a' w' bf h1 h2=>⟨s',bf,h1,h2⟩) _ _ _ a w.drew η this (hr.same aE (bV.drew w));simpa using h2
end Go.Proofs.YtnkjkpmbgoehkaaGreat
