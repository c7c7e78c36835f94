/- Texts of ours laid together for a claim: FilX. -/
import Derived.Test.YtjhanogfpkbamaaGreatDoorQ11
namespace Go.Proofs.YtjhanogfpkbamaaGreatDoor
open Go
set_option linter.unusedSimpArgs false
set_option linter.unusedVariables false
variable {G:Type} {Γ:Env G} {s s':AS G} {a:Act} {w w':World} {η aU:List Value} {hp hp':List af} {P:Program} {ops:Array Oper}
def mY (l:List Nat):Nat→List af→List af→Prop
 |_,[],_=>True
 |_,_::_,[]=>False
 |q,o::hp,o'::hp'=>(q∈l∨o'=o)∧mY l (q+1) hp hp'
theorem mY.fr {l:List Nat}:∀(hp hp':List af) (q:Nat),mY l q hp hp'→hp.length≤hp'.length∧∀(i:Nat) (o:af),q+i∉l→hp[i]?=some o→hp'[i]?=some o:=by
 intro hp
 induction hp with
 |nil=>intro hp' q _;exact⟨ah3 _,fun i o _ h=>by simp at h⟩
 |cons o hp ih=>
  intro hp' q h
  cases hp' with
  |nil=>exact h.elim
  |cons o' hp'=>
   obtain⟨h1,h2⟩:=h
   obtain⟨g1,g2⟩:=ih hp' (q+1) h2
   refine⟨by simpa using g1,fun i ob hi hg=>?_⟩
   cases i with
   |zero=>
    simp only[aiS,Option.some.injEq] at hg ⊢
    rw[←hg]
    exact h1.resolve_left (by simpa using hi)
   |succ i=>
    simp only[aiB] at hg ⊢
    exact g2 i ob (by rw[show q+1+i=q+(i+1) from by omega];exact hi) hg
def p5 (K:List Nat):Nat→List af→List af
 |_,[]=>[]
 |q,o::hp=>(if q∈K then .dead else o)::p5 K (q+1) hp
def kill:List Nat→List af→List af
 | [],hp=>hp
 |K,hp=>p5 K 0 hp
theorem yF (K:List Nat):∀(hp:List af) (q:Nat),(p5 K q hp).length=hp.length
 | [],_=>rfl
 |_::hp,q=>by simp[p5,yF K hp (q+1)]
theorem yG (K:List Nat):∀(hp:List af) (q i:Nat) (o:af),(p5 K q hp)[i]?=some o→o.live→q+i∉K∧hp[i]?=some o
 | [],_,_,_,h,_=>by simp[p5] at h
 |x::hp,q,i,o,h,hl=>by
  cases i with
  |zero=>
   simp only[p5,aiS,Option.some.injEq] at h ⊢
   split at h
   ·subst h;exact hl.elim
   ·rename_i hq;exact⟨by simpa using hq,h⟩
  |succ i=>
   simp only[p5,aiB] at h ⊢
   obtain⟨g1,g2⟩:=yG K hp (q+1) i o h hl
   exact⟨by rw[show q+(i+1)=q+1+i from by omega];exact g1,g2⟩
theorem M7 (K:List Nat) (hp:List af):(kill K hp).length=hp.length:=by
 cases K with
 |nil=>rfl
 |cons=>exact yF _ _ _
theorem M8 {K:List Nat} {q:Nat} {o:af} (h:(kill K hp)[q]?=some o) (hl:o.live):q∉K∧hp[q]?=some o:=by
 cases K with
 |nil=>exact⟨by simp,h⟩
 |cons k K=>
  have:=yG (k::K) hp 0 q o h hl
  rw[aiw] at this
  exact this
theorem Aa {az:Nat→Option TD} {ρ:Operand→AV} {op:Op} (h:gS op=true):bN az hp ρ op=bN az hp' ρ op:=by
 cases op with
 |makeFunc fn first caps=>cases fn<;>rfl
 |_=>first|rfl|(simp[gS] at h)
theorem r9 {az:Nat→Option TD} {ρ I3:Operand→AV} {op:Op} (h:∀x∈op.operands,ρ x=I3 x):dV az hp ρ op=dV az hp I3 op:=by
 cases op with
 |alloc T=>rfl
 |box T x=>simp only[dV,h x (by simp[Op.operands])]
 |store T x y=>simp only[dV,h x (by simp[Op.operands]),h y (by simp[Op.operands])]
 |makeSlice T n c=>simp only[dV,h n (by simp[Op.operands]),h c (by simp[Op.operands])]
 |makeMap T r=>cases r<;>rfl
 |mapUpdate T m k x=>simp only[dV,h m (by simp[Op.operands]),h k (by simp[Op.operands]),h x (by simp[Op.operands])]
 |call c=>
  simp only[dV]
  have hl:∀l,c.args.toList=l→∀x∈l,ρ x=I3 x:=fun l hl x hx=>h x (by
   simp only[Op.operands,Call.operands,ajy]
   exact .inr (by rw[←ajv,hl];exact hx))
  split
  ·rename_i x y T T' hb KR hT
   simp only[hl _ KR x (by simp),hl _ KR y (by simp)]
  ·rfl
 |_=>rfl
def qP:Op→List Operand
 | .load _ x=>[x]
 | .indexAddr _ x i=>[x,i]
 | .lookup _ m k _=>[m,k]
 | .buildSlice _ _ ps=>ps.toList.map (·.2)
 | .call c=>(match c.callee with | .value f=>[f] | .invoke r _=>[r] | .builtin _=>[])++c.args.toList
 | .slice _ x l h m=>x::(l.toList++h.toList++m.toList)
 |op=>op.operands.toList
theorem Hz (op:Op):qP op=op.operands.toList:=by
 cases op with
 |call c=>
  simp only[qP,Op.operands,Call.operands]
  cases c.callee<;>simp
 |slice T x l h m=>simp[qP,Op.operands]
 |_=>simp[qP,Op.operands]
def iT (Γ:Env G) (az:Nat→Option TD) (m:Option (List Nat)) (o:Oper) (s:AS G) (next rest:AS G→Prop):Prop:=
 if gS o.op=true then(match bN az s.hp s.ev o.op with
  |some (c,r)=>c∧next (s.put o.dst r)
  |none=>False)
 else match m with
 |none=>DStep Γ az o s next rest
 |some K=>((qP o.op).all fun x=>(s.ev x).closed (kill K s.hp).length)=true∧(∀ob∈kill K s.hp,af.closed (kill K s.hp).length ob=true)∧
  (match bN az (kill K s.hp) s.ev o.op with
  |some (c,r)=>c∧r.held (kill K s.hp)=true∧next (s.put o.dst r)
  |none=>(match fJ { s with hp:=kill K s.hp } o.op with
   |some (f,args)=>∃r,av Γ.P f args r∧r.held (kill K s.hp)=true∧rest (s.put o.dst r)
   |none=>False))
def mZ (Γ:Env G) (az:Nat→Option TD) (nt:Nat) (ops:Array Oper) (C M:List (Option (List Nat))) (K:AS G→Prop):Nat→List Oper→AS G→Prop
 |_,[],s=>K s
 |k,o::rest,s=>if cF o.op=true then dB nt o.dst∧o.guard=none∧(match dV az s.hp s.ev o.op with
   |some (c,r,hp')=>c∧(match C.getD k none with|none=>True|some l=>mY l 0 s.hp hp')∧mZ Γ az nt ops C M K (k+1) rest (AS.put { s with hp:=hp' } o.dst r)
   |none=>False)
  else dB nt o.dst∧(match o.guard with
   |none=>iT Γ az (M.getD k none) o s (mZ Γ az nt ops C M K (k+1) rest) (oX Γ ops C M K (k+1) rest)
   |some (j,want)=>(match jW ops s j with
    |some (some b)=>(b=want→iT Γ az (M.getD k none) o s (mZ Γ az nt ops C M K (k+1) rest) (oX Γ ops C M K (k+1) rest))∧(¬b=want→mZ Γ az nt ops C M K (k+1) rest (s.put o.dst (.ah (.tuple #[]))))
    |some none=>mZ Γ az nt ops C M K (k+1) rest (s.put o.dst (.ah (.tuple #[])))
    |none=>False))
theorem p6 {o:Oper} {L:List Nat} (hL:L=o.looksAt ops) (h:∀t,t∈L→s'.tmps t=s.tmps t) {x:Operand} (hx:x∈o.op.operands):(s'.only L).ev x=s.ev x:=by
 subst hL
 rw[kL hx]
 cases x with
 |tmp t=>
  refine h t ?_
  unfold Oper.looksAt
  exact aje _ (ajQ.2 ⟨.tmp t,by simpa using hx,rfl⟩)
 |_=>rfl
theorem p7 {az:Nat→Option TD} (au:aT Γ.P az) {o:Oper} {c:Prop} {r:AV} (hp:bN az s.hp s.ev o.op=some (c,r)) (hc:c):mE Γ o s r:=by
 intro tr BQ e1 e2 e3
 exact .MU (r6 BQ (by rw[e1];exact au) hp hc)
theorem vI {o:Oper} {f:Nat} {args:List AV} {r:AV} (uT:fJ s o.op=some (f,args)) (hP:av Γ.P f args r):mE Γ o s r:=by
 intro tr BQ e1 e2 e3
 unfold fJ at uT
 split at uT
 ·rename_i c hc
  split at uT
  ·rename_i x hx
   split at uT
   ·rename_i f' caps eu
    simp only[Option.some.injEq,Prod.mk.injEq] at uT
    obtain⟨rfl,rfl⟩:=uT
    exact tq.pure BQ hc hx eu (by rw[e1];exact hP)
   ·cases uT
  ·cases uT
 ·cases uT
theorem p8 {op:Op} (BP:s'.hp=s.hp) (h:∀x∈op.operands,s'.ev x=s.ev x):fJ s' op=fJ s op:=by
 unfold fJ
 split
 ·rename_i c
  split
  ·rename_i x hx
   have h1:s'.ev x=s.ev x:=h x (by simp[Op.operands,Call.operands,hx])
   have h2:c.args.toList.map s'.ev=c.args.toList.map s.ev:=ai7 fun y hy=>h y (by simp only[Op.operands,Call.operands,ajy];exact .inr (by simpa using hy))
   rw[h1,h2,BP]
  ·rfl
 ·rfl
theorem Ei {M:List (Option (List Nat))} {k:Nat} {op:Op} (hh:¬gS op=true) (hm:M.getD k none=none) (h:qO M k op hp hp'):hp'=hp:=by
 unfold qO at h
 rw[if_neg hh,hm] at h
 exact h
theorem Ej {M:List (Option (List Nat))} {k:Nat} {op:Op} {K:List Nat} (hh:¬gS op=true) (hm:M.getD k none=some K) (h:qO M k op hp hp'):mW K hp hp':=by
 unfold qO at h
 rw[if_neg hh,hm] at h
 exact h
theorem AG {o:Oper} {K:List Nat} (eu:(o.op.operands.toList.all fun x=>(s.ev x).closed (kill K s.hp).length)=true) (eP:∀ob∈kill K s.hp,af.closed (kill K s.hp).length ob=true)
  (hg:o.guard=none∨∃j want b,o.guard=some (j,want)∧jW ops s j=some b) (ht:∀t,t∈o.looksAt ops→s'.tmps t=s.tmps t) (hf:mW K s.hp s'.hp):Part { s with hp:=kill K s.hp } s' (o.looksAt ops):=by
 refine⟨fun t wQ=>⟨ht t wQ,?_⟩,fun q ob h1 h2=>?_,?_⟩
 ·unfold Oper.looksAt at wQ
  rcases aiM.1 wQ with h1|h1
  ·obtain⟨x,hx,hxt⟩:=ajQ.1 h1
   cases x with
   |tmp u=>
    simp only[Option.some.injEq] at hxt
    subst hxt
    rw[ah4] at eu
    exact eu _ hx
   |_=>simp at hxt
  ·rcases hg with hg|⟨j,want,b,hg,hb⟩
   ·rw[hg] at h1;simp at h1
   ·rw[hg] at h1
    simp only[Option.mem_toList] at h1
    unfold jW at hb
    rw[h1] at hb
    simp only at hb
    show (s.tmps t).closed _=true
    split at hb
    ·rename_i b' hx;rw[hx];rfl
    ·rename_i b' hx;rw[hx];rfl
    ·cases hb
 ·obtain⟨g1,g2⟩:=M8 h1 h2
  exact⟨hf.2 q ob g1 g2,eP ob (aic h1)⟩
 ·show (kill K s.hp).length≤_
  rw[M7];exact hf.1
theorem iT.sound {az:Nat→Option TD} (au:aT Γ.P az) {M:List (Option (List Nat))} {k:Nat} {o:Oper} {next rest K':AS G→Prop} (h:iT Γ az (M.getD k none) o s next rest) (h1:∀s,next s→K' s) (h2:∀s,rest s→K' s)
  (hg:o.guard=none∨∃j want b,o.guard=some (j,want)∧jW ops s j=some b):
  ∃x,(∀s':AS G,(∀t,t∈o.looksAt ops→s'.tmps t=s.tmps t)→qO M k o.op s.hp s'.hp→mE Γ o (s'.only (o.looksAt ops)) x)∧K' (s.put o.dst x):=by
 unfold iT at h
 split at h
 ·rename_i hh
  split at h
  ·rename_i c r hp'
   refine⟨r,fun s' ht _=>p7 au (c:=c) ?_ h.1,h1 _ h.2⟩
   rw[←hp',Aa (hp':=s.hp) hh]
   exact nR fun x hx=>p6 rfl ht hx
  ·exact h.elim
 ·rename_i hh
  split at h
  ·rename_i hm
   unfold DStep at h
   split at h
   ·rename_i c r hp'
    refine⟨r,fun s' ht hr=>p7 au (c:=c) ?_ h.1,h1 _ h.2⟩
    have he:(s'.only (o.looksAt ops)).hp=s.hp:=Ei hh hm hr
    rw[he,←hp']
    exact nR fun x hx=>p6 rfl ht hx
   ·split at h
    ·rename_i f args uT
     obtain⟨r,hP,hr⟩:=h
     refine⟨r,fun s' ht XU=>vI (f:=f) (args:=args) ?_ hP,h2 _ hr⟩
     rw[←uT]
     exact p8 (Ei hh hm XU) fun x hx=>p6 rfl ht hx
    ·exact h.elim
  ·rename_i K hm
   obtain⟨g1,g2,g3⟩:=h
   rw[Hz] at g1
   split at g3
   ·rename_i c r hp'
    refine⟨r,fun s' ht hr=>?_,h1 _ g3.2.2⟩
    refine mE.part (s:={ s with hp:=kill K s.hp }) (p7 au (c:=c) ?_ g3.1) (AG g1 g2 hg ht (Ej hh hm hr)) g3.2.1
    rw[←hp']
    exact nR fun x hx=>kL hx
   ·split at g3
    ·rename_i f args uT
     obtain⟨r,hP,GY,nH⟩:=g3
     refine⟨r,fun s' ht hr=>?_,h2 _ nH⟩
     refine mE.part (s:={ s with hp:=kill K s.hp }) (vI (f:=f) (args:=args) ?_ hP) (AG g1 g2 hg ht (Ej hh hm hr)) GY
     rw[←uT]
     exact p8 rfl fun x hx=>kL hx
    ·exact g3.elim
theorem mZ.sound {az:Nat→Option TD} (au:aT Γ.P az) {nt:Nat} (dI:nt=Γ.nt) {C M:List (Option (List Nat))} {K:AS G→Prop}:∀(l:List Oper) (k:Nat) (s:AS G),mZ Γ az nt ops C M K k l s→oX Γ ops C M K k l s:=by
 subst dI
 intro l
 induction l with
 |nil=>intro k s h;exact h
 |cons o rest ih=>
  intro k s h
  simp only[mZ] at h
  simp only[oX]
  split at h
  ·rename_i he
   rw[if_pos he]
   obtain⟨h1,h2,h3⟩:=h
   split at h3
   ·rename_i c r hp' hh
    refine⟨h1,h2,r,hp',fun tr BQ e1 e2 e3=>jy BQ (az:=az) (by rw[e1];exact au) (c:=c) ?_ h3.1,?_,ih _ _ h3.2.2⟩
    ·rw[←hh];exact r9 fun x hx=>kL hx
    ·have h4:=h3.2.1
     unfold k9
     split at h4<;>rename_i hc<;>rw[hc]
     ·exact True.intro
     ·have:=mY.fr _ _ _ h4
      exact⟨this.1,fun q ob hq ho=>this.2 q ob (by simpa using hq) ho⟩
   ·exact h3.elim
  ·rename_i he
   rw[if_neg he]
   obtain⟨h1,h2⟩:=h
   split at h2
   ·rename_i hg
    obtain⟨x,h3,h4⟩:=iT.sound (ops:=ops) au h2 (ih (k+1)) (fun _ h=>h) (.inl hg)
    exact⟨x,⟨h1,.inl ⟨by simp[aM,hg],h3⟩⟩,h4⟩
   ·rename_i j want hg
    split at h2
    ·rename_i b hb
     by_cases jX:b=want
     ·obtain⟨x,h3,h4⟩:=iT.sound (ops:=ops) au (h2.1 jX) (ih (k+1)) (fun _ h=>h) (.inr ⟨j,want,_,hg,hb⟩)
      exact⟨x,⟨h1,.inl ⟨by simp[aM,hg,hb,jX],h3⟩⟩,h4⟩
     ·exact⟨_,⟨h1,.inr ⟨by simp[aM,hg,hb,jX],rfl⟩⟩,ih _ _ (h2.2 jX)⟩
    ·rename_i hb
     exact⟨_,⟨h1,.inr ⟨by simp[aM,hg,hb],rfl⟩⟩,ih _ _ h2⟩
    ·exact h2.elim
theorem eM.XV (aD:Γ.Ok) {az:Nat→Option TD} (au:aT Γ.P az) {nt:Nat} (dI:nt=Γ.nt) (hm:Γ.P.follows .mixedOrders=true) {id:Nat} {l:List Oper} {Q:Exit→AS G→Prop} (C M:List (Option (List Nat))) (hd:xu C M l=true)
  (h:mZ Γ az nt l.toArray C M (Q .normal) 0 l s):eM Γ (.region id l.toArray true) Q s:=by
 intro a w η hr
 refine wpIn_region_any hm ?_
 have:=(oX.any (Γ:=Γ) (C:=C) (M:=M) hd l 0 (Array.replicate l.length false) s (fun j=>by simp) (by simp) (fun j hj=>by simp[hj]) (by simp) (mZ.sound au dI l 0 s h)).any aD
 have h2:=rA.sound (Qc:=fun e a' w'=>∃s' aU,Q e s'∧Rel Γ s' a' w' aU) aD (fun s' a' w' aU h1 h2=>⟨s',aU,h1,h2⟩) _ _ _ a w.drew η this (hr.same aD (bX.drew w))
 simpa using h2
end Go.Proofs.YtjhanogfpkbamaaGreatDoor
