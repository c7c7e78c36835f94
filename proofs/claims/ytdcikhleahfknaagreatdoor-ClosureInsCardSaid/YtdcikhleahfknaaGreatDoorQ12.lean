/- Texts of ours laid together for a claim: FilX. -/
import Derived.Test.YtdcikhleahfknaaGreatDoorQ11
namespace Go.Proofs.YtdcikhleahfknaaGreatDoor
open Go
set_option linter.unusedSimpArgs false
set_option linter.unusedVariables false
variable {G:Type} {Γ:Env G} {s s':AS G} {a:Act} {w w':World} {η aH:List Value} {hp hp':List af} {P:Program} {ops:Array Oper}
def kR (l:List Nat):Nat→List af→List af→Prop
 |_,[],_=>True
 |_,_::_,[]=>False
 |q,o::hp,o'::hp'=>(q∈l∨o'=o)∧kR l (q+1) hp hp'
theorem kR.fr {l:List Nat}:∀(hp hp':List af) (q:Nat),kR l q hp hp'→hp.length≤hp'.length∧∀(i:Nat) (o:af),q+i∉l→hp[i]?=some o→hp'[i]?=some o:=by
 intro hp
 induction hp with
 |nil=>intro hp' q _;exact⟨Nat.zero_le _,fun i o _ h=>by simp at h⟩
 |cons o hp ih=>
  intro hp' q h
  cases hp' with
  |nil=>exact h.elim
  |cons o' hp'=>
   obtain⟨h1,h2⟩:=h
   obtain⟨g1,g2⟩:=ih hp' (q+1) h2
   refine⟨by simpa using g1,fun i ob hi hg=>?_⟩
   cases i with
   |zero=>
    simp only[List.getElem?_cons_zero,Option.some.injEq] at hg ⊢
    rw[←hg]
    exact h1.resolve_left (by simpa using hi)
   |succ i=>
    simp only[List.getElem?_cons_succ] at hg ⊢
    exact g2 i ob (by rw[show q+1+i=q+(i+1) from by omega];exact hi) hg
def mV (K:List Nat):Nat→List af→List af
 |_,[]=>[]
 |q,o::hp=>(if q∈K then .dead else o)::mV K (q+1) hp
def kill:List Nat→List af→List af
 | [],hp=>hp
 |K,hp=>mV K 0 hp
theorem uB (K:List Nat):∀(hp:List af) (q:Nat),(mV K q hp).length=hp.length
 | [],_=>rfl
 |_::hp,q=>by simp[mV,uB K hp (q+1)]
theorem uC (K:List Nat):∀(hp:List af) (q i:Nat) (o:af),(mV K q hp)[i]?=some o→o.live→q+i∉K∧hp[i]?=some o
 | [],_,_,_,h,_=>by simp[mV] at h
 |x::hp,q,i,o,h,hl=>by
  cases i with
  |zero=>
   simp only[mV,List.getElem?_cons_zero,Option.some.injEq] at h ⊢
   split at h
   ·subst h;exact hl.elim
   ·rename_i hq;exact⟨by simpa using hq,h⟩
  |succ i=>
   simp only[mV,List.getElem?_cons_succ] at h ⊢
   obtain⟨g1,g2⟩:=uC K hp (q+1) i o h hl
   exact⟨by rw[show q+(i+1)=q+1+i from by omega];exact g1,g2⟩
theorem Jw (K:List Nat) (hp:List af):(kill K hp).length=hp.length:=by
 cases K with
 |nil=>rfl
 |cons=>exact uB _ _ _
theorem Jx {K:List Nat} {q:Nat} {o:af} (h:(kill K hp)[q]?=some o) (hl:o.live):q∉K∧hp[q]?=some o:=by
 cases K with
 |nil=>exact⟨by simp,h⟩
 |cons k K=>
  have:=uC (k::K) hp 0 q o h hl
  rw[Nat.zero_add] at this
  exact this
theorem wh {tab:Nat→Option TD} {ρ:Operand→AV} {op:Op} (h:fj op=true):bk tab hp ρ op=bk tab hp' ρ op:=by
 cases op with
 |makeFunc fn first caps=>cases fn<;>rfl
 |_=>first|rfl|(simp[fj] at h)
theorem oW {tab:Nat→Option TD} {ρ FI:Operand→AV} {op:Op} (h:∀x∈op.operands,ρ x=FI x):cT tab hp ρ op=cT tab hp FI op:=by
 cases op with
 |alloc T=>rfl
 |box T x=>simp only[cT,h x (by simp[Op.operands])]
 |store T x y=>simp only[cT,h x (by simp[Op.operands]),h y (by simp[Op.operands])]
 |makeSlice T n c=>simp only[cT,h n (by simp[Op.operands]),h c (by simp[Op.operands])]
 |makeMap T r=>cases r<;>rfl
 |mapUpdate T m k x=>simp only[cT,h m (by simp[Op.operands]),h k (by simp[Op.operands]),h x (by simp[Op.operands])]
 |call c=>
  simp only[cT]
  have hl:∀l,c.args.toList=l→∀x∈l,ρ x=FI x:=fun l hl x hx=>h x (by
   simp only[Op.operands,Call.operands,Array.mem_append]
   exact .inr (by rw[←Array.mem_toList_iff,hl];exact hx))
  split
  ·rename_i x y T T' hb G2 hT
   simp only[hl _ G2 x (by simp),hl _ G2 y (by simp)]
  ·rfl
 |_=>rfl
def nX:Op→List Operand
 | .load _ x=>[x]
 | .indexAddr _ x i=>[x,i]
 | .lookup _ m k _=>[m,k]
 | .buildSlice _ _ ps=>ps.toList.map (·.2)
 | .call c=>(match c.callee with | .value f=>[f] | .invoke r _=>[r] | .builtin _=>[])++c.args.toList
 | .slice _ x l h m=>x::(l.toList++h.toList++m.toList)
 |op=>op.operands.toList
theorem Ea (op:Op):nX op=op.operands.toList:=by
 cases op with
 |call c=>
  simp only[nX,Op.operands,Call.operands]
  cases c.callee<;>simp
 |slice T x l h m=>simp[nX,Op.operands]
 |_=>simp[nX,Op.operands]
def fU (Γ:Env G) (tab:Nat→Option TD) (m:Option (List Nat)) (o:Oper) (s:AS G) (next rest:AS G→Prop):Prop:=
 if fj o.op=true then(match bk tab s.hp s.ev o.op with
  |some (c,r)=>c∧next (s.put o.dst r)
  |none=>False)
 else match m with
 |none=>DStep Γ tab o s next rest
 |some K=>((nX o.op).all fun x=>(s.ev x).closed (kill K s.hp).length)=true∧(∀ob∈kill K s.hp,af.closed (kill K s.hp).length ob=true)∧
  (match bk tab (kill K s.hp) s.ev o.op with
  |some (c,r)=>c∧r.held (kill K s.hp)=true∧next (s.put o.dst r)
  |none=>(match ef { s with hp:=kill K s.hp } o.op with
   |some (f,args)=>∃r,ag Γ.P f args r∧r.held (kill K s.hp)=true∧rest (s.put o.dst r)
   |none=>False))
def kS (Γ:Env G) (tab:Nat→Option TD) (nt:Nat) (ops:Array Oper) (C M:List (Option (List Nat))) (K:AS G→Prop):Nat→List Oper→AS G→Prop
 |_,[],s=>K s
 |k,o::rest,s=>if bP o.op=true then cx nt o.dst∧o.guard=none∧(match cT tab s.hp s.ev o.op with
   |some (c,r,hp')=>c∧(match C.getD k none with|none=>True|some l=>kR l 0 s.hp hp')∧kS Γ tab nt ops C M K (k+1) rest (AS.put { s with hp:=hp' } o.dst r)
   |none=>False)
  else cx nt o.dst∧(match o.guard with
   |none=>fU Γ tab (M.getD k none) o s (kS Γ tab nt ops C M K (k+1) rest) (mu Γ ops C M K (k+1) rest)
   |some (j,want)=>(match gS ops s j with
    |some (some b)=>(b=want→fU Γ tab (M.getD k none) o s (kS Γ tab nt ops C M K (k+1) rest) (mu Γ ops C M K (k+1) rest))∧(¬b=want→kS Γ tab nt ops C M K (k+1) rest (s.put o.dst (.ae (.tuple #[]))))
    |some none=>kS Γ tab nt ops C M K (k+1) rest (s.put o.dst (.ae (.tuple #[])))
    |none=>False))
theorem mW {o:Oper} {L:List Nat} (hL:L=o.looksAt ops) (h:∀t,t∈L→s'.tmps t=s.tmps t) {x:Operand} (hx:x∈o.op.operands):(s'.only L).ev x=s.ev x:=by
 subst hL
 rw[iJ hx]
 cases x with
 |tmp t=>
  refine h t ?_
  unfold Oper.looksAt
  exact List.mem_append_left _ (List.mem_filterMap.2 ⟨.tmp t,by simpa using hx,rfl⟩)
 |_=>rfl
theorem mX {tab:Nat→Option TD} (ah:aQ Γ.P tab) {o:Oper} {c:Prop} {r:AV} (hp:bk tab s.hp s.ev o.op=some (c,r)) (hc:c):jW Γ o s r:=by
 intro pU yh e1 e2 e3
 exact .Jj (oU yh (by rw[e1];exact ah) hp hc)
theorem rY {o:Oper} {f:Nat} {args:List AV} {r:AV} (ri:ef s o.op=some (f,args)) (hP:ag Γ.P f args r):jW Γ o s r:=by
 intro pU yh e1 e2 e3
 unfold ef at ri
 split at ri
 ·rename_i c hc
  split at ri
  ·rename_i x hx
   split at ri
   ·rename_i f' caps cS
    simp only[Option.some.injEq,Prod.mk.injEq] at ri
    obtain⟨rfl,rfl⟩:=ri
    exact pT.pure yh hc hx cS (by rw[e1];exact hP)
   ·cases ri
  ·cases ri
 ·cases ri
theorem mY {op:Op} (yg:s'.hp=s.hp) (h:∀x∈op.operands,s'.ev x=s.ev x):ef s' op=ef s op:=by
 unfold ef
 split
 ·rename_i c
  split
  ·rename_i x hx
   have h1:s'.ev x=s.ev x:=h x (by simp[Op.operands,Call.operands,hx])
   have h2:c.args.toList.map s'.ev=c.args.toList.map s.ev:=List.map_congr_left fun y hy=>h y (by simp only[Op.operands,Call.operands,Array.mem_append];exact .inr (by simpa using hy))
   rw[h1,h2,yg]
  ·rfl
 ·rfl
theorem A3 {M:List (Option (List Nat))} {k:Nat} {op:Op} (hh:¬fj op=true) (hm:M.getD k none=none) (h:nW M k op hp hp'):hp'=hp:=by
 unfold nW at h
 rw[if_neg hh,hm] at h
 exact h
theorem A4 {M:List (Option (List Nat))} {k:Nat} {op:Op} {K:List Nat} (hh:¬fj op=true) (hm:M.getD k none=some K) (h:nW M k op hp hp'):kP K hp hp':=by
 unfold nW at h
 rw[if_neg hh,hm] at h
 exact h
theorem wZ {o:Oper} {K:List Nat} (cS:(o.op.operands.toList.all fun x=>(s.ev x).closed (kill K s.hp).length)=true) (cW:∀ob∈kill K s.hp,af.closed (kill K s.hp).length ob=true)
  (hg:o.guard=none∨∃j want b,o.guard=some (j,want)∧gS ops s j=some b) (ht:∀t,t∈o.looksAt ops→s'.tmps t=s.tmps t) (hf:kP K s.hp s'.hp):Part { s with hp:=kill K s.hp } s' (o.looksAt ops):=by
 refine⟨fun t kJ=>⟨ht t kJ,?_⟩,fun q ob h1 h2=>?_,?_⟩
 ·unfold Oper.looksAt at kJ
  rcases List.mem_append.1 kJ with h1|h1
  ·obtain⟨x,hx,X6⟩:=List.mem_filterMap.1 h1
   cases x with
   |tmp u=>
    simp only[Option.some.injEq] at X6
    subst X6
    rw[List.all_eq_true] at cS
    exact cS _ hx
   |_=>simp at X6
  ·rcases hg with hg|⟨j,want,b,hg,hb⟩
   ·rw[hg] at h1;simp at h1
   ·rw[hg] at h1
    simp only[Option.mem_toList] at h1
    unfold gS at hb
    rw[h1] at hb
    simp only at hb
    show (s.tmps t).closed _=true
    split at hb
    ·rename_i b' hx;rw[hx];rfl
    ·rename_i b' hx;rw[hx];rfl
    ·cases hb
 ·obtain⟨g1,g2⟩:=Jx h1 h2
  exact⟨hf.2 q ob g1 g2,cW ob (List.mem_of_getElem? h1)⟩
 ·show (kill K s.hp).length≤_
  rw[Jw];exact hf.1
theorem fU.sound {tab:Nat→Option TD} (ah:aQ Γ.P tab) {M:List (Option (List Nat))} {k:Nat} {o:Oper} {next rest K':AS G→Prop} (h:fU Γ tab (M.getD k none) o s next rest) (h1:∀s,next s→K' s) (h2:∀s,rest s→K' s)
  (hg:o.guard=none∨∃j want b,o.guard=some (j,want)∧gS ops s j=some b):
  ∃x,(∀s':AS G,(∀t,t∈o.looksAt ops→s'.tmps t=s.tmps t)→nW M k o.op s.hp s'.hp→jW Γ o (s'.only (o.looksAt ops)) x)∧K' (s.put o.dst x):=by
 unfold fU at h
 split at h
 ·rename_i hh
  split at h
  ·rename_i c r hp'
   refine⟨r,fun s' ht _=>mX ah (c:=c) ?_ h.1,h1 _ h.2⟩
   rw[←hp',wh (hp':=s.hp) hh]
   exact lG fun x hx=>mW rfl ht hx
  ·exact h.elim
 ·rename_i hh
  split at h
  ·rename_i hm
   unfold DStep at h
   split at h
   ·rename_i c r hp'
    refine⟨r,fun s' ht hr=>mX ah (c:=c) ?_ h.1,h1 _ h.2⟩
    have he:(s'.only (o.looksAt ops)).hp=s.hp:=A3 hh hm hr
    rw[he,←hp']
    exact lG fun x hx=>mW rfl ht hx
   ·split at h
    ·rename_i f args ri
     obtain⟨r,hP,hr⟩:=h
     refine⟨r,fun s' ht T0=>rY (f:=f) (args:=args) ?_ hP,h2 _ hr⟩
     rw[←ri]
     exact mY (A3 hh hm T0) fun x hx=>mW rfl ht hx
    ·exact h.elim
  ·rename_i K hm
   obtain⟨g1,g2,g3⟩:=h
   rw[Ea] at g1
   split at g3
   ·rename_i c r hp'
    refine⟨r,fun s' ht hr=>?_,h1 _ g3.2.2⟩
    refine jW.part (s:={ s with hp:=kill K s.hp }) (mX ah (c:=c) ?_ g3.1) (wZ g1 g2 hg ht (A4 hh hm hr)) g3.2.1
    rw[←hp']
    exact lG fun x hx=>iJ hx
   ·split at g3
    ·rename_i f args ri
     obtain⟨r,hP,DC,lr⟩:=g3
     refine⟨r,fun s' ht hr=>?_,h2 _ lr⟩
     refine jW.part (s:={ s with hp:=kill K s.hp }) (rY (f:=f) (args:=args) ?_ hP) (wZ g1 g2 hg ht (A4 hh hm hr)) DC
     rw[←ri]
     exact mY rfl fun x hx=>iJ hx
    ·exact g3.elim
theorem kS.sound {tab:Nat→Option TD} (ah:aQ Γ.P tab) {nt:Nat} (cC:nt=Γ.nt) {C M:List (Option (List Nat))} {K:AS G→Prop}:∀(l:List Oper) (k:Nat) (s:AS G),kS Γ tab nt ops C M K k l s→mu Γ ops C M K k l s:=by
 subst cC
 intro l
 induction l with
 |nil=>intro k s h;exact h
 |cons o rest ih=>
  intro k s h
  simp only[kS] at h
  simp only[mu]
  split at h
  ·rename_i he
   rw[if_pos he]
   obtain⟨h1,h2,h3⟩:=h
   split at h3
   ·rename_i c r hp' hh
    refine⟨h1,h2,r,hp',fun pU yh e1 e2 e3=>gB yh (tab:=tab) (by rw[e1];exact ah) (c:=c) ?_ h3.1,?_,ih _ _ h3.2.2⟩
    ·rw[←hh];exact oW fun x hx=>iJ hx
    ·have h4:=h3.2.1
     unfold jf
     split at h4<;>rename_i hc<;>rw[hc]
     ·exact True.intro
     ·have:=kR.fr _ _ _ h4
      exact⟨this.1,fun q ob hq ho=>this.2 q ob (by simpa using hq) ho⟩
   ·exact h3.elim
  ·rename_i he
   rw[if_neg he]
   obtain⟨h1,h2⟩:=h
   split at h2
   ·rename_i hg
    obtain⟨x,h3,h4⟩:=fU.sound (ops:=ops) ah h2 (ih (k+1)) (fun _ h=>h) (.inl hg)
    exact⟨x,⟨h1,.inl ⟨by simp[aG,hg],h3⟩⟩,h4⟩
   ·rename_i j want hg
    split at h2
    ·rename_i b hb
     by_cases gM:b=want
     ·obtain⟨x,h3,h4⟩:=fU.sound (ops:=ops) ah (h2.1 gM) (ih (k+1)) (fun _ h=>h) (.inr ⟨j,want,_,hg,hb⟩)
      exact⟨x,⟨h1,.inl ⟨by simp[aG,hg,hb,gM],h3⟩⟩,h4⟩
     ·exact⟨_,⟨h1,.inr ⟨by simp[aG,hg,hb,gM],rfl⟩⟩,ih _ _ (h2.2 gM)⟩
    ·rename_i hb
     exact⟨_,⟨h1,.inr ⟨by simp[aG,hg,hb],rfl⟩⟩,ih _ _ h2⟩
    ·exact h2.elim
theorem dG.T5 (ao:Γ.Ok) {tab:Nat→Option TD} (ah:aQ Γ.P tab) {nt:Nat} (cC:nt=Γ.nt) (hm:Γ.P.follows .mixedOrders=true) {id:Nat} {l:List Oper} {Q:Exit→AS G→Prop} (C M:List (Option (List Nat))) (hd:tC C M l=true)
  (h:kS Γ tab nt l.toArray C M (Q .normal) 0 l s):dG Γ (.region id l.toArray true) Q s:=by
 intro a w η hr
 refine wpIn_region_any hm ?_
 have:=(mu.any (Γ:=Γ) (C:=C) (M:=M) hd l 0 (Array.replicate l.length false) s (fun j=>by simp) (by simp) (fun j hj=>by simp[hj]) (by simp) (kS.sound ah cC l 0 s h)).any ao
 have h2:=oA.sound (Qc:=fun e a' w'=>∃s' aH,Q e s'∧Rel Γ s' a' w' aH) ao (fun s' a' w' aH h1 h2=>⟨s',aH,h1,h2⟩) _ _ _ a w.drew η this (hr.same ao (bu.drew w))
 simpa using h2
end Go.Proofs.YtdcikhleahfknaaGreatDoor
