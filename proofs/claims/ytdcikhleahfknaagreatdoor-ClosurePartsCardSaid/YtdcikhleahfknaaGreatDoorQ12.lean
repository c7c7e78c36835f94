/- Texts of ours laid together for a claim: FilX. -/
import Derived.Test.YtdcikhleahfknaaGreatDoorQ11
namespace Go.Proofs.YtdcikhleahfknaaGreatDoor
open Go
set_option linter.unusedSimpArgs false
set_option linter.unusedVariables false
variable {G:Type} {Γ:Env G} {s s':AS G} {a:Act} {w w':World} {η aM:List Value} {hp hp':List af} {P:Program} {ops:Array Oper}
def ko (l:List Nat):Nat→List af→List af→Prop
 |_,[],_=>True
 |_,_::_,[]=>False
 |q,o::hp,o'::hp'=>(q∈l∨o'=o)∧ko l (q+1) hp hp'
theorem ko.fr {l:List Nat}:∀(hp hp':List af) (q:Nat),ko l q hp hp'→hp.length≤hp'.length∧∀(i:Nat) (o:af),q+i∉l→hp[i]?=some o→hp'[i]?=some o:=by
 intro hp
 induction hp with
 |nil=>intro hp' q _;exact⟨Nat.zero_le _,fun i o _ h=>by simp at h⟩
 |cons o hp ih=>
  intro hp' q h
  cases hp' with
  |nil=>exact h.elim
  |cons o' hp'=>
   obtain⟨h1,h2⟩:=h
   obtain⟨g1,g2⟩:=ih hp' (q+1) h2
   refine⟨by simpa using g1,fun i ob hi hg=>?_⟩
   cases i with
   |zero=>
    simp only[List.getElem?_cons_zero,Option.some.injEq] at hg ⊢
    rw[←hg]
    exact h1.resolve_left (by simpa using hi)
   |succ i=>
    simp only[List.getElem?_cons_succ] at hg ⊢
    exact g2 i ob (by rw[show q+1+i=q+(i+1) from by omega];exact hi) hg
def mm (K:List Nat):Nat→List af→List af
 |_,[]=>[]
 |q,o::hp=>(if q∈K then .dead else o)::mm K (q+1) hp
def kill:List Nat→List af→List af
 | [],hp=>hp
 |K,hp=>mm K 0 hp
theorem tL (K:List Nat):∀(hp:List af) (q:Nat),(mm K q hp).length=hp.length
 | [],_=>rfl
 |_::hp,q=>by simp[mm,tL K hp (q+1)]
theorem tM (K:List Nat):∀(hp:List af) (q i:Nat) (o:af),(mm K q hp)[i]?=some o→o.live→q+i∉K∧hp[i]?=some o
 | [],_,_,_,h,_=>by simp[mm] at h
 |x::hp,q,i,o,h,hl=>by
  cases i with
  |zero=>
   simp only[mm,List.getElem?_cons_zero,Option.some.injEq] at h ⊢
   split at h
   ·subst h;exact hl.elim
   ·rename_i hq;exact⟨by simpa using hq,h⟩
  |succ i=>
   simp only[mm,List.getElem?_cons_succ] at h ⊢
   obtain⟨g1,g2⟩:=tM K hp (q+1) i o h hl
   exact⟨by rw[show q+(i+1)=q+1+i from by omega];exact g1,g2⟩
theorem HU (K:List Nat) (hp:List af):(kill K hp).length=hp.length:=by
 cases K with
 |nil=>rfl
 |cons=>exact tL _ _ _
theorem HV {K:List Nat} {q:Nat} {o:af} (h:(kill K hp)[q]?=some o) (hl:o.live):q∉K∧hp[q]?=some o:=by
 cases K with
 |nil=>exact⟨by simp,h⟩
 |cons k K=>
  have:=tM (k::K) hp 0 q o h hl
  rw[Nat.zero_add] at this
  exact this
theorem vp {tab:Nat→Option TD} {ρ:Operand→AV} {op:Op} (h:eL op=true):bk tab hp ρ op=bk tab hp' ρ op:=by
 cases op with
 |makeFunc fn first caps=>cases fn<;>rfl
 |_=>first|rfl|(simp[eL] at h)
theorem oC {tab:Nat→Option TD} {ρ Eu:Operand→AV} {op:Op} (h:∀x∈op.operands,ρ x=Eu x):cO tab hp ρ op=cO tab hp Eu op:=by
 cases op with
 |alloc T=>rfl
 |box T x=>simp only[cO,h x (by simp[Op.operands])]
 |store T x y=>simp only[cO,h x (by simp[Op.operands]),h y (by simp[Op.operands])]
 |makeSlice T n c=>simp only[cO,h n (by simp[Op.operands]),h c (by simp[Op.operands])]
 |makeMap T r=>cases r<;>rfl
 |mapUpdate T m k x=>simp only[cO,h m (by simp[Op.operands]),h k (by simp[Op.operands]),h x (by simp[Op.operands])]
 |call c=>
  simp only[cO]
  have hl:∀l,c.args.toList=l→∀x∈l,ρ x=Eu x:=fun l hl x hx=>h x (by
   simp only[Op.operands,Call.operands,Array.mem_append]
   exact .inr (by rw[←Array.mem_toList_iff,hl];exact hx))
  split
  ·rename_i x y T T' hb FJ hT
   simp only[hl _ FJ x (by simp),hl _ FJ y (by simp)]
  ·rfl
 |_=>rfl
def ny:Op→List Operand
 | .load _ x=>[x]
 | .indexAddr _ x i=>[x,i]
 | .lookup _ m k _=>[m,k]
 | .buildSlice _ _ ps=>ps.toList.map (·.2)
 | .call c=>(match c.callee with | .value f=>[f] | .invoke r _=>[r] | .builtin _=>[])++c.args.toList
 | .slice _ x l h m=>x::(l.toList++h.toList++m.toList)
 |op=>op.operands.toList
theorem CP (op:Op):ny op=op.operands.toList:=by
 cases op with
 |call c=>
  simp only[ny,Op.operands,Call.operands]
  cases c.callee<;>simp
 |slice T x l h m=>simp[ny,Op.operands]
 |_=>simp[ny,Op.operands]
def fC (Γ:Env G) (tab:Nat→Option TD) (m:Option (List Nat)) (o:Oper) (s:AS G) (next rest:AS G→Prop):Prop:=
 if eL o.op=true then(match bk tab s.hp s.ev o.op with
  |some (c,r)=>c∧next (s.put o.dst r)
  |none=>False)
 else match m with
 |none=>DStep Γ tab o s next rest
 |some K=>((ny o.op).all fun x=>(s.ev x).closed (kill K s.hp).length)=true∧(∀ob∈kill K s.hp,af.closed (kill K s.hp).length ob=true)∧
  (match bk tab (kill K s.hp) s.ev o.op with
  |some (c,r)=>c∧r.held (kill K s.hp)=true∧next (s.put o.dst r)
  |none=>(match dO { s with hp:=kill K s.hp } o.op with
   |some (f,args)=>∃r,ag Γ.P f args r∧r.held (kill K s.hp)=true∧rest (s.put o.dst r)
   |none=>False))
def kq (Γ:Env G) (tab:Nat→Option TD) (nt:Nat) (ops:Array Oper) (C M:List (Option (List Nat))) (K:AS G→Prop):Nat→List Oper→AS G→Prop
 |_,[],s=>K s
 |k,o::rest,s=>if bL o.op=true then cw nt o.dst∧o.guard=none∧(match cO tab s.hp s.ev o.op with
   |some (c,r,hp')=>c∧(match C.getD k none with|none=>True|some l=>ko l 0 s.hp hp')∧kq Γ tab nt ops C M K (k+1) rest (AS.put { s with hp:=hp' } o.dst r)
   |none=>False)
  else cw nt o.dst∧(match o.guard with
   |none=>fC Γ tab (M.getD k none) o s (kq Γ tab nt ops C M K (k+1) rest) (lN Γ ops C M K (k+1) rest)
   |some (j,want)=>(match gA ops s j with
    |some (some b)=>(b=want→fC Γ tab (M.getD k none) o s (kq Γ tab nt ops C M K (k+1) rest) (lN Γ ops C M K (k+1) rest))∧(¬b=want→kq Γ tab nt ops C M K (k+1) rest (s.put o.dst (.ae (.tuple #[]))))
    |some none=>kq Γ tab nt ops C M K (k+1) rest (s.put o.dst (.ae (.tuple #[])))
    |none=>False))
theorem mn {o:Oper} {L:List Nat} (hL:L=o.looksAt ops) (h:∀t,t∈L→s'.tmps t=s.tmps t) {x:Operand} (hx:x∈o.op.operands):(s'.only L).ev x=s.ev x:=by
 subst hL
 rw[gZ hx]
 cases x with
 |tmp t=>
  refine h t ?_
  unfold Oper.looksAt
  exact List.mem_append_left _ (List.mem_filterMap.2 ⟨.tmp t,by simpa using hx,rfl⟩)
 |_=>rfl
theorem mo {tab:Nat→Option TD} (ah:aL Γ.P tab) {o:Oper} {c:Prop} {r:AV} (hp:bk tab s.hp s.ev o.op=some (c,r)) (hc:c):jB Γ o s r:=by
 intro pq xx e1 e2 e3
 exact .HH (oA xx (by rw[e1];exact ah) hp hc)
theorem rr {o:Oper} {f:Nat} {args:List AV} {r:AV} (qG:dO s o.op=some (f,args)) (hP:ag Γ.P f args r):jB Γ o s r:=by
 intro pq xx e1 e2 e3
 unfold dO at qG
 split at qG
 ·rename_i c hc
  split at qG
  ·rename_i x hx
   split at qG
   ·rename_i f' caps cS
    simp only[Option.some.injEq,Prod.mk.injEq] at qG
    obtain⟨rfl,rfl⟩:=qG
    exact po.pure xx hc hx cS (by rw[e1];exact hP)
   ·cases qG
  ·cases qG
 ·cases qG
theorem mq {op:Op} (xw:s'.hp=s.hp) (h:∀x∈op.operands,s'.ev x=s.ev x):dO s' op=dO s op:=by
 unfold dO
 split
 ·rename_i c
  split
  ·rename_i x hx
   have h1:s'.ev x=s.ev x:=h x (by simp[Op.operands,Call.operands,hx])
   have h2:c.args.toList.map s'.ev=c.args.toList.map s.ev:=List.map_congr_left fun y hy=>h y (by simp only[Op.operands,Call.operands,Array.mem_append];exact .inr (by simpa using hy))
   rw[h1,h2,xw]
  ·rfl
 ·rfl
theorem zM {M:List (Option (List Nat))} {k:Nat} {op:Op} (hh:¬eL op=true) (hm:M.getD k none=none) (h:nx M k op hp hp'):hp'=hp:=by
 unfold nx at h
 rw[if_neg hh,hm] at h
 exact h
theorem zN {M:List (Option (List Nat))} {k:Nat} {op:Op} {K:List Nat} (hh:¬eL op=true) (hm:M.getD k none=some K) (h:nx M k op hp hp'):kj K hp hp':=by
 unfold nx at h
 rw[if_neg hh,hm] at h
 exact h
theorem wa {o:Oper} {K:List Nat} (cS:(o.op.operands.toList.all fun x=>(s.ev x).closed (kill K s.hp).length)=true) (cR:∀ob∈kill K s.hp,af.closed (kill K s.hp).length ob=true)
  (hg:o.guard=none∨∃j want b,o.guard=some (j,want)∧gA ops s j=some b) (ht:∀t,t∈o.looksAt ops→s'.tmps t=s.tmps t) (hf:kj K s.hp s'.hp):Part { s with hp:=kill K s.hp } s' (o.looksAt ops):=by
 refine⟨fun t qx=>⟨ht t qx,?_⟩,fun q ob h1 h2=>?_,?_⟩
 ·unfold Oper.looksAt at qx
  rcases List.mem_append.1 qx with h1|h1
  ·obtain⟨x,hx,Ws⟩:=List.mem_filterMap.1 h1
   cases x with
   |tmp u=>
    simp only[Option.some.injEq] at Ws
    subst Ws
    rw[List.all_eq_true] at cS
    exact cS _ hx
   |_=>simp at Ws
  ·rcases hg with hg|⟨j,want,b,hg,hb⟩
   ·rw[hg] at h1;simp at h1
   ·rw[hg] at h1
    simp only[Option.mem_toList] at h1
    unfold gA at hb
    rw[h1] at hb
    simp only at hb
    show (s.tmps t).closed _=true
    split at hb
    ·rename_i b' hx;rw[hx];rfl
    ·rename_i b' hx;rw[hx];rfl
    ·cases hb
 ·obtain⟨g1,g2⟩:=HV h1 h2
  exact⟨hf.2 q ob g1 g2,cR ob (List.mem_of_getElem? h1)⟩
 ·show (kill K s.hp).length≤_
  rw[HU];exact hf.1
theorem fC.sound {tab:Nat→Option TD} (ah:aL Γ.P tab) {M:List (Option (List Nat))} {k:Nat} {o:Oper} {next rest K':AS G→Prop} (h:fC Γ tab (M.getD k none) o s next rest) (h1:∀s,next s→K' s) (h2:∀s,rest s→K' s)
  (hg:o.guard=none∨∃j want b,o.guard=some (j,want)∧gA ops s j=some b):
  ∃x,(∀s':AS G,(∀t,t∈o.looksAt ops→s'.tmps t=s.tmps t)→nx M k o.op s.hp s'.hp→jB Γ o (s'.only (o.looksAt ops)) x)∧K' (s.put o.dst x):=by
 unfold fC at h
 split at h
 ·rename_i hh
  split at h
  ·rename_i c r hp'
   refine⟨r,fun s' ht _=>mo ah (c:=c) ?_ h.1,h1 _ h.2⟩
   rw[←hp',vp (hp':=s.hp) hh]
   exact kZ fun x hx=>mn rfl ht hx
  ·exact h.elim
 ·rename_i hh
  split at h
  ·rename_i hm
   unfold DStep at h
   split at h
   ·rename_i c r hp'
    refine⟨r,fun s' ht hr=>mo ah (c:=c) ?_ h.1,h1 _ h.2⟩
    have he:(s'.only (o.looksAt ops)).hp=s.hp:=zM hh hm hr
    rw[he,←hp']
    exact kZ fun x hx=>mn rfl ht hx
   ·split at h
    ·rename_i f args qG
     obtain⟨r,hP,hr⟩:=h
     refine⟨r,fun s' ht Si=>rr (f:=f) (args:=args) ?_ hP,h2 _ hr⟩
     rw[←qG]
     exact mq (zM hh hm Si) fun x hx=>mn rfl ht hx
    ·exact h.elim
  ·rename_i K hm
   obtain⟨g1,g2,g3⟩:=h
   rw[CP] at g1
   split at g3
   ·rename_i c r hp'
    refine⟨r,fun s' ht hr=>?_,h1 _ g3.2.2⟩
    refine jB.part (s:={ s with hp:=kill K s.hp }) (mo ah (c:=c) ?_ g3.1) (wa g1 g2 hg ht (zN hh hm hr)) g3.2.1
    rw[←hp']
    exact kZ fun x hx=>gZ hx
   ·split at g3
    ·rename_i f args qG
     obtain⟨r,hP,Cj,kO⟩:=g3
     refine⟨r,fun s' ht hr=>?_,h2 _ kO⟩
     refine jB.part (s:={ s with hp:=kill K s.hp }) (rr (f:=f) (args:=args) ?_ hP) (wa g1 g2 hg ht (zN hh hm hr)) Cj
     rw[←qG]
     exact mq rfl fun x hx=>gZ hx
    ·exact g3.elim
theorem kq.sound {tab:Nat→Option TD} (ah:aL Γ.P tab) {nt:Nat} (cC:nt=Γ.nt) {C M:List (Option (List Nat))} {K:AS G→Prop}:∀(l:List Oper) (k:Nat) (s:AS G),kq Γ tab nt ops C M K k l s→lN Γ ops C M K k l s:=by
 subst cC
 intro l
 induction l with
 |nil=>intro k s h;exact h
 |cons o rest ih=>
  intro k s h
  simp only[kq] at h
  simp only[lN]
  split at h
  ·rename_i he
   rw[if_pos he]
   obtain⟨h1,h2,h3⟩:=h
   split at h3
   ·rename_i c r hp' hh
    refine⟨h1,h2,r,hp',fun pq xx e1 e2 e3=>fY xx (tab:=tab) (by rw[e1];exact ah) (c:=c) ?_ h3.1,?_,ih _ _ h3.2.2⟩
    ·rw[←hh];exact oC fun x hx=>gZ hx
    ·have h4:=h3.2.1
     unfold iE
     split at h4<;>rename_i hc<;>rw[hc]
     ·exact True.intro
     ·have:=ko.fr _ _ _ h4
      exact⟨this.1,fun q ob hq ho=>this.2 q ob (by simpa using hq) ho⟩
   ·exact h3.elim
  ·rename_i he
   rw[if_neg he]
   obtain⟨h1,h2⟩:=h
   split at h2
   ·rename_i hg
    obtain⟨x,h3,h4⟩:=fC.sound (ops:=ops) ah h2 (ih (k+1)) (fun _ h=>h) (.inl hg)
    exact⟨x,⟨h1,.inl ⟨by simp[aD,hg],h3⟩⟩,h4⟩
   ·rename_i j want hg
    split at h2
    ·rename_i b hb
     by_cases gq:b=want
     ·obtain⟨x,h3,h4⟩:=fC.sound (ops:=ops) ah (h2.1 gq) (ih (k+1)) (fun _ h=>h) (.inr ⟨j,want,_,hg,hb⟩)
      exact⟨x,⟨h1,.inl ⟨by simp[aD,hg,hb,gq],h3⟩⟩,h4⟩
     ·exact⟨_,⟨h1,.inr ⟨by simp[aD,hg,hb,gq],rfl⟩⟩,ih _ _ (h2.2 gq)⟩
    ·rename_i hb
     exact⟨_,⟨h1,.inr ⟨by simp[aD,hg,hb],rfl⟩⟩,ih _ _ h2⟩
    ·exact h2.elim
theorem dq.Sj (aq:Γ.Ok) {tab:Nat→Option TD} (ah:aL Γ.P tab) {nt:Nat} (cC:nt=Γ.nt) (hm:Γ.P.follows .mixedOrders=true) {id:Nat} {l:List Oper} {Q:Exit→AS G→Prop} (C M:List (Option (List Nat))) (hd:sK C M l=true)
  (h:kq Γ tab nt l.toArray C M (Q .normal) 0 l s):dq Γ (.region id l.toArray true) Q s:=by
 intro a w η hr
 refine wpIn_region_any hm ?_
 have:=(lN.any (Γ:=Γ) (C:=C) (M:=M) hd l 0 (Array.replicate l.length false) s (fun j=>by simp) (by simp) (fun j hj=>by simp[hj]) (by simp) (kq.sound ah cC l 0 s h)).any aq
 have h2:=nV.sound (Qc:=fun e a' w'=>∃s' aM,Q e s'∧Rel Γ s' a' w' aM) aq (fun s' a' w' aM h1 h2=>⟨s',aM,h1,h2⟩) _ _ _ a w.drew η this (hr.same aq (bt.drew w))
 simpa using h2
end Go.Proofs.YtdcikhleahfknaaGreatDoor
