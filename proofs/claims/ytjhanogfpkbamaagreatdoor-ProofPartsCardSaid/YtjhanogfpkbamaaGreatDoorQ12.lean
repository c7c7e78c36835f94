/- Texts of ours laid together for a claim: FilX. -/
import Derived.Test.YtjhanogfpkbamaaGreatDoorQ11
namespace Go.Proofs.YtjhanogfpkbamaaGreatDoor
open Go
set_option linter.unusedSimpArgs false
set_option linter.unusedVariables false
variable {G:Type} {Γ:Env G} {s s':AS G} {a:Act} {w w':World} {η η':List Value} {hp hp':List AObj} {P:Program} {ops:Array Oper}
def ChgL (l:List Nat):Nat→List AObj→List AObj→Prop
 |_,[],_=>True
 |_,_::_,[]=>False
 |q,o::hp,o'::hp'=>(q∈l∨o'=o)∧ChgL l (q+1) hp hp'
theorem ChgL.fr {l:List Nat}:∀(hp hp':List AObj) (q:Nat),ChgL l q hp hp'→hp.length≤hp'.length∧∀(i:Nat) (o:AObj),q+i∉l→hp[i]?=some o→hp'[i]?=some o:=by
 intro hp
 induction hp with
 |nil=>intro hp' q _;exact⟨Nat.zero_le _,fun i o _ h=>by simp at h⟩
 |cons o hp ih=>
  intro hp' q h
  cases hp' with
  |nil=>exact h.elim
  |cons o' hp'=>
   obtain⟨h1,h2⟩:=h
   obtain⟨g1,g2⟩:=ih hp' (q+1) h2
   refine⟨by simpa using g1,fun i ob hi hg=>?_⟩
   cases i with
   |zero=>
    simp only[List.getElem?_cons_zero,Option.some.injEq] at hg ⊢
    rw[←hg]
    exact h1.resolve_left (by simpa using hi)
   |succ i=>
    simp only[List.getElem?_cons_succ] at hg ⊢
    exact g2 i ob (by rw[show q+1+i=q+(i+1) from by omega];exact hi) hg
def killAt (K:List Nat):Nat→List AObj→List AObj
 |_,[]=>[]
 |q,o::hp=>(if q∈K then .dead else o)::killAt K (q+1) hp
def kill:List Nat→List AObj→List AObj
 | [],hp=>hp
 |K,hp=>killAt K 0 hp
theorem killAt_len (K:List Nat):∀(hp:List AObj) (q:Nat),(killAt K q hp).length=hp.length
 | [],_=>rfl
 |_::hp,q=>by simp[killAt,killAt_len K hp (q+1)]
theorem killAt_get (K:List Nat):∀(hp:List AObj) (q i:Nat) (o:AObj),(killAt K q hp)[i]?=some o→o.live→q+i∉K∧hp[i]?=some o
 | [],_,_,_,h,_=>by simp[killAt] at h
 |x::hp,q,i,o,h,hl=>by
  cases i with
  |zero=>
   simp only[killAt,List.getElem?_cons_zero,Option.some.injEq] at h ⊢
   split at h
   ·subst h;exact hl.elim
   ·rename_i hq;exact⟨by simpa using hq,h⟩
  |succ i=>
   simp only[killAt,List.getElem?_cons_succ] at h ⊢
   obtain⟨g1,g2⟩:=killAt_get K hp (q+1) i o h hl
   exact⟨by rw[show q+(i+1)=q+1+i from by omega];exact g1,g2⟩
theorem kill_len (K:List Nat) (hp:List AObj):(kill K hp).length=hp.length:=by
 cases K with
 |nil=>rfl
 |cons=>exact killAt_len _ _ _
theorem kill_get {K:List Nat} {q:Nat} {o:AObj} (h:(kill K hp)[q]?=some o) (hl:o.live):q∉K∧hp[q]?=some o:=by
 cases K with
 |nil=>exact⟨by simp,h⟩
 |cons k K=>
  have:=killAt_get (k::K) hp 0 q o h hl
  rw[Nat.zero_add] at this
  exact this
theorem pval_heapless {tab:Nat→Option TD} {ρ:Operand→AV} {op:Op} (h:heapless op=true):pval tab hp ρ op=pval tab hp' ρ op:=by
 cases op with
 |makeFunc fn first caps=>cases fn<;>rfl
 |_=>first|rfl|(simp[heapless] at h)
theorem heff_congr {tab:Nat→Option TD} {ρ ρ':Operand→AV} {op:Op} (h:∀x∈op.operands,ρ x=ρ' x):heff tab hp ρ op=heff tab hp ρ' op:=by
 cases op with
 |alloc T=>rfl
 |box T x=>simp only[heff,h x (by simp[Op.operands])]
 |store T x y=>simp only[heff,h x (by simp[Op.operands]),h y (by simp[Op.operands])]
 |makeSlice T n c=>simp only[heff,h n (by simp[Op.operands]),h c (by simp[Op.operands])]
 |makeMap T r=>cases r<;>rfl
 |mapUpdate T m k x=>simp only[heff,h m (by simp[Op.operands]),h k (by simp[Op.operands]),h x (by simp[Op.operands])]
 |call c=>
  simp only[heff]
  have hl:∀l,c.args.toList=l→∀x∈l,ρ x=ρ' x:=fun l hl x hx=>h x (by
   simp only[Op.operands,Call.operands,Array.mem_append]
   exact .inr (by rw[←Array.mem_toList_iff,hl];exact hx))
  split
  ·rename_i x y T T' hb hlx hT
   simp only[hl _ hlx x (by simp),hl _ hlx y (by simp)]
  ·rfl
 |_=>rfl
def opsList:Op→List Operand
 | .load _ x=>[x]
 | .indexAddr _ x i=>[x,i]
 | .lookup _ m k _=>[m,k]
 | .buildSlice _ _ ps=>ps.toList.map (·.2)
 | .call c=>(match c.callee with | .value f=>[f] | .invoke r _=>[r] | .builtin _=>[])++c.args.toList
 | .slice _ x l h m=>x::(l.toList++h.toList++m.toList)
 |op=>op.operands.toList
theorem opsList_eq (op:Op):opsList op=op.operands.toList:=by
 cases op with
 |call c=>
  simp only[opsList,Op.operands,Call.operands]
  cases c.callee<;>simp
 |slice T x l h m=>simp[opsList,Op.operands]
 |_=>simp[opsList,Op.operands]
def DStepU (Γ:Env G) (tab:Nat→Option TD) (m:Option (List Nat)) (o:Oper) (s:AS G) (next rest:AS G→Prop):Prop:=
 if heapless o.op=true then(match pval tab s.hp s.ev o.op with
  |some (c,r)=>c∧next (s.put o.dst r)
  |none=>False)
 else match m with
 |none=>DStep Γ tab o s next rest
 |some K=>((opsList o.op).all fun x=>(s.ev x).closed (kill K s.hp).length)=true∧(∀ob∈kill K s.hp,AObj.closed (kill K s.hp).length ob=true)∧
  (match pval tab (kill K s.hp) s.ev o.op with
  |some (c,r)=>c∧r.held (kill K s.hp)=true∧next (s.put o.dst r)
  |none=>(match pureArgs { s with hp:=kill K s.hp } o.op with
   |some (f,args)=>∃r,PureIs Γ.P f args r∧r.held (kill K s.hp)=true∧rest (s.put o.dst r)
   |none=>False))
def ARunU (Γ:Env G) (tab:Nat→Option TD) (nt:Nat) (ops:Array Oper) (C M:List (Option (List Nat))) (K:AS G→Prop):Nat→List Oper→AS G→Prop
 |_,[],s=>K s
 |k,o::rest,s=>if isEff o.op=true then dstOk nt o.dst∧o.guard=none∧(match heff tab s.hp s.ev o.op with
   |some (c,r,hp')=>c∧(match C.getD k none with|none=>True|some l=>ChgL l 0 s.hp hp')∧ARunU Γ tab nt ops C M K (k+1) rest (AS.put { s with hp:=hp' } o.dst r)
   |none=>False)
  else dstOk nt o.dst∧(match o.guard with
   |none=>DStepU Γ tab (M.getD k none) o s (ARunU Γ tab nt ops C M K (k+1) rest) (ALexU Γ ops C M K (k+1) rest)
   |some (j,want)=>(match gslot ops s j with
    |some (some b)=>(b=want→DStepU Γ tab (M.getD k none) o s (ARunU Γ tab nt ops C M K (k+1) rest) (ALexU Γ ops C M K (k+1) rest))∧(¬b=want→ARunU Γ tab nt ops C M K (k+1) rest (s.put o.dst (.prim (.tuple #[]))))
    |some none=>ARunU Γ tab nt ops C M K (k+1) rest (s.put o.dst (.prim (.tuple #[])))
    |none=>False))
theorem ev_of_looks {o:Oper} {L:List Nat} (hL:L=o.looksAt ops) (h:∀t,t∈L→s'.tmps t=s.tmps t) {x:Operand} (hx:x∈o.op.operands):(s'.only L).ev x=s.ev x:=by
 subst hL
 rw[only_ev hx]
 cases x with
 |tmp t=>
  refine h t ?_
  unfold Oper.looksAt
  exact List.mem_append_left _ (List.mem_filterMap.2 ⟨.tmp t,by simpa using hx,rfl⟩)
 |_=>rfl
theorem vstepU_pval {tab:Nat→Option TD} (htab:TabOk Γ.P tab) {o:Oper} {c:Prop} {r:AV} (hp:pval tab s.hp s.ev o.op=some (c,r)) (hc:c):VStepU Γ o s r:=by
 intro Γ' hok' e1 e2 e3
 exact .of_run (pval_sound hok' (by rw[e1];exact htab) hp hc)
theorem vstepU_pure {o:Oper} {f:Nat} {args:List AV} {r:AV} (hpa:pureArgs s o.op=some (f,args)) (hP:PureIs Γ.P f args r):VStepU Γ o s r:=by
 intro Γ' hok' e1 e2 e3
 unfold pureArgs at hpa
 split at hpa
 ·rename_i c hc
  split at hpa
  ·rename_i x hx
   split at hpa
   ·rename_i f' caps hcl
    simp only[Option.some.injEq,Prod.mk.injEq] at hpa
    obtain⟨rfl,rfl⟩:=hpa
    exact VStep.pure hok' hc hx hcl (by rw[e1];exact hP)
   ·cases hpa
  ·cases hpa
 ·cases hpa
theorem pureArgs_congr {op:Op} (hhp:s'.hp=s.hp) (h:∀x∈op.operands,s'.ev x=s.ev x):pureArgs s' op=pureArgs s op:=by
 unfold pureArgs
 split
 ·rename_i c
  split
  ·rename_i x hx
   have h1:s'.ev x=s.ev x:=h x (by simp[Op.operands,Call.operands,hx])
   have h2:c.args.toList.map s'.ev=c.args.toList.map s.ev:=List.map_congr_left fun y hy=>h y (by simp only[Op.operands,Call.operands,Array.mem_append];exact .inr (by simpa using hy))
   rw[h1,h2,hhp]
  ·rfl
 ·rfl
theorem rof_none {M:List (Option (List Nat))} {k:Nat} {op:Op} (hh:¬heapless op=true) (hm:M.getD k none=none) (h:Rof M k op hp hp'):hp'=hp:=by
 unfold Rof at h
 rw[if_neg hh,hm] at h
 exact h
theorem rof_some {M:List (Option (List Nat))} {k:Nat} {op:Op} {K:List Nat} (hh:¬heapless op=true) (hm:M.getD k none=some K) (h:Rof M k op hp hp'):HpFr K hp hp':=by
 unfold Rof at h
 rw[if_neg hh,hm] at h
 exact h
theorem part_kill {o:Oper} {K:List Nat} (hcl:(o.op.operands.toList.all fun x=>(s.ev x).closed (kill K s.hp).length)=true) (hob:∀ob∈kill K s.hp,AObj.closed (kill K s.hp).length ob=true)
  (hg:o.guard=none∨∃j want b,o.guard=some (j,want)∧gslot ops s j=some b) (ht:∀t,t∈o.looksAt ops→s'.tmps t=s.tmps t) (hf:HpFr K s.hp s'.hp):Part { s with hp:=kill K s.hp } s' (o.looksAt ops):=by
 refine⟨fun t hin=>⟨ht t hin,?_⟩,fun q ob h1 h2=>?_,?_⟩
 ·unfold Oper.looksAt at hin
  rcases List.mem_append.1 hin with h1|h1
  ·obtain⟨x,hx,hxt⟩:=List.mem_filterMap.1 h1
   cases x with
   |tmp u=>
    simp only[Option.some.injEq] at hxt
    subst hxt
    rw[List.all_eq_true] at hcl
    exact hcl _ hx
   |_=>simp at hxt
  ·rcases hg with hg|⟨j,want,b,hg,hb⟩
   ·rw[hg] at h1;simp at h1
   ·rw[hg] at h1
    simp only[Option.mem_toList] at h1
    unfold gslot at hb
    rw[h1] at hb
    simp only at hb
    show (s.tmps t).closed _=true
    split at hb
    ·rename_i b' hx;rw[hx];rfl
    ·rename_i b' hx;rw[hx];rfl
    ·cases hb
 ·obtain⟨g1,g2⟩:=kill_get h1 h2
  exact⟨hf.2 q ob g1 g2,hob ob (List.mem_of_getElem? h1)⟩
 ·show (kill K s.hp).length≤_
  rw[kill_len];exact hf.1
theorem DStepU.sound {tab:Nat→Option TD} (htab:TabOk Γ.P tab) {M:List (Option (List Nat))} {k:Nat} {o:Oper} {next rest K':AS G→Prop} (h:DStepU Γ tab (M.getD k none) o s next rest) (h1:∀s,next s→K' s) (h2:∀s,rest s→K' s)
  (hg:o.guard=none∨∃j want b,o.guard=some (j,want)∧gslot ops s j=some b):
  ∃x,(∀s':AS G,(∀t,t∈o.looksAt ops→s'.tmps t=s.tmps t)→Rof M k o.op s.hp s'.hp→VStepU Γ o (s'.only (o.looksAt ops)) x)∧K' (s.put o.dst x):=by
 unfold DStepU at h
 split at h
 ·rename_i hh
  split at h
  ·rename_i c r hp'
   refine⟨r,fun s' ht _=>vstepU_pval htab (c:=c) ?_ h.1,h1 _ h.2⟩
   rw[←hp',pval_heapless (hp':=s.hp) hh]
   exact pval_congr fun x hx=>ev_of_looks rfl ht hx
  ·exact h.elim
 ·rename_i hh
  split at h
  ·rename_i hm
   unfold DStep at h
   split at h
   ·rename_i c r hp'
    refine⟨r,fun s' ht hr=>vstepU_pval htab (c:=c) ?_ h.1,h1 _ h.2⟩
    have he:(s'.only (o.looksAt ops)).hp=s.hp:=rof_none hh hm hr
    rw[he,←hp']
    exact pval_congr fun x hx=>ev_of_looks rfl ht hx
   ·split at h
    ·rename_i f args hpa
     obtain⟨r,hP,hr⟩:=h
     refine⟨r,fun s' ht hrf=>vstepU_pure (f:=f) (args:=args) ?_ hP,h2 _ hr⟩
     rw[←hpa]
     exact pureArgs_congr (rof_none hh hm hrf) fun x hx=>ev_of_looks rfl ht hx
    ·exact h.elim
  ·rename_i K hm
   obtain⟨g1,g2,g3⟩:=h
   rw[opsList_eq] at g1
   split at g3
   ·rename_i c r hp'
    refine⟨r,fun s' ht hr=>?_,h1 _ g3.2.2⟩
    refine VStepU.part (s:={ s with hp:=kill K s.hp }) (vstepU_pval htab (c:=c) ?_ g3.1) (part_kill g1 g2 hg ht (rof_some hh hm hr)) g3.2.1
    rw[←hp']
    exact pval_congr fun x hx=>only_ev hx
   ·split at g3
    ·rename_i f args hpa
     obtain⟨r,hP,hr1,hr2⟩:=g3
     refine⟨r,fun s' ht hr=>?_,h2 _ hr2⟩
     refine VStepU.part (s:={ s with hp:=kill K s.hp }) (vstepU_pure (f:=f) (args:=args) ?_ hP) (part_kill g1 g2 hg ht (rof_some hh hm hr)) hr1
     rw[←hpa]
     exact pureArgs_congr rfl fun x hx=>only_ev hx
    ·exact g3.elim
theorem ARunU.sound {tab:Nat→Option TD} (htab:TabOk Γ.P tab) {nt:Nat} (hnt:nt=Γ.nt) {C M:List (Option (List Nat))} {K:AS G→Prop}:∀(l:List Oper) (k:Nat) (s:AS G),ARunU Γ tab nt ops C M K k l s→ALexU Γ ops C M K k l s:=by
 subst hnt
 intro l
 induction l with
 |nil=>intro k s h;exact h
 |cons o rest ih=>
  intro k s h
  simp only[ARunU] at h
  simp only[ALexU]
  split at h
  ·rename_i he
   rw[if_pos he]
   obtain⟨h1,h2,h3⟩:=h
   split at h3
   ·rename_i c r hp' hh
    refine⟨h1,h2,r,hp',fun Γ' hok' e1 e2 e3=>heff_sound hok' (tab:=tab) (by rw[e1];exact htab) (c:=c) ?_ h3.1,?_,ih _ _ h3.2.2⟩
    ·rw[←hh];exact heff_congr fun x hx=>only_ev hx
    ·have h4:=h3.2.1
     unfold ChgAt
     split at h4<;>rename_i hc<;>rw[hc]
     ·exact True.intro
     ·have:=ChgL.fr _ _ _ h4
      exact⟨this.1,fun q ob hq ho=>this.2 q ob (by simpa using hq) ho⟩
   ·exact h3.elim
  ·rename_i he
   rw[if_neg he]
   obtain⟨h1,h2⟩:=h
   split at h2
   ·rename_i hg
    obtain⟨x,h3,h4⟩:=DStepU.sound (ops:=ops) htab h2 (ih (k+1)) (fun _ h=>h) (.inl hg)
    exact⟨x,⟨h1,.inl ⟨by simp[guardVal,hg],h3⟩⟩,h4⟩
   ·rename_i j want hg
    split at h2
    ·rename_i b hb
     by_cases hbw:b=want
     ·obtain⟨x,h3,h4⟩:=DStepU.sound (ops:=ops) htab (h2.1 hbw) (ih (k+1)) (fun _ h=>h) (.inr ⟨j,want,_,hg,hb⟩)
      exact⟨x,⟨h1,.inl ⟨by simp[guardVal,hg,hb,hbw],h3⟩⟩,h4⟩
     ·exact⟨_,⟨h1,.inr ⟨by simp[guardVal,hg,hb,hbw],rfl⟩⟩,ih _ _ (h2.2 hbw)⟩
    ·rename_i hb
     exact⟨_,⟨h1,.inr ⟨by simp[guardVal,hg,hb],rfl⟩⟩,ih _ _ h2⟩
    ·exact h2.elim
theorem AWp.drawU (hok:Γ.Ok) {tab:Nat→Option TD} (htab:TabOk Γ.P tab) {nt:Nat} (hnt:nt=Γ.nt) (hm:Γ.P.follows .mixedOrders=true) {id:Nat} {l:List Oper} {Q:Exit→AS G→Prop} (C M:List (Option (List Nat))) (hd:drawOkU C M l=true)
  (h:ARunU Γ tab nt l.toArray C M (Q .normal) 0 l s):AWp Γ (.region id l.toArray true) Q s:=by
 intro a w η hr
 refine wpIn_region_any hm ?_
 have:=(ALexU.any (Γ:=Γ) (C:=C) (M:=M) hd l 0 (Array.replicate l.length false) s (fun j=>by simp) (by simp) (fun j hj=>by simp[hj]) (by simp) (ARunU.sound htab hnt l 0 s h)).any hok
 have h2:=AAny.sound (Qc:=fun e a' w'=>∃s' η',Q e s'∧Rel Γ s' a' w' η') hok (fun s' a' w' η' h1 h2=>⟨s',η',h1,h2⟩) _ _ _ a w.drew η this (hr.same hok (Same.drew w))
 simpa using h2
end Go.Proofs.YtjhanogfpkbamaaGreatDoor
