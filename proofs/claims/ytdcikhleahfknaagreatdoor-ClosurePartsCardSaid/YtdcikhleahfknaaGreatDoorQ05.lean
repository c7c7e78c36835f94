/- Texts of ours laid together for a claim: FilQ. -/
import Derived.Test.YtdcikhleahfknaaGreatDoorQ04
namespace Go.Proofs.YtdcikhleahfknaaGreatDoor
open Go
set_option linter.unusedSimpArgs false
set_option linter.unusedVariables false
variable {G:Type} {Γ:Env G} {s s':AS G} {a:Act} {w w':World} {η:List Value} {hp:List af} {P:Program} {ops:Array Oper}
theorem kZ {tab:Nat→Option TD} {ρ Eu:Operand→AV} {op:Op} (h:∀x∈op.operands,ρ x=Eu x):bk tab hp ρ op=bk tab hp Eu op:=by
 cases op with
 |move x=>simp only[bk,h x (by simp[Op.operands])]
 |assign x=>simp only[bk,h x (by simp[Op.operands])]
 |nilCheck x=>simp only[bk,h x (by simp[Op.operands])]
 |pick c x y=>simp only[bk,h c (by simp[Op.operands]),h x (by simp[Op.operands]),h y (by simp[Op.operands])]
 |fieldAddr T x f=>simp only[bk,h x (by simp[Op.operands])]
 |load T x=>simp only[bk,h x (by simp[Op.operands])]
 |indexAddr T x i=>simp only[bk,h x (by simp[Op.operands]),h i (by simp[Op.operands])]
 |binOp op T x y T'=>simp only[bk,h x (by simp[Op.operands]),h y (by simp[Op.operands])]
 |unOp op T x=>simp only[bk,h x (by simp[Op.operands])]
 |convert S D x=>simp only[bk,h x (by simp[Op.operands])]
 |field T x f=>simp only[bk,h x (by simp[Op.operands])]
 |extract x i=>simp only[bk,h x (by simp[Op.operands])]
 |index T x i=>simp only[bk,h x (by simp[Op.operands]),h i (by simp[Op.operands])]
 |lookup T m k ok=>simp only[bk,h m (by simp[Op.operands]),h k (by simp[Op.operands])]
 |build T parts=>
  have:(parts.toList.map fun p=>(p.1,ρ p.2))=parts.toList.map fun p=>(p.1,Eu p.2):=List.map_congr_left fun p hp'=>by
   rw[h p.2 (by simp only[Op.operands,List.mem_toArray,List.mem_map];exact⟨p,hp',rfl⟩)]
  simp only[bk,this]
 |buildSlice T n parts=>
  have:(parts.toList.map fun p=>(ρ p.2).bh hp)=parts.toList.map fun p=>(Eu p.2).bh hp:=List.map_congr_left fun p hp'=>by
   rw[h p.2 (by simp only[Op.operands,List.mem_toArray,List.mem_map];exact⟨p,hp',rfl⟩)]
  simp only[bk,this]
 |makeFunc fn first caps=>
  have:caps.toList.map ρ=caps.toList.map Eu:=List.map_congr_left fun x hx=>h x (by simp only[Op.operands,Array.mem_append];exact .inr (by simpa using hx))
  have h2:first.toList.map ρ=first.toList.map Eu:=List.map_congr_left fun x hx=>h x (by simp only[Op.operands,Array.mem_append];exact .inl (by simpa using hx))
  cases fn<;>simp only[bk,this,h2]
 |slice T x lo hi mx=>
  have h1:∀d,bw ρ d lo=bw Eu d lo:=fun d=>by cases lo with|none=>rfl|some y=>simp only[bw,h y (by simp[Op.operands])]
  have h2:∀d,bw ρ d hi=bw Eu d hi:=fun d=>by cases hi with|none=>rfl|some y=>simp only[bw,h y (by simp[Op.operands])]
  have h3:(mx.map fun m=>bw ρ 0 (some m))=mx.map fun m=>bw Eu 0 (some m):=by
   cases mx with
   |none=>rfl
   |some m=>simp only[Option.map_some,bw,h m (by simp[Op.operands])]
  cases mx<;>simp only[bk,h x (by simp[Op.operands]),h1,h2,h3]
 |call c=>
  simp only[bk]
  have hl:∀l,c.args.toList=l→∀x∈l,ρ x=Eu x:=fun l hl x hx=>h x (by
   simp only[Op.operands,Call.operands,Array.mem_append]
   exact .inr (by rw[←Array.mem_toList_iff,hl];exact hx))
  split
  ·rename_i x hb FJ
   simp only[hl _ FJ x (by simp)]
  ·rename_i x y hb FJ
   simp only[hl _ FJ x (by simp),hl _ FJ y (by simp)]
  ·rename_i x y hb FJ
   simp only[hl _ FJ x (by simp),hl _ FJ y (by simp)]
  ·rfl
 |_=>rfl
theorem gZ {o:Oper} {x:Operand} (hx:x∈o.op.operands):(s.only (o.looksAt ops)).ev x=s.ev x:=by
 cases x with
 |tmp t=>
  show (if t∈o.looksAt ops then s.tmps t else .top)=s.tmps t
  rw[if_pos]
  unfold Oper.looksAt
  refine List.mem_append_left _ (List.mem_filterMap.2 ⟨.tmp t,by simpa using hx,rfl⟩)
 |_=>rfl
theorem po.HH {o:Oper} {r:AV} (h:ee Γ o s r):po Γ o s r:=by
 intro a w η Kc Qc hr hk
 obtain⟨v,w',h1,h2,h3⟩:=h a w η hr
 refine⟨fun _ _=>trivial,?_⟩
 rw[ic h1 (.inl ⟨v,rfl⟩)]
 exact hk v w' h2 h3
theorem po.pure (aq:Γ.Ok) {o:Oper} {c:Call} {x:Operand} (ho:o.op=.call c) (hc:c.callee=.value x) {f:FuncId} {caps:List AV} (hx:s.ev x=.aS f caps) {r:AV}
  (hP:ag Γ.P f ((c.args.toList.map s.ev++caps).map (AV.bh s.hp)) r):po Γ o s r:=by
 intro a w η Kc Qc hr hk
 have di:=hr.ev x
 rw[hx] at di
 generalize hv:a.eval x=v at di
 cases di with
 |aS _ _ vs hl cD=>
  refine⟨fun _ _=>trivial,?_⟩
  have bj:∀c',o.op ≠ .defer c':=by intro c' h;rw[ho] at h;cases h
  rw[Oper.semAt_eq _ _ _ bj,eB ho hc hP.1 hv]
  have ax:(c.args.map a.eval++vs)=(c.args.toList.map a.eval++vs.toList).toArray:=by apply Array.ext';simp
  have cS:bF w (aU Γ w η s.hp) η s.hp caps vs.toList:=cd (by simpa using hl) fun j y u hy hu=>cD j y u hy (by simpa using hu)
  have eZ:=jj hr _ _ (cY _ _ (eU hr c.args.toList) cS)
  refine⟨fun h=>(by cases h),?_⟩
  rw[ax]
  have iB:=hP.2 w (aU Γ w η s.hp) _ (fun _ _=>dy) (hr.fX aq) eZ
  refine CallsIn.mono (F:=Γ.dA) ?_ (R:=fun e w'=>∃v q,e=.returned v∧q=r∧bt w w'∧aV w' (Onto (aU Γ w η s.hp) w w') [] [] q v) fun e w' ⟨u,q,he,hR,hs,R8⟩=>?_
  ·exact iB
  ·subst he;subst hR
   exact hk u w' hs ((R8.aY fun b o h=>tE aq hr hs h).lift)
def dO (s:AS G):Op→Option (Nat×List AV)
 | .call c=>(match c.callee with
  | .value x=>(match s.ev x with
   | .aS f caps=>some (f,(c.args.toList.map s.ev++caps).map (AV.bh s.hp))
   |_=>none)
  |_=>none)
 |_=>none
def DStep (Γ:Env G) (tab:Nat→Option TD) (o:Oper) (s:AS G) (next rest:AS G→Prop):Prop:=
 match bk tab s.hp s.ev o.op with
 |some (c,r)=>c∧next (s.put o.dst r)
 |none=>(match dO s o.op with
  |some (f,args)=>∃r,ag Γ.P f args r∧rest (s.put o.dst r)
  |none=>False)
def kg (Γ:Env G) (tab:Nat→Option TD) (nt:Nat) (ops:Array Oper) (K:AS G→Prop):List Oper→AS G→Prop
 | [],s=>K s
 |o::rest,s=>if bL o.op=true then cw nt o.dst∧o.guard=none∧(match cO tab s.hp s.ev o.op with
   |some (c,r,hp')=>c∧kg Γ tab nt ops K rest (AS.put { s with hp:=hp' } o.dst r)
   |none=>False)
  else cw nt o.dst∧(match o.guard with
   |none=>DStep Γ tab o s (kg Γ tab nt ops K rest) (qI Γ ops K rest)
   |some (j,want)=>(match gA ops s j with
    |some (some b)=>(b=want→DStep Γ tab o s (kg Γ tab nt ops K rest) (qI Γ ops K rest))∧(¬b=want→kg Γ tab nt ops K rest (s.put o.dst (.ae (.tuple #[]))))
    |some none=>kg Γ tab nt ops K rest (s.put o.dst (.ae (.tuple #[])))
    |none=>False))
theorem DStep.sound (aq:Γ.Ok) {tab:Nat→Option TD} (ah:aL Γ.P tab) {o:Oper} {next rest K':AS G→Prop} (h:DStep Γ tab o s next rest) (h1:∀s,next s→K' s) (h2:∀s,rest s→K' s):
  ∃x,po Γ o (s.only (o.looksAt ops)) x∧K' (s.put o.dst x):=by
 unfold DStep at h
 split at h
 ·rename_i c r hp'
  refine⟨r,.HH (oA aq ah (c:=c) ?_ h.1),h1 _ h.2⟩
  rw[←hp']
  exact kZ fun x hx=>gZ hx
 ·split at h
  ·rename_i f args qG
   obtain⟨r,hP,hr⟩:=h
   refine⟨r,?_,h2 _ hr⟩
   unfold dO at qG
   split at qG
   ·rename_i c hc
    split at qG
    ·rename_i x hx
     split at qG
     ·rename_i f' caps cS
      simp only[Option.some.injEq,Prod.mk.injEq] at qG
      obtain⟨rfl,rfl⟩:=qG
      have P6:∀y∈c.args.toList,y∈o.op.operands:=fun y hy=>by rw[hc];simp only[Op.operands,Call.operands,Array.mem_append];exact .inr (by simpa using hy)
      refine po.pure aq hc hx (f:=f') (caps:=caps) ?_ ?_
      ·rw[gZ (by rw[hc];simp[Op.operands,Call.operands,hx])];exact cS
      ·have:c.args.toList.map (s.only (o.looksAt ops)).ev=c.args.toList.map s.ev:=List.map_congr_left fun y hy=>gZ (P6 y hy)
       rw[this];exact hP
     ·cases qG
    ·cases qG
   ·cases qG
  ·exact h.elim
theorem kg.sound (aq:Γ.Ok) {tab:Nat→Option TD} (ah:aL Γ.P tab) {nt:Nat} (cC:nt=Γ.nt) {K:AS G→Prop}:∀(l:List Oper) (s:AS G),kg Γ tab nt ops K l s→qI Γ ops K l s:=by
 subst cC
 intro l
 induction l with
 |nil=>intro s h;exact h
 |cons o rest ih=>
  intro s h
  simp only[kg] at h
  simp only[qI]
  split at h
  ·rename_i he
   rw[if_pos he]
   obtain⟨h1,h2,h3⟩:=h
   split at h3
   ·rename_i c r hp' hh
    exact⟨h1,h2,r,hp',fY aq ah hh h3.1,ih _ h3.2⟩
   ·exact h3.elim
  ·rename_i he
   rw[if_neg he]
   obtain⟨h1,h2⟩:=h
   split at h2
   ·rename_i hg
    obtain⟨x,h3,h4⟩:=DStep.sound (ops:=ops) aq ah h2 ih fun _ h=>h
    exact⟨x,⟨h1,.inl ⟨by simp[aD,hg],h3⟩⟩,h4⟩
   ·rename_i j want hg
    split at h2
    ·rename_i b hb
     by_cases gq:b=want
     ·obtain⟨x,h3,h4⟩:=DStep.sound (ops:=ops) aq ah (h2.1 gq) ih fun _ h=>h
      exact⟨x,⟨h1,.inl ⟨by simp[aD,hg,hb,gq],h3⟩⟩,h4⟩
     ·exact⟨_,⟨h1,.inr ⟨by simp[aD,hg,hb,gq],rfl⟩⟩,ih _ (h2.2 gq)⟩
    ·rename_i hb
     exact⟨_,⟨h1,.inr ⟨by simp[aD,hg,hb],rfl⟩⟩,ih _ h2⟩
    ·exact h2.elim
theorem dq.draw (aq:Γ.Ok) (hm:Γ.P.follows .mixedOrders=true) {id:Nat} {l:List Oper} {Q:Exit→AS G→Prop} (hd:tG l=true) (h:qI Γ l.toArray (Q .normal) l s):dq Γ (.region id l.toArray true) Q s:=by
 intro a w η hr
 refine wpIn_region_any hm ?_
 have:=qI.any (Γ:=Γ) hd l 0 (Array.replicate l.length false) s (fun j=>by simp) (by simp) (fun j hj=>by simp[hj]) (by simp) h
 have h2:=nV.sound (Qc:=fun e a' w'=>∃s' aM,Q e s'∧Rel Γ s' a' w' aM) aq (fun s' a' w' aM h1 h2=>⟨s',aM,h1,h2⟩) _ _ _ a w.drew η this (hr.same aq (bt.drew w))
 simpa using h2
def Sub (f' f:Nat→AV):Prop:=∀t,f' t=.top∨f' t=f t
theorem Sub.nil {f:Nat→AV}:Sub (fun _=>.top) f:=fun _=>.inl rfl
def AV.dx (n:Nat):AV→Bool
 | .ptr r _=>decide (r<n)
 | .ae _ | .aH _ _=>true
 |_=>false
def AV.aJ (n:Nat):AV→Bool
 | .own r _=>decide (r<n)
 | .ptr r _=>decide (r<n)
 | .mp r=>decide (r<n)
 | .aS _ cs=>cs.all (AV.dx n)
 | .agg _ | .bc _ | .ea _ _ _ _ | .cH _ _=>false
 |_=>true
def AV.cI (n:Nat):AV→Bool
 | .agg cs=>cs.all (AV.aJ n)
 |x=>x.aJ n
def AV.closed (n:Nat):AV→Bool
 | .bc vs=>vs.all (AV.cI n)
 | .aS _ caps=>caps.all (AV.cI n)
 | .cH _ caps=>caps.all (AV.cI n)
 |x=>x.cI n
def af.closed (n:Nat):af→Bool
 | .box cs=>cs.all (AV.aJ n)
 | .cA r _=>decide (r<n)
 |_=>true
def lM (n:Nat) (f:Nat→AV):Prop:=∀t,(f t).closed n=true
theorem lM.nil {n:Nat}:lM n (fun _=>.top):=fun _=>rfl
theorem lM.xa {n:Nat} {f:Nat→AV} {t:Nat} {x:AV} (h:x.closed n=true) (h':lM n f):lM n (xa f t x):=by
 intro u
 rw[eF]
 split
 ·exact h
 ·exact h' u
theorem tH {n r m:Nat} {v:Value} (hr:r<n) (h:aQ η hp r m v):aQ (η.take n) (hp.take n) r m v:=by
 unfold aQ at h ⊢
 rw[List.getElem?_take,List.getElem?_take,if_pos hr,if_pos hr];exact h
theorem zG {F:Nat→Nat→Prop} {n:Nat} {x:AV} {v:Value} (cS:x.dx n=true) (h:aV w F η hp x v):aV w F (η.take n) (hp.take n) x v:=by
 cases h with
 |ptr r off b h1=>exact .ptr r off b (by rw[List.getElem?_take,if_pos (by simpa [AV.dx] using cS)];exact h1)
 |ae v=>exact .ae v
 |aH e off b o f aw hr=>exact .aH e off b o f aw hr
 |_=>simp[AV.dx] at cS
theorem cZ {F:Nat→Nat→Prop} {n:Nat} {x:AV} {v:Value} (cS:x.aJ n=true) (h:aV w F η hp x v):aV w F (η.take n) (hp.take n) x v:=by
 cases h with
 |own r m v h1 h2=>exact .own r m v h1 (tH (by simpa [AV.aJ] using cS) h2)
 |ptr r off b h1=>exact .ptr r off b (by rw[List.getElem?_take,if_pos (by simpa [AV.aJ] using cS)];exact h1)
 |mp r b h1=>exact .mp r b (by rw[List.getElem?_take,if_pos (by simpa [AV.aJ] using cS)];exact h1)
 |agg cs vs hl h1 hr=>simp[AV.aJ] at cS
 |bc cs vs hl hr=>simp[AV.aJ] at cS
 |aS fn cs vs hl hr=>exact .aS fn cs vs hl fun j x u hx hu=>zG (by simp only[AV.aJ,List.all_eq_true] at cS;exact cS x (List.mem_of_getElem? hx)) (hr j x u hx hu)
 |top v=>exact .top v
 |ae v=>exact .ae v
 |fn v h1=>exact .fn v h1
 |jN a=>exact .jN a
 |gR a=>exact .gR a
 |sl size els b o c f hc hm hl aw hr=>exact .sl size els b o c f hc hm hl aw hr
 |clip size els b o f hm hl aw hr=>exact .clip size els b o f hm hl aw hr
 |aH e off b o f aw hr=>exact .aH e off b o f aw hr
 |dL b es c h hF l hl=>exact .dL b es c h hF l hl
 |ea r n i size b o c k h=>simp[AV.aJ] at cS
 |cH fn cs vs hl hr=>simp[AV.aJ] at cS
theorem jl {F:Nat→Nat→Prop} {n:Nat} {x:AV} {v:Value} (hc:x.cI n=true) (h:aV w F η hp x v):aV w F (η.take n) (hp.take n) x v:=by
 cases x with
 |agg cs=>
  cases h with
  |agg _ vs hl h1 hr=>exact .agg cs vs hl h1 fun j x v hx hv=>cZ (by simp only[AV.cI,List.all_eq_true] at hc;exact hc x (List.mem_of_getElem? hx)) (hr j x v hx hv)
 |_=>exact cZ hc h
theorem k8 {F:Nat→Nat→Prop} {n:Nat} {x:AV} {v:Value} (hc:x.closed n=true) (h:aV w F η hp x v):aV w F (η.take n) (hp.take n) x v:=by
 cases x with
 |bc cs=>
  cases h with
  |bc _ vs hl hr=>exact .bc cs vs hl fun j x v hx hv=>jl (by simp only[AV.closed,List.all_eq_true] at hc;exact hc x (List.mem_of_getElem? hx)) (hr j x v hx hv)
 |aS f cs=>
  cases h with
  |aS _ _ vs hl hr=>exact .aS f cs vs hl fun j x v hx hv=>jl (by simp only[AV.closed,List.all_eq_true] at hc;exact hc x (List.mem_of_getElem? hx)) (hr j x v hx hv)
 |cH f cs=>
  cases h with
  |cH _ _ vs hl hr=>exact .cH f cs vs hl fun j x v hx hv=>jl (by simp only[AV.closed,List.all_eq_true] at hc;exact hc x (List.mem_of_getElem? hx)) (hr j x v hx hv)
 |_=>exact jl hc h
theorem bV.cutAt {f f':Nat→AV} {hp:List af} {g:G} (aq:Γ.Ok) (n:Nat) (hn:Γ.ir.length≤n) (hs:Sub f' f) (hc:lM n f') (ho:∀o∈hp.take n,af.closed n o=true) (hr:Rel Γ ⟨f,hp,g⟩ a w η):Rel Γ ⟨f',hp.take n,g⟩ a w (η.take n):=by
 have hlen:η.length=hp.length:=hr.heap.len
 have bO:∀{r:Nat} {o:af},(hp.take n)[r]?=some o→hp[r]?=some o∧r<n:=by
  intro r o h
  rw[List.getElem?_take] at h
  split at h
  ·rename_i al;exact⟨h,al⟩
  ·cases h
 have tI:∀{r:Nat} {v:Value},(η.take n)[r]?=some v→η[r]?=some v∧r<n:=by
  intro r o h
  rw[List.getElem?_take] at h
  split at h
  ·rename_i al;exact⟨h,al⟩
  ·cases h
 have dF:∀b o,aU Γ w η hp b o→aU Γ w (η.take n) (hp.take n) b o:=by
  intro b o hf
  refine⟨hf.1,hf.2.1,hf.2.2.1,(aN b o).2 fun r v hv hb=>?_⟩
  obtain⟨h1,h2⟩:=tI hv
  obtain⟨o1,q1,q2⟩:=(aN b o).1 hf.2.2.2 r v h1 hb
  exact⟨o1,by rw[List.getElem?_take,if_pos h2];exact q1,q2⟩
 have bY:∀{vh:List Value} {ir:List af} {x:AV} {v:Value},aV w (aU Γ w η hp) vh ir x v→aV w (aU Γ w (η.take n) (hp.take n)) vh ir x v:=
  fun h=>h.ext ⟨fun _ _ _ _ h=>h,fun _ _ _ _ h=>h,dF,fun _ _ h=>h,fun _ _ h=>h,fun _ _ _ h=>h⟩
 refine⟨hr.nt,fun t=>?_,⟨by simp only[List.length_take,hlen],fun r o v h1 h2=>?_,fun r r' o o' v v' b bj h1 h2 l1 l2 e1 e2 hb=>?_⟩,fun r o v b h1 hl h2 hb=>?_,hr.keeps,hr.inv,hr.marks,⟨hr.ext.cell,hr.ext.fQ,fun b o hb=>dF b o (hr.ext.aY b o hb),fun r x hx=>?_,fun r x hx=>?_,fun r m v hx=>?_⟩⟩
 ·rcases hs t with h1|h1
  ·show aV w _ _ _ (f' t) _
   rw[h1];exact .top _
  ·have h2:=hr.tmps t
   have h3:=hc t
   rw[h1] at h3
   show aV w _ _ _ (f' t) _
   rw[h1]
   exact bY (k8 h3 h2)
 ·obtain⟨g1,g2⟩:=bO h1
  obtain⟨g3,_⟩:=tI h2
  have cR:=hr.heap.obj r o v g1 g3
  have cS:=ho o (List.mem_of_getElem? h1)
  cases o with
  |dead=>exact True.intro
  |box cs=>
   obtain⟨b,vs,T,e1,e2,e3,e4⟩:=cR
   exact⟨b,vs,T,e1,e2,e3,fun j x u hx hu=>⟨bY (cZ (by simp only[af.closed,List.all_eq_true] at cS;exact cS x (List.mem_of_getElem? hx)) (e4 j x u hx hu).1),(e4 j x u hx hu).2⟩⟩
  |row e size els=>
   obtain⟨e0,xs,e1,e2⟩:=cR
   exact⟨e0,xs,e1,fun i el hi=>⟨(e2 i el hi).1,fun j x hj=>let ⟨u,q1,q2,q3⟩:=(e2 i el hi).2 j x hj;⟨u,q1,bY q2,q3⟩⟩⟩
  |aP es=>exact cR
  |cA q k=>
   obtain⟨b,vs,e1,e2,e3,e4,u,e5,e6⟩:=cR
   exact⟨b,vs,e1,e2,e3,e4,u,e5,bY (cZ (x:=.own q k) (by simpa [AV.aJ,af.closed] using cS) e6)⟩
  |aF e size els=>
   obtain⟨e0,xs,e1,e2⟩:=cR
   exact⟨e0,xs,e1,fun i el hi=>⟨(e2 i el hi).1,fun j x hj=>let ⟨u,q1,q2,q3⟩:=(e2 i el hi).2 j x hj;⟨u,q1,bY q2,q3⟩⟩⟩
  |dh e m ns=>exact cR
 ·exact hr.heap.sep r r' o o' v v' b bj (bO h1).1 (bO h2).1 l1 l2 (tI e1).1 (tI e2).1 hb
 ·exact hr.bA r o v b (bO h1).1 hl (tI h2).1 hb
 ·have:r<n:=by have:=(List.getElem?_eq_some_iff.1 hx).1;have:=aq.l0;omega
  rw[List.getElem?_take,if_pos this];exact hr.ext.ptr r x hx
 ·have:r<n:=by have:=(List.getElem?_eq_some_iff.1 hx).1;have:=aq.l0;omega
  rw[List.getElem?_take,if_pos this];exact hr.ext.mp r x hx
 ·have:r<n:=by
   unfold aQ at hx
   cases dM:Γ.ir[r]? with
   |none=>rw[dM] at hx;exact hx.elim
   |some o=>have:=(List.getElem?_eq_some_iff.1 dM).1;omega
  exact tH this (hr.ext.own r m v hx)
theorem bV.cut {f f':Nat→AV} {hp hp':List af} {g:G} (aq:Γ.Ok) (n:Nat) (hn:Γ.ir.length≤n) (hs:Sub f' f) (hc:lM n f') (ht:hp.take n=hp') (ho:∀o∈hp',af.closed n o=true):bV Γ ⟨f,hp,g⟩ ⟨f',hp',g⟩:=by
 subst ht
 exact fun a w η hr=>⟨η.take n,bV.cutAt aq n hn hs hc ho hr⟩
theorem bV.HI {M:Bool} (aq:Γ.Ok) {f:Nat→AV} {hp:List af} {g:G} (t e size:Nat) (bE:0<size) (ht:f t=.ae (.slice none 0 0)):bV Γ ⟨f,hp,g⟩ ⟨xa f t (.own hp.length 0),hp++[eu M e size []],g⟩:=by
 intro a w η hr
 have h1:=hr.add aq (o:=eu M e size []) (v:=.slice none 0 0) (bt.refl w) (fun b hb=>by simp[bT] at hb) (jS.2 ⟨bE,[],⟨by simp,.inl ⟨rfl,.inl rfl⟩⟩,fun i el hi=>by simp at hi⟩)
 refine⟨η++[.slice none 0 0],h1.nt,fun u=>?_,h1.heap,h1.bA,h1.keeps,h1.inv,h1.marks,h1.ext⟩
 show aV w _ _ _ (xa f t (.own hp.length 0) u) _
 rw[eF]
 split
 ·rename_i hu
  subst hu
  have h2:=hr.tmps u
  simp only[ht] at h2
  rw[h2.ao]
  have hlen:η.length=hp.length:=hr.heap.len
  exact .own _ 0 _ rfl ((iy (M:=M) (e:=e) (size:=size) (els:=[]) (by simp)).2 ⟨Nat.le_refl _,fun _=>by rw[←hlen];simp⟩)
 ·exact h1.tmps u
theorem bV.row (aq:Γ.Ok) {f:Nat→AV} {hp:List af} {g:G} (t e size:Nat) (bE:0<size) (ht:f t=.ae (.slice none 0 0)):bV Γ ⟨f,hp,g⟩ ⟨xa f t (.own hp.length 0),hp++[.row e size []],g⟩:=bV.HI (M:=false) aq t e size bE ht
theorem bV.P7 {M:Bool} (aq:Γ.Ok) {f:Nat→AV} {hp:List af} {g:G} (r k e size:Nat) (bE:0<size) {cs:List AV} (hb:hp[r]?=some (.box cs)) (hk:cs[k]?=some (.ae (.slice none 0 0))):
  bV Γ ⟨f,hp,g⟩ ⟨f,hp.set r (.box (cs.set k (.own hp.length 0)))++[eu M e size []],g⟩:=by
 intro a w η hr
 have h1:=hr.add aq (o:=eu M e size []) (v:=.slice none 0 0) (bt.refl w) (fun b hb=>by simp[bT] at hb) (jS.2 ⟨bE,[],⟨by simp,.inl ⟨rfl,.inl rfl⟩⟩,fun i el hi=>by simp at hi⟩)
 have Wi:r<hp.length:=(List.getElem?_eq_some_iff.1 hb).1
 have nO:hp.set r (.box (cs.set k (.own hp.length 0)))++[eu M e size []]=(hp++[eu M e size []]).set r (.box (cs.set k (.own hp.length 0))):=by
  rw[List.set_append,if_pos Wi]
 have ec:(hp++[eu M e size []])[r]?=some (.box cs):=bS hb
 have hlen:η.length=hp.length:=hr.heap.len
 obtain⟨v,hv⟩:∃v,(η++[Value.slice none 0 0])[r]?=some v:=⟨_,List.getElem?_eq_getElem (by simp;omega)⟩
 have cR:=h1.heap.obj r _ v ec hv
 have VC:∀b o,aU Γ w (η++[Value.slice none 0 0]) (hp++[eu M e size []]) b o→aU Γ w (η++[Value.slice none 0 0]) ((hp++[eu M e size []]).set r (.box (cs.set k (.own hp.length 0)))) b o:=by
  intro b o hf
  refine⟨hf.1,hf.2.1,hf.2.2.1,(aN b o).2 fun q u hu Hh=>?_⟩
  obtain⟨o1,q1,q2⟩:=(aN b o).1 hf.2.2.2 q u hu Hh
  by_cases hq:r=q
  ·subst hq;rw[ec] at q1;obtain rfl:=Option.some.inj q1;exact q2.elim
  ·exact⟨o1,by rw[getElem?_set_ne hq];exact q1,q2⟩
 have qy:∀q n u,aQ (η++[Value.slice none 0 0]) (hp++[eu M e size []]) q n u→aQ (η++[Value.slice none 0 0]) ((hp++[eu M e size []]).set r (.box (cs.set k (.own hp.length 0)))) q n u:=by
  intro q n u ho
  unfold aQ at ho ⊢
  by_cases hq:r=q
  ·subst hq;rw[ec] at ho;exact ho.elim
  ·rw[getElem?_set_ne hq];exact ho
 have he:Ext w (aU Γ w (η++[Value.slice none 0 0]) (hp++[eu M e size []])) (η++[Value.slice none 0 0]) (hp++[eu M e size []]) w (aU Γ w (η++[Value.slice none 0 0]) ((hp++[eu M e size []]).set r (.box (cs.set k (.own hp.length 0))))) (η++[Value.slice none 0 0]) ((hp++[eu M e size []]).set r (.box (cs.set k (.own hp.length 0)))):=
  ⟨fun _ _ _ _ h=>h,fun _ _ _ _ h=>h,VC,fun _ _ h=>h,fun _ _ h=>h,qy⟩
 rw[nO]
 refine⟨η++[.slice none 0 0],h1.nt,fun u=>(h1.tmps u).ext he,⟨by simp[hlen],fun q o u g1 g2=>?_,fun q q' o o' u u' b bj g1 g2 l1 l2 e1 e2 VE=>?_⟩,fun q o u b g1 hl g2 VE=>?_,h1.keeps,h1.inv,h1.marks,(by exact h1.ext.trans he)⟩
 ·by_cases hq:r=q
  ·subst hq
   simp only at g1
   rw[ai ec] at g1
   obtain rfl:=Option.some.inj g1
   rw[hv] at g2
   obtain rfl:=Option.some.inj g2
   obtain⟨b,vs,T,q1,q2,q3,q4⟩:=cR
   refine⟨b,vs,T,q1,q2,by simpa using q3,fun j x u hx hu=>?_⟩
   by_cases hj:k=j
   ·subst hj
    have eS:k<cs.length:=(List.getElem?_eq_some_iff.1 hk).1
    have h5:=q4 k _ u hk hu
    rw[List.getElem?_set] at hx
    simp only[if_true,if_pos eS] at hx
    obtain rfl:=Option.some.inj hx
    refine⟨.own _ 0 _ h5.2 ?_,h5.2⟩
    have h6:=h5.1.ao
    subst h6
    refine(iy (M:=M) (e:=e) (size:=size) (els:=[]) (by rw[getElem?_set_ne (by omega)];simp)).2 ⟨Nat.le_refl _,fun _=>by rw[←hlen];simp⟩
   ·rw[getElem?_set_ne hj] at hx
    exact⟨(q4 j x u hx hu).1.ext he,(q4 j x u hx hu).2⟩
  ·simp only at g1
   rw[getElem?_set_ne hq] at g1
   exact(h1.heap.obj q o u g1 g2).ext he (Nat.le_refl _) fun _ _ _=>rfl
 ·have conv:∀{q:Nat} {o:af},((hp++[eu M e size []]).set r (.box (cs.set k (.own hp.length 0))))[q]?=some o→o.live→∃o',(hp++[eu M e size []])[q]?=some o'∧o'.live:=by
   intro q o g hl
   by_cases hq:r=q
   ·subst hq;exact⟨_,ec,True.intro⟩
   ·rw[getElem?_set_ne hq] at g;exact⟨o,g,hl⟩
  obtain⟨o1,p1,p2⟩:=conv g1 l1
  obtain⟨o2,p3,p4⟩:=conv g2 l2
  exact h1.heap.sep q q' o1 o2 u u' b bj p1 p3 p2 p4 e1 e2 VE
 ·by_cases hq:r=q
  ·subst hq;exact h1.bA r _ u b ec True.intro g2 VE
  ·simp only at g1
   rw[getElem?_set_ne hq] at g1;exact h1.bA q o u b g1 hl g2 VE
end Go.Proofs.YtdcikhleahfknaaGreatDoor
