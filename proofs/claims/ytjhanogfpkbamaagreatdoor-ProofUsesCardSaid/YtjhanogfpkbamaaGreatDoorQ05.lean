/- Texts of ours laid together for a claim: FilQ. -/
import Derived.Test.YtjhanogfpkbamaaGreatDoorQ04
namespace Go.Proofs.YtjhanogfpkbamaaGreatDoor
open Go
set_option linter.unusedSimpArgs false
set_option linter.unusedVariables false
variable {G:Type} {Γ:Env G} {s s':AS G} {a:Act} {w w':World} {η:List Value} {hp:List af} {P:Program} {ops:Array Oper}
theorem nR {az:Nat→Option TD} {ρ I3:Operand→AV} {op:Op} (h:∀x∈op.operands,ρ x=I3 x):bN az hp ρ op=bN az hp I3 op:=by
 cases op with
 |move x=>simp only[bN,h x (by simp[Op.operands])]
 |assign x=>simp only[bN,h x (by simp[Op.operands])]
 |nilCheck x=>simp only[bN,h x (by simp[Op.operands])]
 |pick c x y=>simp only[bN,h c (by simp[Op.operands]),h x (by simp[Op.operands]),h y (by simp[Op.operands])]
 |fieldAddr T x f=>simp only[bN,h x (by simp[Op.operands])]
 |load T x=>simp only[bN,h x (by simp[Op.operands])]
 |indexAddr T x i=>simp only[bN,h x (by simp[Op.operands]),h i (by simp[Op.operands])]
 |binOp op T x y T'=>simp only[bN,h x (by simp[Op.operands]),h y (by simp[Op.operands])]
 |unOp op T x=>simp only[bN,h x (by simp[Op.operands])]
 |convert S D x=>simp only[bN,h x (by simp[Op.operands])]
 |field T x f=>simp only[bN,h x (by simp[Op.operands])]
 |extract x i=>simp only[bN,h x (by simp[Op.operands])]
 |index T x i=>simp only[bN,h x (by simp[Op.operands]),h i (by simp[Op.operands])]
 |lookup T m k ok=>simp only[bN,h m (by simp[Op.operands]),h k (by simp[Op.operands])]
 |build T parts=>
  have:(parts.toList.map fun p=>(p.1,ρ p.2))=parts.toList.map fun p=>(p.1,I3 p.2):=ai7 fun p hp'=>by
   rw[h p.2 (by simp only[Op.operands,List.mem_toArray,aiQ];exact⟨p,hp',rfl⟩)]
  simp only[bN,this]
 |buildSlice T n parts=>
  have:(parts.toList.map fun p=>(ρ p.2).cm hp)=parts.toList.map fun p=>(I3 p.2).cm hp:=ai7 fun p hp'=>by
   rw[h p.2 (by simp only[Op.operands,List.mem_toArray,aiQ];exact⟨p,hp',rfl⟩)]
  simp only[bN,this]
 |makeFunc fn first caps=>
  have:caps.toList.map ρ=caps.toList.map I3:=ai7 fun x hx=>h x (by simp only[Op.operands,ajy];exact .inr (by simpa using hx))
  have h2:first.toList.map ρ=first.toList.map I3:=ai7 fun x hx=>h x (by simp only[Op.operands,ajy];exact .inl (by simpa using hx))
  cases fn<;>simp only[bN,this,h2]
 |slice T x lo hi mx=>
  have h1:∀d,cg ρ d lo=cg I3 d lo:=fun d=>by cases lo with|none=>rfl|some y=>simp only[cg,h y (by simp[Op.operands])]
  have h2:∀d,cg ρ d hi=cg I3 d hi:=fun d=>by cases hi with|none=>rfl|some y=>simp only[cg,h y (by simp[Op.operands])]
  have h3:(mx.map fun m=>cg ρ 0 (some m))=mx.map fun m=>cg I3 0 (some m):=by
   cases mx with
   |none=>rfl
   |some m=>simp only[aiv,cg,h m (by simp[Op.operands])]
  cases mx<;>simp only[bN,h x (by simp[Op.operands]),h1,h2,h3]
 |call c=>
  simp only[bN]
  have hl:∀l,c.args.toList=l→∀x∈l,ρ x=I3 x:=fun l hl x hx=>h x (by
   simp only[Op.operands,Call.operands,ajy]
   exact .inr (by rw[←ajv,hl];exact hx))
  split
  ·rename_i x hb KR
   simp only[hl _ KR x (by simp)]
  ·rename_i x y hb KR
   simp only[hl _ KR x (by simp),hl _ KR y (by simp)]
  ·rename_i x y hb KR
   simp only[hl _ KR x (by simp),hl _ KR y (by simp)]
  ·rfl
 |_=>rfl
theorem kL {o:Oper} {x:Operand} (hx:x∈o.op.operands):(s.only (o.looksAt ops)).ev x=s.ev x:=by
 cases x with
 |tmp t=>
  show (if t∈o.looksAt ops then s.tmps t else .top)=s.tmps t
  rw[if_pos]
  unfold Oper.looksAt
  refine aje _ (ajQ.2 ⟨.tmp t,by simpa using hx,rfl⟩)
 |_=>rfl
theorem tq.MU {o:Oper} {r:AV} (h:gi Γ o s r):tq Γ o s r:=by
 intro a w η Kc Qc hr hk
 obtain⟨v,w',h1,h2,h3⟩:=h a w η hr
 refine⟨fun _ _=>trivial,?_⟩
 rw[kP h1 (.inl ⟨v,rfl⟩)]
 exact hk v w' h2 h3
theorem tq.pure (aD:Γ.Ok) {o:Oper} {c:Call} {x:Operand} (ho:o.op=.call c) (hc:c.callee=.value x) {f:FuncId} {caps:List AV} (hx:s.ev x=.ck f caps) {r:AV}
  (hP:av Γ.P f ((c.args.toList.map s.ev++caps).map (AV.cm s.hp)) r):tq Γ o s r:=by
 intro a w η Kc Qc hr hk
 have eU:=hr.ev x
 rw[hx] at eU
 generalize hv:a.eval x=v at eU
 cases eU with
 |ck _ _ vs hl ec=>
  refine⟨fun _ _=>trivial,?_⟩
  have bK:∀c',o.op ≠ .defer c':=by intro c' h;rw[ho] at h;cases h
  rw[Oper.semAt_eq _ _ _ bK,gC ho hc hP.1 hv]
  have aI:(c.args.map a.eval++vs)=(c.args.toList.map a.eval++vs.toList).toArray:=by apply ajm;simp
  have eu:cH w (bn Γ w η s.hp) η s.hp caps vs.toList:=dF (by simpa using hl) fun j y u hy hu=>ec j y u hy (by simpa using hu)
  have iC:=lY hr _ _ (eD _ _ (hO hr c.args.toList) eu)
  refine⟨fun h=>(by cases h),?_⟩
  rw[aI]
  have mR:=hP.2 w (bn Γ w η s.hp) _ (fun _ _=>fz) (hr.kg aD) iC
  refine CallsIn.mono (F:=Γ.eV) ?_ (R:=fun e w'=>∃v q,e=.returned v∧q=r∧bX w w'∧bw w' (Ho (bn Γ w η s.hp) w w') [] [] q v) fun e w' ⟨u,q,he,hR,hs,XL⟩=>?_
  ·exact mR
  ·subst he;subst hR
   exact hk u w' hs ((XL.bD fun b o h=>yx aD hr hs h).lift)
def fJ (s:AS G):Op→Option (Nat×List AV)
 | .call c=>(match c.callee with
  | .value x=>(match s.ev x with
   | .ck f caps=>some (f,(c.args.toList.map s.ev++caps).map (AV.cm s.hp))
   |_=>none)
  |_=>none)
 |_=>none
def DStep (Γ:Env G) (az:Nat→Option TD) (o:Oper) (s:AS G) (next rest:AS G→Prop):Prop:=
 match bN az s.hp s.ev o.op with
 |some (c,r)=>c∧next (s.put o.dst r)
 |none=>(match fJ s o.op with
  |some (f,args)=>∃r,av Γ.P f args r∧rest (s.put o.dst r)
  |none=>False)
def mV (Γ:Env G) (az:Nat→Option TD) (nt:Nat) (ops:Array Oper) (K:AS G→Prop):List Oper→AS G→Prop
 | [],s=>K s
 |o::rest,s=>if cF o.op=true then dB nt o.dst∧o.guard=none∧(match dV az s.hp s.ev o.op with
   |some (c,r,hp')=>c∧mV Γ az nt ops K rest (AS.put { s with hp:=hp' } o.dst r)
   |none=>False)
  else dB nt o.dst∧(match o.guard with
   |none=>DStep Γ az o s (mV Γ az nt ops K rest) (uU Γ ops K rest)
   |some (j,want)=>(match jW ops s j with
    |some (some b)=>(b=want→DStep Γ az o s (mV Γ az nt ops K rest) (uU Γ ops K rest))∧(¬b=want→mV Γ az nt ops K rest (s.put o.dst (.ah (.tuple #[]))))
    |some none=>mV Γ az nt ops K rest (s.put o.dst (.ah (.tuple #[])))
    |none=>False))
theorem DStep.sound (aD:Γ.Ok) {az:Nat→Option TD} (au:aT Γ.P az) {o:Oper} {next rest K':AS G→Prop} (h:DStep Γ az o s next rest) (h1:∀s,next s→K' s) (h2:∀s,rest s→K' s):
  ∃x,tq Γ o (s.only (o.looksAt ops)) x∧K' (s.put o.dst x):=by
 unfold DStep at h
 split at h
 ·rename_i c r hp'
  refine⟨r,.MU (r6 aD au (c:=c) ?_ h.1),h1 _ h.2⟩
  rw[←hp']
  exact nR fun x hx=>kL hx
 ·split at h
  ·rename_i f args uT
   obtain⟨r,hP,hr⟩:=h
   refine⟨r,?_,h2 _ hr⟩
   unfold fJ at uT
   split at uT
   ·rename_i c hc
    split at uT
    ·rename_i x hx
     split at uT
     ·rename_i f' caps eu
      simp only[Option.some.injEq,Prod.mk.injEq] at uT
      obtain⟨rfl,rfl⟩:=uT
      have gD:∀y∈c.args.toList,y∈o.op.operands:=fun y hy=>by rw[hc];simp only[Op.operands,Call.operands,ajy];exact .inr (by simpa using hy)
      refine tq.pure aD hc hx (f:=f') (caps:=caps) ?_ ?_
      ·rw[kL (by rw[hc];simp[Op.operands,Call.operands,hx])];exact eu
      ·have:c.args.toList.map (s.only (o.looksAt ops)).ev=c.args.toList.map s.ev:=ai7 fun y hy=>kL (gD y hy)
       rw[this];exact hP
     ·cases uT
    ·cases uT
   ·cases uT
  ·exact h.elim
theorem mV.sound (aD:Γ.Ok) {az:Nat→Option TD} (au:aT Γ.P az) {nt:Nat} (dI:nt=Γ.nt) {K:AS G→Prop}:∀(l:List Oper) (s:AS G),mV Γ az nt ops K l s→uU Γ ops K l s:=by
 subst dI
 intro l
 induction l with
 |nil=>intro s h;exact h
 |cons o rest ih=>
  intro s h
  simp only[mV] at h
  simp only[uU]
  split at h
  ·rename_i he
   rw[if_pos he]
   obtain⟨h1,h2,h3⟩:=h
   split at h3
   ·rename_i c r hp' hh
    exact⟨h1,h2,r,hp',jy aD au hh h3.1,ih _ h3.2⟩
   ·exact h3.elim
  ·rename_i he
   rw[if_neg he]
   obtain⟨h1,h2⟩:=h
   split at h2
   ·rename_i hg
    obtain⟨x,h3,h4⟩:=DStep.sound (ops:=ops) aD au h2 ih fun _ h=>h
    exact⟨x,⟨h1,.inl ⟨by simp[aM,hg],h3⟩⟩,h4⟩
   ·rename_i j want hg
    split at h2
    ·rename_i b hb
     by_cases jX:b=want
     ·obtain⟨x,h3,h4⟩:=DStep.sound (ops:=ops) aD au (h2.1 jX) ih fun _ h=>h
      exact⟨x,⟨h1,.inl ⟨by simp[aM,hg,hb,jX],h3⟩⟩,h4⟩
     ·exact⟨_,⟨h1,.inr ⟨by simp[aM,hg,hb,jX],rfl⟩⟩,ih _ (h2.2 jX)⟩
    ·rename_i hb
     exact⟨_,⟨h1,.inr ⟨by simp[aM,hg,hb],rfl⟩⟩,ih _ h2⟩
    ·exact h2.elim
theorem eM.draw (aD:Γ.Ok) (hm:Γ.P.follows .mixedOrders=true) {id:Nat} {l:List Oper} {Q:Exit→AS G→Prop} (hd:yz l=true) (h:uU Γ l.toArray (Q .normal) l s):eM Γ (.region id l.toArray true) Q s:=by
 intro a w η hr
 refine wpIn_region_any hm ?_
 have:=uU.any (Γ:=Γ) hd l 0 (Array.replicate l.length false) s (fun j=>by simp) (by simp) (fun j hj=>by simp[hj]) (by simp) h
 have h2:=rA.sound (Qc:=fun e a' w'=>∃s' aU,Q e s'∧Rel Γ s' a' w' aU) aD (fun s' a' w' aU h1 h2=>⟨s',aU,h1,h2⟩) _ _ _ a w.drew η this (hr.same aD (bX.drew w))
 simpa using h2
def Sub (f' f:Nat→AV):Prop:=∀t,f' t=.top∨f' t=f t
theorem Sub.nil {f:Nat→AV}:Sub (fun _=>.top) f:=fun _=>.inl rfl
def AV.aR (n:Nat):AV→Bool
 | .own r _=>decide (r<n)
 | .ptr r _=>decide (r<n)
 | .mp r=>decide (r<n)
 | .agg _ | .aX _ | .ck _ _ | .fY _ _ _ _ | .cX _ _=>false
 |_=>true
def AV.dZ (n:Nat):AV→Bool
 | .agg cs=>cs.all (AV.aR n)
 |x=>x.aR n
def AV.closed (n:Nat):AV→Bool
 | .aX vs=>vs.all (AV.dZ n)
 | .ck _ caps=>caps.all (AV.dZ n)
 | .cX _ caps=>caps.all (AV.dZ n)
 |x=>x.dZ n
def af.closed (n:Nat):af→Bool
 | .box cs=>cs.all (AV.aR n)
 | .dD r _=>decide (r<n)
 |_=>true
def oW (n:Nat) (f:Nat→AV):Prop:=∀t,(f t).closed n=true
theorem oW.nil {n:Nat}:oW n (fun _=>.top):=fun _=>rfl
theorem oW.Bx {n:Nat} {f:Nat→AV} {t:Nat} {x:AV} (h:x.closed n=true) (h':oW n f):oW n (Bx f t x):=by
 intro u
 rw[gL]
 split
 ·exact h
 ·exact h' u
theorem yA {n r m:Nat} {v:Value} (hr:r<n) (h:aY η hp r m v):aY (η.take n) (hp.take n) r m v:=by
 unfold aY at h ⊢
 rw[aik,aik,if_pos hr,if_pos hr];exact h
theorem eE {F:Nat→Nat→Prop} {n:Nat} {x:AV} {v:Value} (eu:x.aR n=true) (h:bw w F η hp x v):bw w F (η.take n) (hp.take n) x v:=by
 cases h with
 |own r m v h1 h2=>exact .own r m v h1 (yA (by simpa [AV.aR] using eu) h2)
 |ptr r off b h1=>exact .ptr r off b (by rw[aik,if_pos (by simpa [AV.aR] using eu)];exact h1)
 |mp r b h1=>exact .mp r b (by rw[aik,if_pos (by simpa [AV.aR] using eu)];exact h1)
 |agg cs vs hl h1 hr=>simp[AV.aR] at eu
 |aX cs vs hl hr=>simp[AV.aR] at eu
 |ck fn cs vs hl hr=>simp[AV.aR] at eu
 |top v=>exact .top v
 |ah v=>exact .ah v
 |fn v h1=>exact .fn v h1
 |pE a=>exact .pE a
 |kA a=>exact .kA a
 |sl size els b o c f hc hm hl aN hr=>exact .sl size els b o c f hc hm hl aN hr
 |clip size els b o f hm hl aN hr=>exact .clip size els b o f hm hl aN hr
 |cL e off b o f aN hr=>exact .cL e off b o f aN hr
 |fH b es c h hF l hl=>exact .fH b es c h hF l hl
 |fY r n i size b o c k h=>simp[AV.aR] at eu
 |cX fn cs vs hl hr=>simp[AV.aR] at eu
theorem l5 {F:Nat→Nat→Prop} {n:Nat} {x:AV} {v:Value} (hc:x.dZ n=true) (h:bw w F η hp x v):bw w F (η.take n) (hp.take n) x v:=by
 cases x with
 |agg cs=>
  cases h with
  |agg _ vs hl h1 hr=>exact .agg cs vs hl h1 fun j x v hx hv=>eE (by simp only[AV.dZ,ah4] at hc;exact hc x (aic hx)) (hr j x v hx hv)
 |_=>exact eE hc h
theorem nT {F:Nat→Nat→Prop} {n:Nat} {x:AV} {v:Value} (hc:x.closed n=true) (h:bw w F η hp x v):bw w F (η.take n) (hp.take n) x v:=by
 cases x with
 |aX cs=>
  cases h with
  |aX _ vs hl hr=>exact .aX cs vs hl fun j x v hx hv=>l5 (by simp only[AV.closed,ah4] at hc;exact hc x (aic hx)) (hr j x v hx hv)
 |ck f cs=>
  cases h with
  |ck _ _ vs hl hr=>exact .ck f cs vs hl fun j x v hx hv=>l5 (by simp only[AV.closed,ah4] at hc;exact hc x (aic hx)) (hr j x v hx hv)
 |cX f cs=>
  cases h with
  |cX _ _ vs hl hr=>exact .cX f cs vs hl fun j x v hx hv=>l5 (by simp only[AV.closed,ah4] at hc;exact hc x (aic hx)) (hr j x v hx hv)
 |_=>exact l5 hc h
theorem cT.cutAt {f f':Nat→AV} {hp:List af} {g:G} (aD:Γ.Ok) (n:Nat) (hn:Γ.oQ.length≤n) (hs:Sub f' f) (hc:oW n f') (ho:∀o∈hp.take n,af.closed n o=true) (hr:Rel Γ ⟨f,hp,g⟩ a w η):Rel Γ ⟨f',hp.take n,g⟩ a w (η.take n):=by
 have hlen:η.length=hp.length:=hr.heap.len
 have ep:∀{r:Nat} {o:af},(hp.take n)[r]?=some o→hp[r]?=some o∧r<n:=by
  intro r o h
  rw[aik] at h
  split at h
  ·rename_i ay;exact⟨h,ay⟩
  ·cases h
 have yB:∀{r:Nat} {v:Value},(η.take n)[r]?=some v→η[r]?=some v∧r<n:=by
  intro r o h
  rw[aik] at h
  split at h
  ·rename_i ay;exact⟨h,ay⟩
  ·cases h
 have jQ:∀b o,bn Γ w η hp b o→bn Γ w (η.take n) (hp.take n) b o:=by
  intro b o hf
  refine⟨hf.1,hf.2.1,hf.2.2.1,(aZ b o).2 fun r v hv hb=>?_⟩
  obtain⟨h1,h2⟩:=yB hv
  obtain⟨o1,q1,q2⟩:=(aZ b o).1 hf.2.2.2 r v h1 hb
  exact⟨o1,by rw[aik,if_pos h2];exact q1,q2⟩
 have fI:∀{zY:List Value} {oQ:List af} {x:AV} {v:Value},bw w (bn Γ w η hp) zY oQ x v→bw w (bn Γ w (η.take n) (hp.take n)) zY oQ x v:=
  fun h=>h.ext ⟨fun _ _ _ _ h=>h,fun _ _ _ _ h=>h,jQ,fun _ _ h=>h,fun _ _ h=>h,fun _ _ _ h=>h⟩
 refine⟨hr.nt,fun t=>?_,⟨by simp only[aid,hlen],fun r o v h1 h2=>?_,fun r r' o o' v v' b bK h1 h2 l1 l2 e1 e2 hb=>?_⟩,fun r o v b h1 hl h2 hb=>?_,hr.keeps,hr.inv,hr.marks,⟨hr.ext.cell,hr.ext.kJ,fun b o hb=>jQ b o (hr.ext.bD b o hb),fun r x hx=>?_,fun r x hx=>?_,fun r m v hx=>?_⟩⟩
 ·rcases hs t with h1|h1
  ·show bw w _ _ _ (f' t) _
   rw[h1];exact .top _
  ·have h2:=hr.tmps t
   have h3:=hc t
   rw[h1] at h3
   show bw w _ _ _ (f' t) _
   rw[h1]
   exact fI (nT h3 h2)
 ·obtain⟨g1,g2⟩:=ep h1
  obtain⟨g3,_⟩:=yB h2
  have eP:=hr.heap.obj r o v g1 g3
  have eu:=ho o (aic h1)
  cases o with
  |dead=>exact True.intro
  |box cs=>
   obtain⟨b,vs,T,e1,e2,e3,e4⟩:=eP
   exact⟨b,vs,T,e1,e2,e3,fun j x u hx hu=>⟨fI (eE (by simp only[af.closed,ah4] at eu;exact eu x (aic hx)) (e4 j x u hx hu).1),(e4 j x u hx hu).2⟩⟩
  |row e size els=>
   obtain⟨e0,xs,e1,e2⟩:=eP
   exact⟨e0,xs,e1,fun i el hi=>⟨(e2 i el hi).1,fun j x hj=>let ⟨u,q1,q2,q3⟩:=(e2 i el hi).2 j x hj;⟨u,q1,fI q2,q3⟩⟩⟩
  |cQ es=>exact eP
  |dD q k=>
   obtain⟨b,vs,e1,e2,e3,e4,u,e5,e6⟩:=eP
   exact⟨b,vs,e1,e2,e3,e4,u,e5,fI (eE (x:=.own q k) (by simpa [AV.aR,af.closed] using eu) e6)⟩
  |bM e size els=>
   obtain⟨e0,xs,e1,e2⟩:=eP
   exact⟨e0,xs,e1,fun i el hi=>⟨(e2 i el hi).1,fun j x hj=>let ⟨u,q1,q2,q3⟩:=(e2 i el hi).2 j x hj;⟨u,q1,fI q2,q3⟩⟩⟩
  |eH e m ns=>exact eP
 ·exact hr.heap.sep r r' o o' v v' b bK (ep h1).1 (ep h2).1 l1 l2 (yB e1).1 (yB e2).1 hb
 ·exact hr.cE r o v b (ep h1).1 hl (yB h2).1 hb
 ·have:r<n:=by have:=(ahY.1 hx).1;have:=aD.l0;omega
  rw[aik,if_pos this];exact hr.ext.ptr r x hx
 ·have:r<n:=by have:=(ahY.1 hx).1;have:=aD.l0;omega
  rw[aik,if_pos this];exact hr.ext.mp r x hx
 ·have:r<n:=by
   unfold aY at hx
   cases fZ:Γ.oQ[r]? with
   |none=>rw[fZ] at hx;exact hx.elim
   |some o=>have:=(ahY.1 fZ).1;omega
  exact yA this (hr.ext.own r m v hx)
theorem cT.cut {f f':Nat→AV} {hp hp':List af} {g:G} (aD:Γ.Ok) (n:Nat) (hn:Γ.oQ.length≤n) (hs:Sub f' f) (hc:oW n f') (ht:hp.take n=hp') (ho:∀o∈hp',af.closed n o=true):cT Γ ⟨f,hp,g⟩ ⟨f',hp',g⟩:=by
 subst ht
 exact fun a w η hr=>⟨η.take n,cT.cutAt aD n hn hs hc ho hr⟩
theorem cT.MV {M:Bool} (aD:Γ.Ok) {f:Nat→AV} {hp:List af} {g:G} (t e size:Nat) (cJ:0<size) (ht:f t=.ah (.slice none 0 0)):cT Γ ⟨f,hp,g⟩ ⟨Bx f t (.own hp.length 0),hp++[pH M e size []],g⟩:=by
 intro a w η hr
 have h1:=hr.add aD (o:=pH M e size []) (v:=.slice none 0 0) (bX.refl w) (fun b hb=>by simp[dK] at hb) (pS.2 ⟨cJ,[],⟨by simp,.inl ⟨rfl,.inl rfl⟩⟩,fun i el hi=>by simp at hi⟩)
 refine⟨η++[.slice none 0 0],h1.nt,fun u=>?_,h1.heap,h1.cE,h1.keeps,h1.inv,h1.marks,h1.ext⟩
 show bw w _ _ _ (Bx f t (.own hp.length 0) u) _
 rw[gL]
 split
 ·rename_i hu
  subst hu
  have h2:=hr.tmps u
  simp only[ht] at h2
  rw[h2.aE]
  have hlen:η.length=hp.length:=hr.heap.len
  exact .own _ 0 _ rfl ((mK (M:=M) (e:=e) (size:=size) (els:=[]) (by simp)).2 ⟨ah5 _,fun _=>by rw[←hlen];simp⟩)
 ·exact h1.tmps u
theorem cT.row (aD:Γ.Ok) {f:Nat→AV} {hp:List af} {g:G} (t e size:Nat) (cJ:0<size) (ht:f t=.ah (.slice none 0 0)):cT Γ ⟨f,hp,g⟩ ⟨Bx f t (.own hp.length 0),hp++[.row e size []],g⟩:=cT.MV (M:=false) aD t e size cJ ht
theorem cT.VS (aD:Γ.Ok) {f:Nat→AV} {hp:List af} {g:G} (r k e size:Nat) (cJ:0<size) {cs:List AV} (hb:hp[r]?=some (.box cs)) (hk:cs[k]?=some (.ah (.slice none 0 0))):
  cT Γ ⟨f,hp,g⟩ ⟨f,hp.set r (.box (cs.set k (.own hp.length 0)))++[.row e size []],g⟩:=by
 intro a w η hr
 have h1:=hr.add aD (o:=.row e size []) (v:=.slice none 0 0) (bX.refl w) (fun b hb=>by simp[dK] at hb) ⟨cJ,[],⟨by simp,.inl ⟨rfl,.inl rfl⟩⟩,fun i el hi=>by simp at hi⟩
 have abB:r<hp.length:=(ahY.1 hb).1
 have wK:hp.set r (.box (cs.set k (.own hp.length 0)))++[af.row e size []]=(hp++[af.row e size []]).set r (.box (cs.set k (.own hp.length 0))):=by
  rw[List.set_append,if_pos abB]
 have gb:(hp++[af.row e size []])[r]?=some (.box cs):=cM hb
 have hlen:η.length=hp.length:=hr.heap.len
 obtain⟨v,hv⟩:∃v,(η++[Value.slice none 0 0])[r]?=some v:=⟨_,ah2 (by simp;omega)⟩
 have eP:=h1.heap.obj r _ v gb hv
 have Qx:∀b o,bn Γ w (η++[Value.slice none 0 0]) (hp++[af.row e size []]) b o→bn Γ w (η++[Value.slice none 0 0]) ((hp++[af.row e size []]).set r (.box (cs.set k (.own hp.length 0)))) b o:=by
  intro b o hf
  refine⟨hf.1,hf.2.1,hf.2.2.1,(aZ b o).2 fun q u hu Mg=>?_⟩
  obtain⟨o1,q1,q2⟩:=(aZ b o).1 hf.2.2.2 q u hu Mg
  by_cases hq:r=q
  ·subst hq;rw[gb] at q1;obtain rfl:=Option.some.inj q1;exact q2.elim
  ·exact⟨o1,by rw[getElem?_set_ne hq];exact q1,q2⟩
 have uK:∀q n u,aY (η++[Value.slice none 0 0]) (hp++[af.row e size []]) q n u→aY (η++[Value.slice none 0 0]) ((hp++[af.row e size []]).set r (.box (cs.set k (.own hp.length 0)))) q n u:=by
  intro q n u ho
  unfold aY at ho ⊢
  by_cases hq:r=q
  ·subst hq;rw[gb] at ho;exact ho.elim
  ·rw[getElem?_set_ne hq];exact ho
 have he:Ext w (bn Γ w (η++[Value.slice none 0 0]) (hp++[af.row e size []])) (η++[Value.slice none 0 0]) (hp++[af.row e size []]) w (bn Γ w (η++[Value.slice none 0 0]) ((hp++[af.row e size []]).set r (.box (cs.set k (.own hp.length 0))))) (η++[Value.slice none 0 0]) ((hp++[af.row e size []]).set r (.box (cs.set k (.own hp.length 0)))):=
  ⟨fun _ _ _ _ h=>h,fun _ _ _ _ h=>h,Qx,fun _ _ h=>h,fun _ _ h=>h,uK⟩
 rw[wK]
 refine⟨η++[.slice none 0 0],h1.nt,fun u=>(h1.tmps u).ext he,⟨by simp[hlen],fun q o u g1 g2=>?_,fun q q' o o' u u' b bK g1 g2 l1 l2 e1 e2 VT=>?_⟩,fun q o u b g1 hl g2 VT=>?_,h1.keeps,h1.inv,h1.marks,(by exact h1.ext.trans he)⟩
 ·by_cases hq:r=q
  ·subst hq
   simp only at g1
   rw[aA gb] at g1
   obtain rfl:=Option.some.inj g1
   rw[hv] at g2
   obtain rfl:=Option.some.inj g2
   obtain⟨b,vs,T,q1,q2,q3,q4⟩:=eP
   refine⟨b,vs,T,q1,q2,by simpa using q3,fun j x u hx hu=>?_⟩
   by_cases hj:k=j
   ·subst hj
    have iK:k<cs.length:=(ahY.1 hk).1
    have h5:=q4 k _ u hk hu
    rw[ajk] at hx
    simp only[if_true,if_pos iK] at hx
    obtain rfl:=Option.some.inj hx
    refine⟨.own _ 0 _ h5.2 ?_,h5.2⟩
    have h6:=h5.1.aE
    subst h6
    unfold aY
    rw[getElem?_set_ne (by omega)]
    rw[show (hp++[af.row e size []])[hp.length]?=some (.row e size []) from by simp]
    exact⟨ah5 _,fun _=>by rw[←hlen];simp⟩
   ·rw[getElem?_set_ne hj] at hx
    exact⟨(q4 j x u hx hu).1.ext he,(q4 j x u hx hu).2⟩
  ·simp only at g1
   rw[getElem?_set_ne hq] at g1
   exact(h1.heap.obj q o u g1 g2).ext he (ah5 _) fun _ _ _=>rfl
 ·have conv:∀{q:Nat} {o:af},((hp++[af.row e size []]).set r (.box (cs.set k (.own hp.length 0))))[q]?=some o→o.live→∃o',(hp++[af.row e size []])[q]?=some o'∧o'.live:=by
   intro q o g hl
   by_cases hq:r=q
   ·subst hq;exact⟨_,gb,True.intro⟩
   ·rw[getElem?_set_ne hq] at g;exact⟨o,g,hl⟩
  obtain⟨o1,p1,p2⟩:=conv g1 l1
  obtain⟨o2,p3,p4⟩:=conv g2 l2
  exact h1.heap.sep q q' o1 o2 u u' b bK p1 p3 p2 p4 e1 e2 VT
 ·by_cases hq:r=q
  ·subst hq;exact h1.cE r _ u b gb True.intro g2 VT
  ·simp only at g1
   rw[getElem?_set_ne hq] at g1;exact h1.cE q o u b g1 hl g2 VT
end Go.Proofs.YtjhanogfpkbamaaGreatDoor
