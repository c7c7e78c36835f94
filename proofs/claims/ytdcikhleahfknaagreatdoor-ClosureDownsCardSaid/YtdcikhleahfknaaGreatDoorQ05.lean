/- Texts of ours laid together for a claim: FilQ. -/
import Derived.Test.YtdcikhleahfknaaGreatDoorQ04
namespace Go.Proofs.YtdcikhleahfknaaGreatDoor
open Go
set_option linter.unusedSimpArgs false
set_option linter.unusedVariables false
variable {G:Type} {Γ:Env G} {s s':AS G} {a:Act} {w w':World} {η:List Value} {hp:List af} {P:Program} {ops:Array Oper}
theorem na {tab:Nat->Option TD} {ρ JG:Operand->AV} {op:Op} (h:∀x∈op.operands,ρ x=JG x):bC tab hp ρ op=bC tab hp JG op:=by
 cases op with
 |move x=>simp only[bC,h x (by simp[Op.operands])]
 |assign x=>simp only[bC,h x (by simp[Op.operands])]
 |nilCheck x=>simp only[bC,h x (by simp[Op.operands])]
 |pick c x y=>simp only[bC,h c (by simp[Op.operands]),h x (by simp[Op.operands]),h y (by simp[Op.operands])]
 |fieldAddr T x f=>simp only[bC,h x (by simp[Op.operands])]
 |load T x=>simp only[bC,h x (by simp[Op.operands])]
 |indexAddr T x i=>simp only[bC,h x (by simp[Op.operands]),h i (by simp[Op.operands])]
 |binOp op T x y T'=>simp only[bC,h x (by simp[Op.operands]),h y (by simp[Op.operands])]
 |unOp op T x=>simp only[bC,h x (by simp[Op.operands])]
 |convert S D x=>simp only[bC,h x (by simp[Op.operands])]
 |field T x f=>simp only[bC,h x (by simp[Op.operands])]
 |extract x i=>simp only[bC,h x (by simp[Op.operands])]
 |index T x i=>simp only[bC,h x (by simp[Op.operands]),h i (by simp[Op.operands])]
 |lookup T m k ok=>simp only[bC,h m (by simp[Op.operands]),h k (by simp[Op.operands])]
 |build T parts=>
  have:(parts.toList.map fun p=>(p.1,ρ p.2))=parts.toList.map fun p=>(p.1,JG p.2):=amM fun p hp'=>by
   rw[h p.2 (by simp only[Op.operands,List.mem_toArray,amz];exact⟨p,hp',rfl⟩)]
  simp only[bC,this]
 |buildSlice T n parts=>
  have:(parts.toList.map fun p=>(ρ p.2).bB hp)=parts.toList.map fun p=>(JG p.2).bB hp:=amM fun p hp'=>by
   rw[h p.2 (by simp only[Op.operands,List.mem_toArray,amz];exact⟨p,hp',rfl⟩)]
  simp only[bC,this]
 |makeFunc fn first caps=>
  have:caps.toList.map ρ=caps.toList.map JG:=amM fun x hx=>h x (by simp only[Op.operands,am3];exact .inr (by simpa using hx));have h2:first.toList.map ρ=first.toList.map JG:=amM fun x hx=>h x (by simp only[Op.operands,am3];exact .inl (by simpa using hx))
  cases fn<;>simp only[bC,this,h2]
 |slice T x lo hi mx=>
  have h1:∀d,bL ρ d lo=bL JG d lo:=fun d=>by cases lo with|none=>rfl|some y=>simp only[bL,h y (by simp[Op.operands])]
  have h2:∀d,bL ρ d hi=bL JG d hi:=fun d=>by cases hi with|none=>rfl|some y=>simp only[bL,h y (by simp[Op.operands])]
  have h3:(mx.map fun m=>bL ρ 0 (some m))=mx.map fun m=>bL JG 0 (some m):=by
   cases mx with
   |none=>rfl
   |some m=>simp only[al7,bL,h m (by simp[Op.operands])]
  cases mx<;>simp only[bC,h x (by simp[Op.operands]),h1,h2,h3]
 |call c=>
  simp only[bC];have hl:∀l,c.args.toList=l->∀x∈l,ρ x=JG x:=fun l hl x hx=>h x (by
   simp only[Op.operands,Call.operands,am3]
   exact .inr (by rw[<-amZ,hl];exact hx))
  split
  ·rename_i x hb Lb;simp only[hl _ Lb x (by simp)]
  ·rename_i x y hb Lb;simp only[hl _ Lb x (by simp),hl _ Lb y (by simp)]
  ·rename_i x y hb Lb;simp only[hl _ Lb x (by simp),hl _ Lb y (by simp)]
  ·rfl
 |_=>rfl
theorem jG {o:Oper} {x:Operand} (hx:x∈o.op.operands):(s.only (o.looksAt ops)).ev x=s.ev x:=by
 cases x with
 |tmp t=>
  show (if t∈o.looksAt ops then s.tmps t else .top)=s.tmps t;rw[if_pos];unfold Oper.looksAt;refine amD _ (List.mem_filterMap.2 ⟨.tmp t,by simpa using hx,rfl⟩)
 |_=>rfl
theorem rP.Ns {o:Oper} {r:AV} (h:fb Γ o s r):rP Γ o s r:=by
 intro a w η Kc Qc hr hk;obtain⟨v,w',h1,h2,h3⟩:=h a w η hr;refine⟨fun _ _=>trivial,?_⟩;rw[jK h1 (.inl ⟨v,rfl⟩)];exact hk v w' h2 h3
theorem rP.pure (ax:Γ.Ok) {o:Oper} {c:Call} {x:Operand} (ho:o.op=.call c) (hc:c.callee=.value x) {f:FuncId} {caps:List AV} (hx:s.ev x=.aY f caps) {r:AV}
  (hP:ag Γ.P f ((c.args.toList.map s.ev++caps).map (AV.bB s.hp)) r):rP Γ o s r:=by
 intro a w η Kc Qc hr hk;have dO:=hr.ev x;rw[hx] at dO;generalize hv:a.eval x=v at dO
 cases dO with
 |aY _ _ vs hl cX=>
  refine⟨fun _ _=>trivial,?_⟩;have bu:∀c',o.op ≠ .defer c':=by intro c' h;rw[ho] at h;cases h
  rw[Oper.semAt_eq _ _ _ bu,fB ho hc hP.1 hv];have aF:(c.args.map a.eval++vs)=(c.args.toList.map a.eval++vs.toList).toArray:=by apply amT;simp
  have dx:bZ w (bk Γ w η s.hp) η s.hp caps vs.toList:=cF (by simpa using hl) fun j y u hy hu=>cX j y u hy (by simpa using hu);have gy:=kW hr _ _ (dI _ _ (gk hr c.args.toList) dx);refine⟨fun h=>(by cases h),?_⟩;rw[aF];have jZ:=hP.2 w (bk Γ w η s.hp) _ (fun _ _=>dZ) (hr.gL ax) gy;refine CallsIn.mono (F:=Γ.ec) ?_ (R:=fun e w'=>∃v q,e=.returned v/\q=r/\bI w w'/\bm w' (Onto (bk Γ w η s.hp) w w') [] [] q v) fun e w' ⟨u,q,he,hR,hs,hru⟩=>?_
  ·exact jZ
  ·subst he;subst hR;exact hk u w' hs ((hru.bg fun b o h=>wZ ax hr hs h).lift)
def eJ (s:AS G):Op->Option (Nat×List AV)
 | .call c=>(match c.callee with
  | .value x=>(match s.ev x with
   | .aY f caps=>some (f,(c.args.toList.map s.ev++caps).map (AV.bB s.hp))
   |_=>none)
  |_=>none)
 |_=>none
def DStep (Γ:Env G) (tab:Nat->Option TD) (o:Oper) (s:AS G) (next rest:AS G->Prop):Prop:=
 match bC tab s.hp s.ev o.op with
 |some (c,r)=>c/\next (s.put o.dst r)
 |none=>(match eJ s o.op with
  |some (f,args)=>∃r,ag Γ.P f args r/\rest (s.put o.dst r)
  |none=>False)
def mf (Γ:Env G) (tab:Nat->Option TD) (nt:Nat) (ops:Array Oper) (K:AS G->Prop):List Oper->AS G->Prop
 | [],s=>K s
 |o::rest,s=>if cj o.op=true then cR nt o.dst/\o.guard=none/\(match dy tab s.hp s.ev o.op with
   |some (c,r,hp')=>c/\mf Γ tab nt ops K rest (AS.put { s with hp:=hp' } o.dst r)
   |none=>False)
  else cR nt o.dst/\(match o.guard with
   |none=>DStep Γ tab o s (mf Γ tab nt ops K rest) (tN Γ ops K rest)
   |some (j,want)=>(match iV ops s j with
    |some (some b)=>(b=want->DStep Γ tab o s (mf Γ tab nt ops K rest) (tN Γ ops K rest))/\(¬b=want->mf Γ tab nt ops K rest (s.put o.dst (.ae (.tuple #[]))))
    |some none=>mf Γ tab nt ops K rest (s.put o.dst (.ae (.tuple #[])))
    |none=>False))
theorem DStep.sound (ax:Γ.Ok) {tab:Nat->Option TD} (aj:aZ Γ.P tab) {o:Oper} {next rest K':AS G->Prop} (h:DStep Γ tab o s next rest) (h1:∀s,next s->K' s) (h2:∀s,rest s->K' s):
  ∃x,rP Γ o (s.only (o.looksAt ops)) x/\K' (s.put o.dst x):=by
 unfold DStep at h;split at h
 ·rename_i c r hp';refine⟨r,.Ns (qL ax aj (c:=c) ?_ h.1),h1 _ h.2⟩;rw[<-hp'];exact na fun x hx=>jG hx
 ·split at h
  ·rename_i f args tM;obtain⟨r,hP,hr⟩:=h;refine⟨r,?_,h2 _ hr⟩;unfold eJ at tM;split at tM
   ·rename_i c hc;split at tM
    ·rename_i x hx;split at tM
     ·rename_i f' caps dx;simp only[als,alx] at tM;obtain⟨rfl,rfl⟩:=tM;have S8:∀y∈c.args.toList,y∈o.op.operands:=fun y hy=>by rw[hc];simp only[Op.operands,Call.operands,am3];exact .inr (by simpa using hy)
      refine rP.pure ax hc hx (f:=f') (caps:=caps) ?_ ?_
      ·rw[jG (by rw[hc];simp[Op.operands,Call.operands,hx])];exact dx
      ·have:c.args.toList.map (s.only (o.looksAt ops)).ev=c.args.toList.map s.ev:=amM fun y hy=>jG (S8 y hy);rw[this];exact hP
     ·cases tM
    ·cases tM
   ·cases tM
  ·exact h.elim
theorem mf.sound (ax:Γ.Ok) {tab:Nat->Option TD} (aj:aZ Γ.P tab) {nt:Nat} (cW:nt=Γ.nt) {K:AS G->Prop}:∀(l:List Oper) (s:AS G),mf Γ tab nt ops K l s->tN Γ ops K l s:=by
 subst cW;intro l
 induction l with
 |nil=>intro s h;exact h
 |cons o rest ih=>
  intro s h;simp only[mf] at h;simp only[tN];split at h
  ·rename_i he;rw[if_pos he];obtain⟨h1,h2,h3⟩:=h;split at h3
   ·rename_i c r hp' hh;exact⟨h1,h2,r,hp',iB ax aj hh h3.1,ih _ h3.2⟩
   ·exact h3.elim
  ·rename_i he;rw[if_neg he];obtain⟨h1,h2⟩:=h;split at h2
   ·rename_i hg;obtain⟨x,h3,h4⟩:=DStep.sound (ops:=ops) ax aj h2 ih fun _ h=>h;exact⟨x,⟨h1,.inl ⟨by simp[aO,hg],h3⟩⟩,h4⟩
   ·rename_i j want hg;split at h2
    ·rename_i b hb
     by_cases iN:b=want
     ·obtain⟨x,h3,h4⟩:=DStep.sound (ops:=ops) ax aj (h2.1 iN) ih fun _ h=>h;exact⟨x,⟨h1,.inl ⟨by simp[aO,hg,hb,iN],h3⟩⟩,h4⟩
     ·exact⟨_,⟨h1,.inr ⟨by simp[aO,hg,hb,iN],rfl⟩⟩,ih _ (h2.2 iN)⟩
    ·rename_i hb;exact⟨_,⟨h1,.inr ⟨by simp[aO,hg,hb],rfl⟩⟩,ih _ h2⟩
    ·exact h2.elim
theorem dT.draw (ax:Γ.Ok) (hm:Γ.P.follows .mixedOrders=true) {id:Nat} {l:List Oper} {Q:Exit->AS G->Prop} (hd:w5 l=true) (h:tN Γ l.toArray (Q .normal) l s):dT Γ (.region id l.toArray true) Q s:=by
 intro a w η hr;refine wpIn_region_any hm ?_;have:=tN.any (Γ:=Γ) hd l 0 (Array.replicate l.length false) s (fun j=>by simp) (by simp) (fun j hj=>by simp[hj]) (by simp) h;have h2:=qn.sound (Qc:=fun e a' w'=>∃s' aN,Q e s'/\Rel Γ s' a' w' aN) ax (fun s' a' w' aN h1 h2=>⟨s',aN,h1,h2⟩) _ _ _ a w.drew η this (hr.same ax (bI.drew w));simpa using h2
def Sub (f' f:Nat->AV):Prop:=∀t,f' t=.top\/f' t=f t
theorem Sub.nil {f:Nat->AV}:Sub (fun _=>.top) f:=fun _=>.inl rfl
def AV.dV (n:Nat):AV->Bool
 | .ptr r _=>decide (r<n)
 | .ae _ | .aS _ _=>true
 |_=>false
def AV.aW (n:Nat):AV->Bool
 | .own r _=>decide (r<n)
 | .ptr r _=>decide (r<n)
 | .mp r=>decide (r<n)
 | .aY _ cs=>cs.all (AV.dV n)
 | .agg _ | .aL _ | .fa _ _ _ _ | .dm _ _=>false
 |_=>true
def AV.dp (n:Nat):AV->Bool
 | .agg cs=>cs.all (AV.aW n)
 |x=>x.aW n
def AV.closed (n:Nat):AV->Bool
 | .aL vs=>vs.all (AV.dp n)
 | .aY _ caps=>caps.all (AV.dp n)
 | .dm _ caps=>caps.all (AV.dp n)
 |x=>x.dp n
def af.closed (n:Nat):af->Bool
 | .box cs=>cs.all (AV.aW n)
 | .cU r _=>decide (r<n)
 |_=>true
def nU (n:Nat) (f:Nat->AV):Prop:=∀t,(f t).closed n=true
theorem nU.nil {n:Nat}:nU n (fun _=>.top):=fun _=>rfl
theorem nU.yZ {n:Nat} {f:Nat->AV} {t:Nat} {x:AV} (h:x.closed n=true) (h':nU n f):nU n (yZ f t x):=by
 intro u;rw[fc];split
 ·exact h
 ·exact h' u
theorem w6 {n r m:Nat} {v:Value} (hr:r<n) (h:aT η hp r m v):aT (η.take n) (hp.take n) r m v:=by
 unfold aT at h ⊢;rw[alO,alO,if_pos hr,if_pos hr];exact h
theorem DM {F:Nat->Nat->Prop} {n:Nat} {x:AV} {v:Value} (dx:x.dV n=true) (h:bm w F η hp x v):bm w F (η.take n) (hp.take n) x v:=by
 cases h with
 |ptr r off b h1=>exact .ptr r off b (by rw[alO,if_pos (by simpa [AV.dV] using dx)];exact h1)
 |ae v=>exact .ae v
 |aS e off b o f aE hr=>exact .aS e off b o f aE hr
 |_=>simp[AV.dV] at dx
theorem dJ {F:Nat->Nat->Prop} {n:Nat} {x:AV} {v:Value} (dx:x.aW n=true) (h:bm w F η hp x v):bm w F (η.take n) (hp.take n) x v:=by
 cases h with
 |own r m v h1 h2=>exact .own r m v h1 (w6 (by simpa [AV.aW] using dx) h2)
 |ptr r off b h1=>exact .ptr r off b (by rw[alO,if_pos (by simpa [AV.aW] using dx)];exact h1)
 |mp r b h1=>exact .mp r b (by rw[alO,if_pos (by simpa [AV.aW] using dx)];exact h1)
 |agg cs vs hl h1 hr=>simp[AV.aW] at dx
 |aL cs vs hl hr=>simp[AV.aW] at dx
 |aY fn cs vs hl hr=>exact .aY fn cs vs hl fun j x u hx hu=>DM (by simp only[AV.aW,alK] at dx;exact dx x (alF hx)) (hr j x u hx hu)
 |top v=>exact .top v
 |ae v=>exact .ae v
 |fn v h1=>exact .fn v h1
 |lL a=>exact .lL a
 |jv a=>exact .jv a
 |sl size els b o c f hc hm hl aE hr=>exact .sl size els b o c f hc hm hl aE hr
 |clip size els b o f hm hl aE hr=>exact .clip size els b o f hm hl aE hr
 |aS e off b o f aE hr=>exact .aS e off b o f aE hr
 |eG b es c h hF l hl=>exact .eG b es c h hF l hl
 |fa r n i size b o c k h=>simp[AV.aW] at dx
 |dm fn cs vs hl hr=>simp[AV.aW] at dx
theorem kY {F:Nat->Nat->Prop} {n:Nat} {x:AV} {v:Value} (hc:x.dp n=true) (h:bm w F η hp x v):bm w F (η.take n) (hp.take n) x v:=by
 cases x with
 |agg cs=>
  cases h with
  |agg _ vs hl h1 hr=>exact .agg cs vs hl h1 fun j x v hx hv=>dJ (by simp only[AV.dp,alK] at hc;exact hc x (alF hx)) (hr j x v hx hv)
 |_=>exact dJ hc h
theorem nb {F:Nat->Nat->Prop} {n:Nat} {x:AV} {v:Value} (hc:x.closed n=true) (h:bm w F η hp x v):bm w F (η.take n) (hp.take n) x v:=by
 cases x with
 |aL cs=>
  cases h with
  |aL _ vs hl hr=>exact .aL cs vs hl fun j x v hx hv=>kY (by simp only[AV.closed,alK] at hc;exact hc x (alF hx)) (hr j x v hx hv)
 |aY f cs=>
  cases h with
  |aY _ _ vs hl hr=>exact .aY f cs vs hl fun j x v hx hv=>kY (by simp only[AV.closed,alK] at hc;exact hc x (alF hx)) (hr j x v hx hv)
 |dm f cs=>
  cases h with
  |dm _ _ vs hl hr=>exact .dm f cs vs hl fun j x v hx hv=>kY (by simp only[AV.closed,alK] at hc;exact hc x (alF hx)) (hr j x v hx hv)
 |_=>exact kY hc h
theorem cx.cutAt {f f':Nat->AV} {hp:List af} {g:G} (ax:Γ.Ok) (n:Nat) (hn:Γ.jR.length<=n) (hs:Sub f' f) (hc:nU n f') (ho:∀o∈hp.take n,af.closed n o=true) (hr:Rel Γ ⟨f,hp,g⟩ a w η):Rel Γ ⟨f',hp.take n,g⟩ a w (η.take n):=by
 have hlen:η.length=hp.length:=hr.heap.len;have cq:∀{r:Nat} {o:af},(hp.take n)[r]?=some o->hp[r]?=some o/\r<n:=by
  intro r o h;rw[alO] at h;split at h
  ·rename_i ak;exact⟨h,ak⟩
  ·cases h
 have w7:∀{r:Nat} {v:Value},(η.take n)[r]?=some v->η[r]?=some v/\r<n:=by
  intro r o h;rw[alO] at h;split at h
  ·rename_i ak;exact⟨h,ak⟩
  ·cases h
 have ew:∀b o,bk Γ w η hp b o->bk Γ w (η.take n) (hp.take n) b o:=by
  intro b o hf;refine⟨hf.1,hf.2.1,hf.2.2.1,(aU b o).2 fun r v hv hb=>?_⟩;obtain⟨h1,h2⟩:=w7 hv;obtain⟨o1,q1,q2⟩:=(aU b o).1 hf.2.2.2 r v h1 hb;exact⟨o1,by rw[alO,if_pos h2];exact q1,q2⟩
 have cA:∀{yY:List Value} {jR:List af} {x:AV} {v:Value},bm w (bk Γ w η hp) yY jR x v->bm w (bk Γ w (η.take n) (hp.take n)) yY jR x v:=
  fun h=>h.ext ⟨fun _ _ _ _ h=>h,fun _ _ _ _ h=>h,ew,fun _ _ h=>h,fun _ _ h=>h,fun _ _ _ h=>h⟩
 refine⟨hr.nt,fun t=>?_,⟨by simp only[amd,hlen],fun r o v h1 h2=>?_,fun r r' o o' v v' b bu h1 h2 l1 l2 e1 e2 hb=>?_⟩,fun r o v b h1 hl h2 hb=>?_,hr.keeps,hr.inv,hr.marks,⟨hr.ext.cell,hr.ext.ir,fun b o hb=>ew b o (hr.ext.bg b o hb),fun r x hx=>?_,fun r x hx=>?_,fun r m v hx=>?_⟩⟩
 ·rcases hs t with h1|h1
  ·show bm w _ _ _ (f' t) _;rw[h1];exact .top _
  ·have h2:=hr.tmps t;have h3:=hc t;rw[h1] at h3;show bm w _ _ _ (f' t) _;rw[h1];exact cA (nb h3 h2)
 ·obtain⟨g1,g2⟩:=cq h1;obtain⟨g3,_⟩:=w7 h2;have dB:=hr.heap.obj r o v g1 g3;have dx:=ho o (alF h1)
  cases o with
  |dead=>exact True.intro
  |box cs=>
   obtain⟨b,vs,T,e1,e2,e3,e4⟩:=dB;exact⟨b,vs,T,e1,e2,e3,fun j x u hx hu=>⟨cA (dJ (by simp only[af.closed,alK] at dx;exact dx x (alF hx)) (e4 j x u hx hu).1),(e4 j x u hx hu).2⟩⟩
  |row e size els=>
   obtain⟨e0,xs,e1,e2⟩:=dB;exact⟨e0,xs,e1,fun i el hi=>⟨(e2 i el hi).1,fun j x hj=>let ⟨u,q1,q2,q3⟩:=(e2 i el hi).2 j x hj;⟨u,q1,cA q2,q3⟩⟩⟩
  |aJ es=>exact dB
  |cU q k=>
   obtain⟨b,vs,e1,e2,e3,e4,u,e5,e6⟩:=dB;exact⟨b,vs,e1,e2,e3,e4,u,e5,cA (dJ (x:=.own q k) (by simpa [AV.aW,af.closed] using dx) e6)⟩
  |aQ e size els=>
   obtain⟨e0,xs,e1,e2⟩:=dB;exact⟨e0,xs,e1,fun i el hi=>⟨(e2 i el hi).1,fun j x hj=>let ⟨u,q1,q2,q3⟩:=(e2 i el hi).2 j x hj;⟨u,q1,cA q2,q3⟩⟩⟩
  |dN e m ns=>exact dB
 ·exact hr.heap.sep r r' o o' v v' b bu (cq h1).1 (cq h2).1 l1 l2 (w7 e1).1 (w7 e2).1 hb
 ·exact hr.bM r o v b (cq h1).1 hl (w7 h2).1 hb
 ·have:r<n:=by have:=(alu.1 hx).1;have:=ax.l0;omega
  rw[alO,if_pos this];exact hr.ext.ptr r x hx
 ·have:r<n:=by have:=(alu.1 hx).1;have:=ax.l0;omega
  rw[alO,if_pos this];exact hr.ext.mp r x hx
 ·have:r<n:=by
   unfold aT at hx
   cases eH:Γ.jR[r]? with
   |none=>rw[eH] at hx;exact hx.elim
   |some o=>have:=(alu.1 eH).1;omega
  exact w6 this (hr.ext.own r m v hx)
theorem cx.cut {f f':Nat->AV} {hp hp':List af} {g:G} (ax:Γ.Ok) (n:Nat) (hn:Γ.jR.length<=n) (hs:Sub f' f) (hc:nU n f') (ht:hp.take n=hp') (ho:∀o∈hp',af.closed n o=true):cx Γ ⟨f,hp,g⟩ ⟨f',hp',g⟩:=by
 subst ht;exact fun a w η hr=>⟨η.take n,cx.cutAt ax n hn hs hc ho hr⟩
theorem cx.Nt {M:Bool} (ax:Γ.Ok) {f:Nat->AV} {hp:List af} {g:G} (t e size:Nat) (bN:0<size) (ht:f t=.ae (.slice none 0 0)):cx Γ ⟨f,hp,g⟩ ⟨yZ f t (.own hp.length 0),hp++[ea M e size []],g⟩:=by
 intro a w η hr;have h1:=hr.add ax (o:=ea M e size []) (v:=.slice none 0 0) (bI.refl w) (fun b hb=>by simp[ct] at hb) (jV.2 ⟨bN,[],⟨by simp,.inl ⟨rfl,.inl rfl⟩⟩,fun i el hi=>by simp at hi⟩);refine⟨η++[.slice none 0 0],h1.nt,fun u=>?_,h1.heap,h1.bM,h1.keeps,h1.inv,h1.marks,h1.ext⟩;show bm w _ _ _ (yZ f t (.own hp.length 0) u) _;rw[fc];split
 ·rename_i hu;subst hu;have h2:=hr.tmps u;simp only[ht] at h2;rw[h2.ay];have hlen:η.length=hp.length:=hr.heap.len;exact .own _ 0 _ rfl ((iU (M:=M) (e:=e) (size:=size) (els:=[]) (by simp)).2 ⟨alA _,fun _=>by rw[<-hlen];simp⟩)
 ·exact h1.tmps u
theorem cx.row (ax:Γ.Ok) {f:Nat->AV} {hp:List af} {g:G} (t e size:Nat) (bN:0<size) (ht:f t=.ae (.slice none 0 0)):cx Γ ⟨f,hp,g⟩ ⟨yZ f t (.own hp.length 0),hp++[.row e size []],g⟩:=cx.Nt (M:=false) ax t e size bN ht
theorem cx.Yd {M:Bool} (ax:Γ.Ok) {f:Nat->AV} {hp:List af} {g:G} (r k e size:Nat) (bN:0<size) {cs:List AV} (hb:hp[r]?=some (.box cs)) (hk:cs[k]?=some (.ae (.slice none 0 0))):
  cx Γ ⟨f,hp,g⟩ ⟨f,hp.set r (.box (cs.set k (.own hp.length 0)))++[ea M e size []],g⟩:=by
 intro a w η hr;have h1:=hr.add ax (o:=ea M e size []) (v:=.slice none 0 0) (bI.refl w) (fun b hb=>by simp[ct] at hb) (jV.2 ⟨bN,[],⟨by simp,.inl ⟨rfl,.inl rfl⟩⟩,fun i el hi=>by simp at hi⟩);have aeF:r<hp.length:=(alu.1 hb).1;have qf:hp.set r (.box (cs.set k (.own hp.length 0)))++[ea M e size []]=(hp++[ea M e size []]).set r (.box (cs.set k (.own hp.length 0))):=by
  rw[List.set_append,if_pos aeF]
 have eF:(hp++[ea M e size []])[r]?=some (.box cs):=cw hb;have hlen:η.length=hp.length:=hr.heap.len;obtain⟨v,hv⟩:∃v,(η++[Value.slice none 0 0])[r]?=some v:=⟨_,aly (by simp;omega)⟩;have dB:=h1.heap.obj r _ v eF hv;have hfk:∀b o,bk Γ w (η++[Value.slice none 0 0]) (hp++[ea M e size []]) b o->bk Γ w (η++[Value.slice none 0 0]) ((hp++[ea M e size []]).set r (.box (cs.set k (.own hp.length 0)))) b o:=by
  intro b o hf;refine⟨hf.1,hf.2.1,hf.2.2.1,(aU b o).2 fun q u hu MU=>?_⟩;obtain⟨o1,q1,q2⟩:=(aU b o).1 hf.2.2.2 q u hu MU
  by_cases hq:r=q
  ·subst hq;rw[eF] at q1;obtain rfl:=alw q1;exact q2.elim
  ·exact⟨o1,by rw[getElem?_set_ne hq];exact q1,q2⟩
 have qe:∀q n u,aT (η++[Value.slice none 0 0]) (hp++[ea M e size []]) q n u->aT (η++[Value.slice none 0 0]) ((hp++[ea M e size []]).set r (.box (cs.set k (.own hp.length 0)))) q n u:=by
  intro q n u ho;unfold aT at ho ⊢
  by_cases hq:r=q
  ·subst hq;rw[eF] at ho;exact ho.elim
  ·rw[getElem?_set_ne hq];exact ho
 have he:Ext w (bk Γ w (η++[Value.slice none 0 0]) (hp++[ea M e size []])) (η++[Value.slice none 0 0]) (hp++[ea M e size []]) w (bk Γ w (η++[Value.slice none 0 0]) ((hp++[ea M e size []]).set r (.box (cs.set k (.own hp.length 0))))) (η++[Value.slice none 0 0]) ((hp++[ea M e size []]).set r (.box (cs.set k (.own hp.length 0)))):=
  ⟨fun _ _ _ _ h=>h,fun _ _ _ _ h=>h,hfk,fun _ _ h=>h,fun _ _ h=>h,qe⟩
 rw[qf];refine⟨η++[.slice none 0 0],h1.nt,fun u=>(h1.tmps u).ext he,⟨by simp[hlen],fun q o u g1 g2=>?_,fun q q' o o' u u' b bu g1 g2 l1 l2 e1 e2 hbb=>?_⟩,fun q o u b g1 hl g2 hbb=>?_,h1.keeps,h1.inv,h1.marks,(by exact h1.ext.trans he)⟩
 ·by_cases hq:r=q
  ·subst hq;simp only at g1;rw[au eF] at g1;obtain rfl:=alw g1;rw[hv] at g2;obtain rfl:=alw g2;obtain⟨b,vs,T,q1,q2,q3,q4⟩:=dB;refine⟨b,vs,T,q1,q2,by simpa using q3,fun j x u hx hu=>?_⟩
   by_cases hj:k=j
   ·subst hj;have fO:k<cs.length:=(alu.1 hk).1;have h5:=q4 k _ u hk hu;rw[amr] at hx;simp only[if_true,if_pos fO] at hx;obtain rfl:=alw hx;refine⟨.own _ 0 _ h5.2 ?_,h5.2⟩;have h6:=h5.1.ay;subst h6;refine(iU (M:=M) (e:=e) (size:=size) (els:=[]) (by rw[getElem?_set_ne (by omega)];simp)).2 ⟨alA _,fun _=>by rw[<-hlen];simp⟩
   ·rw[getElem?_set_ne hj] at hx;exact⟨(q4 j x u hx hu).1.ext he,(q4 j x u hx hu).2⟩
  ·simp only at g1;rw[getElem?_set_ne hq] at g1;exact(h1.heap.obj q o u g1 g2).ext he (alA _) fun _ _ _=>rfl
 ·have conv:∀{q:Nat} {o:af},((hp++[ea M e size []]).set r (.box (cs.set k (.own hp.length 0))))[q]?=some o->o.live->∃o',(hp++[ea M e size []])[q]?=some o'/\o'.live:=by
   intro q o g hl
   by_cases hq:r=q
   ·subst hq;exact⟨_,eF,True.intro⟩
   ·rw[getElem?_set_ne hq] at g;exact⟨o,g,hl⟩
  obtain⟨o1,p1,p2⟩:=conv g1 l1;obtain⟨o2,p3,p4⟩:=conv g2 l2;exact h1.heap.sep q q' o1 o2 u u' b bu p1 p3 p2 p4 e1 e2 hbb
 ·by_cases hq:r=q
  ·subst hq;exact h1.bM r _ u b eF True.intro g2 hbb
  ·simp only at g1;rw[getElem?_set_ne hq] at g1;exact h1.bM q o u b g1 hl g2 hbb
end Go.Proofs.YtdcikhleahfknaaGreatDoor
