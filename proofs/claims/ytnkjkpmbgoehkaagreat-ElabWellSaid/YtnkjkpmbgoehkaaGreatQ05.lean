/- Lemmas. -/
import Derived.Test.YtnkjkpmbgoehkaaGreatQ04
namespace Go.Proofs.YtnkjkpmbgoehkaaGreat
open Go
set_option linter.unusedSimpArgs false
set_option linter.unusedVariables false
variable {G:Type} {Γ:Env G} {s s':AS G} {a:Act} {w w':World} {η:List Value} {hp:List aw} {P:Program} {ops:Array Oper}
theorem pd {tab:Nat->Option TD} {ρ uc:Operand->AV} {op:Op} (h:∀x∈op.operands,ρ x=uc x):bL tab hp ρ op=bL tab hp uc op:=by
 cases op with
 |move x=>simp only[bL,h x (by simp[Op.operands])]
 |assign x=>simp only[bL,h x (by simp[Op.operands])]
 |nilCheck x=>simp only[bL,h x (by simp[Op.operands])]
 |pick c x y=>simp only[bL,h c (by simp[Op.operands]),h x (by simp[Op.operands]),h y (by simp[Op.operands])]
 |fieldAddr T x f=>simp only[bL,h x (by simp[Op.operands])]
 |load T x=>simp only[bL,h x (by simp[Op.operands])]
 |indexAddr T x i=>simp only[bL,h x (by simp[Op.operands]),h i (by simp[Op.operands])]
 |binOp op T x y T'=>simp only[bL,h x (by simp[Op.operands]),h y (by simp[Op.operands])]
 |unOp op T x=>simp only[bL,h x (by simp[Op.operands])]
 |convert S D x=>simp only[bL,h x (by simp[Op.operands])]
 |field T x f=>simp only[bL,h x (by simp[Op.operands])]
 |extract x i=>simp only[bL,h x (by simp[Op.operands])]
 |index T x i=>simp only[bL,h x (by simp[Op.operands]),h i (by simp[Op.operands])]
 |lookup T m k ok=>simp only[bL,h m (by simp[Op.operands]),h k (by simp[Op.operands])]
 |build T parts=>
  have:(parts.toList.map fun p=>(p.1,ρ p.2))=parts.toList.map fun p=>(p.1,uc p.2):=arD fun p hp'=>by
   rw[h p.2 (by simp only[Op.operands,List.mem_toArray,arx];exact⟨p,hp',rfl⟩)]
  simp only[bL,this]
 |buildSlice T n parts=>
  have:(parts.toList.map fun p=>(ρ p.2).bK hp)=parts.toList.map fun p=>(uc p.2).bK hp:=arD fun p hp'=>by
   rw[h p.2 (by simp only[Op.operands,List.mem_toArray,arx];exact⟨p,hp',rfl⟩)]
  simp only[bL,this]
 |makeFunc fn first caps=>
  have:caps.toList.map ρ=caps.toList.map uc:=arD fun x hx=>h x (by simp only[Op.operands,arZ];exact .inr (by simpa using hx));have h2:first.toList.map ρ=first.toList.map uc:=arD fun x hx=>h x (by simp only[Op.operands,arZ];exact .inl (by simpa using hx))
  cases fn<;>simp only[bL,this,h2]
 |slice T x lo hi mx=>
  have h1:∀d,bZ ρ d lo=bZ uc d lo:=fun d=>by cases lo with|none=>rfl|some y=>simp only[bZ,h y (by simp[Op.operands])]
  have h2:∀d,bZ ρ d hi=bZ uc d hi:=fun d=>by cases hi with|none=>rfl|some y=>simp only[bZ,h y (by simp[Op.operands])]
  have h3:(mx.map fun m=>bZ ρ 0 (some m))=mx.map fun m=>bZ uc 0 (some m):=by
   cases mx with
   |none=>rfl
   |some m=>simp only[aq1,bZ,h m (by simp[Op.operands])]
  cases mx<;>simp only[bL,h x (by simp[Op.operands]),h1,h2,h3]
 |call c=>
  simp only[bL];have hl:∀l,c.args.toList=l->∀x∈l,ρ x=uc x:=fun l hl x hx=>h x (by
   simp only[Op.operands,Call.operands,arZ]
   exact .inr (by rw[<-arV,hl];exact hx))
  split
  ·rename_i x hb OL;simp only[hl _ OL x (by simp)]
  ·rename_i x y hb OL;simp only[hl _ OL x (by simp),hl _ OL y (by simp)]
  ·rename_i x y hb OL;simp only[hl _ OL x (by simp),hl _ OL y (by simp)]
  ·rfl
 |_=>rfl
theorem lg {o:Oper} {x:Operand} (hx:x∈o.op.operands):(s.only (o.looksAt ops)).ev x=s.ev x:=by
 cases x with
 |tmp t=>
  show (if t∈o.looksAt ops then s.tmps t else .top)=s.tmps t;rw[if_pos];unfold Oper.looksAt;refine ar7 _ (List.mem_filterMap.2 ⟨.tmp t,by simpa using hx,rfl⟩)
 |_=>rfl
theorem ub.Rc {o:Oper} {r:AV} (h:gq Γ o s r):ub Γ o s r:=by
 intro a w η Kc Qc hr hk;obtain⟨v,w',h1,h2,h3⟩:=h a w η hr;refine⟨fun _ _=>trivial,?_⟩;rw[lH h1 (.inl ⟨v,rfl⟩)];exact hk v w' h2 h3
theorem ub.pure (aE:Γ.Ok) {o:Oper} {c:Call} {x:Operand} (ho:o.op=.call c) (hc:c.callee=.value x) {f:FuncId} {caps:List AV} (hx:s.ev x=.bz f caps) {r:AV}
  (hP:ay Γ.P f ((c.args.toList.map s.ev++caps).map (AV.bK s.hp)) r):ub Γ o s r:=by
 intro a w η Kc Qc hr hk;have eP:=hr.ev x;rw[hx] at eP;generalize hv:a.eval x=v at eP
 cases eP with
 |bz _ _ vs hl eR=>
  refine⟨fun _ _=>trivial,?_⟩;have cg:∀c',o.op ≠ .defer c':=by intro c' h;rw[ho] at h;cases h
  rw[Oper.semAt_eq _ _ _ cg,gM ho hc hP.1 hv];have aN:(c.args.map a.eval++vs)=(c.args.toList.map a.eval++vs.toList).toArray:=by apply arL;simp
  have dK:cu w (bt Γ w η s.hp) η s.hp caps vs.toList:=dL (by simpa using hl) fun j y u hy hu=>eR j y u hy (by simpa using hu);have iH:=mX hr _ _ (eH _ _ (iA hr c.args.toList) dK);refine⟨fun h=>(by cases h),?_⟩;rw[aN];have fP:=hP.2 w (bt Γ w η s.hp) _ (fun _ _=>fh) (hr.kN aE) iH;refine CallsIn.mono (F:=Γ.fj) ?_ (R:=fun e w'=>∃v q,e=.returned v/\q=r/\bV w w'/\bB w' (JX (bt Γ w η s.hp) w w') [] [] q v) fun e w' ⟨u,q,he,hR,hs,hru⟩=>?_
  ·exact fP
  ·subst he;subst hR;exact hk u w' hs ((hru.bI fun b o h=>zd aE hr hs h).lift)
def fQ (s:AS G):Op->Option (Nat×List AV)
 | .call c=>(match c.callee with
  | .value x=>(match s.ev x with
   | .bz f caps=>some (f,(c.args.toList.map s.ev++caps).map (AV.bK s.hp))
   |_=>none)
  |_=>none)
 |_=>none
def DStep (Γ:Env G) (tab:Nat->Option TD) (o:Oper) (s:AS G) (next rest:AS G->Prop):Prop:=
 match bL tab s.hp s.ev o.op with
 |some (c,r)=>c/\next (s.put o.dst r)
 |none=>(match fQ s o.op with
  |some (f,args)=>∃r,ay Γ.P f args r/\rest (s.put o.dst r)
  |none=>False)
def nY (Γ:Env G) (tab:Nat->Option TD) (nt:Nat) (ops:Array Oper) (K:AS G->Prop):List Oper->AS G->Prop
 | [],s=>K s
 |o::rest,s=>if cI o.op=true then dC nt o.dst/\o.guard=none/\(match eh tab s.hp s.ev o.op with
   |some (c,r,hp')=>c/\nY Γ tab nt ops K rest (AS.put { s with hp:=hp' } o.dst r)
   |none=>False)
  else dC nt o.dst/\(match o.guard with
   |none=>DStep Γ tab o s (nY Γ tab nt ops K rest) (vN Γ ops K rest)
   |some (j,want)=>(match kx ops s j with
    |some (some b)=>(b=want->DStep Γ tab o s (nY Γ tab nt ops K rest) (vN Γ ops K rest))/\(¬b=want->nY Γ tab nt ops K rest (s.put o.dst (.ax (.tuple #[]))))
    |some none=>nY Γ tab nt ops K rest (s.put o.dst (.ax (.tuple #[])))
    |none=>False))
theorem DStep.sound (aE:Γ.Ok) {tab:Nat->Option TD} (aA:bc Γ.P tab) {o:Oper} {next rest K':AS G->Prop} (h:DStep Γ tab o s next rest) (h1:∀s,next s->K' s) (h2:∀s,rest s->K' s):
  ∃x,ub Γ o (s.only (o.looksAt ops)) x/\K' (s.put o.dst x):=by
 unfold DStep at h;split at h
 ·rename_i c r hp';refine⟨r,.Rc (sV aE aA (c:=c) ?_ h.1),h1 _ h.2⟩;rw[<-hp'];exact pd fun x hx=>lg hx
 ·split at h
  ·rename_i f args sE;obtain⟨r,hP,hr⟩:=h;refine⟨r,?_,h2 _ hr⟩;unfold fQ at sE;split at sE
   ·rename_i c hc;split at sE
    ·rename_i x hx;split at sE
     ·rename_i f' caps dK;simp only[aqq,aqt] at sE;obtain⟨rfl,rfl⟩:=sE;have F4:∀y∈c.args.toList,y∈o.op.operands:=fun y hy=>by rw[hc];simp only[Op.operands,Call.operands,arZ];exact .inr (by simpa using hy)
      refine ub.pure aE hc hx (f:=f') (caps:=caps) ?_ ?_
      ·rw[lg (by rw[hc];simp[Op.operands,Call.operands,hx])];exact dK
      ·have:c.args.toList.map (s.only (o.looksAt ops)).ev=c.args.toList.map s.ev:=arD fun y hy=>lg (F4 y hy);rw[this];exact hP
     ·cases sE
    ·cases sE
   ·cases sE
  ·exact h.elim
theorem nY.sound (aE:Γ.Ok) {tab:Nat->Option TD} (aA:bc Γ.P tab) {nt:Nat} (dS:nt=Γ.nt) {K:AS G->Prop}:∀(l:List Oper) (s:AS G),nY Γ tab nt ops K l s->vN Γ ops K l s:=by
 subst dS;intro l
 induction l with
 |nil=>intro s h;exact h
 |cons o rest ih=>
  intro s h;simp only[nY] at h;simp only[vN];split at h
  ·rename_i he;rw[if_pos he];obtain⟨h1,h2,h3⟩:=h;split at h3
   ·rename_i c r hp' hh;exact⟨h1,h2,r,hp',jO aE aA hh h3.1,ih _ h3.2⟩
   ·exact h3.elim
  ·rename_i he;rw[if_neg he];obtain⟨h1,h2⟩:=h;split at h2
   ·rename_i hg;obtain⟨x,h3,h4⟩:=DStep.sound (ops:=ops) aE aA h2 ih fun _ h=>h;exact⟨x,⟨h1,.inl ⟨by simp[aV,hg],h3⟩⟩,h4⟩
   ·rename_i j want hg;split at h2
    ·rename_i b hb
     by_cases kh:b=want
     ·obtain⟨x,h3,h4⟩:=DStep.sound (ops:=ops) aE aA (h2.1 kh) ih fun _ h=>h;exact⟨x,⟨h1,.inl ⟨by simp[aV,hg,hb,kh],h3⟩⟩,h4⟩
     ·exact⟨_,⟨h1,.inr ⟨by simp[aV,hg,hb,kh],rfl⟩⟩,ih _ (h2.2 kh)⟩
    ·rename_i hb;exact⟨_,⟨h1,.inr ⟨by simp[aV,hg,hb],rfl⟩⟩,ih _ h2⟩
    ·exact h2.elim
theorem eY.draw (aE:Γ.Ok) (hm:Γ.P.follows .mixedOrders=true) {id:Nat} {l:List Oper} {Q:Exit->AS G->Prop} (hd:zf l=true) (h:vN Γ l.toArray (Q .normal) l s):eY Γ (.region id l.toArray true) Q s:=by
 intro a w η hr;refine wpIn_region_any hm ?_;have:=vN.any (Γ:=Γ) hd l 0 (Array.replicate l.length false) s (fun j=>by simp) (by simp) (fun j hj=>by simp[hj]) (by simp) h;have h2:=sw.sound (Qc:=fun e a' w'=>∃s' bf,Q e s'/\Rel Γ s' a' w' bf) aE (fun s' a' w' bf h1 h2=>⟨s',bf,h1,h2⟩) _ _ _ a w.drew η this (hr.same aE (bV.drew w));simpa using h2
def Sub (f' f:Nat->AV):Prop:=∀t,f' t=.top\/f' t=f t
theorem Sub.nil {f:Nat->AV}:Sub (fun _=>.top) f:=fun _=>.inl rfl
def AV.fe (n:Nat):AV->Bool
 | .ptr r _=>decide (r<n)
 | .ax _ | .aW _ _=>true
 |_=>false
def AV.aX (n:Nat):AV->Bool
 | .own r _=>decide (r<n)
 | .ptr r _=>decide (r<n)
 | .mp r=>decide (r<n)
 | .bz _ cs=>cs.all (AV.fe n)
 | .agg _ | .aK _ | .fV _ _ _ _ | .dm _ _=>false
 |_=>true
def AV.dY (n:Nat):AV->Bool
 | .agg cs=>cs.all (AV.aX n)
 |x=>x.aX n
def AV.closed (n:Nat):AV->Bool
 | .aK vs=>vs.all (AV.dY n)
 | .bz _ caps=>caps.all (AV.dY n)
 | .dm _ caps=>caps.all (AV.dY n)
 |x=>x.dY n
def aw.closed (n:Nat):aw->Bool
 | .box cs=>cs.all (AV.aX n)
 | .jy r _=>decide (r<n)
 |_=>true
def qd (n:Nat) (f:Nat->AV):Prop:=∀t,(f t).closed n=true
theorem qd.nil {n:Nat}:qd n (fun _=>.top):=fun _=>rfl
theorem qd.Bz {n:Nat} {f:Nat->AV} {t:Nat} {x:AV} (h:x.closed n=true) (h':qd n f):qd n (Bz f t x):=by
 intro u;rw[gV];split
 ·exact h
 ·exact h' u
theorem zg {n r m:Nat} {v:Value} (hr:r<n) (h:bl η hp r m v):bl (η.take n) (hp.take n) r m v:=by
 unfold bl at h ⊢;rw[aqM,aqM,if_pos hr,if_pos hr];exact h
theorem F5 {F:Nat->Nat->Prop} {n:Nat} {x:AV} {v:Value} (dK:x.fe n=true) (h:bB w F η hp x v):bB w F (η.take n) (hp.take n) x v:=by
 cases h with
 |ptr r off b h1=>exact .ptr r off b (by rw[aqM,if_pos (by simpa [AV.fe] using dK)];exact h1)
 |ax v=>exact .ax v
 |aW e off b o f aR hr=>exact .aW e off b o f aR hr
 |_=>simp[AV.fe] at dK
theorem eI {F:Nat->Nat->Prop} {n:Nat} {x:AV} {v:Value} (dK:x.aX n=true) (h:bB w F η hp x v):bB w F (η.take n) (hp.take n) x v:=by
 cases h with
 |own r m v h1 h2=>exact .own r m v h1 (zg (by simpa [AV.aX] using dK) h2)
 |ptr r off b h1=>exact .ptr r off b (by rw[aqM,if_pos (by simpa [AV.aX] using dK)];exact h1)
 |mp r b h1=>exact .mp r b (by rw[aqM,if_pos (by simpa [AV.aX] using dK)];exact h1)
 |agg cs vs hl h1 hr=>simp[AV.aX] at dK
 |aK cs vs hl hr=>simp[AV.aX] at dK
 |bz fn cs vs hl hr=>exact .bz fn cs vs hl fun j x u hx hu=>F5 (by simp only[AV.aX,aqF] at dK;exact dK x (aqA hx)) (hr j x u hx hu)
 |top v=>exact .top v
 |ax v=>exact .ax v
 |fn v h1=>exact .fn v h1
 |qq a=>exact .qq a
 |kW a=>exact .kW a
 |sl size els b o c f hc hm hl aR hr=>exact .sl size els b o c f hc hm hl aR hr
 |clip size els b o f hm hl aR hr=>exact .clip size els b o f hm hl aR hr
 |aW e off b o f aR hr=>exact .aW e off b o f aR hr
 |fL b es c h hF l hl=>exact .fL b es c h hF l hl
 |fV r n i size b o c k h=>simp[AV.aX] at dK
 |dm fn cs vs hl hr=>simp[AV.aX] at dK
theorem mY {F:Nat->Nat->Prop} {n:Nat} {x:AV} {v:Value} (hc:x.dY n=true) (h:bB w F η hp x v):bB w F (η.take n) (hp.take n) x v:=by
 cases x with
 |agg cs=>
  cases h with
  |agg _ vs hl h1 hr=>exact .agg cs vs hl h1 fun j x v hx hv=>eI (by simp only[AV.dY,aqF] at hc;exact hc x (aqA hx)) (hr j x v hx hv)
 |_=>exact eI hc h
theorem pf {F:Nat->Nat->Prop} {n:Nat} {x:AV} {v:Value} (hc:x.closed n=true) (h:bB w F η hp x v):bB w F (η.take n) (hp.take n) x v:=by
 cases x with
 |aK cs=>
  cases h with
  |aK _ vs hl hr=>exact .aK cs vs hl fun j x v hx hv=>mY (by simp only[AV.closed,aqF] at hc;exact hc x (aqA hx)) (hr j x v hx hv)
 |bz f cs=>
  cases h with
  |bz _ _ vs hl hr=>exact .bz f cs vs hl fun j x v hx hv=>mY (by simp only[AV.closed,aqF] at hc;exact hc x (aqA hx)) (hr j x v hx hv)
 |dm f cs=>
  cases h with
  |dm _ _ vs hl hr=>exact .dm f cs vs hl fun j x v hx hv=>mY (by simp only[AV.closed,aqF] at hc;exact hc x (aqA hx)) (hr j x v hx hv)
 |_=>exact mY hc h
theorem cR.cutAt {f f':Nat->AV} {hp:List aw} {g:G} (aE:Γ.Ok) (n:Nat) (hn:Γ.mU.length<=n) (hs:Sub f' f) (hc:qd n f') (ho:∀o∈hp.take n,aw.closed n o=true) (hr:Rel Γ ⟨f,hp,g⟩ a w η):Rel Γ ⟨f',hp.take n,g⟩ a w (η.take n):=by
 have hlen:η.length=hp.length:=hr.heap.len;have eg:∀{r:Nat} {o:aw},(hp.take n)[r]?=some o->hp[r]?=some o/\r<n:=by
  intro r o h;rw[aqM] at h;split at h
  ·rename_i aH;exact⟨h,aH⟩
  ·cases h
 have zh:∀{r:Nat} {v:Value},(η.take n)[r]?=some v->η[r]?=some v/\r<n:=by
  intro r o h;rw[aqM] at h;split at h
  ·rename_i aH;exact⟨h,aH⟩
  ·cases h
 have kp:∀b o,bt Γ w η hp b o->bt Γ w (η.take n) (hp.take n) b o:=by
  intro b o hf;refine⟨hf.1,hf.2.1,hf.2.2.1,(bm b o).2 fun r v hv hb=>?_⟩;obtain⟨h1,h2⟩:=zh hv;obtain⟨o1,q1,q2⟩:=(bm b o).1 hf.2.2.2 r v h1 hb;exact⟨o1,by rw[aqM,if_pos h2];exact q1,q2⟩
 have gu:∀{BF:List Value} {mU:List aw} {x:AV} {v:Value},bB w (bt Γ w η hp) BF mU x v->bB w (bt Γ w (η.take n) (hp.take n)) BF mU x v:=
  fun h=>h.ext ⟨fun _ _ _ _ h=>h,fun _ _ _ _ h=>h,kp,fun _ _ h=>h,fun _ _ h=>h,fun _ _ _ h=>h⟩
 refine⟨hr.nt,fun t=>?_,⟨by simp only[arp,hlen],fun r o v h1 h2=>?_,fun r r' o o' v v' b cg h1 h2 l1 l2 e1 e2 hb=>?_⟩,fun r o v b h1 hl h2 hb=>?_,hr.keeps,hr.inv,hr.marks,⟨hr.ext.cell,hr.ext.kM,fun b o hb=>kp b o (hr.ext.bI b o hb),fun r x hx=>?_,fun r x hx=>?_,fun r m v hx=>?_⟩⟩
 ·rcases hs t with h1|h1
  ·show bB w _ _ _ (f' t) _;rw[h1];exact .top _
  ·have h2:=hr.tmps t;have h3:=hc t;rw[h1] at h3;show bB w _ _ _ (f' t) _;rw[h1];exact gu (pf h3 h2)
 ·obtain⟨g1,g2⟩:=eg h1;obtain⟨g3,_⟩:=zh h2;have eX:=hr.heap.obj r o v g1 g3;have dK:=ho o (aqA h1)
  cases o with
  |dead=>exact True.intro
  |box cs=>
   obtain⟨b,vs,T,e1,e2,e3,e4⟩:=eX;exact⟨b,vs,T,e1,e2,e3,fun j x u hx hu=>⟨gu (eI (by simp only[aw.closed,aqF] at dK;exact dK x (aqA hx)) (e4 j x u hx hu).1),(e4 j x u hx hu).2⟩⟩
  |row e size els=>
   obtain⟨e0,xs,e1,e2⟩:=eX;exact⟨e0,xs,e1,fun i el hi=>⟨(e2 i el hi).1,fun j x hj=>let ⟨u,q1,q2,q3⟩:=(e2 i el hi).2 j x hj;⟨u,q1,gu q2,q3⟩⟩⟩
  |cE es=>exact eX
  |jy q k=>
   obtain⟨b,vs,e1,e2,e3,e4,u,e5,e6⟩:=eX;exact⟨b,vs,e1,e2,e3,e4,u,e5,gu (eI (x:=.own q k) (by simpa [AV.aX,aw.closed] using dK) e6)⟩
  |bj e size els=>
   obtain⟨e0,xs,e1,e2⟩:=eX;exact⟨e0,xs,e1,fun i el hi=>⟨(e2 i el hi).1,fun j x hj=>let ⟨u,q1,q2,q3⟩:=(e2 i el hi).2 j x hj;⟨u,q1,gu q2,q3⟩⟩⟩
  |fz e m ns=>exact eX
 ·exact hr.heap.sep r r' o o' v v' b cg (eg h1).1 (eg h2).1 l1 l2 (zh e1).1 (zh e2).1 hb
 ·exact hr.cq r o v b (eg h1).1 hl (zh h2).1 hb
 ·have:r<n:=by have:=(aqr.1 hx).1;have:=aE.l0;omega
  rw[aqM,if_pos this];exact hr.ext.ptr r x hx
 ·have:r<n:=by have:=(aqr.1 hx).1;have:=aE.l0;omega
  rw[aqM,if_pos this];exact hr.ext.mp r x hx
 ·have:r<n:=by
   unfold bl at hx
   cases gy:Γ.mU[r]? with
   |none=>rw[gy] at hx;exact hx.elim
   |some o=>have:=(aqr.1 gy).1;omega
  exact zg this (hr.ext.own r m v hx)
theorem cR.cut {f f':Nat->AV} {hp hp':List aw} {g:G} (aE:Γ.Ok) (n:Nat) (hn:Γ.mU.length<=n) (hs:Sub f' f) (hc:qd n f') (ht:hp.take n=hp') (ho:∀o∈hp',aw.closed n o=true):cR Γ ⟨f,hp,g⟩ ⟨f',hp',g⟩:=by
 subst ht;exact fun a w η hr=>⟨η.take n,cR.cutAt aE n hn hs hc ho hr⟩
theorem cR.Rd {M:Bool} (aE:Γ.Ok) {f:Nat->AV} {hp:List aw} {g:G} (t e size:Nat) (cx:0<size) (ht:f t=.ax (.slice none 0 0)):cR Γ ⟨f,hp,g⟩ ⟨Bz f t (.own hp.length 0),hp++[gK M e size []],g⟩:=by
 intro a w η hr;have h1:=hr.add aE (o:=gK M e size []) (v:=.slice none 0 0) (bV.refl w) (fun b hb=>by simp[dO] at hb) (nK.2 ⟨cx,[],⟨by simp,.inl ⟨rfl,.inl rfl⟩⟩,fun i el hi=>by simp at hi⟩);refine⟨η++[.slice none 0 0],h1.nt,fun u=>?_,h1.heap,h1.cq,h1.keeps,h1.inv,h1.marks,h1.ext⟩;show bB w _ _ _ (Bz f t (.own hp.length 0) u) _;rw[gV];split
 ·rename_i hu;subst hu;have h2:=hr.tmps u;simp only[ht] at h2;rw[h2.aC];have hlen:η.length=hp.length:=hr.heap.len;exact .own _ 0 _ rfl ((lX (M:=M) (e:=e) (size:=size) (els:=[]) (by simp)).2 ⟨aqw _,fun _=>by rw[<-hlen];simp⟩)
 ·exact h1.tmps u
theorem cR.row (aE:Γ.Ok) {f:Nat->AV} {hp:List aw} {g:G} (t e size:Nat) (cx:0<size) (ht:f t=.ax (.slice none 0 0)):cR Γ ⟨f,hp,g⟩ ⟨Bz f t (.own hp.length 0),hp++[.row e size []],g⟩:=cR.Rd (M:=false) aE t e size cx ht
theorem cR.abM {M:Bool} (aE:Γ.Ok) {f:Nat->AV} {hp:List aw} {g:G} (r k e size:Nat) (cx:0<size) {cs:List AV} (hb:hp[r]?=some (.box cs)) (hk:cs[k]?=some (.ax (.slice none 0 0))):
  cR Γ ⟨f,hp,g⟩ ⟨f,hp.set r (.box (cs.set k (.own hp.length 0)))++[gK M e size []],g⟩:=by
 intro a w η hr;have h1:=hr.add aE (o:=gK M e size []) (v:=.slice none 0 0) (bV.refl w) (fun b hb=>by simp[dO] at hb) (nK.2 ⟨cx,[],⟨by simp,.inl ⟨rfl,.inl rfl⟩⟩,fun i el hi=>by simp at hi⟩);have ajD:r<hp.length:=(aqr.1 hb).1;have xN:hp.set r (.box (cs.set k (.own hp.length 0)))++[gK M e size []]=(hp++[gK M e size []]).set r (.box (cs.set k (.own hp.length 0))):=by
  rw[List.set_append,if_pos ajD]
 have gz:(hp++[gK M e size []])[r]?=some (.box cs):=cQ hb;have hlen:η.length=hp.length:=hr.heap.len;obtain⟨v,hv⟩:∃v,(η++[Value.slice none 0 0])[r]?=some v:=⟨_,aqx (by simp;omega)⟩;have eX:=h1.heap.obj r _ v gz hv;have hfk:∀b o,bt Γ w (η++[Value.slice none 0 0]) (hp++[gK M e size []]) b o->bt Γ w (η++[Value.slice none 0 0]) ((hp++[gK M e size []]).set r (.box (cs.set k (.own hp.length 0)))) b o:=by
  intro b o hf;refine⟨hf.1,hf.2.1,hf.2.2.1,(bm b o).2 fun q u hu QJ=>?_⟩;obtain⟨o1,q1,q2⟩:=(bm b o).1 hf.2.2.2 q u hu QJ
  by_cases hq:r=q
  ·subst hq;rw[gz] at q1;obtain rfl:=aqs q1;exact q2.elim
  ·exact⟨o1,by rw[getElem?_set_ne hq];exact q1,q2⟩
 have vF:∀q n u,bl (η++[Value.slice none 0 0]) (hp++[gK M e size []]) q n u->bl (η++[Value.slice none 0 0]) ((hp++[gK M e size []]).set r (.box (cs.set k (.own hp.length 0)))) q n u:=by
  intro q n u ho;unfold bl at ho ⊢
  by_cases hq:r=q
  ·subst hq;rw[gz] at ho;exact ho.elim
  ·rw[getElem?_set_ne hq];exact ho
 have he:Ext w (bt Γ w (η++[Value.slice none 0 0]) (hp++[gK M e size []])) (η++[Value.slice none 0 0]) (hp++[gK M e size []]) w (bt Γ w (η++[Value.slice none 0 0]) ((hp++[gK M e size []]).set r (.box (cs.set k (.own hp.length 0))))) (η++[Value.slice none 0 0]) ((hp++[gK M e size []]).set r (.box (cs.set k (.own hp.length 0)))):=
  ⟨fun _ _ _ _ h=>h,fun _ _ _ _ h=>h,hfk,fun _ _ h=>h,fun _ _ h=>h,vF⟩
 rw[xN];refine⟨η++[.slice none 0 0],h1.nt,fun u=>(h1.tmps u).ext he,⟨by simp[hlen],fun q o u g1 g2=>?_,fun q q' o o' u u' b cg g1 g2 l1 l2 e1 e2 hbb=>?_⟩,fun q o u b g1 hl g2 hbb=>?_,h1.keeps,h1.inv,h1.marks,(by exact h1.ext.trans he)⟩
 ·by_cases hq:r=q
  ·subst hq;simp only at g1;rw[aB gz] at g1;obtain rfl:=aqs g1;rw[hv] at g2;obtain rfl:=aqs g2;obtain⟨b,vs,T,q1,q2,q3,q4⟩:=eX;refine⟨b,vs,T,q1,q2,by simpa using q3,fun j x u hx hu=>?_⟩
   by_cases hj:k=j
   ·subst hj;have iV:k<cs.length:=(aqr.1 hk).1;have h5:=q4 k _ u hk hu;rw[arH] at hx;simp only[if_true,if_pos iV] at hx;obtain rfl:=aqs hx;refine⟨.own _ 0 _ h5.2 ?_,h5.2⟩;have h6:=h5.1.aC;subst h6;refine(lX (M:=M) (e:=e) (size:=size) (els:=[]) (by rw[getElem?_set_ne (by omega)];simp)).2 ⟨aqw _,fun _=>by rw[<-hlen];simp⟩
   ·rw[getElem?_set_ne hj] at hx;exact⟨(q4 j x u hx hu).1.ext he,(q4 j x u hx hu).2⟩
  ·simp only at g1;rw[getElem?_set_ne hq] at g1;exact(h1.heap.obj q o u g1 g2).ext he (aqw _) fun _ _ _=>rfl
 ·have conv:∀{q:Nat} {o:aw},((hp++[gK M e size []]).set r (.box (cs.set k (.own hp.length 0))))[q]?=some o->o.live->∃o',(hp++[gK M e size []])[q]?=some o'/\o'.live:=by
   intro q o g hl
   by_cases hq:r=q
   ·subst hq;exact⟨_,gz,True.intro⟩
   ·rw[getElem?_set_ne hq] at g;exact⟨o,g,hl⟩
  obtain⟨o1,p1,p2⟩:=conv g1 l1;obtain⟨o2,p3,p4⟩:=conv g2 l2;exact h1.heap.sep q q' o1 o2 u u' b cg p1 p3 p2 p4 e1 e2 hbb
 ·by_cases hq:r=q
  ·subst hq;exact h1.cq r _ u b gz True.intro g2 hbb
  ·simp only at g1;rw[getElem?_set_ne hq] at g1;exact h1.cq q o u b g1 hl g2 hbb
end Go.Proofs.YtnkjkpmbgoehkaaGreat
