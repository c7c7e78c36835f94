/- Texts of ours laid together for a claim: FilQ. -/
import Derived.Test.YtdcikhleahfknaaGreatDoorQ04
namespace Go.Proofs.YtdcikhleahfknaaGreatDoor
open Go
set_option linter.unusedSimpArgs false
set_option linter.unusedVariables false
variable {G:Type} {Γ:Env G} {s s':AS G} {a:Act} {w w':World} {η:List Value} {hp:List af} {P:Program} {ops:Array Oper}
theorem lG {tab:Nat→Option TD} {ρ FI:Operand→AV} {op:Op} (h:∀x∈op.operands,ρ x=FI x):bk tab hp ρ op=bk tab hp FI op:=by
 cases op with
 |move x=>simp only[bk,h x (by simp[Op.operands])]
 |assign x=>simp only[bk,h x (by simp[Op.operands])]
 |nilCheck x=>simp only[bk,h x (by simp[Op.operands])]
 |pick c x y=>simp only[bk,h c (by simp[Op.operands]),h x (by simp[Op.operands]),h y (by simp[Op.operands])]
 |fieldAddr T x f=>simp only[bk,h x (by simp[Op.operands])]
 |load T x=>simp only[bk,h x (by simp[Op.operands])]
 |indexAddr T x i=>simp only[bk,h x (by simp[Op.operands]),h i (by simp[Op.operands])]
 |binOp op T x y T'=>simp only[bk,h x (by simp[Op.operands]),h y (by simp[Op.operands])]
 |unOp op T x=>simp only[bk,h x (by simp[Op.operands])]
 |convert S D x=>simp only[bk,h x (by simp[Op.operands])]
 |field T x f=>simp only[bk,h x (by simp[Op.operands])]
 |extract x i=>simp only[bk,h x (by simp[Op.operands])]
 |index T x i=>simp only[bk,h x (by simp[Op.operands]),h i (by simp[Op.operands])]
 |lookup T m k ok=>simp only[bk,h m (by simp[Op.operands]),h k (by simp[Op.operands])]
 |build T parts=>
  have:(parts.toList.map fun p=>(p.1,ρ p.2))=parts.toList.map fun p=>(p.1,FI p.2):=List.map_congr_left fun p hp'=>by
   rw[h p.2 (by simp only[Op.operands,List.mem_toArray,List.mem_map];exact⟨p,hp',rfl⟩)]
  simp only[bk,this]
 |buildSlice T n parts=>
  have:(parts.toList.map fun p=>(ρ p.2).bj hp)=parts.toList.map fun p=>(FI p.2).bj hp:=List.map_congr_left fun p hp'=>by
   rw[h p.2 (by simp only[Op.operands,List.mem_toArray,List.mem_map];exact⟨p,hp',rfl⟩)]
  simp only[bk,this]
 |makeFunc fn first caps=>
  have:caps.toList.map ρ=caps.toList.map FI:=List.map_congr_left fun x hx=>h x (by simp only[Op.operands,Array.mem_append];exact .inr (by simpa using hx))
  have h2:first.toList.map ρ=first.toList.map FI:=List.map_congr_left fun x hx=>h x (by simp only[Op.operands,Array.mem_append];exact .inl (by simpa using hx))
  cases fn<;>simp only[bk,this,h2]
 |slice T x lo hi mx=>
  have h1:∀d,bx ρ d lo=bx FI d lo:=fun d=>by cases lo with|none=>rfl|some y=>simp only[bx,h y (by simp[Op.operands])]
  have h2:∀d,bx ρ d hi=bx FI d hi:=fun d=>by cases hi with|none=>rfl|some y=>simp only[bx,h y (by simp[Op.operands])]
  have h3:(mx.map fun m=>bx ρ 0 (some m))=mx.map fun m=>bx FI 0 (some m):=by
   cases mx with
   |none=>rfl
   |some m=>simp only[Option.map_some,bx,h m (by simp[Op.operands])]
  cases mx<;>simp only[bk,h x (by simp[Op.operands]),h1,h2,h3]
 |call c=>
  simp only[bk]
  have hl:∀l,c.args.toList=l→∀x∈l,ρ x=FI x:=fun l hl x hx=>h x (by
   simp only[Op.operands,Call.operands,Array.mem_append]
   exact .inr (by rw[←Array.mem_toList_iff,hl];exact hx))
  split
  ·rename_i x hb G2
   simp only[hl _ G2 x (by simp)]
  ·rename_i x y hb G2
   simp only[hl _ G2 x (by simp),hl _ G2 y (by simp)]
  ·rename_i x y hb G2
   simp only[hl _ G2 x (by simp),hl _ G2 y (by simp)]
  ·rfl
 |_=>rfl
theorem iJ {o:Oper} {x:Operand} (hx:x∈o.op.operands):(s.only (o.looksAt ops)).ev x=s.ev x:=by
 cases x with
 |tmp t=>
  show (if t∈o.looksAt ops then s.tmps t else .top)=s.tmps t
  rw[if_pos]
  unfold Oper.looksAt
  refine List.mem_append_left _ (List.mem_filterMap.2 ⟨.tmp t,by simpa using hx,rfl⟩)
 |_=>rfl
theorem pT.Jj {o:Oper} {r:AV} (h:eI Γ o s r):pT Γ o s r:=by
 intro a w η Kc Qc hr hk
 obtain⟨v,w',h1,h2,h3⟩:=h a w η hr
 refine⟨fun _ _=>trivial,?_⟩
 rw[iO h1 (.inl ⟨v,rfl⟩)]
 exact hk v w' h2 h3
theorem pT.pure (ao:Γ.Ok) {o:Oper} {c:Call} {x:Operand} (ho:o.op=.call c) (hc:c.callee=.value x) {f:FuncId} {caps:List AV} (hx:s.ev x=.aK f caps) {r:AV}
  (hP:ag Γ.P f ((c.args.toList.map s.ev++caps).map (AV.bj s.hp)) r):pT Γ o s r:=by
 intro a w η Kc Qc hr hk
 have dC:=hr.ev x
 rw[hx] at dC
 generalize hv:a.eval x=v at dC
 cases dC with
 |aK _ _ vs hl cE=>
  refine⟨fun _ _=>trivial,?_⟩
  have bh:∀c',o.op ≠ .defer c':=by intro c' h;rw[ho] at h;cases h
  rw[Oper.semAt_eq _ _ _ bh,eX ho hc hP.1 hv]
  have aw:(c.args.map a.eval++vs)=(c.args.toList.map a.eval++vs.toList).toArray:=by apply Array.ext';simp
  have cS:bM w (aW Γ w η s.hp) η s.hp caps vs.toList:=cf (by simpa using hl) fun j y u hy hu=>cE j y u hy (by simpa using hu)
  have fC:=jK hr _ _ (dx _ _ (ft hr c.args.toList) cS)
  refine⟨fun h=>(by cases h),?_⟩
  rw[aw]
  have jc:=hP.2 w (aW Γ w η s.hp) _ (fun _ _=>dL) (hr.gz ao) fC
  refine CallsIn.mono (F:=Γ.dM) ?_ (R:=fun e w'=>∃v q,e=.returned v∧q=r∧bu w w'∧aY w' (Onto (aW Γ w η s.hp) w w') [] [] q v) fun e w' ⟨u,q,he,hR,hs,TT⟩=>?_
  ·exact jc
  ·subst he;subst hR
   exact hk u w' hs ((TT.bb fun b o h=>uu ao hr hs h).lift)
def ef (s:AS G):Op→Option (Nat×List AV)
 | .call c=>(match c.callee with
  | .value x=>(match s.ev x with
   | .aK f caps=>some (f,(c.args.toList.map s.ev++caps).map (AV.bj s.hp))
   |_=>none)
  |_=>none)
 |_=>none
def DStep (Γ:Env G) (tab:Nat→Option TD) (o:Oper) (s:AS G) (next rest:AS G→Prop):Prop:=
 match bk tab s.hp s.ev o.op with
 |some (c,r)=>c∧next (s.put o.dst r)
 |none=>(match ef s o.op with
  |some (f,args)=>∃r,ag Γ.P f args r∧rest (s.put o.dst r)
  |none=>False)
def kN (Γ:Env G) (tab:Nat→Option TD) (nt:Nat) (ops:Array Oper) (K:AS G→Prop):List Oper→AS G→Prop
 | [],s=>K s
 |o::rest,s=>if bP o.op=true then cx nt o.dst∧o.guard=none∧(match cT tab s.hp s.ev o.op with
   |some (c,r,hp')=>c∧kN Γ tab nt ops K rest (AS.put { s with hp:=hp' } o.dst r)
   |none=>False)
  else cx nt o.dst∧(match o.guard with
   |none=>DStep Γ tab o s (kN Γ tab nt ops K rest) (rj Γ ops K rest)
   |some (j,want)=>(match gS ops s j with
    |some (some b)=>(b=want→DStep Γ tab o s (kN Γ tab nt ops K rest) (rj Γ ops K rest))∧(¬b=want→kN Γ tab nt ops K rest (s.put o.dst (.ae (.tuple #[]))))
    |some none=>kN Γ tab nt ops K rest (s.put o.dst (.ae (.tuple #[])))
    |none=>False))
theorem DStep.sound (ao:Γ.Ok) {tab:Nat→Option TD} (ah:aQ Γ.P tab) {o:Oper} {next rest K':AS G→Prop} (h:DStep Γ tab o s next rest) (h1:∀s,next s→K' s) (h2:∀s,rest s→K' s):
  ∃x,pT Γ o (s.only (o.looksAt ops)) x∧K' (s.put o.dst x):=by
 unfold DStep at h
 split at h
 ·rename_i c r hp'
  refine⟨r,.Jj (oU ao ah (c:=c) ?_ h.1),h1 _ h.2⟩
  rw[←hp']
  exact lG fun x hx=>iJ hx
 ·split at h
  ·rename_i f args ri
   obtain⟨r,hP,hr⟩:=h
   refine⟨r,?_,h2 _ hr⟩
   unfold ef at ri
   split at ri
   ·rename_i c hc
    split at ri
    ·rename_i x hx
     split at ri
     ·rename_i f' caps cS
      simp only[Option.some.injEq,Prod.mk.injEq] at ri
      obtain⟨rfl,rfl⟩:=ri
      have NB:∀y∈c.args.toList,y∈o.op.operands:=fun y hy=>by rw[hc];simp only[Op.operands,Call.operands,Array.mem_append];exact .inr (by simpa using hy)
      refine pT.pure ao hc hx (f:=f') (caps:=caps) ?_ ?_
      ·rw[iJ (by rw[hc];simp[Op.operands,Call.operands,hx])];exact cS
      ·have:c.args.toList.map (s.only (o.looksAt ops)).ev=c.args.toList.map s.ev:=List.map_congr_left fun y hy=>iJ (NB y hy)
       rw[this];exact hP
     ·cases ri
    ·cases ri
   ·cases ri
  ·exact h.elim
theorem kN.sound (ao:Γ.Ok) {tab:Nat→Option TD} (ah:aQ Γ.P tab) {nt:Nat} (cC:nt=Γ.nt) {K:AS G→Prop}:∀(l:List Oper) (s:AS G),kN Γ tab nt ops K l s→rj Γ ops K l s:=by
 subst cC
 intro l
 induction l with
 |nil=>intro s h;exact h
 |cons o rest ih=>
  intro s h
  simp only[kN] at h
  simp only[rj]
  split at h
  ·rename_i he
   rw[if_pos he]
   obtain⟨h1,h2,h3⟩:=h
   split at h3
   ·rename_i c r hp' hh
    exact⟨h1,h2,r,hp',gB ao ah hh h3.1,ih _ h3.2⟩
   ·exact h3.elim
  ·rename_i he
   rw[if_neg he]
   obtain⟨h1,h2⟩:=h
   split at h2
   ·rename_i hg
    obtain⟨x,h3,h4⟩:=DStep.sound (ops:=ops) ao ah h2 ih fun _ h=>h
    exact⟨x,⟨h1,.inl ⟨by simp[aG,hg],h3⟩⟩,h4⟩
   ·rename_i j want hg
    split at h2
    ·rename_i b hb
     by_cases gM:b=want
     ·obtain⟨x,h3,h4⟩:=DStep.sound (ops:=ops) ao ah (h2.1 gM) ih fun _ h=>h
      exact⟨x,⟨h1,.inl ⟨by simp[aG,hg,hb,gM],h3⟩⟩,h4⟩
     ·exact⟨_,⟨h1,.inr ⟨by simp[aG,hg,hb,gM],rfl⟩⟩,ih _ (h2.2 gM)⟩
    ·rename_i hb
     exact⟨_,⟨h1,.inr ⟨by simp[aG,hg,hb],rfl⟩⟩,ih _ h2⟩
    ·exact h2.elim
theorem dG.draw (ao:Γ.Ok) (hm:Γ.P.follows .mixedOrders=true) {id:Nat} {l:List Oper} {Q:Exit→AS G→Prop} (hd:uw l=true) (h:rj Γ l.toArray (Q .normal) l s):dG Γ (.region id l.toArray true) Q s:=by
 intro a w η hr
 refine wpIn_region_any hm ?_
 have:=rj.any (Γ:=Γ) hd l 0 (Array.replicate l.length false) s (fun j=>by simp) (by simp) (fun j hj=>by simp[hj]) (by simp) h
 have h2:=oA.sound (Qc:=fun e a' w'=>∃s' aH,Q e s'∧Rel Γ s' a' w' aH) ao (fun s' a' w' aH h1 h2=>⟨s',aH,h1,h2⟩) _ _ _ a w.drew η this (hr.same ao (bu.drew w))
 simpa using h2
def Sub (f' f:Nat→AV):Prop:=∀t,f' t=.top∨f' t=f t
theorem Sub.nil {f:Nat→AV}:Sub (fun _=>.top) f:=fun _=>.inl rfl
def AV.dJ (n:Nat):AV→Bool
 | .ptr r _=>decide (r<n)
 | .ae _ | .aL _ _=>true
 |_=>false
def AV.aM (n:Nat):AV→Bool
 | .own r _=>decide (r<n)
 | .ptr r _=>decide (r<n)
 | .mp r=>decide (r<n)
 | .aK _ cs=>cs.all (AV.dJ n)
 | .agg _ | .aX _ | .eH _ _ _ _ | .cK _ _=>false
 |_=>true
def AV.cL (n:Nat):AV→Bool
 | .agg cs=>cs.all (AV.aM n)
 |x=>x.aM n
def AV.closed (n:Nat):AV→Bool
 | .aX vs=>vs.all (AV.cL n)
 | .aK _ caps=>caps.all (AV.cL n)
 | .cK _ caps=>caps.all (AV.cL n)
 |x=>x.cL n
def af.closed (n:Nat):af→Bool
 | .box cs=>cs.all (AV.aM n)
 | .cA r _=>decide (r<n)
 |_=>true
def mr (n:Nat) (f:Nat→AV):Prop:=∀t,(f t).closed n=true
theorem mr.nil {n:Nat}:mr n (fun _=>.top):=fun _=>rfl
theorem mr.xQ {n:Nat} {f:Nat→AV} {t:Nat} {x:AV} (h:x.closed n=true) (h':mr n f):mr n (xQ f t x):=by
 intro u
 rw[fc]
 split
 ·exact h
 ·exact h' u
theorem ux {n r m:Nat} {v:Value} (hr:r<n) (h:aT η hp r m v):aT (η.take n) (hp.take n) r m v:=by
 unfold aT at h ⊢
 rw[List.getElem?_take,List.getElem?_take,if_pos hr,if_pos hr];exact h
theorem AW {F:Nat→Nat→Prop} {n:Nat} {x:AV} {v:Value} (cS:x.dJ n=true) (h:aY w F η hp x v):aY w F (η.take n) (hp.take n) x v:=by
 cases h with
 |ptr r off b h1=>exact .ptr r off b (by rw[List.getElem?_take,if_pos (by simpa [AV.dJ] using cS)];exact h1)
 |ae v=>exact .ae v
 |aL e off b o f ay hr=>exact .aL e off b o f ay hr
 |_=>simp[AV.dJ] at cS
theorem dy {F:Nat→Nat→Prop} {n:Nat} {x:AV} {v:Value} (cS:x.aM n=true) (h:aY w F η hp x v):aY w F (η.take n) (hp.take n) x v:=by
 cases h with
 |own r m v h1 h2=>exact .own r m v h1 (ux (by simpa [AV.aM] using cS) h2)
 |ptr r off b h1=>exact .ptr r off b (by rw[List.getElem?_take,if_pos (by simpa [AV.aM] using cS)];exact h1)
 |mp r b h1=>exact .mp r b (by rw[List.getElem?_take,if_pos (by simpa [AV.aM] using cS)];exact h1)
 |agg cs vs hl h1 hr=>simp[AV.aM] at cS
 |aX cs vs hl hr=>simp[AV.aM] at cS
 |aK fn cs vs hl hr=>exact .aK fn cs vs hl fun j x u hx hu=>AW (by simp only[AV.aM,List.all_eq_true] at cS;exact cS x (List.mem_of_getElem? hx)) (hr j x u hx hu)
 |top v=>exact .top v
 |ae v=>exact .ae v
 |fn v h1=>exact .fn v h1
 |ki a=>exact .ki a
 |iB a=>exact .iB a
 |sl size els b o c f hc hm hl ay hr=>exact .sl size els b o c f hc hm hl ay hr
 |clip size els b o f hm hl ay hr=>exact .clip size els b o f hm hl ay hr
 |aL e off b o f ay hr=>exact .aL e off b o f ay hr
 |ea b es c h hF l hl=>exact .ea b es c h hF l hl
 |eH r n i size b o c k h=>simp[AV.aM] at cS
 |cK fn cs vs hl hr=>simp[AV.aM] at cS
theorem jM {F:Nat→Nat→Prop} {n:Nat} {x:AV} {v:Value} (hc:x.cL n=true) (h:aY w F η hp x v):aY w F (η.take n) (hp.take n) x v:=by
 cases x with
 |agg cs=>
  cases h with
  |agg _ vs hl h1 hr=>exact .agg cs vs hl h1 fun j x v hx hv=>dy (by simp only[AV.cL,List.all_eq_true] at hc;exact hc x (List.mem_of_getElem? hx)) (hr j x v hx hv)
 |_=>exact dy hc h
theorem lH {F:Nat→Nat→Prop} {n:Nat} {x:AV} {v:Value} (hc:x.closed n=true) (h:aY w F η hp x v):aY w F (η.take n) (hp.take n) x v:=by
 cases x with
 |aX cs=>
  cases h with
  |aX _ vs hl hr=>exact .aX cs vs hl fun j x v hx hv=>jM (by simp only[AV.closed,List.all_eq_true] at hc;exact hc x (List.mem_of_getElem? hx)) (hr j x v hx hv)
 |aK f cs=>
  cases h with
  |aK _ _ vs hl hr=>exact .aK f cs vs hl fun j x v hx hv=>jM (by simp only[AV.closed,List.all_eq_true] at hc;exact hc x (List.mem_of_getElem? hx)) (hr j x v hx hv)
 |cK f cs=>
  cases h with
  |cK _ _ vs hl hr=>exact .cK f cs vs hl fun j x v hx hv=>jM (by simp only[AV.closed,List.all_eq_true] at hc;exact hc x (List.mem_of_getElem? hx)) (hr j x v hx hv)
 |_=>exact jM hc h
theorem bX.cutAt {f f':Nat→AV} {hp:List af} {g:G} (ao:Γ.Ok) (n:Nat) (hn:Γ.iV.length≤n) (hs:Sub f' f) (hc:mr n f') (ho:∀o∈hp.take n,af.closed n o=true) (hr:Rel Γ ⟨f,hp,g⟩ a w η):Rel Γ ⟨f',hp.take n,g⟩ a w (η.take n):=by
 have hlen:η.length=hp.length:=hr.heap.len
 have bR:∀{r:Nat} {o:af},(hp.take n)[r]?=some o→hp[r]?=some o∧r<n:=by
  intro r o h
  rw[List.getElem?_take] at h
  split at h
  ·rename_i ak;exact⟨h,ak⟩
  ·cases h
 have uy:∀{r:Nat} {v:Value},(η.take n)[r]?=some v→η[r]?=some v∧r<n:=by
  intro r o h
  rw[List.getElem?_take] at h
  split at h
  ·rename_i ak;exact⟨h,ak⟩
  ·cases h
 have dT:∀b o,aW Γ w η hp b o→aW Γ w (η.take n) (hp.take n) b o:=by
  intro b o hf
  refine⟨hf.1,hf.2.1,hf.2.2.1,(aR b o).2 fun r v hv hb=>?_⟩
  obtain⟨h1,h2⟩:=uy hv
  obtain⟨o1,q1,q2⟩:=(aR b o).1 hf.2.2.2 r v h1 hb
  exact⟨o1,by rw[List.getElem?_take,if_pos h2];exact q1,q2⟩
 have bZ:∀{vZ:List Value} {iV:List af} {x:AV} {v:Value},aY w (aW Γ w η hp) vZ iV x v→aY w (aW Γ w (η.take n) (hp.take n)) vZ iV x v:=
  fun h=>h.ext ⟨fun _ _ _ _ h=>h,fun _ _ _ _ h=>h,dT,fun _ _ h=>h,fun _ _ h=>h,fun _ _ _ h=>h⟩
 refine⟨hr.nt,fun t=>?_,⟨by simp only[List.length_take,hlen],fun r o v h1 h2=>?_,fun r r' o o' v v' b bh h1 h2 l1 l2 e1 e2 hb=>?_⟩,fun r o v b h1 hl h2 hb=>?_,hr.keeps,hr.inv,hr.marks,⟨hr.ext.cell,hr.ext.gp,fun b o hb=>dT b o (hr.ext.bb b o hb),fun r x hx=>?_,fun r x hx=>?_,fun r m v hx=>?_⟩⟩
 ·rcases hs t with h1|h1
  ·show aY w _ _ _ (f' t) _
   rw[h1];exact .top _
  ·have h2:=hr.tmps t
   have h3:=hc t
   rw[h1] at h3
   show aY w _ _ _ (f' t) _
   rw[h1]
   exact bZ (lH h3 h2)
 ·obtain⟨g1,g2⟩:=bR h1
  obtain⟨g3,_⟩:=uy h2
  have cW:=hr.heap.obj r o v g1 g3
  have cS:=ho o (List.mem_of_getElem? h1)
  cases o with
  |dead=>exact True.intro
  |box cs=>
   obtain⟨b,vs,T,e1,e2,e3,e4⟩:=cW
   exact⟨b,vs,T,e1,e2,e3,fun j x u hx hu=>⟨bZ (dy (by simp only[af.closed,List.all_eq_true] at cS;exact cS x (List.mem_of_getElem? hx)) (e4 j x u hx hu).1),(e4 j x u hx hu).2⟩⟩
  |row e size els=>
   obtain⟨e0,xs,e1,e2⟩:=cW
   exact⟨e0,xs,e1,fun i el hi=>⟨(e2 i el hi).1,fun j x hj=>let ⟨u,q1,q2,q3⟩:=(e2 i el hi).2 j x hj;⟨u,q1,bZ q2,q3⟩⟩⟩
  |aB es=>exact cW
  |cA q k=>
   obtain⟨b,vs,e1,e2,e3,e4,u,e5,e6⟩:=cW
   exact⟨b,vs,e1,e2,e3,e4,u,e5,bZ (dy (x:=.own q k) (by simpa [AV.aM,af.closed] using cS) e6)⟩
  |aI e size els=>
   obtain⟨e0,xs,e1,e2⟩:=cW
   exact⟨e0,xs,e1,fun i el hi=>⟨(e2 i el hi).1,fun j x hj=>let ⟨u,q1,q2,q3⟩:=(e2 i el hi).2 j x hj;⟨u,q1,bZ q2,q3⟩⟩⟩
  |dB e m ns=>exact cW
 ·exact hr.heap.sep r r' o o' v v' b bh (bR h1).1 (bR h2).1 l1 l2 (uy e1).1 (uy e2).1 hb
 ·exact hr.bA r o v b (bR h1).1 hl (uy h2).1 hb
 ·have:r<n:=by have:=(List.getElem?_eq_some_iff.1 hx).1;have:=ao.l0;omega
  rw[List.getElem?_take,if_pos this];exact hr.ext.ptr r x hx
 ·have:r<n:=by have:=(List.getElem?_eq_some_iff.1 hx).1;have:=ao.l0;omega
  rw[List.getElem?_take,if_pos this];exact hr.ext.mp r x hx
 ·have:r<n:=by
   unfold aT at hx
   cases ec:Γ.iV[r]? with
   |none=>rw[ec] at hx;exact hx.elim
   |some o=>have:=(List.getElem?_eq_some_iff.1 ec).1;omega
  exact ux this (hr.ext.own r m v hx)
theorem bX.cut {f f':Nat→AV} {hp hp':List af} {g:G} (ao:Γ.Ok) (n:Nat) (hn:Γ.iV.length≤n) (hs:Sub f' f) (hc:mr n f') (ht:hp.take n=hp') (ho:∀o∈hp',af.closed n o=true):bX Γ ⟨f,hp,g⟩ ⟨f',hp',g⟩:=by
 subst ht
 exact fun a w η hr=>⟨η.take n,bX.cutAt ao n hn hs hc ho hr⟩
theorem bX.Jk {M:Bool} (ao:Γ.Ok) {f:Nat→AV} {hp:List af} {g:G} (t e size:Nat) (bC:0<size) (ht:f t=.ae (.slice none 0 0)):bX Γ ⟨f,hp,g⟩ ⟨xQ f t (.own hp.length 0),hp++[eU M e size []],g⟩:=by
 intro a w η hr
 have h1:=hr.add ao (o:=eU M e size []) (v:=.slice none 0 0) (bu.refl w) (fun b hb=>by simp[bU] at hb) (ky.2 ⟨bC,[],⟨by simp,.inl ⟨rfl,.inl rfl⟩⟩,fun i el hi=>by simp at hi⟩)
 refine⟨η++[.slice none 0 0],h1.nt,fun u=>?_,h1.heap,h1.bA,h1.keeps,h1.inv,h1.marks,h1.ext⟩
 show aY w _ _ _ (xQ f t (.own hp.length 0) u) _
 rw[fc]
 split
 ·rename_i hu
  subst hu
  have h2:=hr.tmps u
  simp only[ht] at h2
  rw[h2.al]
  have hlen:η.length=hp.length:=hr.heap.len
  exact .own _ 0 _ rfl ((iZ (M:=M) (e:=e) (size:=size) (els:=[]) (by simp)).2 ⟨Nat.le_refl _,fun _=>by rw[←hlen];simp⟩)
 ·exact h1.tmps u
theorem bX.row (ao:Γ.Ok) {f:Nat→AV} {hp:List af} {g:G} (t e size:Nat) (bC:0<size) (ht:f t=.ae (.slice none 0 0)):bX Γ ⟨f,hp,g⟩ ⟨xQ f t (.own hp.length 0),hp++[.row e size []],g⟩:=bX.Jk (M:=false) ao t e size bC ht
theorem bX.RN {M:Bool} (ao:Γ.Ok) {f:Nat→AV} {hp:List af} {g:G} (r k e size:Nat) (bC:0<size) {cs:List AV} (hb:hp[r]?=some (.box cs)) (hk:cs[k]?=some (.ae (.slice none 0 0))):
  bX Γ ⟨f,hp,g⟩ ⟨f,hp.set r (.box (cs.set k (.own hp.length 0)))++[eU M e size []],g⟩:=by
 intro a w η hr
 have h1:=hr.add ao (o:=eU M e size []) (v:=.slice none 0 0) (bu.refl w) (fun b hb=>by simp[bU] at hb) (ky.2 ⟨bC,[],⟨by simp,.inl ⟨rfl,.inl rfl⟩⟩,fun i el hi=>by simp at hi⟩)
 have XW:r<hp.length:=(List.getElem?_eq_some_iff.1 hb).1
 have ou:hp.set r (.box (cs.set k (.own hp.length 0)))++[eU M e size []]=(hp++[eU M e size []]).set r (.box (cs.set k (.own hp.length 0))):=by
  rw[List.set_append,if_pos XW]
 have er:(hp++[eU M e size []])[r]?=some (.box cs):=bV hb
 have hlen:η.length=hp.length:=hr.heap.len
 obtain⟨v,hv⟩:∃v,(η++[Value.slice none 0 0])[r]?=some v:=⟨_,List.getElem?_eq_getElem (by simp;omega)⟩
 have cW:=h1.heap.obj r _ v er hv
 have Xi:∀b o,aW Γ w (η++[Value.slice none 0 0]) (hp++[eU M e size []]) b o→aW Γ w (η++[Value.slice none 0 0]) ((hp++[eU M e size []]).set r (.box (cs.set k (.own hp.length 0)))) b o:=by
  intro b o hf
  refine⟨hf.1,hf.2.1,hf.2.2.1,(aR b o).2 fun q u hu IK=>?_⟩
  obtain⟨o1,q1,q2⟩:=(aR b o).1 hf.2.2.2 q u hu IK
  by_cases hq:r=q
  ·subst hq;rw[er] at q1;obtain rfl:=Option.some.inj q1;exact q2.elim
  ·exact⟨o1,by rw[getElem?_set_ne hq];exact q1,q2⟩
 have qZ:∀q n u,aT (η++[Value.slice none 0 0]) (hp++[eU M e size []]) q n u→aT (η++[Value.slice none 0 0]) ((hp++[eU M e size []]).set r (.box (cs.set k (.own hp.length 0)))) q n u:=by
  intro q n u ho
  unfold aT at ho ⊢
  by_cases hq:r=q
  ·subst hq;rw[er] at ho;exact ho.elim
  ·rw[getElem?_set_ne hq];exact ho
 have he:Ext w (aW Γ w (η++[Value.slice none 0 0]) (hp++[eU M e size []])) (η++[Value.slice none 0 0]) (hp++[eU M e size []]) w (aW Γ w (η++[Value.slice none 0 0]) ((hp++[eU M e size []]).set r (.box (cs.set k (.own hp.length 0))))) (η++[Value.slice none 0 0]) ((hp++[eU M e size []]).set r (.box (cs.set k (.own hp.length 0)))):=
  ⟨fun _ _ _ _ h=>h,fun _ _ _ _ h=>h,Xi,fun _ _ h=>h,fun _ _ h=>h,qZ⟩
 rw[ou]
 refine⟨η++[.slice none 0 0],h1.nt,fun u=>(h1.tmps u).ext he,⟨by simp[hlen],fun q o u g1 g2=>?_,fun q q' o o' u u' b bh g1 g2 l1 l2 e1 e2 Xj=>?_⟩,fun q o u b g1 hl g2 Xj=>?_,h1.keeps,h1.inv,h1.marks,(by exact h1.ext.trans he)⟩
 ·by_cases hq:r=q
  ·subst hq
   simp only at g1
   rw[aj er] at g1
   obtain rfl:=Option.some.inj g1
   rw[hv] at g2
   obtain rfl:=Option.some.inj g2
   obtain⟨b,vs,T,q1,q2,q3,q4⟩:=cW
   refine⟨b,vs,T,q1,q2,by simpa using q3,fun j x u hx hu=>?_⟩
   by_cases hj:k=j
   ·subst hj
    have fq:k<cs.length:=(List.getElem?_eq_some_iff.1 hk).1
    have h5:=q4 k _ u hk hu
    rw[List.getElem?_set] at hx
    simp only[if_true,if_pos fq] at hx
    obtain rfl:=Option.some.inj hx
    refine⟨.own _ 0 _ h5.2 ?_,h5.2⟩
    have h6:=h5.1.al
    subst h6
    refine(iZ (M:=M) (e:=e) (size:=size) (els:=[]) (by rw[getElem?_set_ne (by omega)];simp)).2 ⟨Nat.le_refl _,fun _=>by rw[←hlen];simp⟩
   ·rw[getElem?_set_ne hj] at hx
    exact⟨(q4 j x u hx hu).1.ext he,(q4 j x u hx hu).2⟩
  ·simp only at g1
   rw[getElem?_set_ne hq] at g1
   exact(h1.heap.obj q o u g1 g2).ext he (Nat.le_refl _) fun _ _ _=>rfl
 ·have conv:∀{q:Nat} {o:af},((hp++[eU M e size []]).set r (.box (cs.set k (.own hp.length 0))))[q]?=some o→o.live→∃o',(hp++[eU M e size []])[q]?=some o'∧o'.live:=by
   intro q o g hl
   by_cases hq:r=q
   ·subst hq;exact⟨_,er,True.intro⟩
   ·rw[getElem?_set_ne hq] at g;exact⟨o,g,hl⟩
  obtain⟨o1,p1,p2⟩:=conv g1 l1
  obtain⟨o2,p3,p4⟩:=conv g2 l2
  exact h1.heap.sep q q' o1 o2 u u' b bh p1 p3 p2 p4 e1 e2 Xj
 ·by_cases hq:r=q
  ·subst hq;exact h1.bA r _ u b er True.intro g2 Xj
  ·simp only at g1
   rw[getElem?_set_ne hq] at g1;exact h1.bA q o u b g1 hl g2 Xj
end Go.Proofs.YtdcikhleahfknaaGreatDoor
