/- Texts of ours laid together for a claim: FilQ. -/
import Derived.Test.YtnkjkpmbgoehkaaGreatQ04
namespace Go.Proofs.YtnkjkpmbgoehkaaGreat
open Go
set_option linter.unusedSimpArgs false
set_option linter.unusedVariables false
variable {G:Type} {Γ:Env G} {s s':AS G} {a:Act} {w w':World} {η:List Value} {hp:List ab} {P:Program} {ops:Array Oper}
theorem nr {tab:Nat->Option TD} {ρ I9:Operand->AV} {op:Op} (h:∀x∈op.operands,ρ x=I9 x):bo tab hp ρ op=bo tab hp I9 op:=by
 cases op with
 |move x=>simp only[bo,h x (by simp[Op.operands])]
 |assign x=>simp only[bo,h x (by simp[Op.operands])]
 |nilCheck x=>simp only[bo,h x (by simp[Op.operands])]
 |pick c x y=>simp only[bo,h c (by simp[Op.operands]),h x (by simp[Op.operands]),h y (by simp[Op.operands])]
 |fieldAddr T x f=>simp only[bo,h x (by simp[Op.operands])]
 |load T x=>simp only[bo,h x (by simp[Op.operands])]
 |indexAddr T x i=>simp only[bo,h x (by simp[Op.operands]),h i (by simp[Op.operands])]
 |binOp op T x y T'=>simp only[bo,h x (by simp[Op.operands]),h y (by simp[Op.operands])]
 |unOp op T x=>simp only[bo,h x (by simp[Op.operands])]
 |convert S D x=>simp only[bo,h x (by simp[Op.operands])]
 |field T x f=>simp only[bo,h x (by simp[Op.operands])]
 |extract x i=>simp only[bo,h x (by simp[Op.operands])]
 |index T x i=>simp only[bo,h x (by simp[Op.operands]),h i (by simp[Op.operands])]
 |lookup T m k ok=>simp only[bo,h m (by simp[Op.operands]),h k (by simp[Op.operands])]
 |build T parts=>
  have:(parts.toList.map fun p=>(p.1,ρ p.2))=parts.toList.map fun p=>(p.1,I9 p.2):=amx fun p hp'=>by
   rw[h p.2 (by simp only[Op.operands,List.mem_toArray,amg];exact⟨p,hp',rfl⟩)]
  simp only[bo,this]
 |buildSlice T n parts=>
  have:(parts.toList.map fun p=>(ρ p.2).bl hp)=parts.toList.map fun p=>(I9 p.2).bl hp:=amx fun p hp'=>by
   rw[h p.2 (by simp only[Op.operands,List.mem_toArray,amg];exact⟨p,hp',rfl⟩)]
  simp only[bo,this]
 |makeFunc fn first caps=>
  have:caps.toList.map ρ=caps.toList.map I9:=amx fun x hx=>h x (by simp only[Op.operands,amJ];exact .inr (by simpa using hx));have h2:first.toList.map ρ=first.toList.map I9:=amx fun x hx=>h x (by simp only[Op.operands,amJ];exact .inl (by simpa using hx))
  cases fn<;>simp only[bo,this,h2]
 |slice T x lo hi mx=>
  have h1:∀d,bI ρ d lo=bI I9 d lo:=fun d=>by cases lo with|none=>rfl|some y=>simp only[bI,h y (by simp[Op.operands])]
  have h2:∀d,bI ρ d hi=bI I9 d hi:=fun d=>by cases hi with|none=>rfl|some y=>simp only[bI,h y (by simp[Op.operands])]
  have h3:(mx.map fun m=>bI ρ 0 (some m))=mx.map fun m=>bI I9 0 (some m):=by
   cases mx with
   |none=>rfl
   |some m=>simp only[alN,bI,h m (by simp[Op.operands])]
  cases mx<;>simp only[bo,h x (by simp[Op.operands]),h1,h2,h3]
 |call c=>
  simp only[bo];have hl:∀l,c.args.toList=l->∀x∈l,ρ x=I9 x:=fun l hl x hx=>h x (by
   simp only[Op.operands,Call.operands,amJ]
   exact .inr (by rw[<-amH,hl];exact hx))
  split
  ·rename_i x hb KR;simp only[hl _ KR x (by simp)]
  ·rename_i x y hb KR;simp only[hl _ KR x (by simp),hl _ KR y (by simp)]
  ·rename_i x y hb KR;simp only[hl _ KR x (by simp),hl _ KR y (by simp)]
  ·rfl
 |_=>rfl
theorem jP {o:Oper} {x:Operand} (hx:x∈o.op.operands):(s.only (o.looksAt ops)).ev x=s.ev x:=by
 cases x with
 |tmp t=>
  show (if t∈o.looksAt ops then s.tmps t else .top)=s.tmps t;rw[if_pos];unfold Oper.looksAt;refine am1 _ (List.mem_filterMap.2 ⟨.tmp t,by simpa using hx,rfl⟩)
 |_=>rfl
theorem r3.Np {o:Oper} {r:AV} (h:fE Γ o s r):r3 Γ o s r:=by
 intro a w η Kc Qc hr hk;obtain⟨v,w',h1,h2,h3⟩:=h a w η hr;refine⟨fun _ _=>trivial,?_⟩;rw[kl h1 (.inl ⟨v,rfl⟩)];exact hk v w' h2 h3
theorem r3.pure (al:Γ.Ok) {o:Oper} {c:Call} {x:Operand} (ho:o.op=.call c) (hc:c.callee=.value x) {f:FuncId} {caps:List AV} (hx:s.ev x=.bf f caps) {r:AV}
  (hP:af Γ.P f ((c.args.toList.map s.ev++caps).map (AV.bl s.hp)) r):r3 Γ o s r:=by
 intro a w η Kc Qc hr hk;have eo:=hr.ev x;rw[hx] at eo;generalize hv:a.eval x=v at eo
 cases eo with
 |bf _ _ vs hl dG=>
  refine⟨fun _ _=>trivial,?_⟩;have bL:∀c',o.op ≠ .defer c':=by intro c' h;rw[ho] at h;cases h
  rw[Oper.semAt_eq _ _ _ bL,fT ho hc hP.1 hv];have aw:(c.args.map a.eval++vs)=(c.args.toList.map a.eval++vs.toList).toArray:=by apply amy;simp
  have cY:bS w (aW Γ w η s.hp) η s.hp caps vs.toList:=cU (by simpa using hl) fun j y u hy hu=>dG j y u hy (by simpa using hu);have gA:=lA hr _ _ (dR _ _ (gn hr c.args.toList) cY);refine⟨fun h=>(by cases h),?_⟩;rw[aw];have ff:=hP.2 w (aW Γ w η s.hp) _ (fun _ _=>eu) (hr.ju al) gA;refine CallsIn.mono (F:=Γ.eB) ?_ (R:=fun e w'=>∃v q,e=.returned v/\q=r/\bD w w'/\ba w' (G0 (aW Γ w η s.hp) w w') [] [] q v) fun e w' ⟨u,q,he,hR,hs,Zb⟩=>?_
  ·exact ff
  ·subst he;subst hR;exact hk u w' hs ((Zb.bk fun b o h=>wU al hr hs h).lift)
def fg (s:AS G):Op->Option (Nat×List AV)
 | .call c=>(match c.callee with
  | .value x=>(match s.ev x with
   | .bf f caps=>some (f,(c.args.toList.map s.ev++caps).map (AV.bl s.hp))
   |_=>none)
  |_=>none)
 |_=>none
def DStep (Γ:Env G) (tab:Nat->Option TD) (o:Oper) (s:AS G) (next rest:AS G->Prop):Prop:=
 match bo tab s.hp s.ev o.op with
 |some (c,r)=>c/\next (s.put o.dst r)
 |none=>(match fg s o.op with
  |some (f,args)=>∃r,af Γ.P f args r/\rest (s.put o.dst r)
  |none=>False)
def mC (Γ:Env G) (tab:Nat->Option TD) (nt:Nat) (ops:Array Oper) (K:AS G->Prop):List Oper->AS G->Prop
 | [],s=>K s
 |o::rest,s=>if cf o.op=true then cP nt o.dst/\o.guard=none/\(match dB tab s.hp s.ev o.op with
   |some (c,r,hp')=>c/\mC Γ tab nt ops K rest (AS.put { s with hp:=hp' } o.dst r)
   |none=>False)
  else cP nt o.dst/\(match o.guard with
   |none=>DStep Γ tab o s (mC Γ tab nt ops K rest) (tM Γ ops K rest)
   |some (j,want)=>(match jh ops s j with
    |some (some b)=>(b=want->DStep Γ tab o s (mC Γ tab nt ops K rest) (tM Γ ops K rest))/\(¬b=want->mC Γ tab nt ops K rest (s.put o.dst (.ae (.tuple #[]))))
    |some none=>mC Γ tab nt ops K rest (s.put o.dst (.ae (.tuple #[])))
    |none=>False))
theorem DStep.sound (al:Γ.Ok) {tab:Nat->Option TD} (ah:aL Γ.P tab) {o:Oper} {next rest K':AS G->Prop} (h:DStep Γ tab o s next rest) (h1:∀s,next s->K' s) (h2:∀s,rest s->K' s):
  ∃x,r3 Γ o (s.only (o.looksAt ops)) x/\K' (s.put o.dst x):=by
 unfold DStep at h;split at h
 ·rename_i c r hp';refine⟨r,.Np (qY al ah (c:=c) ?_ h.1),h1 _ h.2⟩;rw[<-hp'];exact nr fun x hx=>jP hx
 ·split at h
  ·rename_i f args qE;obtain⟨r,hP,hr⟩:=h;refine⟨r,?_,h2 _ hr⟩;unfold fg at qE;split at qE
   ·rename_i c hc;split at qE
    ·rename_i x hx;split at qE
     ·rename_i f' caps cY;simp only[alh,alk] at qE;obtain⟨rfl,rfl⟩:=qE;have aeJ:∀y∈c.args.toList,y∈o.op.operands:=fun y hy=>by rw[hc];simp only[Op.operands,Call.operands,amJ];exact .inr (by simpa using hy)
      refine r3.pure al hc hx (f:=f') (caps:=caps) ?_ ?_
      ·rw[jP (by rw[hc];simp[Op.operands,Call.operands,hx])];exact cY
      ·have:c.args.toList.map (s.only (o.looksAt ops)).ev=c.args.toList.map s.ev:=amx fun y hy=>jP (aeJ y hy);rw[this];exact hP
     ·cases qE
    ·cases qE
   ·cases qE
  ·exact h.elim
theorem mC.sound (al:Γ.Ok) {tab:Nat->Option TD} (ah:aL Γ.P tab) {nt:Nat} (dj:nt=Γ.nt) {K:AS G->Prop}:∀(l:List Oper) (s:AS G),mC Γ tab nt ops K l s->tM Γ ops K l s:=by
 subst dj;intro l
 induction l with
 |nil=>intro s h;exact h
 |cons o rest ih=>
  intro s h;simp only[mC] at h;simp only[tM];split at h
  ·rename_i he;rw[if_pos he];obtain⟨h1,h2,h3⟩:=h;split at h3
   ·rename_i c r hp' hh;exact⟨h1,h2,r,hp',iL al ah hh h3.1,ih _ h3.2⟩
   ·exact h3.elim
  ·rename_i he;rw[if_neg he];obtain⟨h1,h2⟩:=h;split at h2
   ·rename_i hg;obtain⟨x,h3,h4⟩:=DStep.sound (ops:=ops) al ah h2 ih fun _ h=>h;exact⟨x,⟨h1,.inl ⟨by simp[aC,hg],h3⟩⟩,h4⟩
   ·rename_i j want hg;split at h2
    ·rename_i b hb
     by_cases iW:b=want
     ·obtain⟨x,h3,h4⟩:=DStep.sound (ops:=ops) al ah (h2.1 iW) ih fun _ h=>h;exact⟨x,⟨h1,.inl ⟨by simp[aC,hg,hb,iW],h3⟩⟩,h4⟩
     ·exact⟨_,⟨h1,.inr ⟨by simp[aC,hg,hb,iW],rfl⟩⟩,ih _ (h2.2 iW)⟩
    ·rename_i hb;exact⟨_,⟨h1,.inr ⟨by simp[aC,hg,hb],rfl⟩⟩,ih _ h2⟩
    ·exact h2.elim
theorem ej.draw (al:Γ.Ok) (hm:Γ.P.follows .mixedOrders=true) {id:Nat} {l:List Oper} {Q:Exit->AS G->Prop} (hd:wW l=true) (h:tM Γ l.toArray (Q .normal) l s):ej Γ (.region id l.toArray true) Q s:=by
 intro a w η hr;refine wpIn_region_any hm ?_;have:=tM.any (Γ:=Γ) hd l 0 (Array.replicate l.length false) s (fun j=>by simp) (by simp) (fun j hj=>by simp[hj]) (by simp) h;have h2:=qu.sound (Qc:=fun e a' w'=>∃s' aO,Q e s'/\Rel Γ s' a' w' aO) al (fun s' a' w' aO h1 h2=>⟨s',aO,h1,h2⟩) _ _ _ a w.drew η this (hr.same al (bD.drew w));simpa using h2
def Sub (f' f:Nat->AV):Prop:=∀t,f' t=.top\/f' t=f t
theorem Sub.nil {f:Nat->AV}:Sub (fun _=>.top) f:=fun _=>.inl rfl
def AV.ep (n:Nat):AV->Bool
 | .ptr r _=>decide (r<n)
 | .ae _ | .aJ _ _=>true
 |_=>false
def AV.aF (n:Nat):AV->Bool
 | .own r _=>decide (r<n)
 | .ptr r _=>decide (r<n)
 | .mp r=>decide (r<n)
 | .bf _ cs=>cs.all (AV.ep n)
 | .agg _ | .av _ | .fq _ _ _ _ | .cB _ _=>false
 |_=>true
def AV.dt (n:Nat):AV->Bool
 | .agg cs=>cs.all (AV.aF n)
 |x=>x.aF n
def AV.closed (n:Nat):AV->Bool
 | .av vs=>vs.all (AV.dt n)
 | .bf _ caps=>caps.all (AV.dt n)
 | .cB _ caps=>caps.all (AV.dt n)
 |x=>x.dt n
def ab.closed (n:Nat):ab->Bool
 | .box cs=>cs.all (AV.aF n)
 | .iz r _=>decide (r<n)
 |_=>true
def oh (n:Nat) (f:Nat->AV):Prop:=∀t,(f t).closed n=true
theorem oh.nil {n:Nat}:oh n (fun _=>.top):=fun _=>rfl
theorem oh.zb {n:Nat} {f:Nat->AV} {t:Nat} {x:AV} (h:x.closed n=true) (h':oh n f):oh n (zb f t x):=by
 intro u;rw[fX];split
 ·exact h
 ·exact h' u
theorem wX {n r m:Nat} {v:Value} (hr:r<n) (h:aR η hp r m v):aR (η.take n) (hp.take n) r m v:=by
 unfold aR at h ⊢;rw[alz,alz,if_pos hr,if_pos hr];exact h
theorem Dn {F:Nat->Nat->Prop} {n:Nat} {x:AV} {v:Value} (cY:x.ep n=true) (h:ba w F η hp x v):ba w F (η.take n) (hp.take n) x v:=by
 cases h with
 |ptr r off b h1=>exact .ptr r off b (by rw[alz,if_pos (by simpa [AV.ep] using cY)];exact h1)
 |ae v=>exact .ae v
 |aJ e off b o f aA hr=>exact .aJ e off b o f aA hr
 |_=>simp[AV.ep] at cY
theorem dS {F:Nat->Nat->Prop} {n:Nat} {x:AV} {v:Value} (cY:x.aF n=true) (h:ba w F η hp x v):ba w F (η.take n) (hp.take n) x v:=by
 cases h with
 |own r m v h1 h2=>exact .own r m v h1 (wX (by simpa [AV.aF] using cY) h2)
 |ptr r off b h1=>exact .ptr r off b (by rw[alz,if_pos (by simpa [AV.aF] using cY)];exact h1)
 |mp r b h1=>exact .mp r b (by rw[alz,if_pos (by simpa [AV.aF] using cY)];exact h1)
 |agg cs vs hl h1 hr=>simp[AV.aF] at cY
 |av cs vs hl hr=>simp[AV.aF] at cY
 |bf fn cs vs hl hr=>exact .bf fn cs vs hl fun j x u hx hu=>Dn (by simp only[AV.aF,alv] at cY;exact cY x (alq hx)) (hr j x u hx hu)
 |top v=>exact .top v
 |ae v=>exact .ae v
 |fn v h1=>exact .fn v h1
 |oc a=>exact .oc a
 |jB a=>exact .jB a
 |sl size els b o c f hc hm hl aA hr=>exact .sl size els b o c f hc hm hl aA hr
 |clip size els b o f hm hl aA hr=>exact .clip size els b o f hm hl aA hr
 |aJ e off b o f aA hr=>exact .aJ e off b o f aA hr
 |eY b es c h hF l hl=>exact .eY b es c h hF l hl
 |fq r n i size b o c k h=>simp[AV.aF] at cY
 |cB fn cs vs hl hr=>simp[AV.aF] at cY
theorem lB {F:Nat->Nat->Prop} {n:Nat} {x:AV} {v:Value} (hc:x.dt n=true) (h:ba w F η hp x v):ba w F (η.take n) (hp.take n) x v:=by
 cases x with
 |agg cs=>
  cases h with
  |agg _ vs hl h1 hr=>exact .agg cs vs hl h1 fun j x v hx hv=>dS (by simp only[AV.dt,alv] at hc;exact hc x (alq hx)) (hr j x v hx hv)
 |_=>exact dS hc h
theorem nu {F:Nat->Nat->Prop} {n:Nat} {x:AV} {v:Value} (hc:x.closed n=true) (h:ba w F η hp x v):ba w F (η.take n) (hp.take n) x v:=by
 cases x with
 |av cs=>
  cases h with
  |av _ vs hl hr=>exact .av cs vs hl fun j x v hx hv=>lB (by simp only[AV.closed,alv] at hc;exact hc x (alq hx)) (hr j x v hx hv)
 |bf f cs=>
  cases h with
  |bf _ _ vs hl hr=>exact .bf f cs vs hl fun j x v hx hv=>lB (by simp only[AV.closed,alv] at hc;exact hc x (alq hx)) (hr j x v hx hv)
 |cB f cs=>
  cases h with
  |cB _ _ vs hl hr=>exact .cB f cs vs hl fun j x v hx hv=>lB (by simp only[AV.closed,alv] at hc;exact hc x (alq hx)) (hr j x v hx hv)
 |_=>exact lB hc h
theorem ck.cutAt {f f':Nat->AV} {hp:List ab} {g:G} (al:Γ.Ok) (n:Nat) (hn:Γ.lx.length<=n) (hs:Sub f' f) (hc:oh n f') (ho:∀o∈hp.take n,ab.closed n o=true) (hr:Rel Γ ⟨f,hp,g⟩ a w η):Rel Γ ⟨f',hp.take n,g⟩ a w (η.take n):=by
 have hlen:η.length=hp.length:=hr.heap.len;have dA:∀{r:Nat} {o:ab},(hp.take n)[r]?=some o->hp[r]?=some o/\r<n:=by
  intro r o h;rw[alz] at h;split at h
  ·rename_i aq;exact⟨h,aq⟩
  ·cases h
 have wY:∀{r:Nat} {v:Value},(η.take n)[r]?=some v->η[r]?=some v/\r<n:=by
  intro r o h;rw[alz] at h;split at h
  ·rename_i aq;exact⟨h,aq⟩
  ·cases h
 have jc:∀b o,aW Γ w η hp b o->aW Γ w (η.take n) (hp.take n) b o:=by
  intro b o hf;refine⟨hf.1,hf.2.1,hf.2.2.1,(aS b o).2 fun r v hv hb=>?_⟩;obtain⟨h1,h2⟩:=wY hv;obtain⟨o1,q1,q2⟩:=(aS b o).1 hf.2.2.2 r v h1 hb;exact⟨o1,by rw[alz,if_pos h2];exact q1,q2⟩
 have fF:∀{zg:List Value} {lx:List ab} {x:AV} {v:Value},ba w (aW Γ w η hp) zg lx x v->ba w (aW Γ w (η.take n) (hp.take n)) zg lx x v:=
  fun h=>h.ext ⟨fun _ _ _ _ h=>h,fun _ _ _ _ h=>h,jc,fun _ _ h=>h,fun _ _ h=>h,fun _ _ _ h=>h⟩
 refine⟨hr.nt,fun t=>?_,⟨by simp only[amf,hlen],fun r o v h1 h2=>?_,fun r r' o o' v v' b bL h1 h2 l1 l2 e1 e2 hb=>?_⟩,fun r o v b h1 hl h2 hb=>?_,hr.keeps,hr.inv,hr.marks,⟨hr.ext.cell,hr.ext.jt,fun b o hb=>jc b o (hr.ext.bk b o hb),fun r x hx=>?_,fun r x hx=>?_,fun r m v hx=>?_⟩⟩
 ·rcases hs t with h1|h1
  ·show ba w _ _ _ (f' t) _;rw[h1];exact .top _
  ·have h2:=hr.tmps t;have h3:=hc t;rw[h1] at h3;show ba w _ _ _ (f' t) _;rw[h1];exact fF (nu h3 h2)
 ·obtain⟨g1,g2⟩:=dA h1;obtain⟨g3,_⟩:=wY h2;have ei:=hr.heap.obj r o v g1 g3;have cY:=ho o (alq h1)
  cases o with
  |dead=>exact True.intro
  |box cs=>
   obtain⟨b,vs,T,e1,e2,e3,e4⟩:=ei;exact⟨b,vs,T,e1,e2,e3,fun j x u hx hu=>⟨fF (dS (by simp only[ab.closed,alv] at cY;exact cY x (alq hx)) (e4 j x u hx hu).1),(e4 j x u hx hu).2⟩⟩
  |row e size els=>
   obtain⟨e0,xs,e1,e2⟩:=ei;exact⟨e0,xs,e1,fun i el hi=>⟨(e2 i el hi).1,fun j x hj=>let ⟨u,q1,q2,q3⟩:=(e2 i el hi).2 j x hj;⟨u,q1,fF q2,q3⟩⟩⟩
  |bW es=>exact ei
  |iz q k=>
   obtain⟨b,vs,e1,e2,e3,e4,u,e5,e6⟩:=ei;exact⟨b,vs,e1,e2,e3,e4,u,e5,fF (dS (x:=.own q k) (by simpa [AV.aF,ab.closed] using cY) e6)⟩
  |aQ e size els=>
   obtain⟨e0,xs,e1,e2⟩:=ei;exact⟨e0,xs,e1,fun i el hi=>⟨(e2 i el hi).1,fun j x hj=>let ⟨u,q1,q2,q3⟩:=(e2 i el hi).2 j x hj;⟨u,q1,fF q2,q3⟩⟩⟩
  |eI e m ns=>exact ei
 ·exact hr.heap.sep r r' o o' v v' b bL (dA h1).1 (dA h2).1 l1 l2 (wY e1).1 (wY e2).1 hb
 ·exact hr.bN r o v b (dA h1).1 hl (wY h2).1 hb
 ·have:r<n:=by have:=(ali.1 hx).1;have:=al.l0;omega
  rw[alz,if_pos this];exact hr.ext.ptr r x hx
 ·have:r<n:=by have:=(ali.1 hx).1;have:=al.l0;omega
  rw[alz,if_pos this];exact hr.ext.mp r x hx
 ·have:r<n:=by
   unfold aR at hx
   cases fI:Γ.lx[r]? with
   |none=>rw[fI] at hx;exact hx.elim
   |some o=>have:=(ali.1 fI).1;omega
  exact wX this (hr.ext.own r m v hx)
theorem ck.cut {f f':Nat->AV} {hp hp':List ab} {g:G} (al:Γ.Ok) (n:Nat) (hn:Γ.lx.length<=n) (hs:Sub f' f) (hc:oh n f') (ht:hp.take n=hp') (ho:∀o∈hp',ab.closed n o=true):ck Γ ⟨f,hp,g⟩ ⟨f',hp',g⟩:=by
 subst ht;exact fun a w η hr=>⟨η.take n,ck.cutAt al n hn hs hc ho hr⟩
theorem ck.Nq {M:Bool} (al:Γ.Ok) {f:Nat->AV} {hp:List ab} {g:G} (t e size:Nat) (bO:0<size) (ht:f t=.ae (.slice none 0 0)):ck Γ ⟨f,hp,g⟩ ⟨zb f t (.own hp.length 0),hp++[fR M e size []],g⟩:=by
 intro a w η hr;have h1:=hr.add al (o:=fR M e size []) (v:=.slice none 0 0) (bD.refl w) (fun b hb=>by simp[cZ] at hb) (mf.2 ⟨bO,[],⟨by simp,.inl ⟨rfl,.inl rfl⟩⟩,fun i el hi=>by simp at hi⟩);refine⟨η++[.slice none 0 0],h1.nt,fun u=>?_,h1.heap,h1.bN,h1.keeps,h1.inv,h1.marks,h1.ext⟩;show ba w _ _ _ (zb f t (.own hp.length 0) u) _;rw[fX];split
 ·rename_i hu;subst hu;have h2:=hr.tmps u;simp only[ht] at h2;rw[h2.aj];have hlen:η.length=hp.length:=hr.heap.len;exact .own _ 0 _ rfl ((kF (M:=M) (e:=e) (size:=size) (els:=[]) (by simp)).2 ⟨alp _,fun _=>by rw[<-hlen];simp⟩)
 ·exact h1.tmps u
theorem ck.row (al:Γ.Ok) {f:Nat->AV} {hp:List ab} {g:G} (t e size:Nat) (bO:0<size) (ht:f t=.ae (.slice none 0 0)):ck Γ ⟨f,hp,g⟩ ⟨zb f t (.own hp.length 0),hp++[.row e size []],g⟩:=ck.Nq (M:=false) al t e size bO ht
theorem ck.Xh {M:Bool} (al:Γ.Ok) {f:Nat->AV} {hp:List ab} {g:G} (r k e size:Nat) (bO:0<size) {cs:List AV} (hb:hp[r]?=some (.box cs)) (hk:cs[k]?=some (.ae (.slice none 0 0))):
  ck Γ ⟨f,hp,g⟩ ⟨f,hp.set r (.box (cs.set k (.own hp.length 0)))++[fR M e size []],g⟩:=by
 intro a w η hr;have h1:=hr.add al (o:=fR M e size []) (v:=.slice none 0 0) (bD.refl w) (fun b hb=>by simp[cZ] at hb) (mf.2 ⟨bO,[],⟨by simp,.inl ⟨rfl,.inl rfl⟩⟩,fun i el hi=>by simp at hi⟩);have aeK:r<hp.length:=(ali.1 hb).1;have vw:hp.set r (.box (cs.set k (.own hp.length 0)))++[fR M e size []]=(hp++[fR M e size []]).set r (.box (cs.set k (.own hp.length 0))):=by
  rw[List.set_append,if_pos aeK]
 have fJ:(hp++[fR M e size []])[r]?=some (.box cs):=cj hb;have hlen:η.length=hp.length:=hr.heap.len;obtain⟨v,hv⟩:∃v,(η++[Value.slice none 0 0])[r]?=some v:=⟨_,alo (by simp;omega)⟩;have ei:=h1.heap.obj r _ v fJ hv;have hfk:∀b o,aW Γ w (η++[Value.slice none 0 0]) (hp++[fR M e size []]) b o->aW Γ w (η++[Value.slice none 0 0]) ((hp++[fR M e size []]).set r (.box (cs.set k (.own hp.length 0)))) b o:=by
  intro b o hf;refine⟨hf.1,hf.2.1,hf.2.2.1,(aS b o).2 fun q u hu MK=>?_⟩;obtain⟨o1,q1,q2⟩:=(aS b o).1 hf.2.2.2 q u hu MK
  by_cases hq:r=q
  ·subst hq;rw[fJ] at q1;obtain rfl:=alj q1;exact q2.elim
  ·exact⟨o1,by rw[getElem?_set_ne hq];exact q1,q2⟩
 have tD:∀q n u,aR (η++[Value.slice none 0 0]) (hp++[fR M e size []]) q n u->aR (η++[Value.slice none 0 0]) ((hp++[fR M e size []]).set r (.box (cs.set k (.own hp.length 0)))) q n u:=by
  intro q n u ho;unfold aR at ho ⊢
  by_cases hq:r=q
  ·subst hq;rw[fJ] at ho;exact ho.elim
  ·rw[getElem?_set_ne hq];exact ho
 have he:Ext w (aW Γ w (η++[Value.slice none 0 0]) (hp++[fR M e size []])) (η++[Value.slice none 0 0]) (hp++[fR M e size []]) w (aW Γ w (η++[Value.slice none 0 0]) ((hp++[fR M e size []]).set r (.box (cs.set k (.own hp.length 0))))) (η++[Value.slice none 0 0]) ((hp++[fR M e size []]).set r (.box (cs.set k (.own hp.length 0)))):=
  ⟨fun _ _ _ _ h=>h,fun _ _ _ _ h=>h,hfk,fun _ _ h=>h,fun _ _ h=>h,tD⟩
 rw[vw];refine⟨η++[.slice none 0 0],h1.nt,fun u=>(h1.tmps u).ext he,⟨by simp[hlen],fun q o u g1 g2=>?_,fun q q' o o' u u' b bL g1 g2 l1 l2 e1 e2 hbb=>?_⟩,fun q o u b g1 hl g2 hbb=>?_,h1.keeps,h1.inv,h1.marks,(by exact h1.ext.trans he)⟩
 ·by_cases hq:r=q
  ·subst hq;simp only at g1;rw[ai fJ] at g1;obtain rfl:=alj g1;rw[hv] at g2;obtain rfl:=alj g2;obtain⟨b,vs,T,q1,q2,q3,q4⟩:=ei;refine⟨b,vs,T,q1,q2,by simpa using q3,fun j x u hx hu=>?_⟩
   by_cases hj:k=j
   ·subst hj;have gO:k<cs.length:=(ali.1 hk).1;have h5:=q4 k _ u hk hu;rw[amr] at hx;simp only[if_true,if_pos gO] at hx;obtain rfl:=alj hx;refine⟨.own _ 0 _ h5.2 ?_,h5.2⟩;have h6:=h5.1.aj;subst h6;refine(kF (M:=M) (e:=e) (size:=size) (els:=[]) (by rw[getElem?_set_ne (by omega)];simp)).2 ⟨alp _,fun _=>by rw[<-hlen];simp⟩
   ·rw[getElem?_set_ne hj] at hx;exact⟨(q4 j x u hx hu).1.ext he,(q4 j x u hx hu).2⟩
  ·simp only at g1;rw[getElem?_set_ne hq] at g1;exact(h1.heap.obj q o u g1 g2).ext he (alp _) fun _ _ _=>rfl
 ·have conv:∀{q:Nat} {o:ab},((hp++[fR M e size []]).set r (.box (cs.set k (.own hp.length 0))))[q]?=some o->o.live->∃o',(hp++[fR M e size []])[q]?=some o'/\o'.live:=by
   intro q o g hl
   by_cases hq:r=q
   ·subst hq;exact⟨_,fJ,True.intro⟩
   ·rw[getElem?_set_ne hq] at g;exact⟨o,g,hl⟩
  obtain⟨o1,p1,p2⟩:=conv g1 l1;obtain⟨o2,p3,p4⟩:=conv g2 l2;exact h1.heap.sep q q' o1 o2 u u' b bL p1 p3 p2 p4 e1 e2 hbb
 ·by_cases hq:r=q
  ·subst hq;exact h1.bN r _ u b fJ True.intro g2 hbb
  ·simp only at g1;rw[getElem?_set_ne hq] at g1;exact h1.bN q o u b g1 hl g2 hbb
end Go.Proofs.YtnkjkpmbgoehkaaGreat
