/- Texts of ours laid together for a claim: FilQ. -/
import Derived.Test.YtjhanogfpkbamaaGreatDoorQ04
namespace Go.Proofs.YtjhanogfpkbamaaGreatDoor
open Go
set_option linter.unusedSimpArgs false
set_option linter.unusedVariables false
variable {G:Type} {Γ:Env G} {s s':AS G} {a:Act} {w w':World} {η:List Value} {hp:List AObj} {P:Program} {ops:Array Oper}
theorem pval_congr {tab:Nat→Option TD} {ρ ρ':Operand→AV} {op:Op} (h:∀x∈op.operands,ρ x=ρ' x):pval tab hp ρ op=pval tab hp ρ' op:=by
 cases op with
 |move x=>simp only[pval,h x (by simp[Op.operands])]
 |assign x=>simp only[pval,h x (by simp[Op.operands])]
 |nilCheck x=>simp only[pval,h x (by simp[Op.operands])]
 |pick c x y=>simp only[pval,h c (by simp[Op.operands]),h x (by simp[Op.operands]),h y (by simp[Op.operands])]
 |fieldAddr T x f=>simp only[pval,h x (by simp[Op.operands])]
 |load T x=>simp only[pval,h x (by simp[Op.operands])]
 |indexAddr T x i=>simp only[pval,h x (by simp[Op.operands]),h i (by simp[Op.operands])]
 |binOp op T x y T'=>simp only[pval,h x (by simp[Op.operands]),h y (by simp[Op.operands])]
 |unOp op T x=>simp only[pval,h x (by simp[Op.operands])]
 |convert S D x=>simp only[pval,h x (by simp[Op.operands])]
 |field T x f=>simp only[pval,h x (by simp[Op.operands])]
 |extract x i=>simp only[pval,h x (by simp[Op.operands])]
 |index T x i=>simp only[pval,h x (by simp[Op.operands]),h i (by simp[Op.operands])]
 |lookup T m k ok=>simp only[pval,h m (by simp[Op.operands]),h k (by simp[Op.operands])]
 |build T parts=>
  have:(parts.toList.map fun p=>(p.1,ρ p.2))=parts.toList.map fun p=>(p.1,ρ' p.2):=List.map_congr_left fun p hp'=>by
   rw[h p.2 (by simp only[Op.operands,List.mem_toArray,List.mem_map];exact⟨p,hp',rfl⟩)]
  simp only[pval,this]
 |buildSlice T n parts=>
  have:(parts.toList.map fun p=>(ρ p.2).toData hp)=parts.toList.map fun p=>(ρ' p.2).toData hp:=List.map_congr_left fun p hp'=>by
   rw[h p.2 (by simp only[Op.operands,List.mem_toArray,List.mem_map];exact⟨p,hp',rfl⟩)]
  simp only[pval,this]
 |makeFunc fn first caps=>
  have:caps.toList.map ρ=caps.toList.map ρ':=List.map_congr_left fun x hx=>h x (by simp only[Op.operands,Array.mem_append];exact .inr (by simpa using hx))
  have h2:first.toList.map ρ=first.toList.map ρ':=List.map_congr_left fun x hx=>h x (by simp only[Op.operands,Array.mem_append];exact .inl (by simpa using hx))
  cases fn<;>simp only[pval,this,h2]
 |slice T x lo hi mx=>
  have h1:∀d,boundOf ρ d lo=boundOf ρ' d lo:=fun d=>by cases lo with|none=>rfl|some y=>simp only[boundOf,h y (by simp[Op.operands])]
  have h2:∀d,boundOf ρ d hi=boundOf ρ' d hi:=fun d=>by cases hi with|none=>rfl|some y=>simp only[boundOf,h y (by simp[Op.operands])]
  have h3:(mx.map fun m=>boundOf ρ 0 (some m))=mx.map fun m=>boundOf ρ' 0 (some m):=by
   cases mx with
   |none=>rfl
   |some m=>simp only[Option.map_some,boundOf,h m (by simp[Op.operands])]
  cases mx<;>simp only[pval,h x (by simp[Op.operands]),h1,h2,h3]
 |call c=>
  simp only[pval]
  have hl:∀l,c.args.toList=l→∀x∈l,ρ x=ρ' x:=fun l hl x hx=>h x (by
   simp only[Op.operands,Call.operands,Array.mem_append]
   exact .inr (by rw[←Array.mem_toList_iff,hl];exact hx))
  split
  ·rename_i x hb hlx
   simp only[hl _ hlx x (by simp)]
  ·rename_i x y hb hlx
   simp only[hl _ hlx x (by simp),hl _ hlx y (by simp)]
  ·rename_i x y hb hlx
   simp only[hl _ hlx x (by simp),hl _ hlx y (by simp)]
  ·rfl
 |_=>rfl
theorem only_ev {o:Oper} {x:Operand} (hx:x∈o.op.operands):(s.only (o.looksAt ops)).ev x=s.ev x:=by
 cases x with
 |tmp t=>
  show (if t∈o.looksAt ops then s.tmps t else .top)=s.tmps t
  rw[if_pos]
  unfold Oper.looksAt
  refine List.mem_append_left _ (List.mem_filterMap.2 ⟨.tmp t,by simpa using hx,rfl⟩)
 |_=>rfl
theorem VStep.of_run {o:Oper} {r:AV} (h:VRun Γ o s r):VStep Γ o s r:=by
 intro a w η Kc Qc hr hk
 obtain⟨v,w',h1,h2,h3⟩:=h a w η hr
 refine⟨fun _ _=>trivial,?_⟩
 rw[semAt_run h1 (.inl ⟨v,rfl⟩)]
 exact hk v w' h2 h3
theorem VStep.pure (hok:Γ.Ok) {o:Oper} {c:Call} {x:Operand} (ho:o.op=.call c) (hc:c.callee=.value x) {f:FuncId} {caps:List AV} (hx:s.ev x=.clo f caps) {r:AV}
  (hP:PureIs Γ.P f ((c.args.toList.map s.ev++caps).map (AV.toData s.hp)) r):VStep Γ o s r:=by
 intro a w η Kc Qc hr hk
 have hxr:=hr.ev x
 rw[hx] at hxr
 generalize hv:a.eval x=v at hxr
 cases hxr with
 |clo _ _ vs hl hrep=>
  refine⟨fun _ _=>trivial,?_⟩
  have hne:∀c',o.op ≠ .defer c':=by intro c' h;rw[ho] at h;cases h
  rw[Oper.semAt_eq _ _ _ hne,run_call_clo ho hc hP.1 hv]
  have hargs:(c.args.map a.eval++vs)=(c.args.toList.map a.eval++vs.toList).toArray:=by apply Array.ext';simp
  have hcl:RepL w (Fok Γ w η s.hp) η s.hp caps vs.toList:=repL_of_get (by simpa using hl) fun j y u hy hu=>hrep j y u hy (by simpa using hu)
  have hreps:=repL_toData hr _ _ (repL_append _ _ (repArgs hr c.args.toList) hcl)
  refine⟨fun h=>(by cases h),?_⟩
  rw[hargs]
  have hcall:=hP.2 w (Fok Γ w η s.hp) _ (fun _ _=>fok_lt) (hr.glob hok) hreps
  refine CallsIn.mono (F:=Γ.fence) ?_ (R:=fun e w'=>∃v q,e=.returned v∧q=r∧Same w w'∧Rep w' (Onto (Fok Γ w η s.hp) w w') [] [] q v) fun e w' ⟨u,q,he,hR,hs,hru⟩=>?_
  ·exact hcall
  ·subst he;subst hR
   exact hk u w' hs ((hru.foot fun b o h=>onto_fok hok hr hs h).lift)
def pureArgs (s:AS G):Op→Option (Nat×List AV)
 | .call c=>(match c.callee with
  | .value x=>(match s.ev x with
   | .clo f caps=>some (f,(c.args.toList.map s.ev++caps).map (AV.toData s.hp))
   |_=>none)
  |_=>none)
 |_=>none
def DStep (Γ:Env G) (tab:Nat→Option TD) (o:Oper) (s:AS G) (next rest:AS G→Prop):Prop:=
 match pval tab s.hp s.ev o.op with
 |some (c,r)=>c∧next (s.put o.dst r)
 |none=>(match pureArgs s o.op with
  |some (f,args)=>∃r,PureIs Γ.P f args r∧rest (s.put o.dst r)
  |none=>False)
def ARunD (Γ:Env G) (tab:Nat→Option TD) (nt:Nat) (ops:Array Oper) (K:AS G→Prop):List Oper→AS G→Prop
 | [],s=>K s
 |o::rest,s=>if isEff o.op=true then dstOk nt o.dst∧o.guard=none∧(match heff tab s.hp s.ev o.op with
   |some (c,r,hp')=>c∧ARunD Γ tab nt ops K rest (AS.put { s with hp:=hp' } o.dst r)
   |none=>False)
  else dstOk nt o.dst∧(match o.guard with
   |none=>DStep Γ tab o s (ARunD Γ tab nt ops K rest) (ALex Γ ops K rest)
   |some (j,want)=>(match gslot ops s j with
    |some (some b)=>(b=want→DStep Γ tab o s (ARunD Γ tab nt ops K rest) (ALex Γ ops K rest))∧(¬b=want→ARunD Γ tab nt ops K rest (s.put o.dst (.prim (.tuple #[]))))
    |some none=>ARunD Γ tab nt ops K rest (s.put o.dst (.prim (.tuple #[])))
    |none=>False))
theorem DStep.sound (hok:Γ.Ok) {tab:Nat→Option TD} (htab:TabOk Γ.P tab) {o:Oper} {next rest K':AS G→Prop} (h:DStep Γ tab o s next rest) (h1:∀s,next s→K' s) (h2:∀s,rest s→K' s):
  ∃x,VStep Γ o (s.only (o.looksAt ops)) x∧K' (s.put o.dst x):=by
 unfold DStep at h
 split at h
 ·rename_i c r hp'
  refine⟨r,.of_run (pval_sound hok htab (c:=c) ?_ h.1),h1 _ h.2⟩
  rw[←hp']
  exact pval_congr fun x hx=>only_ev hx
 ·split at h
  ·rename_i f args hpa
   obtain⟨r,hP,hr⟩:=h
   refine⟨r,?_,h2 _ hr⟩
   unfold pureArgs at hpa
   split at hpa
   ·rename_i c hc
    split at hpa
    ·rename_i x hx
     split at hpa
     ·rename_i f' caps hcl
      simp only[Option.some.injEq,Prod.mk.injEq] at hpa
      obtain⟨rfl,rfl⟩:=hpa
      have hmem:∀y∈c.args.toList,y∈o.op.operands:=fun y hy=>by rw[hc];simp only[Op.operands,Call.operands,Array.mem_append];exact .inr (by simpa using hy)
      refine VStep.pure hok hc hx (f:=f') (caps:=caps) ?_ ?_
      ·rw[only_ev (by rw[hc];simp[Op.operands,Call.operands,hx])];exact hcl
      ·have:c.args.toList.map (s.only (o.looksAt ops)).ev=c.args.toList.map s.ev:=List.map_congr_left fun y hy=>only_ev (hmem y hy)
       rw[this];exact hP
     ·cases hpa
    ·cases hpa
   ·cases hpa
  ·exact h.elim
theorem ARunD.sound (hok:Γ.Ok) {tab:Nat→Option TD} (htab:TabOk Γ.P tab) {nt:Nat} (hnt:nt=Γ.nt) {K:AS G→Prop}:∀(l:List Oper) (s:AS G),ARunD Γ tab nt ops K l s→ALex Γ ops K l s:=by
 subst hnt
 intro l
 induction l with
 |nil=>intro s h;exact h
 |cons o rest ih=>
  intro s h
  simp only[ARunD] at h
  simp only[ALex]
  split at h
  ·rename_i he
   rw[if_pos he]
   obtain⟨h1,h2,h3⟩:=h
   split at h3
   ·rename_i c r hp' hh
    exact⟨h1,h2,r,hp',heff_sound hok htab hh h3.1,ih _ h3.2⟩
   ·exact h3.elim
  ·rename_i he
   rw[if_neg he]
   obtain⟨h1,h2⟩:=h
   split at h2
   ·rename_i hg
    obtain⟨x,h3,h4⟩:=DStep.sound (ops:=ops) hok htab h2 ih fun _ h=>h
    exact⟨x,⟨h1,.inl ⟨by simp[guardVal,hg],h3⟩⟩,h4⟩
   ·rename_i j want hg
    split at h2
    ·rename_i b hb
     by_cases hbw:b=want
     ·obtain⟨x,h3,h4⟩:=DStep.sound (ops:=ops) hok htab (h2.1 hbw) ih fun _ h=>h
      exact⟨x,⟨h1,.inl ⟨by simp[guardVal,hg,hb,hbw],h3⟩⟩,h4⟩
     ·exact⟨_,⟨h1,.inr ⟨by simp[guardVal,hg,hb,hbw],rfl⟩⟩,ih _ (h2.2 hbw)⟩
    ·rename_i hb
     exact⟨_,⟨h1,.inr ⟨by simp[guardVal,hg,hb],rfl⟩⟩,ih _ h2⟩
    ·exact h2.elim
theorem AWp.draw (hok:Γ.Ok) (hm:Γ.P.follows .mixedOrders=true) {id:Nat} {l:List Oper} {Q:Exit→AS G→Prop} (hd:drawOk l=true) (h:ALex Γ l.toArray (Q .normal) l s):AWp Γ (.region id l.toArray true) Q s:=by
 intro a w η hr
 refine wpIn_region_any hm ?_
 have:=ALex.any (Γ:=Γ) hd l 0 (Array.replicate l.length false) s (fun j=>by simp) (by simp) (fun j hj=>by simp[hj]) (by simp) h
 have h2:=AAny.sound (Qc:=fun e a' w'=>∃s' η',Q e s'∧Rel Γ s' a' w' η') hok (fun s' a' w' η' h1 h2=>⟨s',η',h1,h2⟩) _ _ _ a w.drew η this (hr.same hok (Same.drew w))
 simpa using h2
def Sub (f' f:Nat→AV):Prop:=∀t,f' t=.top∨f' t=f t
theorem Sub.nil {f:Nat→AV}:Sub (fun _=>.top) f:=fun _=>.inl rfl
theorem Sub.upd {f' f:Nat→AV} {t:Nat} {x:AV} (h:f t=x) (h':Sub f' f):Sub (upd f' t x) f:=by
 intro u
 rw[upd_eq]
 split
 ·rename_i e;subst e;exact .inr h.symm
 ·exact h' u
def AV.closedC (n:Nat):AV→Bool
 | .own r _=>decide (r<n)
 | .ptr r _=>decide (r<n)
 | .mp r=>decide (r<n)
 | .agg _ | .tup _ | .clo _ _ | .mptr _ _ _ _ | .mclo _ _=>false
 |_=>true
def AV.closedV (n:Nat):AV→Bool
 | .agg cs=>cs.all (AV.closedC n)
 |x=>x.closedC n
def AV.closed (n:Nat):AV→Bool
 | .tup vs=>vs.all (AV.closedV n)
 | .clo _ caps=>caps.all (AV.closedV n)
 | .mclo _ caps=>caps.all (AV.closedV n)
 |x=>x.closedV n
def AObj.closed (n:Nat):AObj→Bool
 | .box cs=>cs.all (AV.closedC n)
 | .bld r _=>decide (r<n)
 |_=>true
def ShutF (n:Nat) (f:Nat→AV):Prop:=∀t,(f t).closed n=true
theorem ShutF.nil {n:Nat}:ShutF n (fun _=>.top):=fun _=>rfl
theorem ShutF.upd {n:Nat} {f:Nat→AV} {t:Nat} {x:AV} (h:x.closed n=true) (h':ShutF n f):ShutF n (upd f t x):=by
 intro u
 rw[upd_eq]
 split
 ·exact h
 ·exact h' u
theorem ownOk_take {n r m:Nat} {v:Value} (hr:r<n) (h:OwnOk η hp r m v):OwnOk (η.take n) (hp.take n) r m v:=by
 unfold OwnOk at h ⊢
 rw[List.getElem?_take,List.getElem?_take,if_pos hr,if_pos hr];exact h
theorem closedC_rep {F:Nat→Nat→Prop} {n:Nat} {x:AV} {v:Value} (hcl:x.closedC n=true) (h:Rep w F η hp x v):Rep w F (η.take n) (hp.take n) x v:=by
 cases h with
 |own r m v h1 h2=>exact .own r m v h1 (ownOk_take (by simpa [AV.closedC] using hcl) h2)
 |ptr r off b h1=>exact .ptr r off b (by rw[List.getElem?_take,if_pos (by simpa [AV.closedC] using hcl)];exact h1)
 |mp r b h1=>exact .mp r b (by rw[List.getElem?_take,if_pos (by simpa [AV.closedC] using hcl)];exact h1)
 |agg cs vs hl h1 hr=>simp[AV.closedC] at hcl
 |tup cs vs hl hr=>simp[AV.closedC] at hcl
 |clo fn cs vs hl hr=>simp[AV.closedC] at hcl
 |top v=>exact .top v
 |prim v=>exact .prim v
 |fn v h1=>exact .fn v h1
 |sl0 a=>exact .sl0 a
 |clip0 a=>exact .clip0 a
 |sl size els b o c f hc hm hl hcell hr=>exact .sl size els b o c f hc hm hl hcell hr
 |clip size els b o f hm hl hcell hr=>exact .clip size els b o f hm hl hcell hr
 |eptr e off b o f hcell hr=>exact .eptr e off b o f hcell hr
 |mapv b es c h hF l hl=>exact .mapv b es c h hF l hl
 |mptr r n i size b o c h=>simp[AV.closedC] at hcl
 |mclo fn cs vs hl hr=>simp[AV.closedC] at hcl
theorem closedV_rep {F:Nat→Nat→Prop} {n:Nat} {x:AV} {v:Value} (hc:x.closedV n=true) (h:Rep w F η hp x v):Rep w F (η.take n) (hp.take n) x v:=by
 cases x with
 |agg cs=>
  cases h with
  |agg _ vs hl h1 hr=>exact .agg cs vs hl h1 fun j x v hx hv=>closedC_rep (by simp only[AV.closedV,List.all_eq_true] at hc;exact hc x (List.mem_of_getElem? hx)) (hr j x v hx hv)
 |_=>exact closedC_rep hc h
theorem closed_rep {F:Nat→Nat→Prop} {n:Nat} {x:AV} {v:Value} (hc:x.closed n=true) (h:Rep w F η hp x v):Rep w F (η.take n) (hp.take n) x v:=by
 cases x with
 |tup cs=>
  cases h with
  |tup _ vs hl hr=>exact .tup cs vs hl fun j x v hx hv=>closedV_rep (by simp only[AV.closed,List.all_eq_true] at hc;exact hc x (List.mem_of_getElem? hx)) (hr j x v hx hv)
 |clo f cs=>
  cases h with
  |clo _ _ vs hl hr=>exact .clo f cs vs hl fun j x v hx hv=>closedV_rep (by simp only[AV.closed,List.all_eq_true] at hc;exact hc x (List.mem_of_getElem? hx)) (hr j x v hx hv)
 |mclo f cs=>
  cases h with
  |mclo _ _ vs hl hr=>exact .mclo f cs vs hl fun j x v hx hv=>closedV_rep (by simp only[AV.closed,List.all_eq_true] at hc;exact hc x (List.mem_of_getElem? hx)) (hr j x v hx hv)
 |_=>exact closedV_rep hc h
theorem Weak.cutAt {f f':Nat→AV} {hp:List AObj} {g:G} (hok:Γ.Ok) (n:Nat) (hn:Γ.hp0.length≤n) (hs:Sub f' f) (hc:ShutF n f') (ho:∀o∈hp.take n,AObj.closed n o=true) (hr:Rel Γ ⟨f,hp,g⟩ a w η):Rel Γ ⟨f',hp.take n,g⟩ a w (η.take n):=by
 have hlen:η.length=hp.length:=hr.heap.len
 have hget:∀{r:Nat} {o:AObj},(hp.take n)[r]?=some o→hp[r]?=some o∧r<n:=by
  intro r o h
  rw[List.getElem?_take] at h
  split at h
  ·rename_i hlt;exact⟨h,hlt⟩
  ·cases h
 have hgetη:∀{r:Nat} {v:Value},(η.take n)[r]?=some v→η[r]?=some v∧r<n:=by
  intro r o h
  rw[List.getElem?_take] at h
  split at h
  ·rename_i hlt;exact⟨h,hlt⟩
  ·cases h
 have hfoot:∀b o,Fok Γ w η hp b o→Fok Γ w (η.take n) (hp.take n) b o:=by
  intro b o hf
  refine⟨hf.1,hf.2.1,hf.2.2.1,(objF_iff b o).2 fun r v hv hb=>?_⟩
  obtain⟨h1,h2⟩:=hgetη hv
  obtain⟨o1,q1,q2⟩:=(objF_iff b o).1 hf.2.2.2 r v h1 hb
  exact⟨o1,by rw[List.getElem?_take,if_pos h2];exact q1,q2⟩
 have hext:∀{η0:List Value} {hp0:List AObj} {x:AV} {v:Value},Rep w (Fok Γ w η hp) η0 hp0 x v→Rep w (Fok Γ w (η.take n) (hp.take n)) η0 hp0 x v:=
  fun h=>h.ext ⟨fun _ _ _ _ h=>h,fun _ _ _ _ h=>h,hfoot,fun _ _ h=>h,fun _ _ h=>h,fun _ _ _ h=>h⟩
 refine⟨hr.nt,fun t=>?_,⟨by simp only[List.length_take,hlen],fun r o v h1 h2=>?_,fun r r' o o' v v' b hne h1 h2 l1 l2 e1 e2 hb=>?_⟩,fun r o v b h1 hl h2 hb=>?_,hr.keeps,hr.inv,hr.marks,⟨hr.ext.cell,hr.ext.mapb,fun b o hb=>hfoot b o (hr.ext.foot b o hb),fun r x hx=>?_,fun r x hx=>?_,fun r m v hx=>?_⟩⟩
 ·rcases hs t with h1|h1
  ·show Rep w _ _ _ (f' t) _
   rw[h1];exact .top _
  ·have h2:=hr.tmps t
   have h3:=hc t
   rw[h1] at h3
   show Rep w _ _ _ (f' t) _
   rw[h1]
   exact hext (closed_rep h3 h2)
 ·obtain⟨g1,g2⟩:=hget h1
  obtain⟨g3,_⟩:=hgetη h2
  have hob:=hr.heap.obj r o v g1 g3
  have hcl:=ho o (List.mem_of_getElem? h1)
  cases o with
  |dead=>exact True.intro
  |box cs=>
   obtain⟨b,vs,T,e1,e2,e3,e4⟩:=hob
   exact⟨b,vs,T,e1,e2,e3,fun j x u hx hu=>⟨hext (closedC_rep (by simp only[AObj.closed,List.all_eq_true] at hcl;exact hcl x (List.mem_of_getElem? hx)) (e4 j x u hx hu).1),(e4 j x u hx hu).2⟩⟩
  |row e size els=>
   obtain⟨e0,xs,e1,e2⟩:=hob
   exact⟨e0,xs,e1,fun i el hi=>⟨(e2 i el hi).1,fun j x hj=>let ⟨u,q1,q2,q3⟩:=(e2 i el hi).2 j x hj;⟨u,q1,hext q2,q3⟩⟩⟩
  |mapo es=>exact hob
  |bld q k=>
   obtain⟨b,vs,e1,e2,e3,e4,u,e5,e6⟩:=hob
   exact⟨b,vs,e1,e2,e3,e4,u,e5,hext (closedC_rep (x:=.own q k) (by simpa [AV.closedC,AObj.closed] using hcl) e6)⟩
  |mrow e size els=>
   obtain⟨e0,xs,e1,e2⟩:=hob
   exact⟨e0,xs,e1,fun i el hi=>⟨(e2 i el hi).1,fun j x hj=>let ⟨u,q1,q2,q3⟩:=(e2 i el hi).2 j x hj;⟨u,q1,hext q2,q3⟩⟩⟩
 ·exact hr.heap.sep r r' o o' v v' b hne (hget h1).1 (hget h2).1 l1 l2 (hgetη e1).1 (hgetη e2).1 hb
 ·exact hr.mine r o v b (hget h1).1 hl (hgetη h2).1 hb
 ·have:r<n:=by have:=(List.getElem?_eq_some_iff.1 hx).1;have:=hok.l0;omega
  rw[List.getElem?_take,if_pos this];exact hr.ext.ptr r x hx
 ·have:r<n:=by have:=(List.getElem?_eq_some_iff.1 hx).1;have:=hok.l0;omega
  rw[List.getElem?_take,if_pos this];exact hr.ext.mp r x hx
 ·have:r<n:=by
   unfold OwnOk at hx
   cases hr':Γ.hp0[r]? with
   |none=>rw[hr'] at hx;exact hx.elim
   |some o=>have:=(List.getElem?_eq_some_iff.1 hr').1;omega
  exact ownOk_take this (hr.ext.own r m v hx)
theorem Weak.cut {f f':Nat→AV} {hp hp':List AObj} {g:G} (hok:Γ.Ok) (n:Nat) (hn:Γ.hp0.length≤n) (hs:Sub f' f) (hc:ShutF n f') (ht:hp.take n=hp') (ho:∀o∈hp',AObj.closed n o=true):Weak Γ ⟨f,hp,g⟩ ⟨f',hp',g⟩:=by
 subst ht
 exact fun a w η hr=>⟨η.take n,Weak.cutAt hok n hn hs hc ho hr⟩
theorem Weak.row (hok:Γ.Ok) {f:Nat→AV} {hp:List AObj} {g:G} (t e size:Nat) (hsz:0<size) (ht:f t=.prim (.slice none 0 0)):Weak Γ ⟨f,hp,g⟩ ⟨upd f t (.own hp.length 0),hp++[.row e size []],g⟩:=by
 intro a w η hr
 have h1:=hr.add hok (o:=.row e size []) (v:=.slice none 0 0) (Same.refl w) (fun b hb=>by simp[blk] at hb) ⟨hsz,[],⟨by simp,.inl ⟨rfl,.inl rfl⟩⟩,fun i el hi=>by simp at hi⟩
 refine⟨η++[.slice none 0 0],h1.nt,fun u=>?_,h1.heap,h1.mine,h1.keeps,h1.inv,h1.marks,h1.ext⟩
 show Rep w _ _ _ (upd f t (.own hp.length 0) u) _
 rw[upd_eq]
 split
 ·rename_i hu
  subst hu
  have h2:=hr.tmps u
  simp only[ht] at h2
  rw[h2.prim_inv]
  refine .own _ 0 _ rfl ?_
  unfold OwnOk
  have hlen:η.length=hp.length:=hr.heap.len
  show match (hp++[AObj.row e size []])[hp.length]? with|some (.row _ _ els)=>_|some (.mrow _ _ els)=>_|some .dead=>_|_=>_
  rw[show (hp++[AObj.row e size []])[hp.length]?=some (.row e size []) from by simp]
  exact⟨Nat.le_refl _,fun _=>by rw[←hlen];simp⟩
 ·exact h1.tmps u
theorem Weak.boxRow (hok:Γ.Ok) {f:Nat→AV} {hp:List AObj} {g:G} (r k e size:Nat) (hsz:0<size) {cs:List AV} (hb:hp[r]?=some (.box cs)) (hk:cs[k]?=some (.prim (.slice none 0 0))):
  Weak Γ ⟨f,hp,g⟩ ⟨f,hp.set r (.box (cs.set k (.own hp.length 0)))++[.row e size []],g⟩:=by
 intro a w η hr
 have h1:=hr.add hok (o:=.row e size []) (v:=.slice none 0 0) (Same.refl w) (fun b hb=>by simp[blk] at hb) ⟨hsz,[],⟨by simp,.inl ⟨rfl,.inl rfl⟩⟩,fun i el hi=>by simp at hi⟩
 have hrlt:r<hp.length:=(List.getElem?_eq_some_iff.1 hb).1
 have hset:hp.set r (.box (cs.set k (.own hp.length 0)))++[AObj.row e size []]=(hp++[AObj.row e size []]).set r (.box (cs.set k (.own hp.length 0))):=by
  rw[List.set_append,if_pos hrlt]
 have hb':(hp++[AObj.row e size []])[r]?=some (.box cs):=getElem?_snoc_lt hb
 have hlen:η.length=hp.length:=hr.heap.len
 obtain⟨v,hv⟩:∃v,(η++[Value.slice none 0 0])[r]?=some v:=⟨_,List.getElem?_eq_getElem (by simp;omega)⟩
 have hob:=h1.heap.obj r _ v hb' hv
 have hfk:∀b o,Fok Γ w (η++[Value.slice none 0 0]) (hp++[AObj.row e size []]) b o→Fok Γ w (η++[Value.slice none 0 0]) ((hp++[AObj.row e size []]).set r (.box (cs.set k (.own hp.length 0)))) b o:=by
  intro b o hf
  refine⟨hf.1,hf.2.1,hf.2.2.1,(objF_iff b o).2 fun q u hu hbu=>?_⟩
  obtain⟨o1,q1,q2⟩:=(objF_iff b o).1 hf.2.2.2 q u hu hbu
  by_cases hq:r=q
  ·subst hq;rw[hb'] at q1;obtain rfl:=Option.some.inj q1;exact q2.elim
  ·exact⟨o1,by rw[getElem?_set_ne hq];exact q1,q2⟩
 have hown:∀q n u,OwnOk (η++[Value.slice none 0 0]) (hp++[AObj.row e size []]) q n u→OwnOk (η++[Value.slice none 0 0]) ((hp++[AObj.row e size []]).set r (.box (cs.set k (.own hp.length 0)))) q n u:=by
  intro q n u ho
  unfold OwnOk at ho ⊢
  by_cases hq:r=q
  ·subst hq;rw[hb'] at ho;exact ho.elim
  ·rw[getElem?_set_ne hq];exact ho
 have he:Ext w (Fok Γ w (η++[Value.slice none 0 0]) (hp++[AObj.row e size []])) (η++[Value.slice none 0 0]) (hp++[AObj.row e size []]) w (Fok Γ w (η++[Value.slice none 0 0]) ((hp++[AObj.row e size []]).set r (.box (cs.set k (.own hp.length 0))))) (η++[Value.slice none 0 0]) ((hp++[AObj.row e size []]).set r (.box (cs.set k (.own hp.length 0)))):=
  ⟨fun _ _ _ _ h=>h,fun _ _ _ _ h=>h,hfk,fun _ _ h=>h,fun _ _ h=>h,hown⟩
 rw[hset]
 refine⟨η++[.slice none 0 0],h1.nt,fun u=>(h1.tmps u).ext he,⟨by simp[hlen],fun q o u g1 g2=>?_,fun q q' o o' u u' b hne g1 g2 l1 l2 e1 e2 hbb=>?_⟩,fun q o u b g1 hl g2 hbb=>?_,h1.keeps,h1.inv,h1.marks,(by exact h1.ext.trans he)⟩
 ·by_cases hq:r=q
  ·subst hq
   simp only at g1
   rw[getElem?_set_same hb'] at g1
   obtain rfl:=Option.some.inj g1
   rw[hv] at g2
   obtain rfl:=Option.some.inj g2
   obtain⟨b,vs,T,q1,q2,q3,q4⟩:=hob
   refine⟨b,vs,T,q1,q2,by simpa using q3,fun j x u hx hu=>?_⟩
   by_cases hj:k=j
   ·subst hj
    have hcs:k<cs.length:=(List.getElem?_eq_some_iff.1 hk).1
    have h5:=q4 k _ u hk hu
    rw[List.getElem?_set] at hx
    simp only[if_true,if_pos hcs] at hx
    obtain rfl:=Option.some.inj hx
    refine⟨.own _ 0 _ h5.2 ?_,h5.2⟩
    have h6:=h5.1.prim_inv
    subst h6
    unfold OwnOk
    rw[getElem?_set_ne (by omega)]
    rw[show (hp++[AObj.row e size []])[hp.length]?=some (.row e size []) from by simp]
    exact⟨Nat.le_refl _,fun _=>by rw[←hlen];simp⟩
   ·rw[getElem?_set_ne hj] at hx
    exact⟨(q4 j x u hx hu).1.ext he,(q4 j x u hx hu).2⟩
  ·simp only at g1
   rw[getElem?_set_ne hq] at g1
   exact(h1.heap.obj q o u g1 g2).ext he (Nat.le_refl _) fun _ _ _=>rfl
 ·have conv:∀{q:Nat} {o:AObj},((hp++[AObj.row e size []]).set r (.box (cs.set k (.own hp.length 0))))[q]?=some o→o.live→∃o',(hp++[AObj.row e size []])[q]?=some o'∧o'.live:=by
   intro q o g hl
   by_cases hq:r=q
   ·subst hq;exact⟨_,hb',True.intro⟩
   ·rw[getElem?_set_ne hq] at g;exact⟨o,g,hl⟩
  obtain⟨o1,p1,p2⟩:=conv g1 l1
  obtain⟨o2,p3,p4⟩:=conv g2 l2
  exact h1.heap.sep q q' o1 o2 u u' b hne p1 p3 p2 p4 e1 e2 hbb
 ·by_cases hq:r=q
  ·subst hq;exact h1.mine r _ u b hb' True.intro g2 hbb
  ·simp only at g1
   rw[getElem?_set_ne hq] at g1;exact h1.mine q o u b g1 hl g2 hbb
end Go.Proofs.YtjhanogfpkbamaaGreatDoor
