/- Texts of ours laid together for a claim: FilO. -/
import Derived.Test.YtdcikhleahfknaaGreatDoorQ02
namespace Go.Proofs.YtdcikhleahfknaaGreatDoor
open Go
set_option linter.unusedSimpArgs false
set_option linter.unusedVariables false
variable {G:Type} {Γ:Env G} {s s':AS G} {a:Act} {w w':World} {η:List Value} {hp:List af} {P:Program}
def gB (P:Program) (f:FuncId):Prop:=∃fn,P.funcs[f]?=some fn∧(fn.name == "runtime.NumGoroutine")=false∧fn.body.isNone=false
theorem gY {f:FuncId} (h:gB P f) (args:Array Value) (w:World):(callFunc f args).run P w=.ok (.enter f args) w:=by
 obtain⟨fn,h1,h2,h3⟩:=h
 simp only[callFunc,Sem.run_bind,run_program,Result.andThen_ok,h1,h2,h3,Bool.false_eq_true,if_false,Sem.run_pure]
def Onto (F:Nat→Nat→Prop) (w w':World) (b o:Nat):Prop:=F b o∨(w.heap.size≤b∧b<w'.heap.size)
def Pure (P:Program) (f:FuncId) (args:List AV) (R:AV→Prop):Prop:=
 gB P f∧∀(w:World) (F:Nat→Nat→Prop) (aR:List Value),(∀b o,F b o→b<w.heap.size)→lZ w→bF w F [] [] args aR→
  CallsIn Fence.wide 0 P f aR.toArray w (fun e w'=>∃v r,e=.returned v∧R r∧bt w w'∧aV w' (Onto F w w') [] [] r v)
theorem Pure.mono {f:FuncId} {args:List AV} {R R':AV→Prop} (h:Pure P f args R) (hR:∀r,R r→R' r):Pure P f args R':=
 ⟨h.1,fun w F aR hF hg hv=>(h.2 w F aR hF hg hv).mono fun _ _ ⟨v,r,h1,h2,h3,h4⟩=>⟨v,r,h1,hR r h2,h3,h4⟩⟩
abbrev ag (P:Program) (f:FuncId) (args:List AV) (r:AV):Prop:=Pure P f args (fun x=>x=r)
theorem tE (aq:Γ.Ok) (h:Rel Γ s a w η) (hs:bt w w') {b o:Nat} (hb:Onto (aU Γ w η s.hp) w w' b o):aU Γ w' η s.hp b o:=by
 rcases hb with h1|⟨h1,h2⟩
 ·exact⟨h1.1,Nat.lt_of_lt_of_le h1.2.1 hs.size,h1.2.2⟩
 ·refine⟨.inr (.inl (Nat.le_trans h.keeps.size h1)),h2,fun hx=>by have:=aq.no hx;have:=h.keeps.size;omega,(aN b o).2 fun r v hv mg=>?_⟩
  have dM:r<s.hp.length:=by rw[←h.heap.len];exact(List.getElem?_eq_some_iff.1 hv).1
  have ho:s.hp[r]?=some s.hp[r]:=by simp[dM]
  refine⟨s.hp[r],ho,?_⟩
  cases hk:s.hp[r] with
  |dead=>exact True.intro
  |_=>
   rw[hk] at ho
   have:=h.heap.block ho True.intro hv mg
   omega
theorem aV.aY {F F':Nat→Nat→Prop} {x:AV} {v:Value} (h:aV w F [] [] x v) (hF:∀b o,F b o→F' b o):aV w F' [] [] x v:=
 h.ext ⟨fun _ _ _ _ h=>h,fun _ _ _ _ h=>h,hF,fun _ _ h=>h,fun _ _ h=>h,fun _ _ _ h=>h⟩
theorem jj (h:Rel Γ s a w η):∀(xs:List AV) (vs:List Value),bF w (aU Γ w η s.hp) η s.hp xs vs→bF w (aU Γ w η s.hp) [] [] (xs.map (AV.bh s.hp)) vs
 | [],[],_=>True.intro
 |_::xs,_::vs,hx=>⟨eV h.heap h.bA hx.1,jj h xs vs hx.2⟩
theorem cY {F:Nat→Nat→Prop}:∀(xs:List AV) (vs:List Value) {ys:List AV} {us:List Value},bF w F η hp xs vs→bF w F η hp ys us→bF w F η hp (xs++ys) (vs++us)
 | [],[],_,_,_,h2=>h2
 |_::xs,_::vs,_,_,h1,h2=>⟨h1.1,cY xs vs h1.2 h2⟩
theorem eB {o:Oper} {c:Call} {x:Operand} (ho:o.op=.call c) (hc:c.callee=.value x) {f:FuncId} (hf:gB Γ.P f) {caps:Array Value} (hx:a.eval x=.func (.func f) #[] caps):
  (execOp a.eval o).run Γ.P w=.ok (.enter f (c.args.map a.eval++caps)) w:=by
 simp[execOp,ho,resolve,hc,hx,Deferred.ofValue,invoke,gY hf]
theorem bn.pure (aq:Γ.Ok) {o:Oper} {c:Call} {x:Operand} (ho:o.op=.call c) (hc:c.callee=.value x) {f:FuncId} {caps:List AV} (hx:s.ev x=.aS f caps) {R:AV→Prop}
  (hP:Pure Γ.P f ((c.args.toList.map s.ev++caps).map (AV.bh s.hp)) R) (hd:cw Γ.nt o.dst) {K:AS G→Prop} (hK:∀r,R r→K (s.put o.dst r)):bn Γ o s K:=by
 intro a w η Kc Qc hk hr
 have di:=hr.ev x
 rw[hx] at di
 generalize hv:a.eval x=v at di
 cases di with
 |aS _ _ vs hl cD=>
  refine⟨fun _ _=>trivial,?_⟩
  have bj:∀c',o.op ≠ .defer c':=by intro c' h;rw[ho] at h;cases h
  rw[Oper.semAt_eq _ _ _ bj,eB ho hc hP.1 hv]
  have ax:(c.args.map a.eval++vs)=(c.args.toList.map a.eval++vs.toList).toArray:=by apply Array.ext';simp
  have cS:bF w (aU Γ w η s.hp) η s.hp caps vs.toList:=cd (by simpa using hl) fun j y u hy hu=>cD j y u hy (by simpa using hu)
  have eZ:=jj hr _ _ (cY _ _ (eU hr c.args.toList) cS)
  refine⟨fun h=>(by cases h),?_⟩
  rw[ax]
  have iB:=hP.2 w (aU Γ w η s.hp) _ (fun _ _=>dy) (hr.fX aq) eZ
  refine CallsIn.mono (F:=Γ.dA) ?_ (R:=fun e w'=>∃v r,e=.returned v∧R r∧bt w w'∧aV w' (Onto (aU Γ w η s.hp) w w') [] [] r v) fun e w' ⟨u,r,he,hR,hs,R8⟩=>?_
  ·exact iB
  ·subst he
   exact hk _ _ _ _ (hK r hR) ((hr.same aq hs).put (bG hd) ((R8.aY fun b o h=>tE aq hr hs h).lift))
def cj:Nat→List AV→Nat→AV
 |_,[]=>fun _=>.top
 |k,x::l=>xa (cj (k+1) l) k x
def xr (tab:Nat→Option TD) (s:AS G):ResultVar→Option AV
 | .tmp t=>some (s.tmps t)
 | .cell t T=>(match tab T,s.tmps t with
  |some d,.ptr r o=>(match s.hp[r]? with
   |some (.box cs)=>dV d.kind.agg d.size cs o
   |_=>none)
  |_,_=>none)
def dB (tab:Nat→Option TD) (s:AS G):List ResultVar→Option (List AV)
 | []=>some []
 |x::l=>(match xr tab s x,dB tab s l with
  |some v,some vs=>some (v::vs)
  |_,_=>none)
def eW:List AV→AV
 | [x]=>x
 |l=>.bc l
def zC:List AV→AV
 | [x]=>x
 |l=>.agg l
def AV.Er (hp:List af):AV→AV
 | .ptr r 0=>(match hp[r]? with
  |some (.box cs)=>.aH (zC (cs.map (AV.dp hp))) 0
  |_=>.top)
 |x=>x.dN hp
def AV.nw (hp:List af):AV→AV
 | .aS f cs=>.aS f (cs.map (AV.Er hp))
 |x=>x.bh hp
theorem zD (hp:List af) (x:AV):(x.dp hp).cells=[x.dp hp]:=by
 cases x with
 |own r n=>simp only[AV.dp];split<;>rfl
 |ae v=>simp only[AV.dp];split<;>rfl
 |aS f caps=>simp only[AV.dp];split<;>rfl
 |_=>rfl
theorem kW (hp:List af) (cs:List AV):(zC (cs.map (AV.dp hp))).cells=cs.map (AV.dp hp):=by
 match cs with
 | []=>rfl
 | [x]=>exact zD hp x
 |x::y::l=>rfl
theorem zE (h:cT w (aU Γ w η hp) η hp) (hm:se Γ η hp) {F2:Nat→Nat→Prop} (hF:∀b o,aU Γ w η hp b o→F2 b o) (hN:∀b o,(Γ.w0.heap.size≤b∨Γ.Y b)→b<w.heap.size→F2 b o) {x:AV} {v:Value} (hx:aV w (aU Γ w η hp) η hp x v):
  aV w F2 [] [] (x.nw hp) v:=by
 cases x with
 |aS f cs=>
  cases hx with
  |aS _ _ vs hl hr=>
   refine .aS f _ vs (by simpa using hl) fun j y u hy hu=>?_
   rw[List.getElem?_map] at hy
   cases hj:cs[j]? with
   |none=>rw[hj] at hy;cases hy
   |some z=>
    rw[hj] at hy
    obtain rfl:=Option.some.inj hy
    have hz:=hr j z u hj hu
    unfold AV.Er
    split
    ·rename_i r
     split
     ·rename_i cs' hb
      cases hz with
      |ptr _ _ b dn=>
       obtain⟨b',ws,T,Lx,hg,bE,hc⟩:=h.obj r _ _ hb dn
       simp only[Value.pointer.injEq,Option.some.injEq,Addr.mk.injEq,and_true] at Lx
       subst Lx
       have VD:=(hm r _ _ b hb True.intro dn rfl).1
       have bO:∀(j:Nat) (x:AV),(cs'.map (AV.dp hp))[j]?=some x→∃y u,cs'[j]?=some y∧x=y.dp hp∧ws[j]?=some u:=by
        intro j x hx
        rw[List.getElem?_map] at hx
        cases hj:cs'[j]? with
        |none=>rw[hj] at hx;cases hx
        |some y=>
         rw[hj] at hx
         obtain rfl:=Option.some.inj hx
         have:j<ws.size:=by rw[bE];exact(List.getElem?_eq_some_iff.1 hj).1
         exact⟨y,ws[j],rfl,rfl,by simp[this]⟩
       refine .aH _ 0 b 0 (fun j=>(ws[j]?).getD undef) (fun j x hx=>?_) fun j x hx=>?_
       ·rw[kW] at hx
        obtain⟨y,u,h1,h2,h3⟩:=bO j x hx
        refine⟨?_,hN b _ VD (aX hg),?_⟩
        ·simp[World.cell?,hg,h3]
        ·simp only[h3,Option.getD_some];exact(hc j y u h1 h3).2
       ·rw[kW] at hx
        obtain⟨y,u,h1,h2,h3⟩:=bO j x hx
        subst h2
        simp only[h3,Option.getD_some]
        exact(jT h hm (hc j y u h1 h3).1).ext ⟨fun _ _ _ _ h=>h,fun _ _ _ _ h=>h,hF,fun _ _ h=>h,fun _ _ h=>h,fun _ _ _ h=>h⟩
     ·exact .top _
    ·exact(jU h hm hz).ext ⟨fun _ _ _ _ h=>h,fun _ _ _ _ h=>h,hF,fun _ _ h=>h,fun _ _ h=>h,fun _ _ _ h=>h⟩
 |_=>exact(eV h hm hx).ext ⟨fun _ _ _ _ h=>h,fun _ _ _ _ h=>h,hF,fun _ _ h=>h,fun _ _ h=>h,fun _ _ _ h=>h⟩
def HE (tab:Nat→Option TD) (rs:List ResultVar) (R:AV→AS G→Prop):Exit→AS G→Prop
 | .normal,s | .ret,s=>(match dB tab s rs with
  |some l=>R ((eW l).nw s.hp) s
  |none=>False)
 |_,_=>False
theorem CE {tab:Nat→Option TD} (ah:aL Γ.P tab) (hr:Rel Γ s a w η) {x:ResultVar} {r:AV} (h:xr tab s x=some r):
  ∃v,(match x with | .tmp t=>Pure.pure (a.tmps.getD t undef) | .cell p t=>do loadVar t (←asAddr (a.tmps.getD p undef)):Sem Value).run Γ.P w=.ok v w∧aV w (aU Γ w η s.hp) η s.hp r v:=by
 cases x with
 |tmp t=>
  simp only[xr,Option.some.injEq] at h
  subst h
  exact⟨_,rfl,hr.tmps t⟩
 |cell p T=>
  simp only[xr] at h
  split at h
  ·rename_i d r' off hd hp
   split at h
   ·rename_i cs eS
    have nU:=hr.tmps p
    rw[hp] at nU
    generalize hv:a.tmps.getD p undef=v at nU
    cases nU with
    |ptr _ _ b dn=>
     obtain⟨b',vs,T',hb,hg,bE,hc⟩:=hr.heap.obj r' _ _ eS dn
     simp only[Value.pointer.injEq,Option.some.injEq,Addr.mk.injEq,and_true] at hb
     subst hb
     obtain⟨h1,h2⟩:=dG (w:=w) (F:=aU Γ w η s.hp) (η:=η) (hp:=s.hp) (ah.sz hd) (vs:=vs.toList) (by simpa using bE) (fun j x u hx hu=>hc j x u hx (by simpa using hu)) h
     refine⟨_,?_,h2⟩
     simp only[Sem.run_bind]
     rw[hv]
     simp only[asAddr,Sem.run_pure,Result.andThen_ok]
     exact iA (ah T d hd) (qE hg) h1
   ·cases h
  ·cases h
theorem CF {tab:Nat→Option TD} (ah:aL Γ.P tab) (hr:Rel Γ s a w η):∀(l:List ResultVar) (rs:List AV),dB tab s l=some rs→
  ∃vs,(l.mapM fun x=>(match x with | .tmp t=>Pure.pure (a.tmps.getD t undef) | .cell p t=>do loadVar t (←asAddr (a.tmps.getD p undef)):Sem Value)).run Γ.P w=.ok vs w∧bF w (aU Γ w η s.hp) η s.hp rs vs:=by
 intro l
 induction l with
 |nil=>
  intro rs h
  simp only[dB,Option.some.injEq] at h
  subst h
  exact⟨[],rfl,True.intro⟩
 |cons x l ih=>
  intro rs h
  simp only[dB] at h
  split at h
  ·rename_i v vs h1 h2
   obtain rfl:=Option.some.inj h
   obtain⟨u,e1,e2⟩:=CE ah hr h1
   obtain⟨us,e3,e4⟩:=ih vs h2
   refine⟨u::us,?_,e2,e4⟩
   rw[List.mapM_cons]
   simp only[Sem.run_bind]
   rw[e1]
   simp only[Result.andThen_ok]
   rw[e3]
   rfl
  ·cases h
theorem jk {tab:Nat→Option TD} (ah:aL Γ.P tab) (hr:Rel Γ s a w η) {fn:Func} {rs:List AV} (h:dB tab s fn.results.toList=some rs):
  ∃v,(results fn a.tmps).run Γ.P w=.ok v w∧aV w (aU Γ w η s.hp) η s.hp (eW rs) v:=by
 obtain⟨vs,h1,h2⟩:=CF ah hr _ _ h
 have hm:(fn.results.mapM fun x=>(match x with | .tmp t=>Pure.pure (a.tmps.getD t undef) | .cell p t=>do loadVar t (←asAddr (a.tmps.getD p undef)):Sem Value)).run Γ.P w=.ok vs.toArray w:=by
  rw[Array.mapM_eq_mapM_toList,Sem.run_map,h1];rfl
 refine⟨if h:vs.toArray.size=1 then vs.toArray[0] else .tuple vs.toArray,?_,?_⟩
 ·simp only[results,Sem.run_bind]
  exact(congrArg (fun r=>Result.andThen r fun vs w=>(Pure.pure (if h:vs.size=1 then vs[0] else .tuple vs):Sem Value).run Γ.P w) hm)
 ·have hl:=h2.length
  match rs,vs,h2,hl with
  | [],[],_,_=>exact .bc [] #[] rfl fun j x v hx=>by simp at hx
  | [r],[v],h2,_=>exact h2.1
  |r1::r2::rs,v1::v2::vs,h2,hl=>
   rw[dif_neg (by simp)]
   exact .bc _ _ (by simpa using hl) fun j x v hx hv=>h2.get j x v hx (by simpa using hv)
theorem Rel.shut {ts:Array Value} {d:Deferred} {ds:List Deferred} {r:Nat} (aq:Γ.Ok) (h:Rel Γ s ⟨ts,d::ds⟩ w η) (hd:d.target=.collected r) (hr:w.heap[r]?=some (.deferred (some []))) (hN:Γ.w0.heap.size≤r):
  Rel Γ s ⟨ts,ds⟩ (w.putObj r (.deferred none)) η:=by
 have al:=aX hr
 have hs:∀k,k≠r→(w.putObj r (.deferred none)).heap[k]?=w.heap[k]?:=fun k hk=>World.putObj_heap_other hk
 have aw:∀b o v,w.cell? ⟨b,o,none⟩=some v→(w.putObj r (.deferred none)).cell? ⟨b,o,none⟩=some v:=by
  intro b o v hc
  by_cases hb:b=r
  ·subst hb;simp[World.cell?,hr] at hc
  ·rw[World.cell?_of_block (hs b hb)];exact hc
 have he:Ext w (aU Γ w η s.hp) η s.hp (w.putObj r (.deferred none)) (aU Γ (w.putObj r (.deferred none)) η s.hp) η s.hp:=
  ⟨fun b o v _ hc=>aw b o v hc,fun b es c _ hc=>by
   by_cases hb:b=r
   ·subst hb;rw[hr] at hc;cases hc
   ·rw[hs b hb];exact hc,fun b o hf=>⟨hf.1,by simpa using hf.2.1,hf.2.2⟩,fun _ _ h=>h,fun _ _ h=>h,fun _ _ _ h=>h⟩
 have gv:∀(q:Nat) (o:af) (v:Value) (b:Nat),s.hp[q]?=some o→o.live→η[q]?=some v→bT v=some b→b≠r:=by
  intro q o v b h1 h2 h3 h4 hb
  subst hb
  have cR:=h.heap.obj q o v h1 h3
  cases o with
  |dead=>exact h2.elim
  |box cs=>obtain⟨b',vs,T,rfl,g1,_⟩:=cR;simp only[bT,Option.some.injEq] at h4;subst h4;rw[hr] at g1;cases g1
  |row e size els=>obtain⟨_,xs,g1,_⟩:=cR;obtain⟨cur,g2⟩:=g1.lt h4;rw[hr] at g2;cases g2
  |aP es=>obtain⟨b',en,c,rfl,g1,_⟩:=cR;simp only[bT,Option.some.injEq] at h4;subst h4;rw[hr] at g1;cases g1
  |cA q k=>obtain⟨b',vs,rfl,g1,_⟩:=cR;simp only[bT,Option.some.injEq] at h4;subst h4;rw[hr] at g1;cases g1
  |aF e size els=>obtain⟨_,xs,g1,_⟩:=cR;obtain⟨cur,g2⟩:=g1.lt h4;rw[hr] at g2;cases g2
  |dh e m ns=>obtain⟨cur,g2⟩:=dT.lt cR h4;rw[hr] at g2;cases g2
 refine⟨h.nt,fun t=>(h.tmps t).ext he,⟨h.heap.len,fun q o v h1 h2=>?_,h.heap.sep⟩,h.bA,?_,?_,?_,h.ext.trans he⟩
 ·by_cases hl:o.live
  ·exact(h.heap.obj q o v h1 h2).ext he (by simp) fun b hb _=>hs b (gv q o v b h1 hl h2 hb)
  ·cases o<;>first|exact True.intro|exact(hl True.intro).elim
 ·refine⟨h.keeps.os,h.keeps.tape,h.keeps.output,by simpa using h.keeps.size,fun k hk hx=>?_⟩
  rw[hs k (by omega)];exact h.keeps.block k hk hx
 ·exact aq.l8 _ _ _ (fun b hb=>hs b (by have:=aq.x b hb;omega)) (by simp) h.inv
 ·refine⟨fun d' cM=>?_,(List.pairwise_cons.1 h.marks.apart).2⟩
  obtain⟨r',g1,g2,g3⟩:=h.marks.all d' (List.mem_cons_of_mem _ cM)
  refine⟨r',g1,?_,g3⟩
  have bj:r'≠r:=by
   intro e
   subst e
   exact(List.pairwise_cons.1 h.marks.apart).1 d' cM (by rw[hd,g1])
  rw[hs r' bj];exact g2
theorem xt (aq:Γ.Ok) (Z6:∀r,Γ.m0 r→Γ.w0.heap.size≤r) {fn:Func} {ts:Array Value} {R:Ending→World→Prop} (Hq:∀w,Rel Γ s ⟨ts,[]⟩ w η→∃v,(results fn ts).run Γ.P w=.ok v w∧R (.returned v) w):∀(ds:List Deferred) (w:World),Rel Γ s ⟨ts,ds⟩ w η→
  LeavesInM Γ.dA 0 Γ.P fn ts R ds .returning w:=by
 intro ds
 induction ds with
 |nil=>intro w hr;exact Hq w hr
 |cons d ds ih=>
  intro w hr
  obtain⟨r,h1,h2,h3⟩:=hr.marks.all d List.mem_cons_self
  exact⟨by simp,.inl ⟨r,_,h1,run_takeDeferred h2,ih _ (hr.shut aq h1 h2 (Z6 _ h3))⟩⟩
theorem xu {tab:Nat→Option TD} (ah:aL P tab) {f:FuncId} {fn:Func} {c:Code} {args:List AV} {R:AV→Prop} (hf:P.funcs[f]?=some fn) (hb:fn.body=some c) (eC:(fn.name == "runtime.NumGoroutine")=false) (hn:args.length≤fn.ntmps)
  (h:∀Γ:Env Unit,Γ.Ok→Γ.P=P→fn.ntmps=Γ.nt→Γ.ir.length=0→Γ.zg→dq Γ c (HE tab fn.results.toList (fun r _=>R r)) ⟨cj 0 args,[],()⟩):Pure P f args R:=by
 refine⟨⟨fn,hf,eC,by rw[hb];rfl⟩,fun w F aR hF hg hv=>?_⟩
 let Γ:Env Unit:={ P:=P,w0:=w,F0:=F,X:=fun _=>False,Y:=fun _=>False,Inv:=fun _ _=>True,nt:=fn.ntmps,vQ:=none,m0:=fun r=>w.heap.size≤r,Z:=fun _ _=>False,vh:=[],ir:=[] }
 have aq:Γ.Ok:=⟨rfl,fun _ h=>h.elim,fun _ h=>h.elim,fun _ _ _ _ _ h=>h,fun _ _ h=>h.elim,hg,fun _ _ h=>h.elim (fun h=>h) fun h=>h⟩
 have Lu:=hv.length
 have dF:∀b o,F b o→aU Γ w [] [] b o:=fun b o hb=>⟨.inl hb,hF b o hb,fun h=>h.elim (fun h=>h) fun h=>h,fun r v hr=>by simp at hr⟩
 have vR:∀(l:List AV) (us:List Value) (k:Nat),bF w F [] [] l us→∀t,aV w (aU Γ w [] []) [] [] (cj k l t) (if t<k then undef else(us[t-k]?).getD undef)∨t<k:=by
  intro l
  induction l with
  |nil=>intro us k _ t;exact .inl (.top _)
  |cons x l ih=>
   intro us k hl t
   cases us with
   |nil=>exact hl.elim
   |cons u us=>
    by_cases xv:t<k
    ·exact .inr xv
    ·refine .inl ?_
     rw[if_neg xv]
     simp only[cj,eF]
     by_cases O4:t=k
     ·subst O4
      rw[if_pos rfl,Nat.sub_self]
      exact hl.1.aY dF
     ·rw[if_neg O4]
      rcases ih us (k+1) hl.2 t with h1|h1
      ·rw[if_neg (by omega)] at h1
       have:t-k=(t-(k+1))+1:=by omega
       rw[this,List.getElem?_cons_succ]
       exact h1
      ·omega
 have hrel:Rel Γ ⟨cj 0 args,[],()⟩ ⟨aR.toArray++Array.replicate (fn.ntmps-aR.toArray.size) undef,[]⟩ w []:=by
  refine⟨by simp[Γ];omega,fun t=>?_,⟨rfl,fun r o v h=>by simp at h,fun r r' o o' v v' b _ h=>by simp at h⟩,fun r o v b h=>by simp at h,bo.refl _ w,True.intro,⟨fun d hd=>(by cases hd),List.Pairwise.nil⟩,⟨fun _ _ _ _ h=>h,fun _ _ _ _ h=>h,dF,fun _ _ h=>h,fun _ _ h=>h,fun _ _ _ h=>h⟩⟩
  have:=vR args aR 0 hv t
  simp only[Nat.not_lt_zero,if_false,or_false,Nat.sub_zero] at this
  have e:(aR.toArray++Array.replicate (fn.ntmps-aR.toArray.size) undef).getD t undef=(aR[t]?).getD undef:=by
   rw[Array.getD_eq_getD_getElem?]
   by_cases ht:t<aR.length
   ·rw[Array.getElem?_append_left (by simpa using ht)];simp
   ·rw[Array.getElem?_append_right (by simpa using ht),List.getElem?_eq_none (by omega)]
    rw[Array.getElem?_replicate]
    split<;>rfl
  show aV w _ _ _ _ ((aR.toArray++Array.replicate (fn.ntmps-aR.toArray.size) undef).getD t undef)
  rw[e];exact this
 have fx:=h Γ aq rfl rfl rfl ⟨rfl,fun _ h=>h⟩ _ _ _ hrel
 refine callsIn_of_wp_marks (F:=Fence.wide) hf hb trivial (wpIn_mono (F:=Fence.wide) fx fun e a' w' ⟨s',aM,hq,dM⟩=>?_)
 have fin:(∃l,dB tab s' fn.results.toList=some l∧R ((eW l).nw s'.hp))→LeavesInM Fence.wide 0 P fn a'.tmps (fun e w'=>∃v r,e=.returned v∧R r∧bt w w'∧aV w' (Onto F w w') [] [] r v) a'.defers .returning w':=by
  intro ⟨l,hl,hR⟩
  have:=xt (Γ:=Γ) (s:=s') (η:=aM) (fn:=fn) (ts:=a'.tmps) (R:=fun e w'=>∃v r,e=.returned v∧R r∧bt w w'∧aV w' (Onto F w w') [] [] r v) aq (fun _ h=>h) (fun w2 kO=>by
   obtain⟨v,h1,h2⟩:=jk ah kO hl
   refine⟨v,h1,v,_,rfl,hR,kO.keeps.same fun b _ hx=>by rcases hx with h|h<;>exact h,?_⟩
   refine zE kO.heap kO.bA (fun b o hf=>?_) (fun b o hb al=>hb.elim (fun hb=>.inr ⟨hb,al⟩) fun hb=>hb.elim) h2
   rcases hf.1 with h3|h3|h3
   ·exact .inl h3
   ·exact .inr ⟨h3,hf.2.1⟩
   ·exact h3.elim) a'.defers w' dM
  exact this
 cases e with
 |normal=>
  simp only[HE] at hq
  split at hq
  ·rename_i l hl;exact fin ⟨l,hl,hq⟩
  ·exact hq.elim
 |ret=>
  simp only[HE] at hq
  split at hq
  ·rename_i l hl;exact fin ⟨l,hl,hq⟩
  ·exact hq.elim
 |_=>exact hq.elim
end Go.Proofs.YtdcikhleahfknaaGreatDoor
