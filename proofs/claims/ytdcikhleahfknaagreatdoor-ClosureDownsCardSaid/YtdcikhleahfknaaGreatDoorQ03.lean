/- Texts of ours laid together for a claim: FilO. -/
import Derived.Test.YtdcikhleahfknaaGreatDoorQ02
namespace Go.Proofs.YtdcikhleahfknaaGreatDoor
open Go
set_option linter.unusedSimpArgs false
set_option linter.unusedVariables false
variable {G:Type} {Γ:Env G} {s s':AS G} {a:Act} {w w':World} {η:List Value} {hp:List af} {P:Program}
def iW (P:Program) (f:FuncId):Prop:=∃fn,P.funcs[f]?=some fn/\(fn.name == "runtime.NumGoroutine")=false/\fn.body.isNone=false
theorem jE {f:FuncId} (h:iW P f) (args:Array Value) (w:World):(callFunc f args).run P w=.ok (.enter f args) w:=by
 obtain⟨fn,h1,h2,h3⟩:=h;simp only[callFunc,Sem.run_bind,run_program,Result.andThen_ok,h1,h2,h3,alQ,if_false,Sem.run_pure]
def Onto (F:Nat->Nat->Prop) (w w':World) (b o:Nat):Prop:=F b o\/(w.heap.size<=b/\b<w'.heap.size)
def Pure (P:Program) (f:FuncId) (args:List AV) (R:AV->Prop):Prop:=
 iW P f/\∀(w:World) (F:Nat->Nat->Prop) (bb:List Value),(∀b o,F b o->b<w.heap.size)->og w->bZ w F [] [] args bb->
  CallsIn Fence.wide 0 P f bb.toArray w (fun e w'=>∃v r,e=.returned v/\R r/\bI w w'/\bm w' (Onto F w w') [] [] r v)
theorem Pure.mono {f:FuncId} {args:List AV} {R R':AV->Prop} (h:Pure P f args R) (hR:∀r,R r->R' r):Pure P f args R':=
 ⟨h.1,fun w F bb hF hg hv=>(h.2 w F bb hF hg hv).mono fun _ _ ⟨v,r,h1,h2,h3,h4⟩=>⟨v,r,h1,hR r h2,h3,h4⟩⟩
abbrev ag (P:Program) (f:FuncId) (args:List AV) (r:AV):Prop:=Pure P f args (fun x=>x=r)
theorem wZ (ax:Γ.Ok) (h:Rel Γ s a w η) (hs:bI w w') {b o:Nat} (hb:Onto (bk Γ w η s.hp) w w' b o):bk Γ w' η s.hp b o:=by
 rcases hb with h1|⟨h1,h2⟩
 ·exact⟨h1.1,al8 h1.2.1 hs.size,h1.2.2⟩
 ·refine⟨.inr (.inl (amf h.keeps.size h1)),h2,fun hx=>by have:=ax.no hx;have:=h.keeps.size;omega,(aU b o).2 fun r v hv oB=>?_⟩;have eH:r<s.hp.length:=by rw[<-h.heap.len];exact(alu.1 hv).1
  have ho:s.hp[r]?=some s.hp[r]:=by simp[eH]
  refine⟨s.hp[r],ho,?_⟩
  cases hk:s.hp[r] with
  |dead=>exact True.intro
  |_=>
   rw[hk] at ho;have:=h.heap.block ho True.intro hv oB;omega
theorem bm.bg {F F':Nat->Nat->Prop} {x:AV} {v:Value} (h:bm w F [] [] x v) (hF:∀b o,F b o->F' b o):bm w F' [] [] x v:=
 h.ext ⟨fun _ _ _ _ h=>h,fun _ _ _ _ h=>h,hF,fun _ _ h=>h,fun _ _ h=>h,fun _ _ _ h=>h⟩
theorem kW (h:Rel Γ s a w η):∀(xs:List AV) (vs:List Value),bZ w (bk Γ w η s.hp) η s.hp xs vs->bZ w (bk Γ w η s.hp) [] [] (xs.map (AV.bB s.hp)) vs
 | [],[],_=>True.intro
 |_::xs,_::vs,hx=>⟨ff h.heap h.bM hx.1,kW h xs vs hx.2⟩
theorem dI {F:Nat->Nat->Prop}:∀(xs:List AV) (vs:List Value) {ys:List AV} {us:List Value},bZ w F η hp xs vs->bZ w F η hp ys us->bZ w F η hp (xs++ys) (vs++us)
 | [],[],_,_,_,h2=>h2
 |_::xs,_::vs,_,_,h1,h2=>⟨h1.1,dI xs vs h1.2 h2⟩
theorem fB {o:Oper} {c:Call} {x:Operand} (ho:o.op=.call c) (hc:c.callee=.value x) {f:FuncId} (hf:iW Γ.P f) {caps:Array Value} (hx:a.eval x=.func (.func f) #[] caps):
  (execOp a.eval o).run Γ.P w=.ok (.enter f (c.args.map a.eval++caps)) w:=by
 simp[execOp,ho,resolve,hc,hx,Deferred.ofValue,invoke,jE hf]
theorem bD.pure (ax:Γ.Ok) {o:Oper} {c:Call} {x:Operand} (ho:o.op=.call c) (hc:c.callee=.value x) {f:FuncId} {caps:List AV} (hx:s.ev x=.aY f caps) {R:AV->Prop}
  (hP:Pure Γ.P f ((c.args.toList.map s.ev++caps).map (AV.bB s.hp)) R) (hd:cR Γ.nt o.dst) {K:AS G->Prop} (hK:∀r,R r->K (s.put o.dst r)):bD Γ o s K:=by
 intro a w η Kc Qc hk hr;have dO:=hr.ev x;rw[hx] at dO;generalize hv:a.eval x=v at dO
 cases dO with
 |aY _ _ vs hl cX=>
  refine⟨fun _ _=>trivial,?_⟩;have bu:∀c',o.op ≠ .defer c':=by intro c' h;rw[ho] at h;cases h
  rw[Oper.semAt_eq _ _ _ bu,fB ho hc hP.1 hv];have aF:(c.args.map a.eval++vs)=(c.args.toList.map a.eval++vs.toList).toArray:=by apply amT;simp
  have dx:bZ w (bk Γ w η s.hp) η s.hp caps vs.toList:=cF (by simpa using hl) fun j y u hy hu=>cX j y u hy (by simpa using hu);have gy:=kW hr _ _ (dI _ _ (gk hr c.args.toList) dx);refine⟨fun h=>(by cases h),?_⟩;rw[aF];have jZ:=hP.2 w (bk Γ w η s.hp) _ (fun _ _=>dZ) (hr.gL ax) gy;refine CallsIn.mono (F:=Γ.ec) ?_ (R:=fun e w'=>∃v r,e=.returned v/\R r/\bI w w'/\bm w' (Onto (bk Γ w η s.hp) w w') [] [] r v) fun e w' ⟨u,r,he,hR,hs,hru⟩=>?_
  ·exact jZ
  ·subst he;exact hk _ _ _ _ (hK r hR) ((hr.same ax hs).put (cd hd) ((hru.bg fun b o h=>wZ ax hr hs h).lift))
def cI:Nat->List AV->Nat->AV
 |_,[]=>fun _=>.top
 |k,x::l=>yZ (cI (k+1) l) k x
def Bn (tab:Nat->Option TD) (s:AS G):ResultVar->Option AV
 | .tmp t=>some (s.tmps t)
 | .cell t T=>(match tab T,s.tmps t with
  |some d,.ptr r o=>(match s.hp[r]? with
   |some (.box cs)=>eV d.kind.agg d.size cs o
   |_=>none)
  |_,_=>none)
def ee (tab:Nat->Option TD) (s:AS G):List ResultVar->Option (List AV)
 | []=>some []
 |x::l=>(match Bn tab s x,ee tab s l with
  |some v,some vs=>some (v::vs)
  |_,_=>none)
def gm:List AV->AV
 | [x]=>x
 |l=>.aL l
def DI:List AV->AV
 | [x]=>x
 |l=>.agg l
def AV.JC (hp:List af):AV->AV
 | .ptr r 0=>(match hp[r]? with
  |some (.box cs)=>.aS (DI (cs.map (AV.dS hp))) 0
  |_=>.top)
 |x=>x.eI hp
def AV.pK (hp:List af):AV->AV
 | .aY f cs=>.aY f (cs.map (AV.JC hp))
 |x=>x.bB hp
theorem DJ (hp:List af) (x:AV):(x.dS hp).cells=[x.dS hp]:=by
 cases x with
 |own r n=>simp only[AV.dS];split<;>rfl
 |ae v=>simp only[AV.dS];split<;>rfl
 |aY f caps=>simp only[AV.dS];split<;>rfl
 |_=>rfl
theorem mX (hp:List af) (cs:List AV):(DI (cs.map (AV.dS hp))).cells=cs.map (AV.dS hp):=by
 match cs with
 | []=>rfl
 | [x]=>exact DJ hp x
 |x::y::l=>rfl
theorem DK (h:dC w (bk Γ w η hp) η hp) (hm:vB Γ η hp) {F2:Nat->Nat->Prop} (hF:∀b o,bk Γ w η hp b o->F2 b o) (hN:∀b o,(Γ.w0.heap.size<=b\/Γ.Y b)->b<w.heap.size->F2 b o) {x:AV} {v:Value} (hx:bm w (bk Γ w η hp) η hp x v):
  bm w F2 [] [] (x.pK hp) v:=by
 cases x with
 |aY f cs=>
  cases hx with
  |aY _ _ vs hl hr=>
   refine .aY f _ vs (by simpa using hl) fun j y u hy hu=>?_;rw[alM] at hy
   cases hj:cs[j]? with
   |none=>rw[hj] at hy;cases hy
   |some z=>
    rw[hj] at hy;obtain rfl:=alw hy;have hz:=hr j z u hj hu;unfold AV.JC;split
    ·rename_i r;split
     ·rename_i cs' hb
      cases hz with
      |ptr _ _ b dR=>
       obtain⟨b',ws,T,SA,hg,bN,hc⟩:=h.obj r _ _ hb dR;simp only[Value.pointer.injEq,als,Addr.mk.injEq,and_true] at SA;subst SA;have Li:=(hm r _ _ b hb True.intro dR rfl).1;have cq:∀(j:Nat) (x:AV),(cs'.map (AV.dS hp))[j]?=some x->∃y u,cs'[j]?=some y/\x=y.dS hp/\ws[j]?=some u:=by
        intro j x hx;rw[alM] at hx
        cases hj:cs'[j]? with
        |none=>rw[hj] at hx;cases hx
        |some y=>
         rw[hj] at hx;obtain rfl:=alw hx;have:j<ws.size:=by rw[bN];exact(alu.1 hj).1
         exact⟨y,ws[j],rfl,rfl,by simp[this]⟩
       refine .aS _ 0 b 0 (fun j=>(ws[j]?).getD undef) (fun j x hx=>?_) fun j x hx=>?_
       ·rw[mX] at hx;obtain⟨y,u,h1,h2,h3⟩:=cq j x hx;refine⟨?_,hN b _ Li (bo hg),?_⟩
        ·simp[World.cell?,hg,h3]
        ·simp only[h3,amt];exact(hc j y u h1 h3).2
       ·rw[mX] at hx;obtain⟨y,u,h1,h2,h3⟩:=cq j x hx;subst h2;simp only[h3,amt];exact(lR h hm (hc j y u h1 h3).1).ext ⟨fun _ _ _ _ h=>h,fun _ _ _ _ h=>h,hF,fun _ _ h=>h,fun _ _ h=>h,fun _ _ _ h=>h⟩
     ·exact .top _
    ·exact(lS h hm hz).ext ⟨fun _ _ _ _ h=>h,fun _ _ _ _ h=>h,hF,fun _ _ h=>h,fun _ _ h=>h,fun _ _ _ h=>h⟩
 |_=>exact(ff h hm hx).ext ⟨fun _ _ _ _ h=>h,fun _ _ _ _ h=>h,hF,fun _ _ h=>h,fun _ _ h=>h,fun _ _ _ h=>h⟩
def Nq (tab:Nat->Option TD) (rs:List ResultVar) (R:AV->AS G->Prop):Exit->AS G->Prop
 | .normal,s | .ret,s=>(match ee tab s rs with
  |some l=>R ((gm l).pK s.hp) s
  |none=>False)
 |_,_=>False
theorem Hm {tab:Nat->Option TD} (aj:aZ Γ.P tab) (hr:Rel Γ s a w η) {x:ResultVar} {r:AV} (h:Bn tab s x=some r):
  ∃v,(match x with | .tmp t=>Pure.pure (a.tmps.getD t undef) | .cell p t=>do loadVar t (<-asAddr (a.tmps.getD p undef)):Sem Value).run Γ.P w=.ok v w/\bm w (bk Γ w η s.hp) η s.hp r v:=by
 cases x with
 |tmp t=>
  simp only[Bn,als] at h;subst h;exact⟨_,rfl,hr.tmps t⟩
 |cell p T=>
  simp only[Bn] at h;split at h
  ·rename_i d r' off hd hp;split at h
   ·rename_i cs fO;have qk:=hr.tmps p;rw[hp] at qk;generalize hv:a.tmps.getD p undef=v at qk
    cases qk with
    |ptr _ _ b dR=>
     obtain⟨b',vs,T',hb,hg,bN,hc⟩:=hr.heap.obj r' _ _ fO dR;simp only[Value.pointer.injEq,als,Addr.mk.injEq,and_true] at hb;subst hb;obtain⟨h1,h2⟩:=eB (w:=w) (F:=bk Γ w η s.hp) (η:=η) (hp:=s.hp) (aj.sz hd) (vs:=vs.toList) (by simpa using bN) (fun j x u hx hu=>hc j x u hx (by simpa using hu)) h;refine⟨_,?_,h2⟩;simp only[Sem.run_bind];rw[hv];simp only[asAddr,Sem.run_pure,Result.andThen_ok];exact jX (aj T d hd) (tK hg) h1
   ·cases h
  ·cases h
theorem Hn {tab:Nat->Option TD} (aj:aZ Γ.P tab) (hr:Rel Γ s a w η):∀(l:List ResultVar) (rs:List AV),ee tab s l=some rs->
  ∃vs,(l.mapM fun x=>(match x with | .tmp t=>Pure.pure (a.tmps.getD t undef) | .cell p t=>do loadVar t (<-asAddr (a.tmps.getD p undef)):Sem Value)).run Γ.P w=.ok vs w/\bZ w (bk Γ w η s.hp) η s.hp rs vs:=by
 intro l
 induction l with
 |nil=>
  intro rs h;simp only[ee,als] at h;subst h;exact⟨[],rfl,True.intro⟩
 |cons x l ih=>
  intro rs h;simp only[ee] at h;split at h
  ·rename_i v vs h1 h2;obtain rfl:=alw h;obtain⟨u,e1,e2⟩:=Hm aj hr h1;obtain⟨us,e3,e4⟩:=ih vs h2;refine⟨u::us,?_,e2,e4⟩;rw[List.mapM_cons];simp only[Sem.run_bind];rw[e1];simp only[Result.andThen_ok];rw[e3];rfl
  ·cases h
theorem kX {tab:Nat->Option TD} (aj:aZ Γ.P tab) (hr:Rel Γ s a w η) {fn:Func} {rs:List AV} (h:ee tab s fn.results.toList=some rs):
  ∃v,(results fn a.tmps).run Γ.P w=.ok v w/\bm w (bk Γ w η s.hp) η s.hp (gm rs) v:=by
 obtain⟨vs,h1,h2⟩:=Hn aj hr _ _ h;have hm:(fn.results.mapM fun x=>(match x with | .tmp t=>Pure.pure (a.tmps.getD t undef) | .cell p t=>do loadVar t (<-asAddr (a.tmps.getD p undef)):Sem Value)).run Γ.P w=.ok vs.toArray w:=by
  rw[Array.mapM_eq_mapM_toList,Sem.run_map,h1];rfl
 refine⟨if h:vs.toArray.size=1 then vs.toArray[0] else .tuple vs.toArray,?_,?_⟩
 ·simp only[results,Sem.run_bind];exact(congrArg (fun r=>Result.andThen r fun vs w=>(Pure.pure (if h:vs.size=1 then vs[0] else .tuple vs):Sem Value).run Γ.P w) hm)
 ·have hl:=h2.length
  match rs,vs,h2,hl with
  | [],[],_,_=>exact .aL [] #[] rfl fun j x v hx=>by simp at hx
  | [r],[v],h2,_=>exact h2.1
  |r1::r2::rs,v1::v2::vs,h2,hl=>
   rw[dif_neg (by simp)];exact .aL _ _ (by simpa using hl) fun j x v hx hv=>h2.get j x v hx (by simpa using hv)
theorem Rel.shut {ts:Array Value} {d:Deferred} {ds:List Deferred} {r:Nat} (ax:Γ.Ok) (h:Rel Γ s ⟨ts,d::ds⟩ w η) (hd:d.target=.collected r) (hr:w.heap[r]?=some (.deferred (some []))) (hN:Γ.w0.heap.size<=r):
  Rel Γ s ⟨ts,ds⟩ (w.putObj r (.deferred none)) η:=by
 have ak:=bo hr;have hs:∀k,k≠r->(w.putObj r (.deferred none)).heap[k]?=w.heap[k]?:=fun k hk=>World.putObj_heap_other hk;have aE:∀b o v,w.cell? ⟨b,o,none⟩=some v->(w.putObj r (.deferred none)).cell? ⟨b,o,none⟩=some v:=by
  intro b o v hc
  by_cases hb:b=r
  ·subst hb;simp[World.cell?,hr] at hc
  ·rw[World.cell?_of_block (hs b hb)];exact hc
 have he:Ext w (bk Γ w η s.hp) η s.hp (w.putObj r (.deferred none)) (bk Γ (w.putObj r (.deferred none)) η s.hp) η s.hp:=
  ⟨fun b o v _ hc=>aE b o v hc,fun b es c _ hc=>by
   by_cases hb:b=r
   ·subst hb;rw[hr] at hc;cases hc
   ·rw[hs b hb];exact hc,fun b o hf=>⟨hf.1,by simpa using hf.2.1,hf.2.2⟩,fun _ _ h=>h,fun _ _ h=>h,fun _ _ _ h=>h⟩
 have iS:∀(q:Nat) (o:af) (v:Value) (b:Nat),s.hp[q]?=some o->o.live->η[q]?=some v->ct v=some b->b≠r:=by
  intro q o v b h1 h2 h3 h4 hb;subst hb;have dB:=h.heap.obj q o v h1 h3
  cases o with
  |dead=>exact h2.elim
  |box cs=>obtain⟨b',vs,T,rfl,g1,_⟩:=dB;simp only[ct,als] at h4;subst h4;rw[hr] at g1;cases g1
  |row e size els=>obtain⟨_,xs,g1,_⟩:=dB;obtain⟨cur,g2⟩:=g1.lt h4;rw[hr] at g2;cases g2
  |aJ es=>obtain⟨b',en,c,rfl,g1,_⟩:=dB;simp only[ct,als] at h4;subst h4;rw[hr] at g1;cases g1
  |cU q k=>obtain⟨b',vs,rfl,g1,_⟩:=dB;simp only[ct,als] at h4;subst h4;rw[hr] at g1;cases g1
  |aQ e size els=>obtain⟨_,xs,g1,_⟩:=dB;obtain⟨cur,g2⟩:=g1.lt h4;rw[hr] at g2;cases g2
  |dN e m ns=>obtain⟨cur,g2⟩:=eS.lt dB h4;rw[hr] at g2;cases g2
 refine⟨h.nt,fun t=>(h.tmps t).ext he,⟨h.heap.len,fun q o v h1 h2=>?_,h.heap.sep⟩,h.bM,?_,?_,?_,h.ext.trans he⟩
 ·by_cases hl:o.live
  ·exact(h.heap.obj q o v h1 h2).ext he (by simp) fun b hb _=>hs b (iS q o v b h1 hl h2 hb)
  ·cases o<;>first|exact True.intro|exact(hl True.intro).elim
 ·refine⟨h.keeps.os,h.keeps.tape,h.keeps.output,by simpa using h.keeps.size,fun k hk hx=>?_⟩;rw[hs k (by omega)];exact h.keeps.block k hk hx
 ·exact ax.ou _ _ _ (fun b hb=>hs b (by have:=ax.x b hb;omega)) (by simp) h.inv
 ·refine⟨fun d' dv=>?_,(List.pairwise_cons.1 h.marks.apart).2⟩;obtain⟨r',g1,g2,g3⟩:=h.marks.all d' (alR _ dv);refine⟨r',g1,?_,g3⟩;have bu:r'≠r:=by
   intro e;subst e;exact(List.pairwise_cons.1 h.marks.apart).1 d' dv (by rw[hd,g1])
  rw[hs r' bu];exact g2
theorem Bo (ax:Γ.Ok) (hm0:∀r,Γ.m0 r->Γ.w0.heap.size<=r) {fn:Func} {ts:Array Value} {R:Ending->World->Prop} (Na:∀w,Rel Γ s ⟨ts,[]⟩ w η->∃v,(results fn ts).run Γ.P w=.ok v w/\R (.returned v) w):∀(ds:List Deferred) (w:World),Rel Γ s ⟨ts,ds⟩ w η->
  LeavesInM Γ.ec 0 Γ.P fn ts R ds .returning w:=by
 intro ds
 induction ds with
 |nil=>intro w hr;exact Na w hr
 |cons d ds ih=>
  intro w hr;obtain⟨r,h1,h2,h3⟩:=hr.marks.all d alS;exact⟨by simp,.inl ⟨r,_,h1,run_takeDeferred h2,ih _ (hr.shut ax h1 h2 (hm0 _ h3))⟩⟩
theorem Bp {tab:Nat->Option TD} (aj:aZ P tab) {f:FuncId} {fn:Func} {c:Code} {args:List AV} {R:AV->Prop} (hf:P.funcs[f]?=some fn) (hb:fn.body=some c) (fD:(fn.name == "runtime.NumGoroutine")=false) (hn:args.length<=fn.ntmps)
  (h:∀Γ:Env Unit,Γ.Ok->Γ.P=P->fn.ntmps=Γ.nt->Γ.jR.length=0->Γ.Dn->dT Γ c (Nq tab fn.results.toList (fun r _=>R r)) ⟨cI 0 args,[],()⟩):Pure P f args R:=by
 refine⟨⟨fn,hf,fD,by rw[hb];rfl⟩,fun w F bb hF hg hv=>?_⟩
 let Γ:Env Unit:={ P:=P,w0:=w,F0:=F,X:=fun _=>False,Y:=fun _=>False,Inv:=fun _ _=>True,nt:=fn.ntmps,zH:=none,m0:=fun r=>w.heap.size<=r,Z:=fun _ _=>False,yY:=[],jR:=[] }
 have ax:Γ.Ok:=⟨rfl,fun _ h=>h.elim,fun _ h=>h.elim,fun _ _ _ _ _ h=>h,fun _ _ h=>h.elim,hg,fun _ _ h=>h.elim (fun h=>h) fun h=>h⟩;have Sw:=hv.length;have ew:∀b o,F b o->bk Γ w [] [] b o:=fun b o hb=>⟨.inl hb,hF b o hb,fun h=>h.elim (fun h=>h) fun h=>h,fun r v hr=>by simp at hr⟩;have qv:∀(l:List AV) (us:List Value) (k:Nat),bZ w F [] [] l us->∀t,bm w (bk Γ w [] []) [] [] (cI k l t) (if t<k then undef else(us[t-k]?).getD undef)\/t<k:=by
  intro l
  induction l with
  |nil=>intro us k _ t;exact .inl (.top _)
  |cons x l ih=>
   intro us k hl t
   cases us with
   |nil=>exact hl.elim
   |cons u us=>
    by_cases zP:t<k
    ·exact .inr zP
    ·refine .inl ?_;rw[if_neg zP];simp only[cI,fc]
     by_cases W2:t=k
     ·subst W2;rw[if_pos rfl,am9];exact hl.1.bg ew
     ·rw[if_neg W2];rcases ih us (k+1) hl.2 t with h1|h1
      ·rw[if_neg (by omega)] at h1;have:t-k=(t-(k+1))+1:=by omega
       rw[this,al5];exact h1
      ·omega
 have hrel:Rel Γ ⟨cI 0 args,[],()⟩ ⟨bb.toArray++Array.replicate (fn.ntmps-bb.toArray.size) undef,[]⟩ w []:=by
  refine⟨by simp[Γ];omega,fun t=>?_,⟨rfl,fun r o v h=>by simp at h,fun r r' o o' v v' b _ h=>by simp at h⟩,fun r o v b h=>by simp at h,bE.refl _ w,True.intro,⟨fun d hd=>(by cases hd),List.Pairwise.nil⟩,⟨fun _ _ _ _ h=>h,fun _ _ _ _ h=>h,ew,fun _ _ h=>h,fun _ _ h=>h,fun _ _ _ h=>h⟩⟩;have:=qv args bb 0 hv t;simp only[ans,if_false,or_false,ant] at this;have e:(bb.toArray++Array.replicate (fn.ntmps-bb.toArray.size) undef).getD t undef=(bb[t]?).getD undef:=by
   rw[al9]
   by_cases ht:t<bb.length
   ·rw[ani (by simpa using ht)];simp
   ·rw[Array.getElem?_append_right (by simpa using ht),al0 (by omega)];rw[anm]
    split<;>rfl
  show bm w _ _ _ _ ((bb.toArray++Array.replicate (fn.ntmps-bb.toArray.size) undef).getD t undef);rw[e];exact this
 have gR:=h Γ ax rfl rfl rfl ⟨rfl,fun _ h=>h⟩ _ _ _ hrel;refine callsIn_of_wp_marks (F:=Fence.wide) hf hb trivial (wpIn_mono (F:=Fence.wide) gR fun e a' w' ⟨s',aN,hq,eH⟩=>?_);have fin:(∃l,ee tab s' fn.results.toList=some l/\R ((gm l).pK s'.hp))->LeavesInM Fence.wide 0 P fn a'.tmps (fun e w'=>∃v r,e=.returned v/\R r/\bI w w'/\bm w' (Onto F w w') [] [] r v) a'.defers .returning w':=by
  intro ⟨l,hl,hR⟩;have:=Bo (Γ:=Γ) (s:=s') (η:=aN) (fn:=fn) (ts:=a'.tmps) (R:=fun e w'=>∃v r,e=.returned v/\R r/\bI w w'/\bm w' (Onto F w w') [] [] r v) ax (fun _ h=>h) (fun w2 mP=>by
   obtain⟨v,h1,h2⟩:=kX aj mP hl;refine⟨v,h1,v,_,rfl,hR,mP.keeps.same fun b _ hx=>by rcases hx with h|h<;>exact h,?_⟩;refine DK mP.heap mP.bM (fun b o hf=>?_) (fun b o hb ak=>hb.elim (fun hb=>.inr ⟨hb,ak⟩) fun hb=>hb.elim) h2;rcases hf.1 with h3|h3|h3
   ·exact .inl h3
   ·exact .inr ⟨h3,hf.2.1⟩
   ·exact h3.elim) a'.defers w' eH
  exact this
 cases e with
 |normal=>
  simp only[Nq] at hq;split at hq
  ·rename_i l hl;exact fin ⟨l,hl,hq⟩
  ·exact hq.elim
 |ret=>
  simp only[Nq] at hq;split at hq
  ·rename_i l hl;exact fin ⟨l,hl,hq⟩
  ·exact hq.elim
 |_=>exact hq.elim
end Go.Proofs.YtdcikhleahfknaaGreatDoor
