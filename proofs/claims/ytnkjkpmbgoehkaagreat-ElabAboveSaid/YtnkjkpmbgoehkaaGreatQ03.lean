/- Texts of ours laid together for a claim: FilO. -/
import Derived.Test.YtnkjkpmbgoehkaaGreatQ02
namespace Go.Proofs.YtnkjkpmbgoehkaaGreat
open Go
set_option linter.unusedSimpArgs false
set_option linter.unusedVariables false
variable {G:Type} {Γ:Env G} {s s':AS G} {a:Act} {w w':World} {η:List Value} {hp:List ab} {P:Program}
def my (P:Program) (f:FuncId):Prop:=∃fn,P.funcs[f]?=some fn/\(fn.name == "runtime.NumGoroutine")=false/\fn.body.isNone=false
theorem nm {f:FuncId} (h:my P f) (args:Array Value) (w:World):(callFunc f args).run P w=.ok (.enter f args) w:=by
 obtain⟨fn,h1,h2,h3⟩:=h;simp only[callFunc,Sem.run_bind,run_program,Result.andThen_ok,h1,h2,h3,alx,if_false,Sem.run_pure]
def G0 (F:Nat->Nat->Prop) (w w':World) (b o:Nat):Prop:=F b o\/(w.heap.size<=b/\b<w'.heap.size)
def Pure (P:Program) (f:FuncId) (args:List AV) (R:AV->Prop):Prop:=
 my P f/\∀(w:World) (F:Nat->Nat->Prop) (bg:List Value),(∀b o,F b o->b<w.heap.size)->qn w->bS w F [] [] args bg->
  CallsIn Fence.wide 0 P f bg.toArray w (fun e w'=>∃v r,e=.returned v/\R r/\bD w w'/\ba w' (G0 F w w') [] [] r v)
theorem Pure.mono {f:FuncId} {args:List AV} {R R':AV->Prop} (h:Pure P f args R) (hR:∀r,R r->R' r):Pure P f args R':=
 ⟨h.1,fun w F bg hF hg hv=>(h.2 w F bg hF hg hv).mono fun _ _ ⟨v,r,h1,h2,h3,h4⟩=>⟨v,r,h1,hR r h2,h3,h4⟩⟩
abbrev af (P:Program) (f:FuncId) (args:List AV) (r:AV):Prop:=Pure P f args (fun x=>x=r)
theorem wU (al:Γ.Ok) (h:Rel Γ s a w η) (hs:bD w w') {b o:Nat} (hb:G0 (aW Γ w η s.hp) w w' b o):aW Γ w' η s.hp b o:=by
 rcases hb with h1|⟨h1,h2⟩
 ·exact⟨h1.1,alJ h1.2.1 hs.size,h1.2.2⟩
 ·refine⟨.inr (.inl (alT h.keeps.size h1)),h2,fun hx=>by have:=al.no hx;have:=h.keeps.size;omega,(aS b o).2 fun r v hv oL=>?_⟩;have fI:r<s.hp.length:=by rw[<-h.heap.len];exact(ali.1 hv).1
  have ho:s.hp[r]?=some s.hp[r]:=by simp[fI]
  refine⟨s.hp[r],ho,?_⟩
  cases hk:s.hp[r] with
  |dead=>exact True.intro
  |_=>
   rw[hk] at ho;have:=h.heap.block ho True.intro hv oL;omega
theorem ba.bk {F F':Nat->Nat->Prop} {x:AV} {v:Value} (h:ba w F [] [] x v) (hF:∀b o,F b o->F' b o):ba w F' [] [] x v:=
 h.ext ⟨fun _ _ _ _ h=>h,fun _ _ _ _ h=>h,hF,fun _ _ h=>h,fun _ _ h=>h,fun _ _ _ h=>h⟩
theorem lA (h:Rel Γ s a w η):∀(xs:List AV) (vs:List Value),bS w (aW Γ w η s.hp) η s.hp xs vs->bS w (aW Γ w η s.hp) [] [] (xs.map (AV.bl s.hp)) vs
 | [],[],_=>True.intro
 |_::xs,_::vs,hx=>⟨fK h.heap h.bN hx.1,lA h xs vs hx.2⟩
theorem dR {F:Nat->Nat->Prop}:∀(xs:List AV) (vs:List Value) {ys:List AV} {us:List Value},bS w F η hp xs vs->bS w F η hp ys us->bS w F η hp (xs++ys) (vs++us)
 | [],[],_,_,_,h2=>h2
 |_::xs,_::vs,_,_,h1,h2=>⟨h1.1,dR xs vs h1.2 h2⟩
theorem fT {o:Oper} {c:Call} {x:Operand} (ho:o.op=.call c) (hc:c.callee=.value x) {f:FuncId} (hf:my Γ.P f) {caps:Array Value} (hx:a.eval x=.func (.func f) #[] caps):
  (execOp a.eval o).run Γ.P w=.ok (.enter f (c.args.map a.eval++caps)) w:=by
 simp[execOp,ho,resolve,hc,hx,Deferred.ofValue,invoke,nm hf]
theorem bq.pure (al:Γ.Ok) {o:Oper} {c:Call} {x:Operand} (ho:o.op=.call c) (hc:c.callee=.value x) {f:FuncId} {caps:List AV} (hx:s.ev x=.bf f caps) {R:AV->Prop}
  (hP:Pure Γ.P f ((c.args.toList.map s.ev++caps).map (AV.bl s.hp)) R) (hd:cP Γ.nt o.dst) {K:AS G->Prop} (hK:∀r,R r->K (s.put o.dst r)):bq Γ o s K:=by
 intro a w η Kc Qc hk hr;have eo:=hr.ev x;rw[hx] at eo;generalize hv:a.eval x=v at eo
 cases eo with
 |bf _ _ vs hl dG=>
  refine⟨fun _ _=>trivial,?_⟩;have bL:∀c',o.op ≠ .defer c':=by intro c' h;rw[ho] at h;cases h
  rw[Oper.semAt_eq _ _ _ bL,fT ho hc hP.1 hv];have aw:(c.args.map a.eval++vs)=(c.args.toList.map a.eval++vs.toList).toArray:=by apply amy;simp
  have cY:bS w (aW Γ w η s.hp) η s.hp caps vs.toList:=cU (by simpa using hl) fun j y u hy hu=>dG j y u hy (by simpa using hu);have gA:=lA hr _ _ (dR _ _ (gn hr c.args.toList) cY);refine⟨fun h=>(by cases h),?_⟩;rw[aw];have ff:=hP.2 w (aW Γ w η s.hp) _ (fun _ _=>eu) (hr.ju al) gA;refine CallsIn.mono (F:=Γ.eB) ?_ (R:=fun e w'=>∃v r,e=.returned v/\R r/\bD w w'/\ba w' (G0 (aW Γ w η s.hp) w w') [] [] r v) fun e w' ⟨u,r,he,hR,hs,Zb⟩=>?_
  ·exact ff
  ·subst he;exact hk _ _ _ _ (hK r hR) ((hr.same al hs).put (bT hd) ((Zb.bk fun b o h=>wU al hr hs h).lift))
def dC:Nat->List AV->Nat->AV
 |_,[]=>fun _=>.top
 |k,x::l=>zb (dC (k+1) l) k x
def Bg (tab:Nat->Option TD) (s:AS G):ResultVar->Option AV
 | .tmp t=>some (s.tmps t)
 | .cell t T=>(match tab T,s.tmps t with
  |some d,.ptr r o=>(match s.hp[r]? with
   |some (.box cs)=>fx d.kind.agg d.size cs o
   |_=>none)
  |_,_=>none)
def ft (tab:Nat->Option TD) (s:AS G):List ResultVar->Option (List AV)
 | []=>some []
 |x::l=>(match Bg tab s x,ft tab s l with
  |some v,some vs=>some (v::vs)
  |_,_=>none)
def gS:List AV->AV
 | [x]=>x
 |l=>.av l
def Di:List AV->AV
 | [x]=>x
 |l=>.agg l
def AV.I4 (hp:List ab):AV->AV
 | .ptr r 0=>(match hp[r]? with
  |some (.box cs)=>.aJ (Di (cs.map (AV.dQ hp))) 0
  |_=>.top)
 |x=>x.fe hp
def AV.pW (hp:List ab):AV->AV
 | .bf f cs=>.bf f (cs.map (AV.I4 hp))
 |x=>x.bl hp
theorem Dj (hp:List ab) (x:AV):(x.dQ hp).cells=[x.dQ hp]:=by
 cases x with
 |own r n=>simp only[AV.dQ];split<;>rfl
 |ae v=>simp only[AV.dQ];split<;>rfl
 |bf f caps=>simp only[AV.dQ];split<;>rfl
 |_=>rfl
theorem nn (hp:List ab) (cs:List AV):(Di (cs.map (AV.dQ hp))).cells=cs.map (AV.dQ hp):=by
 match cs with
 | []=>rfl
 | [x]=>exact Dj hp x
 |x::y::l=>rfl
theorem Dk (h:dJ w (aW Γ w η hp) η hp) (hm:vu Γ η hp) {F2:Nat->Nat->Prop} (hF:∀b o,aW Γ w η hp b o->F2 b o) (hN:∀b o,(Γ.w0.heap.size<=b\/Γ.Y b)->b<w.heap.size->F2 b o) {x:AV} {v:Value} (hx:ba w (aW Γ w η hp) η hp x v):
  ba w F2 [] [] (x.pW hp) v:=by
 cases x with
 |bf f cs=>
  cases hx with
  |bf _ _ vs hl hr=>
   refine .bf f _ vs (by simpa using hl) fun j y u hy hu=>?_;rw[alu] at hy
   cases hj:cs[j]? with
   |none=>rw[hj] at hy;cases hy
   |some z=>
    rw[hj] at hy;obtain rfl:=alj hy;have hz:=hr j z u hj hu;unfold AV.I4;split
    ·rename_i r;split
     ·rename_i eQ hb
      cases hz with
      |ptr _ _ b eP=>
       obtain⟨b',ws,T,hbe,hg,bO,hc⟩:=h.obj r _ _ hb eP;simp only[Value.pointer.injEq,alh,Addr.mk.injEq,and_true] at hbe;subst hbe;have hmi:=(hm r _ _ b hb True.intro eP rfl).1;have dA:∀(j:Nat) (x:AV),(eQ.map (AV.dQ hp))[j]?=some x->∃y u,eQ[j]?=some y/\x=y.dQ hp/\ws[j]?=some u:=by
        intro j x hx;rw[alu] at hx
        cases hj:eQ[j]? with
        |none=>rw[hj] at hx;cases hx
        |some y=>
         rw[hj] at hx;obtain rfl:=alj hx;have:j<ws.size:=by rw[bO];exact(ali.1 hj).1
         exact⟨y,ws[j],rfl,rfl,by simp[this]⟩
       refine .aJ _ 0 b 0 (fun j=>(ws[j]?).getD undef) (fun j x hx=>?_) fun j x hx=>?_
       ·rw[nn] at hx;obtain⟨y,u,h1,h2,h3⟩:=dA j x hx;refine⟨?_,hN b _ hmi (bF hg),?_⟩
        ·simp[World.cell?,hg,h3]
        ·simp only[h3,al1];exact(hc j y u h1 h3).2
       ·rw[nn] at hx;obtain⟨y,u,h1,h2,h3⟩:=dA j x hx;subst h2;simp only[h3,al1];exact(kj h hm (hc j y u h1 h3).1).ext ⟨fun _ _ _ _ h=>h,fun _ _ _ _ h=>h,hF,fun _ _ h=>h,fun _ _ h=>h,fun _ _ _ h=>h⟩
     ·exact .top _
    ·exact(mj h hm hz).ext ⟨fun _ _ _ _ h=>h,fun _ _ _ _ h=>h,hF,fun _ _ h=>h,fun _ _ h=>h,fun _ _ _ h=>h⟩
 |_=>exact(fK h hm hx).ext ⟨fun _ _ _ _ h=>h,fun _ _ _ _ h=>h,hF,fun _ _ h=>h,fun _ _ h=>h,fun _ _ _ h=>h⟩
def Ni (tab:Nat->Option TD) (rs:List ResultVar) (R:AV->AS G->Prop):Exit->AS G->Prop
 | .normal,s | .ret,s=>(match ft tab s rs with
  |some l=>R ((gS l).pW s.hp) s
  |none=>False)
 |_,_=>False
theorem G1 {tab:Nat->Option TD} (ah:aL Γ.P tab) (hr:Rel Γ s a w η) {x:ResultVar} {r:AV} (h:Bg tab s x=some r):
  ∃v,(match x with | .tmp t=>Pure.pure (a.tmps.getD t undef) | .cell p t=>do loadVar t (<-asAddr (a.tmps.getD p undef)):Sem Value).run Γ.P w=.ok v w/\ba w (aW Γ w η s.hp) η s.hp r v:=by
 cases x with
 |tmp t=>
  simp only[Bg,alh] at h;subst h;exact⟨_,rfl,hr.tmps t⟩
 |cell p T=>
  simp only[Bg] at h;split at h
  ·rename_i d r' off hd hp;split at h
   ·rename_i cs gO;have qq:=hr.tmps p;rw[hp] at qq;generalize hv:a.tmps.getD p undef=v at qq
    cases qq with
    |ptr _ _ b eP=>
     obtain⟨b',vs,T',hb,hg,bO,hc⟩:=hr.heap.obj r' _ _ gO eP;simp only[Value.pointer.injEq,alh,Addr.mk.injEq,and_true] at hb;subst hb;obtain⟨h1,h2⟩:=eM (w:=w) (F:=aW Γ w η s.hp) (η:=η) (hp:=s.hp) (ah.sz hd) (vs:=vs.toList) (by simpa using bO) (fun j x u hx hu=>hc j x u hx (by simpa using hu)) h;refine⟨_,?_,h2⟩;simp only[Sem.run_bind];rw[hv];simp only[asAddr,Sem.run_pure,Result.andThen_ok];exact kG (ah T d hd) (tL hg) h1
   ·cases h
  ·cases h
theorem G2 {tab:Nat->Option TD} (ah:aL Γ.P tab) (hr:Rel Γ s a w η):∀(l:List ResultVar) (rs:List AV),ft tab s l=some rs->
  ∃vs,(l.mapM fun x=>(match x with | .tmp t=>Pure.pure (a.tmps.getD t undef) | .cell p t=>do loadVar t (<-asAddr (a.tmps.getD p undef)):Sem Value)).run Γ.P w=.ok vs w/\bS w (aW Γ w η s.hp) η s.hp rs vs:=by
 intro l
 induction l with
 |nil=>
  intro rs h;simp only[ft,alh] at h;subst h;exact⟨[],rfl,True.intro⟩
 |cons x l ih=>
  intro rs h;simp only[ft] at h;split at h
  ·rename_i v vs h1 h2;obtain rfl:=alj h;obtain⟨u,e1,e2⟩:=G1 ah hr h1;obtain⟨us,e3,e4⟩:=ih vs h2;refine⟨u::us,?_,e2,e4⟩;rw[List.mapM_cons];simp only[Sem.run_bind];rw[e1];simp only[Result.andThen_ok];rw[e3];rfl
  ·cases h
theorem oO {tab:Nat->Option TD} (ah:aL Γ.P tab) (hr:Rel Γ s a w η) {fn:Func} {rs:List AV} (h:ft tab s fn.results.toList=some rs):
  ∃v,(results fn a.tmps).run Γ.P w=.ok v w/\ba w (aW Γ w η s.hp) η s.hp (gS rs) v:=by
 obtain⟨vs,h1,h2⟩:=G2 ah hr _ _ h;have hm:(fn.results.mapM fun x=>(match x with | .tmp t=>Pure.pure (a.tmps.getD t undef) | .cell p t=>do loadVar t (<-asAddr (a.tmps.getD p undef)):Sem Value)).run Γ.P w=.ok vs.toArray w:=by
  rw[Array.mapM_eq_mapM_toList,Sem.run_map,h1];rfl
 refine⟨if h:vs.toArray.size=1 then vs.toArray[0] else .tuple vs.toArray,?_,?_⟩
 ·simp only[results,Sem.run_bind];exact(congrArg (fun r=>Result.andThen r fun vs w=>(Pure.pure (if h:vs.size=1 then vs[0] else .tuple vs):Sem Value).run Γ.P w) hm)
 ·have hl:=h2.length
  match rs,vs,h2,hl with
  | [],[],_,_=>exact .av [] #[] rfl fun j x v hx=>by simp at hx
  | [r],[v],h2,_=>exact h2.1
  |r1::r2::rs,v1::v2::vs,h2,hl=>
   rw[dif_neg (by simp)];exact .av _ _ (by simpa using hl) fun j x v hx hv=>h2.get j x v hx (by simpa using hv)
theorem Rel.shut {ts:Array Value} {d:Deferred} {ds:List Deferred} {r:Nat} (al:Γ.Ok) (h:Rel Γ s ⟨ts,d::ds⟩ w η) (hd:d.target=.collected r) (hr:w.heap[r]?=some (.deferred (some []))) (hN:Γ.w0.heap.size<=r):
  Rel Γ s ⟨ts,ds⟩ (w.putObj r (.deferred none)) η:=by
 have aq:=bF hr;have hs:∀k,k≠r->(w.putObj r (.deferred none)).heap[k]?=w.heap[k]?:=fun k hk=>World.putObj_heap_other hk;have aA:∀b o v,w.cell? ⟨b,o,none⟩=some v->(w.putObj r (.deferred none)).cell? ⟨b,o,none⟩=some v:=by
  intro b o v hc
  by_cases hb:b=r
  ·subst hb;simp[World.cell?,hr] at hc
  ·rw[World.cell?_of_block (hs b hb)];exact hc
 have he:Ext w (aW Γ w η s.hp) η s.hp (w.putObj r (.deferred none)) (aW Γ (w.putObj r (.deferred none)) η s.hp) η s.hp:=
  ⟨fun b o v _ hc=>aA b o v hc,fun b es c _ hc=>by
   by_cases hb:b=r
   ·subst hb;rw[hr] at hc;cases hc
   ·rw[hs b hb];exact hc,fun b o hf=>⟨hf.1,by simpa using hf.2.1,hf.2.2⟩,fun _ _ h=>h,fun _ _ h=>h,fun _ _ _ h=>h⟩
 have ln:∀(q:Nat) (o:ab) (v:Value) (b:Nat),s.hp[q]?=some o->o.live->η[q]?=some v->cZ v=some b->b≠r:=by
  intro q o v b h1 h2 h3 h4 hb;subst hb;have ei:=h.heap.obj q o v h1 h3
  cases o with
  |dead=>exact h2.elim
  |box cs=>obtain⟨b',vs,T,rfl,g1,_⟩:=ei;simp only[cZ,alh] at h4;subst h4;rw[hr] at g1;cases g1
  |row e size els=>obtain⟨_,xs,g1,_⟩:=ei;obtain⟨cur,g2⟩:=g1.lt h4;rw[hr] at g2;cases g2
  |bW es=>obtain⟨b',en,c,rfl,g1,_⟩:=ei;simp only[cZ,alh] at h4;subst h4;rw[hr] at g1;cases g1
  |iz q k=>obtain⟨b',vs,rfl,g1,_⟩:=ei;simp only[cZ,alh] at h4;subst h4;rw[hr] at g1;cases g1
  |aQ e size els=>obtain⟨_,xs,g1,_⟩:=ei;obtain⟨cur,g2⟩:=g1.lt h4;rw[hr] at g2;cases g2
  |eI e m ns=>obtain⟨cur,g2⟩:=fH.lt ei h4;rw[hr] at g2;cases g2
 refine⟨h.nt,fun t=>(h.tmps t).ext he,⟨h.heap.len,fun q o v h1 h2=>?_,h.heap.sep⟩,h.bN,?_,?_,?_,h.ext.trans he⟩
 ·by_cases hl:o.live
  ·exact(h.heap.obj q o v h1 h2).ext he (by simp) fun b hb _=>hs b (ln q o v b h1 hl h2 hb)
  ·cases o<;>first|exact True.intro|exact(hl True.intro).elim
 ·refine⟨h.keeps.os,h.keeps.tape,h.keeps.output,by simpa using h.keeps.size,fun k hk hx=>?_⟩;rw[hs k (by omega)];exact h.keeps.block k hk hx
 ·exact al.oC _ _ _ (fun b hb=>hs b (by have:=al.x b hb;omega)) (by simp) h.inv
 ·refine⟨fun d' dy=>?_,(List.pairwise_cons.1 h.marks.apart).2⟩;obtain⟨r',g1,g2,g3⟩:=h.marks.all d' (alK _ dy);refine⟨r',g1,?_,g3⟩;have bL:r'≠r:=by
   intro e;subst e;exact(List.pairwise_cons.1 h.marks.apart).1 d' dy (by rw[hd,g1])
  rw[hs r' bL];exact g2
theorem I5 (al:Γ.Ok) (qt:∀r,Γ.m0 r->Γ.w0.heap.size<=r) {fn:Func} {ts:Array Value} {R:Ending->World->Prop} (M1:∀w,Rel Γ s ⟨ts,[]⟩ w η->∃v,(results fn ts).run Γ.P w=.ok v w/\R (.returned v) w):∀(ds:List Deferred) (w:World),Rel Γ s ⟨ts,ds⟩ w η->
  LeavesInM Γ.eB 0 Γ.P fn ts R ds .returning w:=by
 intro ds
 induction ds with
 |nil=>intro w hr;exact M1 w hr
 |cons d ds ih=>
  intro w hr;obtain⟨r,h1,h2,h3⟩:=hr.marks.all d alD;exact⟨by simp,.inl ⟨r,_,h1,run_takeDeferred h2,ih _ (hr.shut al h1 h2 (qt _ h3))⟩⟩
theorem Bh {tab:Nat->Option TD} (ah:aL P tab) {f:FuncId} {fn:Func} {c:Code} {args:List AV} {R:AV->Prop} (hf:P.funcs[f]?=some fn) (hb:fn.body=some c) (iD:(fn.name == "runtime.NumGoroutine")=false) (hn:args.length<=fn.ntmps)
  (h:∀Γ:Env Unit,Γ.Ok->Γ.P=P->fn.ntmps=Γ.nt->Γ.lx.length=0->Γ.GF->ej Γ c (Ni tab fn.results.toList (fun r _=>R r)) ⟨dC 0 args,[],()⟩):Pure P f args R:=by
 refine⟨⟨fn,hf,iD,by rw[hb];rfl⟩,fun w F bg hF hg hv=>?_⟩
 let Γ:Env Unit:={ P:=P,w0:=w,F0:=F,X:=fun _=>False,Y:=fun _=>False,Inv:=fun _ _=>True,nt:=fn.ntmps,A1:=none,m0:=fun r=>w.heap.size<=r,Z:=fun _ _=>False,zg:=[],lx:=[] }
 have al:Γ.Ok:=⟨rfl,fun _ h=>h.elim,fun _ h=>h.elim,fun _ _ _ _ _ h=>h,fun _ _ h=>h.elim,hg,fun _ _ h=>h.elim (fun h=>h) fun h=>h⟩;have Te:=hv.length;have jc:∀b o,F b o->aW Γ w [] [] b o:=fun b o hb=>⟨.inl hb,hF b o hb,fun h=>h.elim (fun h=>h) fun h=>h,fun r v hr=>by simp at hr⟩;have CV:∀(l:List AV) (us:List Value) (k:Nat),bS w F [] [] l us->∀t,ba w (aW Γ w [] []) [] [] (dC k l t) (if t<k then undef else(us[t-k]?).getD undef)\/t<k:=by
  intro l
  induction l with
  |nil=>intro us k _ t;exact .inl (.top _)
  |cons x l ih=>
   intro us k hl t
   cases us with
   |nil=>exact hl.elim
   |cons u us=>
    by_cases YJ:t<k
    ·exact .inr YJ
    ·refine .inl ?_;rw[if_neg YJ];simp only[dC,fX]
     by_cases Zc:t=k
     ·subst Zc;rw[if_pos rfl,amO];exact hl.1.bk jc
     ·rw[if_neg Zc];rcases ih us (k+1) hl.2 t with h1|h1
      ·rw[if_neg (by omega)] at h1;have:t-k=(t-(k+1))+1:=by omega
       rw[this,alP];exact h1
      ·omega
 have hrel:Rel Γ ⟨dC 0 args,[],()⟩ ⟨bg.toArray++Array.replicate (fn.ntmps-bg.toArray.size) undef,[]⟩ w []:=by
  refine⟨by simp[Γ];omega,fun t=>?_,⟨rfl,fun r o v h=>by simp at h,fun r r' o o' v v' b _ h=>by simp at h⟩,fun r o v b h=>by simp at h,bZ.refl _ w,True.intro,⟨fun d hd=>(by cases hd),List.Pairwise.nil⟩,⟨fun _ _ _ _ h=>h,fun _ _ _ _ h=>h,jc,fun _ _ h=>h,fun _ _ h=>h,fun _ _ _ h=>h⟩⟩;have:=CV args bg 0 hv t;simp only[Nat.not_lt_zero,if_false,or_false,Nat.sub_zero] at this;have e:(bg.toArray++Array.replicate (fn.ntmps-bg.toArray.size) undef).getD t undef=(bg[t]?).getD undef:=by
   rw[alR]
   by_cases ht:t<bg.length
   ·rw[Array.getElem?_append_left (by simpa using ht)];simp
   ·rw[Array.getElem?_append_right (by simpa using ht),alU (by omega)];rw[Array.getElem?_replicate]
    split<;>rfl
  show ba w _ _ _ _ ((bg.toArray++Array.replicate (fn.ntmps-bg.toArray.size) undef).getD t undef);rw[e];exact this
 have jD:=h Γ al rfl rfl rfl ⟨rfl,fun _ h=>h⟩ _ _ _ hrel;refine callsIn_of_wp_marks (F:=Fence.wide) hf hb trivial (wpIn_mono (F:=Fence.wide) jD fun e a' w' ⟨s',aO,hq,fI⟩=>?_);have fin:(∃l,ft tab s' fn.results.toList=some l/\R ((gS l).pW s'.hp))->LeavesInM Fence.wide 0 P fn a'.tmps (fun e w'=>∃v r,e=.returned v/\R r/\bD w w'/\ba w' (G0 F w w') [] [] r v) a'.defers .returning w':=by
  intro ⟨l,hl,hR⟩;have:=I5 (Γ:=Γ) (s:=s') (η:=aO) (fn:=fn) (ts:=a'.tmps) (R:=fun e w'=>∃v r,e=.returned v/\R r/\bD w w'/\ba w' (G0 F w w') [] [] r v) al (fun _ h=>h) (fun w2 pX=>by
   obtain⟨v,h1,h2⟩:=oO ah pX hl;refine⟨v,h1,v,_,rfl,hR,pX.keeps.same fun b _ hx=>by rcases hx with h|h<;>exact h,?_⟩;refine Dk pX.heap pX.bN (fun b o hf=>?_) (fun b o hb aq=>hb.elim (fun hb=>.inr ⟨hb,aq⟩) fun hb=>hb.elim) h2;rcases hf.1 with h3|h3|h3
   ·exact .inl h3
   ·exact .inr ⟨h3,hf.2.1⟩
   ·exact h3.elim) a'.defers w' fI
  exact this
 cases e with
 |normal=>
  simp only[Ni] at hq;split at hq
  ·rename_i l hl;exact fin ⟨l,hl,hq⟩
  ·exact hq.elim
 |ret=>
  simp only[Ni] at hq;split at hq
  ·rename_i l hl;exact fin ⟨l,hl,hq⟩
  ·exact hq.elim
 |_=>exact hq.elim
end Go.Proofs.YtnkjkpmbgoehkaaGreat
