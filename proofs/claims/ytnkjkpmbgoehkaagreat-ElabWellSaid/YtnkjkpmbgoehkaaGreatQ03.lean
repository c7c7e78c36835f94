/- Lemmas. -/
import Derived.Test.YtnkjkpmbgoehkaaGreatQ02
namespace Go.Proofs.YtnkjkpmbgoehkaaGreat
open Go
open _root_.True renaming intro->ai
open Go.Result renaming andThen_ok->al
open Go.Sem renaming run_bind->ao,run_pure->aq
set_option linter.unusedSimpArgs false
set_option linter.unusedVariables false
variable {G:Type} {Γ:Env G} {s s':AS G} {a:Act} {w w':World} {η:List Value} {hp:List aw} {P:Program}
def nU (P:Program) (f:FuncId):Prop:=∃fn,P.funcs[f]?=some fn/\(fn.name == "runtime.NumGoroutine")=false/\fn.body.isNone=false
theorem oZ {f:FuncId} (h:nU P f) (args:Array Value) (w:World):(callFunc f args).run P w=.ok (.enter f args) w:=by
 obtain⟨fn,h1,h2,h3⟩:=h;simp only[callFunc,ao,run_program,al,h1,h2,h3,aqH,if_false,aq]
def JX (F:Nat->Nat->Prop) (w w':World) (b o:Nat):Prop:=F b o\/(w.heap.size<=b/\b<w'.heap.size)
def Pure (P:Program) (f:FuncId) (args:List AV) (R:AV->Prop):Prop:=
 nU P f/\∀(w:World) (F:Nat->Nat->Prop) (bE:List Value),(∀b o,F b o->b<w.heap.size)->sn w->cu w F [] [] args bE->
  CallsIn Fence.wide 0 P f bE.toArray w (fun e w'=>∃v r,e=.returned v/\R r/\bV w w'/\bB w' (JX F w w') [] [] r v)
theorem Pure.mono {f:FuncId} {args:List AV} {R R':AV->Prop} (h:Pure P f args R) (hR:∀r,R r->R' r):Pure P f args R':=
 ⟨h.1,fun w F bE hF hg hv=>(h.2 w F bE hF hg hv).mono fun _ _ ⟨v,r,h1,h2,h3,h4⟩=>⟨v,r,h1,hR r h2,h3,h4⟩⟩
abbrev ay (P:Program) (f:FuncId) (args:List AV) (r:AV):Prop:=Pure P f args (fun x=>x=r)
theorem zd (aE:Γ.Ok) (h:Rel Γ s a w η) (hs:bV w w') {b o:Nat} (hb:JX (bt Γ w η s.hp) w w' b o):bt Γ w' η s.hp b o:=by
 rcases hb with h1|⟨h1,h2⟩
 ·exact⟨h1.1,aqX h1.2.1 hs.size,h1.2.2⟩
 ·refine⟨.inr (.inl (aqU h.keeps.size h1)),h2,fun hx=>by have:=aE.no hx;have:=h.keeps.size;omega,(bm b o).2 fun r v hv qD=>?_⟩;have gy:r<s.hp.length:=by rw[<-h.heap.len];exact(aqr.1 hv).1
  have ho:s.hp[r]?=some s.hp[r]:=by simp[gy]
  refine⟨s.hp[r],ho,?_⟩
  cases hk:s.hp[r] with
  |dead=>exact ai
  |_=>
   rw[hk] at ho;have:=h.heap.block ho ai hv qD;omega
theorem bB.bI {F F':Nat->Nat->Prop} {x:AV} {v:Value} (h:bB w F [] [] x v) (hF:∀b o,F b o->F' b o):bB w F' [] [] x v:=
 h.ext ⟨fun _ _ _ _ h=>h,fun _ _ _ _ h=>h,hF,fun _ _ h=>h,fun _ _ h=>h,fun _ _ _ h=>h⟩
theorem mX (h:Rel Γ s a w η):∀(xs:List AV) (vs:List Value),cu w (bt Γ w η s.hp) η s.hp xs vs->cu w (bt Γ w η s.hp) [] [] (xs.map (AV.bK s.hp)) vs
 | [],[],_=>ai
 |_::xs,_::vs,hx=>⟨gA h.heap h.cq hx.1,mX h xs vs hx.2⟩
theorem eH {F:Nat->Nat->Prop}:∀(xs:List AV) (vs:List Value) {ys:List AV} {us:List Value},cu w F η hp xs vs->cu w F η hp ys us->cu w F η hp (xs++ys) (vs++us)
 | [],[],_,_,_,h2=>h2
 |_::xs,_::vs,_,_,h1,h2=>⟨h1.1,eH xs vs h1.2 h2⟩
theorem gM {o:Oper} {c:Call} {x:Operand} (ho:o.op=.call c) (hc:c.callee=.value x) {f:FuncId} (hf:nU Γ.P f) {caps:Array Value} (hx:a.eval x=.func (.func f) #[] caps):
  (execOp a.eval o).run Γ.P w=.ok (.enter f (c.args.map a.eval++caps)) w:=by
 simp[execOp,ho,resolve,hc,hx,Deferred.ofValue,invoke,oZ hf]
theorem bO.pure (aE:Γ.Ok) {o:Oper} {c:Call} {x:Operand} (ho:o.op=.call c) (hc:c.callee=.value x) {f:FuncId} {caps:List AV} (hx:s.ev x=.bz f caps) {R:AV->Prop}
  (hP:Pure Γ.P f ((c.args.toList.map s.ev++caps).map (AV.bK s.hp)) R) (hd:dC Γ.nt o.dst) {K:AS G->Prop} (hK:∀r,R r->K (s.put o.dst r)):bO Γ o s K:=by
 intro a w η Kc Qc hk hr;have eP:=hr.ev x;rw[hx] at eP;generalize hv:a.eval x=v at eP
 cases eP with
 |bz _ _ vs hl eR=>
  refine⟨fun _ _=>trivial,?_⟩;have cg:∀c',o.op ≠ .defer c':=by intro c' h;rw[ho] at h;cases h
  rw[Oper.semAt_eq _ _ _ cg,gM ho hc hP.1 hv];have aN:(c.args.map a.eval++vs)=(c.args.toList.map a.eval++vs.toList).toArray:=by apply arL;simp
  have dK:cu w (bt Γ w η s.hp) η s.hp caps vs.toList:=dL (by simpa using hl) fun j y u hy hu=>eR j y u hy (by simpa using hu);have iH:=mX hr _ _ (eH _ _ (iA hr c.args.toList) dK);refine⟨fun h=>(by cases h),?_⟩;rw[aN];have fP:=hP.2 w (bt Γ w η s.hp) _ (fun _ _=>fh) (hr.kN aE) iH;refine CallsIn.mono (F:=Γ.fj) ?_ (R:=fun e w'=>∃v r,e=.returned v/\R r/\bV w w'/\bB w' (JX (bt Γ w η s.hp) w w') [] [] r v) fun e w' ⟨u,r,he,hR,hs,hru⟩=>?_
  ·exact fP
  ·subst he;exact hk _ _ _ _ (hK r hR) ((hr.same aE hs).put (cy hd) ((hru.bI fun b o h=>zd aE hr hs h).lift))
def ei:Nat->List AV->Nat->AV
 |_,[]=>fun _=>.top
 |k,x::l=>Bz (ei (k+1) l) k x
def DM (tab:Nat->Option TD) (s:AS G):ResultVar->Option AV
 | .tmp t=>some (s.tmps t)
 | .cell t T=>(match tab T,s.tmps t with
  |some d,.ptr r o=>(match s.hp[r]? with
   |some (.box cs)=>gb d.kind.agg d.size cs o
   |_=>none)
  |_,_=>none)
def fW (tab:Nat->Option TD) (s:AS G):List ResultVar->Option (List AV)
 | []=>some []
 |x::l=>(match DM tab s x,fW tab s l with
  |some v,some vs=>some (v::vs)
  |_,_=>none)
def iZ:List AV->AV
 | [x]=>x
 |l=>.aK l
def FV:List AV->AV
 | [x]=>x
 |l=>.agg l
def AV.L0 (hp:List aw):AV->AV
 | .ptr r 0=>(match hp[r]? with
  |some (.box cs)=>.aW (FV (cs.map (AV.eG hp))) 0
  |_=>.top)
 |x=>x.fO hp
def AV.rU (hp:List aw):AV->AV
 | .bz f cs=>.bz f (cs.map (AV.L0 hp))
 |x=>x.bK hp
theorem FW (hp:List aw) (x:AV):(x.eG hp).cells=[x.eG hp]:=by
 cases x with
 |own r n=>simp only[AV.eG];split<;>rfl
 |ax v=>simp only[AV.eG];split<;>rfl
 |bz f caps=>simp only[AV.eG];split<;>rfl
 |_=>rfl
theorem pa (hp:List aw) (cs:List AV):(FV (cs.map (AV.eG hp))).cells=cs.map (AV.eG hp):=by
 match cs with
 | []=>rfl
 | [x]=>exact FW hp x
 |x::y::l=>rfl
theorem FX (h:eu w (bt Γ w η hp) η hp) (hm:xL Γ η hp) {F2:Nat->Nat->Prop} (hF:∀b o,bt Γ w η hp b o->F2 b o) (hN:∀b o,(Γ.w0.heap.size<=b\/Γ.Y b)->b<w.heap.size->F2 b o) {x:AV} {v:Value} (hx:bB w (bt Γ w η hp) η hp x v):
  bB w F2 [] [] (x.rU hp) v:=by
 cases x with
 |bz f cs=>
  cases hx with
  |bz _ _ vs hl hr=>
   refine .bz f _ vs (by simpa using hl) fun j y u hy hu=>?_;rw[aqE] at hy
   cases hj:cs[j]? with
   |none=>rw[hj] at hy;cases hy
   |some z=>
    rw[hj] at hy;obtain rfl:=aqs hy;have hz:=hr j z u hj hu;unfold AV.L0;split
    ·rename_i r;split
     ·rename_i gi hb
      cases hz with
      |ptr _ _ b fF=>
       obtain⟨b',ws,T,hbe,hg,cx,hc⟩:=h.obj r _ _ hb fF;simp only[Value.pointer.injEq,aqq,Addr.mk.injEq,and_true] at hbe;subst hbe;have hmi:=(hm r _ _ b hb ai fF rfl).1;have eg:∀(j:Nat) (x:AV),(gi.map (AV.eG hp))[j]?=some x->∃y u,gi[j]?=some y/\x=y.eG hp/\ws[j]?=some u:=by
        intro j x hx;rw[aqE] at hx
        cases hj:gi[j]? with
        |none=>rw[hj] at hx;cases hx
        |some y=>
         rw[hj] at hx;obtain rfl:=aqs hx;have:j<ws.size:=by rw[cx];exact(aqr.1 hj).1
         exact⟨y,ws[j],rfl,rfl,by simp[this]⟩
       refine .aW _ 0 b 0 (fun j=>(ws[j]?).getD undef) (fun j x hx=>?_) fun j x hx=>?_
       ·rw[pa] at hx;obtain⟨y,u,h1,h2,h3⟩:=eg j x hx;refine⟨?_,hN b _ hmi (bX hg),?_⟩
        ·simp[World.cell?,hg,h3]
        ·simp only[h3,aq9];exact(hc j y u h1 h3).2
       ·rw[pa] at hx;obtain⟨y,u,h1,h2,h3⟩:=eg j x hx;subst h2;simp only[h3,aq9];exact(lG h hm (hc j y u h1 h3).1).ext ⟨fun _ _ _ _ h=>h,fun _ _ _ _ h=>h,hF,fun _ _ h=>h,fun _ _ h=>h,fun _ _ _ h=>h⟩
     ·exact .top _
    ·exact(nN h hm hz).ext ⟨fun _ _ _ _ h=>h,fun _ _ _ _ h=>h,hF,fun _ _ h=>h,fun _ _ h=>h,fun _ _ _ h=>h⟩
 |_=>exact(gA h hm hx).ext ⟨fun _ _ _ _ h=>h,fun _ _ _ _ h=>h,hF,fun _ _ h=>h,fun _ _ h=>h,fun _ _ _ h=>h⟩
def Q7 (tab:Nat->Option TD) (rs:List ResultVar) (R:AV->AS G->Prop):Exit->AS G->Prop
 | .normal,s | .ret,s=>(match fW tab s rs with
  |some l=>R ((iZ l).rU s.hp) s
  |none=>False)
 |_,_=>False
theorem JY {tab:Nat->Option TD} (aA:bc Γ.P tab) (hr:Rel Γ s a w η) {x:ResultVar} {r:AV} (h:DM tab s x=some r):
  ∃v,(match x with | .tmp t=>Pure.pure (a.tmps.getD t undef) | .cell p t=>do loadVar t (<-asAddr (a.tmps.getD p undef)):Sem Value).run Γ.P w=.ok v w/\bB w (bt Γ w η s.hp) η s.hp r v:=by
 cases x with
 |tmp t=>
  simp only[DM,aqq] at h;subst h;exact⟨_,rfl,hr.tmps t⟩
 |cell p T=>
  simp only[DM] at h;split at h
  ·rename_i d r' off hd hp;split at h
   ·rename_i cs iV;have su:=hr.tmps p;rw[hp] at su;generalize hv:a.tmps.getD p undef=v at su
    cases su with
    |ptr _ _ b fF=>
     obtain⟨b',vs,T',hb,hg,cx,hc⟩:=hr.heap.obj r' _ _ iV fF;simp only[Value.pointer.injEq,aqq,Addr.mk.injEq,and_true] at hb;subst hb;obtain⟨h1,h2⟩:=fC (w:=w) (F:=bt Γ w η s.hp) (η:=η) (hp:=s.hp) (aA.sz hd) (vs:=vs.toList) (by simpa using cx) (fun j x u hx hu=>hc j x u hx (by simpa using hu)) h;refine⟨_,?_,h2⟩;simp only[ao];rw[hv];simp only[asAddr,aq,al];exact lY (aA T d hd) (vM hg) h1
   ·cases h
  ·cases h
theorem JZ {tab:Nat->Option TD} (aA:bc Γ.P tab) (hr:Rel Γ s a w η):∀(l:List ResultVar) (rs:List AV),fW tab s l=some rs->
  ∃vs,(l.mapM fun x=>(match x with | .tmp t=>Pure.pure (a.tmps.getD t undef) | .cell p t=>do loadVar t (<-asAddr (a.tmps.getD p undef)):Sem Value)).run Γ.P w=.ok vs w/\cu w (bt Γ w η s.hp) η s.hp rs vs:=by
 intro l
 induction l with
 |nil=>
  intro rs h;simp only[fW,aqq] at h;subst h;exact⟨[],rfl,ai⟩
 |cons x l ih=>
  intro rs h;simp only[fW] at h;split at h
  ·rename_i v vs h1 h2;obtain rfl:=aqs h;obtain⟨u,e1,e2⟩:=JY aA hr h1;obtain⟨us,e3,e4⟩:=ih vs h2;refine⟨u::us,?_,e2,e4⟩;rw[List.mapM_cons];simp only[ao];rw[e1];simp only[al];rw[e3];rfl
  ·cases h
theorem qG {tab:Nat->Option TD} (aA:bc Γ.P tab) (hr:Rel Γ s a w η) {fn:Func} {rs:List AV} (h:fW tab s fn.results.toList=some rs):
  ∃v,(results fn a.tmps).run Γ.P w=.ok v w/\bB w (bt Γ w η s.hp) η s.hp (iZ rs) v:=by
 obtain⟨vs,h1,h2⟩:=JZ aA hr _ _ h;have hm:(fn.results.mapM fun x=>(match x with | .tmp t=>Pure.pure (a.tmps.getD t undef) | .cell p t=>do loadVar t (<-asAddr (a.tmps.getD p undef)):Sem Value)).run Γ.P w=.ok vs.toArray w:=by
  rw[Array.mapM_eq_mapM_toList,Sem.run_map,h1];rfl
 refine⟨if h:vs.toArray.size=1 then vs.toArray[0] else .tuple vs.toArray,?_,?_⟩
 ·simp only[results,ao];exact(congrArg (fun r=>Result.andThen r fun vs w=>(Pure.pure (if h:vs.size=1 then vs[0] else .tuple vs):Sem Value).run Γ.P w) hm)
 ·have hl:=h2.length
  match rs,vs,h2,hl with
  | [],[],_,_=>exact .aK [] #[] rfl fun j x v hx=>by simp at hx
  | [r],[v],h2,_=>exact h2.1
  |r1::r2::rs,v1::v2::vs,h2,hl=>
   rw[dif_neg (by simp)];exact .aK _ _ (by simpa using hl) fun j x v hx hv=>h2.get j x v hx (by simpa using hv)
theorem Rel.shut {ts:Array Value} {d:Deferred} {ds:List Deferred} {r:Nat} (aE:Γ.Ok) (h:Rel Γ s ⟨ts,d::ds⟩ w η) (hd:d.target=.collected r) (hr:w.heap[r]?=some (.deferred (some []))) (hN:Γ.w0.heap.size<=r):
  Rel Γ s ⟨ts,ds⟩ (w.putObj r (.deferred none)) η:=by
 have aH:=bX hr;have hs:∀k,k≠r->(w.putObj r (.deferred none)).heap[k]?=w.heap[k]?:=fun k hk=>World.putObj_heap_other hk;have aR:∀b o v,w.cell? ⟨b,o,none⟩=some v->(w.putObj r (.deferred none)).cell? ⟨b,o,none⟩=some v:=by
  intro b o v hc
  by_cases hb:b=r
  ·subst hb;simp[World.cell?,hr] at hc
  ·rw[World.cell?_of_block (hs b hb)];exact hc
 have he:Ext w (bt Γ w η s.hp) η s.hp (w.putObj r (.deferred none)) (bt Γ (w.putObj r (.deferred none)) η s.hp) η s.hp:=
  ⟨fun b o v _ hc=>aR b o v hc,fun b es c _ hc=>by
   by_cases hb:b=r
   ·subst hb;rw[hr] at hc;cases hc
   ·rw[hs b hb];exact hc,fun b o hf=>⟨hf.1,by simpa using hf.2.1,hf.2.2⟩,fun _ _ h=>h,fun _ _ h=>h,fun _ _ _ h=>h⟩
 have mM:∀(q:Nat) (o:aw) (v:Value) (b:Nat),s.hp[q]?=some o->o.live->η[q]?=some v->dO v=some b->b≠r:=by
  intro q o v b h1 h2 h3 h4 hb;subst hb;have eX:=h.heap.obj q o v h1 h3
  cases o with
  |dead=>exact h2.elim
  |box cs=>obtain⟨b',vs,T,rfl,g1,_⟩:=eX;simp only[dO,aqq] at h4;subst h4;rw[hr] at g1;cases g1
  |row e size els=>obtain⟨_,xs,g1,_⟩:=eX;obtain⟨cur,g2⟩:=g1.lt h4;rw[hr] at g2;cases g2
  |cE es=>obtain⟨b',en,c,rfl,g1,_⟩:=eX;simp only[dO,aqq] at h4;subst h4;rw[hr] at g1;cases g1
  |jy q k=>obtain⟨b',vs,rfl,g1,_⟩:=eX;simp only[dO,aqq] at h4;subst h4;rw[hr] at g1;cases g1
  |bj e size els=>obtain⟨_,xs,g1,_⟩:=eX;obtain⟨cur,g2⟩:=g1.lt h4;rw[hr] at g2;cases g2
  |fz e m ns=>obtain⟨cur,g2⟩:=gv.lt eX h4;rw[hr] at g2;cases g2
 refine⟨h.nt,fun t=>(h.tmps t).ext he,⟨h.heap.len,fun q o v h1 h2=>?_,h.heap.sep⟩,h.cq,?_,?_,?_,h.ext.trans he⟩
 ·by_cases hl:o.live
  ·exact(h.heap.obj q o v h1 h2).ext he (by simp) fun b hb _=>hs b (mM q o v b h1 hl h2 hb)
  ·cases o<;>first|exact ai|exact(hl ai).elim
 ·refine⟨h.keeps.os,h.keeps.tape,h.keeps.output,by simpa using h.keeps.size,fun k hk hx=>?_⟩;rw[hs k (by omega)];exact h.keeps.block k hk hx
 ·exact aE.qv _ _ _ (fun b hb=>hs b (by have:=aE.x b hb;omega)) (by simp) h.inv
 ·refine⟨fun d' ef=>?_,(List.pairwise_cons.1 h.marks.apart).2⟩;obtain⟨r',g1,g2,g3⟩:=h.marks.all d' (aqI _ ef);refine⟨r',g1,?_,g3⟩;have cg:r'≠r:=by
   intro e;subst e;exact(List.pairwise_cons.1 h.marks.apart).1 d' ef (by rw[hd,g1])
  rw[hs r' cg];exact g2
theorem L1 (aE:Γ.Ok) (sv:∀r,Γ.m0 r->Γ.w0.heap.size<=r) {fn:Func} {ts:Array Value} {R:Ending->World->Prop} (QT:∀w,Rel Γ s ⟨ts,[]⟩ w η->∃v,(results fn ts).run Γ.P w=.ok v w/\R (.returned v) w):∀(ds:List Deferred) (w:World),Rel Γ s ⟨ts,ds⟩ w η->
  LeavesInM Γ.fj 0 Γ.P fn ts R ds .returning w:=by
 intro ds
 induction ds with
 |nil=>intro w hr;exact QT w hr
 |cons d ds ih=>
  intro w hr;obtain⟨r,h1,h2,h3⟩:=hr.marks.all d aqG;exact⟨by simp,.inl ⟨r,_,h1,run_takeDeferred h2,ih _ (hr.shut aE h1 h2 (sv _ h3))⟩⟩
theorem DN {tab:Nat->Option TD} (aA:bc P tab) {f:FuncId} {fn:Func} {c:Code} {args:List AV} {R:AV->Prop} (hf:P.funcs[f]?=some fn) (hb:fn.body=some c) (jD:(fn.name == "runtime.NumGoroutine")=false) (hn:args.length<=fn.ntmps)
  (h:∀Γ:Env Unit,Γ.Ok->Γ.P=P->fn.ntmps=Γ.nt->Γ.mU.length=0->Γ.JF->eY Γ c (Q7 tab fn.results.toList (fun r _=>R r)) ⟨ei 0 args,[],()⟩):Pure P f args R:=by
 refine⟨⟨fn,hf,jD,by rw[hb];rfl⟩,fun w F bE hF hg hv=>?_⟩
 let Γ:Env Unit:={ P:=P,w0:=w,F0:=F,X:=fun _=>False,Y:=fun _=>False,Inv:=fun _ _=>True,nt:=fn.ntmps,Dw:=none,m0:=fun r=>w.heap.size<=r,Z:=fun _ _=>False,BF:=[],mU:=[] }
 have aE:Γ.Ok:=⟨rfl,fun _ h=>h.elim,fun _ h=>h.elim,fun _ _ _ _ _ h=>h,fun _ _ h=>h.elim,hg,fun _ _ h=>h.elim (fun h=>h) fun h=>h⟩;have Xp:=hv.length;have kp:∀b o,F b o->bt Γ w [] [] b o:=fun b o hb=>⟨.inl hb,hF b o hb,fun h=>h.elim (fun h=>h) fun h=>h,fun r v hr=>by simp at hr⟩;have sS:∀(l:List AV) (us:List Value) (k:Nat),cu w F [] [] l us->∀t,bB w (bt Γ w [] []) [] [] (ei k l t) (if t<k then undef else(us[t-k]?).getD undef)\/t<k:=by
  intro l
  induction l with
  |nil=>intro us k _ t;exact .inl (.top _)
  |cons x l ih=>
   intro us k hl t
   cases us with
   |nil=>exact hl.elim
   |cons u us=>
    by_cases htk:t<k
    ·exact .inr htk
    ·refine .inl ?_;rw[if_neg htk];simp only[ei,gV]
     by_cases hte:t=k
     ·subst hte;rw[if_pos rfl,arO];exact hl.1.bI kp
     ·rw[if_neg hte];rcases ih us (k+1) hl.2 t with h1|h1
      ·rw[if_neg (by omega)] at h1;have:t-k=(t-(k+1))+1:=by omega
       rw[this,aq2];exact h1
      ·omega
 have hrel:Rel Γ ⟨ei 0 args,[],()⟩ ⟨bE.toArray++Array.replicate (fn.ntmps-bE.toArray.size) undef,[]⟩ w []:=by
  refine⟨by simp[Γ];omega,fun t=>?_,⟨rfl,fun r o v h=>by simp at h,fun r r' o o' v v' b _ h=>by simp at h⟩,fun r o v b h=>by simp at h,cG.refl _ w,ai,⟨fun d hd=>(by cases hd),List.Pairwise.nil⟩,⟨fun _ _ _ _ h=>h,fun _ _ _ _ h=>h,kp,fun _ _ h=>h,fun _ _ h=>h,fun _ _ _ h=>h⟩⟩;have:=sS args bE 0 hv t;simp only[asj,if_false,or_false,asl] at this;have e:(bE.toArray++Array.replicate (fn.ntmps-bE.toArray.size) undef).getD t undef=(bE[t]?).getD undef:=by
   rw[aq3]
   by_cases ht:t<bE.length
   ·rw[Array.getElem?_append_left (by simpa using ht)];simp
   ·rw[Array.getElem?_append_right (by simpa using ht),aq6 (by omega)];rw[Array.getElem?_replicate]
    split<;>rfl
  show bB w _ _ _ _ ((bE.toArray++Array.replicate (fn.ntmps-bE.toArray.size) undef).getD t undef);rw[e];exact this
 have kY:=h Γ aE rfl rfl rfl ⟨rfl,fun _ h=>h⟩ _ _ _ hrel;refine callsIn_of_wp_marks (F:=Fence.wide) hf hb trivial (wpIn_mono (F:=Fence.wide) kY fun e a' w' ⟨s',bf,hq,gy⟩=>?_);have fin:(∃l,fW tab s' fn.results.toList=some l/\R ((iZ l).rU s'.hp))->LeavesInM Fence.wide 0 P fn a'.tmps (fun e w'=>∃v r,e=.returned v/\R r/\bV w w'/\bB w' (JX F w w') [] [] r v) a'.defers .returning w':=by
  intro ⟨l,hl,hR⟩;have:=L1 (Γ:=Γ) (s:=s') (η:=bf) (fn:=fn) (ts:=a'.tmps) (R:=fun e w'=>∃v r,e=.returned v/\R r/\bV w w'/\bB w' (JX F w w') [] [] r v) aE (fun _ h=>h) (fun w2 rV=>by
   obtain⟨v,h1,h2⟩:=qG aA rV hl;refine⟨v,h1,v,_,rfl,hR,rV.keeps.same fun b _ hx=>by rcases hx with h|h<;>exact h,?_⟩;refine FX rV.heap rV.cq (fun b o hf=>?_) (fun b o hb aH=>hb.elim (fun hb=>.inr ⟨hb,aH⟩) fun hb=>hb.elim) h2;rcases hf.1 with h3|h3|h3
   ·exact .inl h3
   ·exact .inr ⟨h3,hf.2.1⟩
   ·exact h3.elim) a'.defers w' gy
  exact this
 cases e with
 |normal=>
  simp only[Q7] at hq;split at hq
  ·rename_i l hl;exact fin ⟨l,hl,hq⟩
  ·exact hq.elim
 |ret=>
  simp only[Q7] at hq;split at hq
  ·rename_i l hl;exact fin ⟨l,hl,hq⟩
  ·exact hq.elim
 |_=>exact hq.elim
end Go.Proofs.YtnkjkpmbgoehkaaGreat
