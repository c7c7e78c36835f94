/- Texts of ours laid together for a claim: FilO. -/
import Derived.Test.YtjhanogfpkbamaaGreatDoorQ02
namespace Go.Proofs.YtjhanogfpkbamaaGreatDoor
open Go
set_option linter.unusedSimpArgs false
set_option linter.unusedVariables false
variable {G:Type} {Γ:Env G} {s s':AS G} {a:Act} {w w':World} {η:List Value} {hp:List AObj} {P:Program}
def Callable (P:Program) (f:FuncId):Prop:=∃fn,P.funcs[f]?=some fn∧(fn.name == "runtime.NumGoroutine")=false∧fn.body.isNone=false
theorem run_callFunc {f:FuncId} (h:Callable P f) (args:Array Value) (w:World):(callFunc f args).run P w=.ok (.enter f args) w:=by
 obtain⟨fn,h1,h2,h3⟩:=h
 simp only[callFunc,Sem.run_bind,run_program,Result.andThen_ok,h1,h2,h3,Bool.false_eq_true,if_false,Sem.run_pure]
def Onto (F:Nat→Nat→Prop) (w w':World) (b o:Nat):Prop:=F b o∨(w.heap.size≤b∧b<w'.heap.size)
def Pure (P:Program) (f:FuncId) (args:List AV) (R:AV→Prop):Prop:=
 Callable P f∧∀(w:World) (F:Nat→Nat→Prop) (vals:List Value),(∀b o,F b o→b<w.heap.size)→Glob w→RepL w F [] [] args vals→
  CallsIn Fence.wide 0 P f vals.toArray w (fun e w'=>∃v r,e=.returned v∧R r∧Same w w'∧Rep w' (Onto F w w') [] [] r v)
abbrev PureIs (P:Program) (f:FuncId) (args:List AV) (r:AV):Prop:=Pure P f args (fun x=>x=r)
theorem onto_fok (hok:Γ.Ok) (h:Rel Γ s a w η) (hs:Same w w') {b o:Nat} (hb:Onto (Fok Γ w η s.hp) w w' b o):Fok Γ w' η s.hp b o:=by
 rcases hb with h1|⟨h1,h2⟩
 ·exact⟨h1.1,Nat.lt_of_lt_of_le h1.2.1 hs.size,h1.2.2⟩
 ·refine⟨.inr (.inl (Nat.le_trans h.keeps.size h1)),h2,fun hx=>by have:=hok.no hx;have:=h.keeps.size;omega,(objF_iff b o).2 fun r v hv hbv=>?_⟩
  have hr':r<s.hp.length:=by rw[←h.heap.len];exact(List.getElem?_eq_some_iff.1 hv).1
  have ho:s.hp[r]?=some s.hp[r]:=by simp[hr']
  refine⟨s.hp[r],ho,?_⟩
  cases hk:s.hp[r] with
  |dead=>exact True.intro
  |_=>
   rw[hk] at ho
   have:=h.heap.block ho True.intro hv hbv
   omega
theorem Rep.foot {F F':Nat→Nat→Prop} {x:AV} {v:Value} (h:Rep w F [] [] x v) (hF:∀b o,F b o→F' b o):Rep w F' [] [] x v:=
 h.ext ⟨fun _ _ _ _ h=>h,fun _ _ _ _ h=>h,hF,fun _ _ h=>h,fun _ _ h=>h,fun _ _ _ h=>h⟩
theorem repL_toData (h:Rel Γ s a w η):∀(xs:List AV) (vs:List Value),RepL w (Fok Γ w η s.hp) η s.hp xs vs→RepL w (Fok Γ w η s.hp) [] [] (xs.map (AV.toData s.hp)) vs
 | [],[],_=>True.intro
 |_::xs,_::vs,hx=>⟨toData_rep h.heap h.mine hx.1,repL_toData h xs vs hx.2⟩
theorem repL_append {F:Nat→Nat→Prop}:∀(xs:List AV) (vs:List Value) {ys:List AV} {us:List Value},RepL w F η hp xs vs→RepL w F η hp ys us→RepL w F η hp (xs++ys) (vs++us)
 | [],[],_,_,_,h2=>h2
 |_::xs,_::vs,_,_,h1,h2=>⟨h1.1,repL_append xs vs h1.2 h2⟩
theorem run_call_clo {o:Oper} {c:Call} {x:Operand} (ho:o.op=.call c) (hc:c.callee=.value x) {f:FuncId} (hf:Callable Γ.P f) {caps:Array Value} (hx:a.eval x=.func (.func f) #[] caps):
  (execOp a.eval o).run Γ.P w=.ok (.enter f (c.args.map a.eval++caps)) w:=by
 simp[execOp,ho,resolve,hc,hx,Deferred.ofValue,invoke,run_callFunc hf]
theorem ACall.pure (hok:Γ.Ok) {o:Oper} {c:Call} {x:Operand} (ho:o.op=.call c) (hc:c.callee=.value x) {f:FuncId} {caps:List AV} (hx:s.ev x=.clo f caps) {R:AV→Prop}
  (hP:Pure Γ.P f ((c.args.toList.map s.ev++caps).map (AV.toData s.hp)) R) (hd:dstOk Γ.nt o.dst) {K:AS G→Prop} (hK:∀r,R r→K (s.put o.dst r)):ACall Γ o s K:=by
 intro a w η Kc Qc hk hr
 have hxr:=hr.ev x
 rw[hx] at hxr
 generalize hv:a.eval x=v at hxr
 cases hxr with
 |clo _ _ vs hl hrep=>
  refine⟨fun _ _=>trivial,?_⟩
  have hne:∀c',o.op ≠ .defer c':=by intro c' h;rw[ho] at h;cases h
  rw[Oper.semAt_eq _ _ _ hne,run_call_clo ho hc hP.1 hv]
  have hargs:(c.args.map a.eval++vs)=(c.args.toList.map a.eval++vs.toList).toArray:=by apply Array.ext';simp
  have hcl:RepL w (Fok Γ w η s.hp) η s.hp caps vs.toList:=repL_of_get (by simpa using hl) fun j y u hy hu=>hrep j y u hy (by simpa using hu)
  have hreps:=repL_toData hr _ _ (repL_append _ _ (repArgs hr c.args.toList) hcl)
  refine⟨fun h=>(by cases h),?_⟩
  rw[hargs]
  have hcall:=hP.2 w (Fok Γ w η s.hp) _ (fun _ _=>fok_lt) (hr.glob hok) hreps
  refine CallsIn.mono (F:=Γ.fence) ?_ (R:=fun e w'=>∃v r,e=.returned v∧R r∧Same w w'∧Rep w' (Onto (Fok Γ w η s.hp) w w') [] [] r v) fun e w' ⟨u,r,he,hR,hs,hru⟩=>?_
  ·exact hcall
  ·subst he
   exact hk _ _ _ _ (hK r hR) ((hr.same hok hs).put (dstOk_spec hd) ((hru.foot fun b o h=>onto_fok hok hr hs h).lift))
def startT:Nat→List AV→Nat→AV
 |_,[]=>fun _=>.top
 |k,x::l=>upd (startT (k+1) l) k x
def resOne (tab:Nat→Option TD) (s:AS G):ResultVar→Option AV
 | .tmp t=>some (s.tmps t)
 | .cell t T=>(match tab T,s.tmps t with
  |some d,.ptr r o=>(match s.hp[r]? with
   |some (.box cs)=>ldCells d.kind.agg d.size cs o
   |_=>none)
  |_,_=>none)
def resAll (tab:Nat→Option TD) (s:AS G):List ResultVar→Option (List AV)
 | []=>some []
 |x::l=>(match resOne tab s x,resAll tab s l with
  |some v,some vs=>some (v::vs)
  |_,_=>none)
def resTup:List AV→AV
 | [x]=>x
 |l=>.tup l
def boxE:List AV→AV
 | [x]=>x
 |l=>.agg l
def AV.dataE (hp:List AObj):AV→AV
 | .ptr r 0=>(match hp[r]? with
  |some (.box cs)=>.eptr (boxE (cs.map (AV.dataC hp))) 0
  |_=>.top)
 |x=>x.dataV hp
def AV.toDataR (hp:List AObj):AV→AV
 | .clo f cs=>.clo f (cs.map (AV.dataE hp))
 |x=>x.toData hp
theorem dataC_cells (hp:List AObj) (x:AV):(x.dataC hp).cells=[x.dataC hp]:=by
 cases x with
 |own r n=>simp only[AV.dataC];split<;>rfl
 |prim v=>simp only[AV.dataC];split<;>rfl
 |clo f caps=>simp only[AV.dataC];split<;>rfl
 |_=>rfl
theorem boxE_cells (hp:List AObj) (cs:List AV):(boxE (cs.map (AV.dataC hp))).cells=cs.map (AV.dataC hp):=by
 match cs with
 | []=>rfl
 | [x]=>exact dataC_cells hp x
 |x::y::l=>rfl
theorem toDataR_rep (h:HeapOk w (Fok Γ w η hp) η hp) (hm:Mine Γ η hp) {F2:Nat→Nat→Prop} (hF:∀b o,Fok Γ w η hp b o→F2 b o) (hN:∀b o,(Γ.w0.heap.size≤b∨Γ.Y b)→b<w.heap.size→F2 b o) {x:AV} {v:Value} (hx:Rep w (Fok Γ w η hp) η hp x v):
  Rep w F2 [] [] (x.toDataR hp) v:=by
 cases x with
 |clo f cs=>
  cases hx with
  |clo _ _ vs hl hr=>
   refine .clo f _ vs (by simpa using hl) fun j y u hy hu=>?_
   rw[List.getElem?_map] at hy
   cases hj:cs[j]? with
   |none=>rw[hj] at hy;cases hy
   |some z=>
    rw[hj] at hy
    obtain rfl:=Option.some.inj hy
    have hz:=hr j z u hj hu
    unfold AV.dataE
    split
    ·rename_i r
     split
     ·rename_i cs' hb
      cases hz with
      |ptr _ _ b hη=>
       obtain⟨b',ws,T,hbe,hg,hsz,hc⟩:=h.obj r _ _ hb hη
       simp only[Value.pointer.injEq,Option.some.injEq,Addr.mk.injEq,and_true] at hbe
       subst hbe
       have hmi:=(hm r _ _ b hb True.intro hη rfl).1
       have hget:∀(j:Nat) (x:AV),(cs'.map (AV.dataC hp))[j]?=some x→∃y u,cs'[j]?=some y∧x=y.dataC hp∧ws[j]?=some u:=by
        intro j x hx
        rw[List.getElem?_map] at hx
        cases hj:cs'[j]? with
        |none=>rw[hj] at hx;cases hx
        |some y=>
         rw[hj] at hx
         obtain rfl:=Option.some.inj hx
         have:j<ws.size:=by rw[hsz];exact(List.getElem?_eq_some_iff.1 hj).1
         exact⟨y,ws[j],rfl,rfl,by simp[this]⟩
       refine .eptr _ 0 b 0 (fun j=>(ws[j]?).getD undef) (fun j x hx=>?_) fun j x hx=>?_
       ·rw[boxE_cells] at hx
        obtain⟨y,u,h1,h2,h3⟩:=hget j x hx
        refine⟨?_,hN b _ hmi (block_lt hg),?_⟩
        ·simp[World.cell?,hg,h3]
        ·simp only[h3,Option.getD_some];exact(hc j y u h1 h3).2
       ·rw[boxE_cells] at hx
        obtain⟨y,u,h1,h2,h3⟩:=hget j x hx
        subst h2
        simp only[h3,Option.getD_some]
        exact(dataC_rep h hm (hc j y u h1 h3).1).ext ⟨fun _ _ _ _ h=>h,fun _ _ _ _ h=>h,hF,fun _ _ h=>h,fun _ _ h=>h,fun _ _ _ h=>h⟩
     ·exact .top _
    ·exact(dataV_rep h hm hz).ext ⟨fun _ _ _ _ h=>h,fun _ _ _ _ h=>h,hF,fun _ _ h=>h,fun _ _ h=>h,fun _ _ _ h=>h⟩
 |_=>exact(toData_rep h hm hx).ext ⟨fun _ _ _ _ h=>h,fun _ _ _ _ h=>h,hF,fun _ _ h=>h,fun _ _ h=>h,fun _ _ _ h=>h⟩
def retQ (tab:Nat→Option TD) (rs:List ResultVar) (R:AV→AS G→Prop):Exit→AS G→Prop
 | .normal,s | .ret,s=>(match resAll tab s rs with
  |some l=>R ((resTup l).toDataR s.hp) s
  |none=>False)
 |_,_=>False
theorem run_resOne {tab:Nat→Option TD} (htab:TabOk Γ.P tab) (hr:Rel Γ s a w η) {x:ResultVar} {r:AV} (h:resOne tab s x=some r):
  ∃v,(match x with | .tmp t=>Pure.pure (a.tmps.getD t undef) | .cell p t=>do loadVar t (←asAddr (a.tmps.getD p undef)):Sem Value).run Γ.P w=.ok v w∧Rep w (Fok Γ w η s.hp) η s.hp r v:=by
 cases x with
 |tmp t=>
  simp only[resOne,Option.some.injEq] at h
  subst h
  exact⟨_,rfl,hr.tmps t⟩
 |cell p T=>
  simp only[resOne] at h
  split at h
  ·rename_i d r' off hd hp
   split at h
   ·rename_i cs hcs
    have hpr:=hr.tmps p
    rw[hp] at hpr
    generalize hv:a.tmps.getD p undef=v at hpr
    cases hpr with
    |ptr _ _ b hη=>
     obtain⟨b',vs,T',hb,hg,hsz,hc⟩:=hr.heap.obj r' _ _ hcs hη
     simp only[Value.pointer.injEq,Option.some.injEq,Addr.mk.injEq,and_true] at hb
     subst hb
     obtain⟨h1,h2⟩:=ldCells_rep (w:=w) (F:=Fok Γ w η s.hp) (η:=η) (hp:=s.hp) (htab.sz hd) (vs:=vs.toList) (by simpa using hsz) (fun j x u hx hu=>hc j x u hx (by simpa using hu)) h
     refine⟨_,?_,h2⟩
     simp only[Sem.run_bind]
     rw[hv]
     simp only[asAddr,Sem.run_pure,Result.andThen_ok]
     exact run_load_cells (htab T d hd) (box_cells hg) h1
   ·cases h
  ·cases h
theorem run_resAll {tab:Nat→Option TD} (htab:TabOk Γ.P tab) (hr:Rel Γ s a w η):∀(l:List ResultVar) (rs:List AV),resAll tab s l=some rs→
  ∃vs,(l.mapM fun x=>(match x with | .tmp t=>Pure.pure (a.tmps.getD t undef) | .cell p t=>do loadVar t (←asAddr (a.tmps.getD p undef)):Sem Value)).run Γ.P w=.ok vs w∧RepL w (Fok Γ w η s.hp) η s.hp rs vs:=by
 intro l
 induction l with
 |nil=>
  intro rs h
  simp only[resAll,Option.some.injEq] at h
  subst h
  exact⟨[],rfl,True.intro⟩
 |cons x l ih=>
  intro rs h
  simp only[resAll] at h
  split at h
  ·rename_i v vs h1 h2
   obtain rfl:=Option.some.inj h
   obtain⟨u,e1,e2⟩:=run_resOne htab hr h1
   obtain⟨us,e3,e4⟩:=ih vs h2
   refine⟨u::us,?_,e2,e4⟩
   rw[List.mapM_cons]
   simp only[Sem.run_bind]
   rw[e1]
   simp only[Result.andThen_ok]
   rw[e3]
   rfl
  ·cases h
theorem run_results {tab:Nat→Option TD} (htab:TabOk Γ.P tab) (hr:Rel Γ s a w η) {fn:Func} {rs:List AV} (h:resAll tab s fn.results.toList=some rs):
  ∃v,(results fn a.tmps).run Γ.P w=.ok v w∧Rep w (Fok Γ w η s.hp) η s.hp (resTup rs) v:=by
 obtain⟨vs,h1,h2⟩:=run_resAll htab hr _ _ h
 have hm:(fn.results.mapM fun x=>(match x with | .tmp t=>Pure.pure (a.tmps.getD t undef) | .cell p t=>do loadVar t (←asAddr (a.tmps.getD p undef)):Sem Value)).run Γ.P w=.ok vs.toArray w:=by
  rw[Array.mapM_eq_mapM_toList,Sem.run_map,h1];rfl
 refine⟨if h:vs.toArray.size=1 then vs.toArray[0] else .tuple vs.toArray,?_,?_⟩
 ·simp only[results,Sem.run_bind]
  exact(congrArg (fun r=>Result.andThen r fun vs w=>(Pure.pure (if h:vs.size=1 then vs[0] else .tuple vs):Sem Value).run Γ.P w) hm)
 ·have hl:=h2.length
  match rs,vs,h2,hl with
  | [],[],_,_=>exact .tup [] #[] rfl fun j x v hx=>by simp at hx
  | [r],[v],h2,_=>exact h2.1
  |r1::r2::rs,v1::v2::vs,h2,hl=>
   rw[dif_neg (by simp)]
   exact .tup _ _ (by simpa using hl) fun j x v hx hv=>h2.get j x v hx (by simpa using hv)
theorem Rel.shut {ts:Array Value} {d:Deferred} {ds:List Deferred} {r:Nat} (hok:Γ.Ok) (h:Rel Γ s ⟨ts,d::ds⟩ w η) (hd:d.target=.collected r) (hr:w.heap[r]?=some (.deferred (some []))) (hN:Γ.w0.heap.size≤r):
  Rel Γ s ⟨ts,ds⟩ (w.putObj r (.deferred none)) η:=by
 have hlt:=block_lt hr
 have hs:∀k,k≠r→(w.putObj r (.deferred none)).heap[k]?=w.heap[k]?:=fun k hk=>World.putObj_heap_other hk
 have hcell:∀b o v,w.cell? ⟨b,o,none⟩=some v→(w.putObj r (.deferred none)).cell? ⟨b,o,none⟩=some v:=by
  intro b o v hc
  by_cases hb:b=r
  ·subst hb;simp[World.cell?,hr] at hc
  ·rw[World.cell?_of_block (hs b hb)];exact hc
 have he:Ext w (Fok Γ w η s.hp) η s.hp (w.putObj r (.deferred none)) (Fok Γ (w.putObj r (.deferred none)) η s.hp) η s.hp:=
  ⟨fun b o v _ hc=>hcell b o v hc,fun b es c _ hc=>by
   by_cases hb:b=r
   ·subst hb;rw[hr] at hc;cases hc
   ·rw[hs b hb];exact hc,fun b o hf=>⟨hf.1,by simpa using hf.2.1,hf.2.2⟩,fun _ _ h=>h,fun _ _ h=>h,fun _ _ _ h=>h⟩
 have hblk:∀(q:Nat) (o:AObj) (v:Value) (b:Nat),s.hp[q]?=some o→o.live→η[q]?=some v→blk v=some b→b≠r:=by
  intro q o v b h1 h2 h3 h4 hb
  subst hb
  have hob:=h.heap.obj q o v h1 h3
  cases o with
  |dead=>exact h2.elim
  |box cs=>obtain⟨b',vs,T,rfl,g1,_⟩:=hob;simp only[blk,Option.some.injEq] at h4;subst h4;rw[hr] at g1;cases g1
  |row e size els=>obtain⟨_,xs,g1,_⟩:=hob;obtain⟨cur,g2⟩:=g1.lt h4;rw[hr] at g2;cases g2
  |mapo es=>obtain⟨b',en,c,rfl,g1,_⟩:=hob;simp only[blk,Option.some.injEq] at h4;subst h4;rw[hr] at g1;cases g1
  |bld q k=>obtain⟨b',vs,rfl,g1,_⟩:=hob;simp only[blk,Option.some.injEq] at h4;subst h4;rw[hr] at g1;cases g1
  |mrow e size els=>obtain⟨_,xs,g1,_⟩:=hob;obtain⟨cur,g2⟩:=g1.lt h4;rw[hr] at g2;cases g2
 refine⟨h.nt,fun t=>(h.tmps t).ext he,⟨h.heap.len,fun q o v h1 h2=>?_,h.heap.sep⟩,h.mine,?_,?_,?_,h.ext.trans he⟩
 ·by_cases hl:o.live
  ·exact(h.heap.obj q o v h1 h2).ext he (by simp) fun b hb _=>hs b (hblk q o v b h1 hl h2 hb)
  ·cases o<;>first|exact True.intro|exact(hl True.intro).elim
 ·refine⟨h.keeps.os,h.keeps.tape,h.keeps.output,by simpa using h.keeps.size,fun k hk hx=>?_⟩
  rw[hs k (by omega)];exact h.keeps.block k hk hx
 ·exact hok.stable _ _ _ (fun b hb=>hs b (by have:=hok.x b hb;omega)) (by simp) h.inv
 ·refine⟨fun d' hd'=>?_,(List.pairwise_cons.1 h.marks.apart).2⟩
  obtain⟨r',g1,g2,g3⟩:=h.marks.all d' (List.mem_cons_of_mem _ hd')
  refine⟨r',g1,?_,g3⟩
  have hne:r'≠r:=by
   intro e
   subst e
   exact(List.pairwise_cons.1 h.marks.apart).1 d' hd' (by rw[hd,g1])
  rw[hs r' hne];exact g2
theorem leavesM (hok:Γ.Ok) (hm0:∀r,Γ.m0 r→Γ.w0.heap.size≤r) {fn:Func} {ts:Array Value} {R:Ending→World→Prop} (hfin:∀w,Rel Γ s ⟨ts,[]⟩ w η→∃v,(results fn ts).run Γ.P w=.ok v w∧R (.returned v) w):∀(ds:List Deferred) (w:World),Rel Γ s ⟨ts,ds⟩ w η→
  LeavesInM Γ.fence 0 Γ.P fn ts R ds .returning w:=by
 intro ds
 induction ds with
 |nil=>intro w hr;exact hfin w hr
 |cons d ds ih=>
  intro w hr
  obtain⟨r,h1,h2,h3⟩:=hr.marks.all d List.mem_cons_self
  exact⟨by simp,.inl ⟨r,_,h1,run_takeDeferred h2,ih _ (hr.shut hok h1 h2 (hm0 _ h3))⟩⟩
theorem pure_of_body {tab:Nat→Option TD} (htab:TabOk P tab) {f:FuncId} {fn:Func} {c:Code} {args:List AV} {R:AV→Prop} (hf:P.funcs[f]?=some fn) (hb:fn.body=some c) (hname:(fn.name == "runtime.NumGoroutine")=false) (hn:args.length≤fn.ntmps)
  (h:∀Γ:Env Unit,Γ.Ok→Γ.P=P→fn.ntmps=Γ.nt→Γ.hp0.length=0→Γ.Free→AWp Γ c (retQ tab fn.results.toList (fun r _=>R r)) ⟨startT 0 args,[],()⟩):Pure P f args R:=by
 refine⟨⟨fn,hf,hname,by rw[hb];rfl⟩,fun w F vals hF hg hv=>?_⟩
 let Γ:Env Unit:={ P:=P,w0:=w,F0:=F,X:=fun _=>False,Y:=fun _=>False,Inv:=fun _ _=>True,nt:=fn.ntmps,rnd:=none,m0:=fun r=>w.heap.size≤r,Z:=fun _ _=>False,η0:=[],hp0:=[] }
 have hok:Γ.Ok:=⟨rfl,fun _ h=>h.elim,fun _ h=>h.elim,fun _ _ _ _ _ h=>h,fun _ _ h=>h.elim,hg,fun _ _ h=>h.elim (fun h=>h) fun h=>h⟩
 have hvl:=hv.length
 have hfoot:∀b o,F b o→Fok Γ w [] [] b o:=fun b o hb=>⟨.inl hb,hF b o hb,fun h=>h.elim (fun h=>h) fun h=>h,fun r v hr=>by simp at hr⟩
 have hst:∀(l:List AV) (us:List Value) (k:Nat),RepL w F [] [] l us→∀t,Rep w (Fok Γ w [] []) [] [] (startT k l t) (if t<k then undef else(us[t-k]?).getD undef)∨t<k:=by
  intro l
  induction l with
  |nil=>intro us k _ t;exact .inl (.top _)
  |cons x l ih=>
   intro us k hl t
   cases us with
   |nil=>exact hl.elim
   |cons u us=>
    by_cases htk:t<k
    ·exact .inr htk
    ·refine .inl ?_
     rw[if_neg htk]
     simp only[startT,upd_eq]
     by_cases hte:t=k
     ·subst hte
      rw[if_pos rfl,Nat.sub_self]
      exact hl.1.foot hfoot
     ·rw[if_neg hte]
      rcases ih us (k+1) hl.2 t with h1|h1
      ·rw[if_neg (by omega)] at h1
       have:t-k=(t-(k+1))+1:=by omega
       rw[this,List.getElem?_cons_succ]
       exact h1
      ·omega
 have hrel:Rel Γ ⟨startT 0 args,[],()⟩ ⟨vals.toArray++Array.replicate (fn.ntmps-vals.toArray.size) undef,[]⟩ w []:=by
  refine⟨by simp[Γ];omega,fun t=>?_,⟨rfl,fun r o v h=>by simp at h,fun r r' o o' v v' b _ h=>by simp at h⟩,fun r o v b h=>by simp at h,Keeps.refl _ w,True.intro,⟨fun d hd=>(by cases hd),List.Pairwise.nil⟩,⟨fun _ _ _ _ h=>h,fun _ _ _ _ h=>h,hfoot,fun _ _ h=>h,fun _ _ h=>h,fun _ _ _ h=>h⟩⟩
  have:=hst args vals 0 hv t
  simp only[Nat.not_lt_zero,if_false,or_false,Nat.sub_zero] at this
  have e:(vals.toArray++Array.replicate (fn.ntmps-vals.toArray.size) undef).getD t undef=(vals[t]?).getD undef:=by
   rw[Array.getD_eq_getD_getElem?]
   by_cases ht:t<vals.length
   ·rw[Array.getElem?_append_left (by simpa using ht)];simp
   ·rw[Array.getElem?_append_right (by simpa using ht),List.getElem?_eq_none (by omega)]
    rw[Array.getElem?_replicate]
    split<;>rfl
  show Rep w _ _ _ _ ((vals.toArray++Array.replicate (fn.ntmps-vals.toArray.size) undef).getD t undef)
  rw[e];exact this
 have hbody:=h Γ hok rfl rfl rfl ⟨rfl,fun _ h=>h⟩ _ _ _ hrel
 refine callsIn_of_wp_marks (F:=Fence.wide) hf hb trivial (wpIn_mono (F:=Fence.wide) hbody fun e a' w' ⟨s',η',hq,hr'⟩=>?_)
 have fin:(∃l,resAll tab s' fn.results.toList=some l∧R ((resTup l).toDataR s'.hp))→LeavesInM Fence.wide 0 P fn a'.tmps (fun e w'=>∃v r,e=.returned v∧R r∧Same w w'∧Rep w' (Onto F w w') [] [] r v) a'.defers .returning w':=by
  intro ⟨l,hl,hR⟩
  have:=leavesM (Γ:=Γ) (s:=s') (η:=η') (fn:=fn) (ts:=a'.tmps) (R:=fun e w'=>∃v r,e=.returned v∧R r∧Same w w'∧Rep w' (Onto F w w') [] [] r v) hok (fun _ h=>h) (fun w2 hr2=>by
   obtain⟨v,h1,h2⟩:=run_results htab hr2 hl
   refine⟨v,h1,v,_,rfl,hR,hr2.keeps.same fun b _ hx=>by rcases hx with h|h<;>exact h,?_⟩
   refine toDataR_rep hr2.heap hr2.mine (fun b o hf=>?_) (fun b o hb hlt=>hb.elim (fun hb=>.inr ⟨hb,hlt⟩) fun hb=>hb.elim) h2
   rcases hf.1 with h3|h3|h3
   ·exact .inl h3
   ·exact .inr ⟨h3,hf.2.1⟩
   ·exact h3.elim) a'.defers w' hr'
  exact this
 cases e with
 |normal=>
  simp only[retQ] at hq
  split at hq
  ·rename_i l hl;exact fin ⟨l,hl,hq⟩
  ·exact hq.elim
 |ret=>
  simp only[retQ] at hq
  split at hq
  ·rename_i l hl;exact fin ⟨l,hl,hq⟩
  ·exact hq.elim
 |_=>exact hq.elim
end Go.Proofs.YtjhanogfpkbamaaGreatDoor
