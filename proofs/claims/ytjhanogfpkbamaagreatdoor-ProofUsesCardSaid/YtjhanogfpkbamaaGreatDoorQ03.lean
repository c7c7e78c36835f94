/- Texts of ours laid together for a claim: FilO. -/
import Derived.Test.YtjhanogfpkbamaaGreatDoorQ02
namespace Go.Proofs.YtjhanogfpkbamaaGreatDoor
open Go
set_option linter.unusedSimpArgs false
set_option linter.unusedVariables false
variable {G:Type} {Γ:Env G} {s s':AS G} {a:Act} {w w':World} {η:List Value} {hp:List af} {P:Program}
def mQ (P:Program) (f:FuncId):Prop:=∃fn,P.funcs[f]?=some fn∧(fn.name == "runtime.NumGoroutine")=false∧fn.body.isNone=false
theorem nN {f:FuncId} (h:mQ P f) (args:Array Value) (w:World):(callFunc f args).run P w=.ok (.enter f args) w:=by
 obtain⟨fn,h1,h2,h3⟩:=h
 simp only[callFunc,Sem.run_bind,run_program,Result.andThen_ok,h1,h2,h3,aij,if_false,Sem.run_pure]
def Ho (F:Nat→Nat→Prop) (w w':World) (b o:Nat):Prop:=F b o∨(w.heap.size≤b∧b<w'.heap.size)
def Pure (P:Program) (f:FuncId) (args:List AV) (R:AV→Prop):Prop:=
 mQ P f∧∀(w:World) (F:Nat→Nat→Prop) (bB:List Value),(∀b o,F b o→b<w.heap.size)→pF w→cH w F [] [] args bB→
  CallsIn Fence.wide 0 P f bB.toArray w (fun e w'=>∃v r,e=.returned v∧R r∧bX w w'∧bw w' (Ho F w w') [] [] r v)
abbrev av (P:Program) (f:FuncId) (args:List AV) (r:AV):Prop:=Pure P f args (fun x=>x=r)
theorem yx (aD:Γ.Ok) (h:Rel Γ s a w η) (hs:bX w w') {b o:Nat} (hb:Ho (bn Γ w η s.hp) w w' b o):bn Γ w' η s.hp b o:=by
 rcases hb with h1|⟨h1,h2⟩
 ·exact⟨h1.1,aiD h1.2.1 hs.size,h1.2.2⟩
 ·refine⟨.inr (.inl (aiy h.keeps.size h1)),h2,fun hx=>by have:=aD.no hx;have:=h.keeps.size;omega,(aZ b o).2 fun r v hv pV=>?_⟩
  have fZ:r<s.hp.length:=by rw[←h.heap.len];exact(ahY.1 hv).1
  have ho:s.hp[r]?=some s.hp[r]:=by simp[fZ]
  refine⟨s.hp[r],ho,?_⟩
  cases hk:s.hp[r] with
  |dead=>exact True.intro
  |_=>
   rw[hk] at ho
   have:=h.heap.block ho True.intro hv pV
   omega
theorem bw.bD {F F':Nat→Nat→Prop} {x:AV} {v:Value} (h:bw w F [] [] x v) (hF:∀b o,F b o→F' b o):bw w F' [] [] x v:=
 h.ext ⟨fun _ _ _ _ h=>h,fun _ _ _ _ h=>h,hF,fun _ _ h=>h,fun _ _ h=>h,fun _ _ _ h=>h⟩
theorem lY (h:Rel Γ s a w η):∀(xs:List AV) (vs:List Value),cH w (bn Γ w η s.hp) η s.hp xs vs→cH w (bn Γ w η s.hp) [] [] (xs.map (AV.cm s.hp)) vs
 | [],[],_=>True.intro
 |_::xs,_::vs,hx=>⟨jx h.heap h.cE hx.1,lY h xs vs hx.2⟩
theorem eD {F:Nat→Nat→Prop}:∀(xs:List AV) (vs:List Value) {ys:List AV} {us:List Value},cH w F η hp xs vs→cH w F η hp ys us→cH w F η hp (xs++ys) (vs++us)
 | [],[],_,_,_,h2=>h2
 |_::xs,_::vs,_,_,h1,h2=>⟨h1.1,eD xs vs h1.2 h2⟩
theorem gC {o:Oper} {c:Call} {x:Operand} (ho:o.op=.call c) (hc:c.callee=.value x) {f:FuncId} (hf:mQ Γ.P f) {caps:Array Value} (hx:a.eval x=.func (.func f) #[] caps):
  (execOp a.eval o).run Γ.P w=.ok (.enter f (c.args.map a.eval++caps)) w:=by
 simp[execOp,ho,resolve,hc,hx,Deferred.ofValue,invoke,nN hf]
theorem bR.pure (aD:Γ.Ok) {o:Oper} {c:Call} {x:Operand} (ho:o.op=.call c) (hc:c.callee=.value x) {f:FuncId} {caps:List AV} (hx:s.ev x=.ck f caps) {R:AV→Prop}
  (hP:Pure Γ.P f ((c.args.toList.map s.ev++caps).map (AV.cm s.hp)) R) (hd:dB Γ.nt o.dst) {K:AS G→Prop} (hK:∀r,R r→K (s.put o.dst r)):bR Γ o s K:=by
 intro a w η Kc Qc hk hr
 have eU:=hr.ev x
 rw[hx] at eU
 generalize hv:a.eval x=v at eU
 cases eU with
 |ck _ _ vs hl ec=>
  refine⟨fun _ _=>trivial,?_⟩
  have bK:∀c',o.op ≠ .defer c':=by intro c' h;rw[ho] at h;cases h
  rw[Oper.semAt_eq _ _ _ bK,gC ho hc hP.1 hv]
  have aI:(c.args.map a.eval++vs)=(c.args.toList.map a.eval++vs.toList).toArray:=by apply ajm;simp
  have eu:cH w (bn Γ w η s.hp) η s.hp caps vs.toList:=dF (by simpa using hl) fun j y u hy hu=>ec j y u hy (by simpa using hu)
  have iC:=lY hr _ _ (eD _ _ (hO hr c.args.toList) eu)
  refine⟨fun h=>(by cases h),?_⟩
  rw[aI]
  have mR:=hP.2 w (bn Γ w η s.hp) _ (fun _ _=>fz) (hr.kg aD) iC
  refine CallsIn.mono (F:=Γ.eV) ?_ (R:=fun e w'=>∃v r,e=.returned v∧R r∧bX w w'∧bw w' (Ho (bn Γ w η s.hp) w w') [] [] r v) fun e w' ⟨u,r,he,hR,hs,XL⟩=>?_
  ·exact mR
  ·subst he
   exact hk _ _ _ _ (hK r hR) ((hr.same aD hs).put (cA hd) ((XL.bD fun b o h=>yx aD hr hs h).lift))
def cV:Nat→List AV→Nat→AV
 |_,[]=>fun _=>.top
 |k,x::l=>Bx (cV (k+1) l) k x
def BM (az:Nat→Option TD) (s:AS G):ResultVar→Option AV
 | .tmp t=>some (s.tmps t)
 | .cell t T=>(match az T,s.tmps t with
  |some d,.ptr r o=>(match s.hp[r]? with
   |some (.box cs)=>fS d.kind.agg d.size cs o
   |_=>none)
  |_,_=>none)
def eW (az:Nat→Option TD) (s:AS G):List ResultVar→Option (List AV)
 | []=>some []
 |x::l=>(match BM az s x,eW az s l with
  |some v,some vs=>some (v::vs)
  |_,_=>none)
def ij:List AV→AV
 | [x]=>x
 |l=>.aX l
def D5:List AV→AV
 | [x]=>x
 |l=>.agg l
def AV.IY (hp:List af):AV→AV
 | .ptr r 0=>(match hp[r]? with
  |some (.box cs)=>.cL (D5 (cs.map (AV.fq hp))) 0
  |_=>.top)
 |x=>x.gd hp
def AV.qN (hp:List af):AV→AV
 | .ck f cs=>.ck f (cs.map (AV.IY hp))
 |x=>x.cm hp
theorem D6 (hp:List af) (x:AV):(x.fq hp).cells=[x.fq hp]:=by
 cases x with
 |own r n=>simp only[AV.fq];split<;>rfl
 |ah v=>simp only[AV.fq];split<;>rfl
 |ck f caps=>simp only[AV.fq];split<;>rfl
 |_=>rfl
theorem nO (hp:List af) (cs:List AV):(D5 (cs.map (AV.fq hp))).cells=cs.map (AV.fq hp):=by
 match cs with
 | []=>rfl
 | [x]=>exact D6 hp x
 |x::y::l=>rfl
theorem D7 (h:eI w (bn Γ w η hp) η hp) (hm:xY Γ η hp) {F2:Nat→Nat→Prop} (hF:∀b o,bn Γ w η hp b o→F2 b o) (hN:∀b o,(Γ.w0.heap.size≤b∨Γ.Y b)→b<w.heap.size→F2 b o) {x:AV} {v:Value} (hx:bw w (bn Γ w η hp) η hp x v):
  bw w F2 [] [] (x.qN hp) v:=by
 cases x with
 |ck f cs=>
  cases hx with
  |ck _ _ vs hl hr=>
   refine .ck f _ vs (by simpa using hl) fun j y u hy hu=>?_
   rw[aie] at hy
   cases hj:cs[j]? with
   |none=>rw[hj] at hy;cases hy
   |some z=>
    rw[hj] at hy
    obtain rfl:=Option.some.inj hy
    have hz:=hr j z u hj hu
    unfold AV.IY
    split
    ·rename_i r
     split
     ·rename_i iP hb
      cases hz with
      |ptr _ _ b eS=>
       obtain⟨b',ws,T,hbe,hg,cJ,hc⟩:=h.obj r _ _ hb eS
       simp only[Value.pointer.injEq,Option.some.injEq,Addr.mk.injEq,and_true] at hbe
       subst hbe
       have hmi:=(hm r _ _ b hb True.intro eS rfl).1
       have ep:∀(j:Nat) (x:AV),(iP.map (AV.fq hp))[j]?=some x→∃y u,iP[j]?=some y∧x=y.fq hp∧ws[j]?=some u:=by
        intro j x hx
        rw[aie] at hx
        cases hj:iP[j]? with
        |none=>rw[hj] at hx;cases hx
        |some y=>
         rw[hj] at hx
         obtain rfl:=Option.some.inj hx
         have:j<ws.size:=by rw[cJ];exact(ahY.1 hj).1
         exact⟨y,ws[j],rfl,rfl,by simp[this]⟩
       refine .cL _ 0 b 0 (fun j=>(ws[j]?).getD undef) (fun j x hx=>?_) fun j x hx=>?_
       ·rw[nO] at hx
        obtain⟨y,u,h1,h2,h3⟩:=ep j x hx
        refine⟨?_,hN b _ hmi (bY hg),?_⟩
        ·simp[World.cell?,hg,h3]
        ·simp only[h3,aiP];exact(hc j y u h1 h3).2
       ·rw[nO] at hx
        obtain⟨y,u,h1,h2,h3⟩:=ep j x hx
        subst h2
        simp only[h3,aiP]
        exact(mL h hm (hc j y u h1 h3).1).ext ⟨fun _ _ _ _ h=>h,fun _ _ _ _ h=>h,hF,fun _ _ h=>h,fun _ _ h=>h,fun _ _ _ h=>h⟩
     ·exact .top _
    ·exact(mM h hm hz).ext ⟨fun _ _ _ _ h=>h,fun _ _ _ _ h=>h,hF,fun _ _ h=>h,fun _ _ h=>h,fun _ _ _ h=>h⟩
 |_=>exact(jx h hm hx).ext ⟨fun _ _ _ _ h=>h,fun _ _ _ _ h=>h,hF,fun _ _ h=>h,fun _ _ h=>h,fun _ _ _ h=>h⟩
def MR (az:Nat→Option TD) (rs:List ResultVar) (R:AV→AS G→Prop):Exit→AS G→Prop
 | .normal,s | .ret,s=>(match eW az s rs with
  |some l=>R ((ij l).qN s.hp) s
  |none=>False)
 |_,_=>False
theorem Hp {az:Nat→Option TD} (au:aT Γ.P az) (hr:Rel Γ s a w η) {x:ResultVar} {r:AV} (h:BM az s x=some r):
  ∃v,(match x with | .tmp t=>Pure.pure (a.tmps.getD t undef) | .cell p t=>do loadVar t (←asAddr (a.tmps.getD p undef)):Sem Value).run Γ.P w=.ok v w∧bw w (bn Γ w η s.hp) η s.hp r v:=by
 cases x with
 |tmp t=>
  simp only[BM,Option.some.injEq] at h
  subst h
  exact⟨_,rfl,hr.tmps t⟩
 |cell p T=>
  simp only[BM] at h
  split at h
  ·rename_i d r' off hd hp
   split at h
   ·rename_i cs iK
    have rM:=hr.tmps p
    rw[hp] at rM
    generalize hv:a.tmps.getD p undef=v at rM
    cases rM with
    |ptr _ _ b eS=>
     obtain⟨b',vs,T',hb,hg,cJ,hc⟩:=hr.heap.obj r' _ _ iK eS
     simp only[Value.pointer.injEq,Option.some.injEq,Addr.mk.injEq,and_true] at hb
     subst hb
     obtain⟨h1,h2⟩:=fu (w:=w) (F:=bn Γ w η s.hp) (η:=η) (hp:=s.hp) (au.sz hd) (vs:=vs.toList) (by simpa using cJ) (fun j x u hx hu=>hc j x u hx (by simpa using hu)) h
     refine⟨_,?_,h2⟩
     simp only[Sem.run_bind]
     rw[hv]
     simp only[asAddr,Sem.run_pure,Result.andThen_ok]
     exact kZ (au T d hd) (uR hg) h1
   ·cases h
  ·cases h
theorem Hq {az:Nat→Option TD} (au:aT Γ.P az) (hr:Rel Γ s a w η):∀(l:List ResultVar) (rs:List AV),eW az s l=some rs→
  ∃vs,(l.mapM fun x=>(match x with | .tmp t=>Pure.pure (a.tmps.getD t undef) | .cell p t=>do loadVar t (←asAddr (a.tmps.getD p undef)):Sem Value)).run Γ.P w=.ok vs w∧cH w (bn Γ w η s.hp) η s.hp rs vs:=by
 intro l
 induction l with
 |nil=>
  intro rs h
  simp only[eW,Option.some.injEq] at h
  subst h
  exact⟨[],rfl,True.intro⟩
 |cons x l ih=>
  intro rs h
  simp only[eW] at h
  split at h
  ·rename_i v vs h1 h2
   obtain rfl:=Option.some.inj h
   obtain⟨u,e1,e2⟩:=Hp au hr h1
   obtain⟨us,e3,e4⟩:=ih vs h2
   refine⟨u::us,?_,e2,e4⟩
   rw[List.mapM_cons]
   simp only[Sem.run_bind]
   rw[e1]
   simp only[Result.andThen_ok]
   rw[e3]
   rfl
  ·cases h
theorem lZ {az:Nat→Option TD} (au:aT Γ.P az) (hr:Rel Γ s a w η) {fn:Func} {rs:List AV} (h:eW az s fn.results.toList=some rs):
  ∃v,(results fn a.tmps).run Γ.P w=.ok v w∧bw w (bn Γ w η s.hp) η s.hp (ij rs) v:=by
 obtain⟨vs,h1,h2⟩:=Hq au hr _ _ h
 have hm:(fn.results.mapM fun x=>(match x with | .tmp t=>Pure.pure (a.tmps.getD t undef) | .cell p t=>do loadVar t (←asAddr (a.tmps.getD p undef)):Sem Value)).run Γ.P w=.ok vs.toArray w:=by
  rw[Array.mapM_eq_mapM_toList,Sem.run_map,h1];rfl
 refine⟨if h:vs.toArray.size=1 then vs.toArray[0] else .tuple vs.toArray,?_,?_⟩
 ·simp only[results,Sem.run_bind]
  exact(congrArg (fun r=>Result.andThen r fun vs w=>(Pure.pure (if h:vs.size=1 then vs[0] else .tuple vs):Sem Value).run Γ.P w) hm)
 ·have hl:=h2.length
  match rs,vs,h2,hl with
  | [],[],_,_=>exact .aX [] #[] rfl fun j x v hx=>by simp at hx
  | [r],[v],h2,_=>exact h2.1
  |r1::r2::rs,v1::v2::vs,h2,hl=>
   rw[dif_neg (by simp)]
   exact .aX _ _ (by simpa using hl) fun j x v hx hv=>h2.get j x v hx (by simpa using hv)
theorem Rel.shut {ts:Array Value} {d:Deferred} {ds:List Deferred} {r:Nat} (aD:Γ.Ok) (h:Rel Γ s ⟨ts,d::ds⟩ w η) (hd:d.target=.collected r) (hr:w.heap[r]?=some (.deferred (some []))) (hN:Γ.w0.heap.size≤r):
  Rel Γ s ⟨ts,ds⟩ (w.putObj r (.deferred none)) η:=by
 have ay:=bY hr
 have hs:∀k,k≠r→(w.putObj r (.deferred none)).heap[k]?=w.heap[k]?:=fun k hk=>World.putObj_heap_other hk
 have aN:∀b o v,w.cell? ⟨b,o,none⟩=some v→(w.putObj r (.deferred none)).cell? ⟨b,o,none⟩=some v:=by
  intro b o v hc
  by_cases hb:b=r
  ·subst hb;simp[World.cell?,hr] at hc
  ·rw[World.cell?_of_block (hs b hb)];exact hc
 have he:Ext w (bn Γ w η s.hp) η s.hp (w.putObj r (.deferred none)) (bn Γ (w.putObj r (.deferred none)) η s.hp) η s.hp:=
  ⟨fun b o v _ hc=>aN b o v hc,fun b es c _ hc=>by
   by_cases hb:b=r
   ·subst hb;rw[hr] at hc;cases hc
   ·rw[hs b hb];exact hc,fun b o hf=>⟨hf.1,by simpa using hf.2.1,hf.2.2⟩,fun _ _ h=>h,fun _ _ h=>h,fun _ _ _ h=>h⟩
 have pP:∀(q:Nat) (o:af) (v:Value) (b:Nat),s.hp[q]?=some o→o.live→η[q]?=some v→dK v=some b→b≠r:=by
  intro q o v b h1 h2 h3 h4 hb
  subst hb
  have eP:=h.heap.obj q o v h1 h3
  cases o with
  |dead=>exact h2.elim
  |box cs=>obtain⟨b',vs,T,rfl,g1,_⟩:=eP;simp only[dK,Option.some.injEq] at h4;subst h4;rw[hr] at g1;cases g1
  |row e size els=>obtain⟨_,xs,g1,_⟩:=eP;obtain⟨cur,g2⟩:=g1.lt h4;rw[hr] at g2;cases g2
  |cQ es=>obtain⟨b',en,c,rfl,g1,_⟩:=eP;simp only[dK,Option.some.injEq] at h4;subst h4;rw[hr] at g1;cases g1
  |dD q k=>obtain⟨b',vs,rfl,g1,_⟩:=eP;simp only[dK,Option.some.injEq] at h4;subst h4;rw[hr] at g1;cases g1
  |bM e size els=>obtain⟨_,xs,g1,_⟩:=eP;obtain⟨cur,g2⟩:=g1.lt h4;rw[hr] at g2;cases g2
  |eH e m ns=>obtain⟨cur,g2⟩:=ga.lt eP h4;rw[hr] at g2;cases g2
 refine⟨h.nt,fun t=>(h.tmps t).ext he,⟨h.heap.len,fun q o v h1 h2=>?_,h.heap.sep⟩,h.cE,?_,?_,?_,h.ext.trans he⟩
 ·by_cases hl:o.live
  ·exact(h.heap.obj q o v h1 h2).ext he (by simp) fun b hb _=>hs b (pP q o v b h1 hl h2 hb)
  ·cases o<;>first|exact True.intro|exact(hl True.intro).elim
 ·refine⟨h.keeps.os,h.keeps.tape,h.keeps.output,by simpa using h.keeps.size,fun k hk hx=>?_⟩
  rw[hs k (by omega)];exact h.keeps.block k hk hx
 ·exact aD.pO _ _ _ (fun b hb=>hs b (by have:=aD.x b hb;omega)) (by simp) h.inv
 ·refine⟨fun d' eG=>?_,(ajf.1 h.marks.apart).2⟩
  obtain⟨r',g1,g2,g3⟩:=h.marks.all d' (aip _ eG)
  refine⟨r',g1,?_,g3⟩
  have bK:r'≠r:=by
   intro e
   subst e
   exact(ajf.1 h.marks.apart).1 d' eG (by rw[hd,g1])
  rw[hs r' bK];exact g2
theorem BN (aD:Γ.Ok) (hm0:∀r,Γ.m0 r→Γ.w0.heap.size≤r) {fn:Func} {ts:Array Value} {R:Ending→World→Prop} (My:∀w,Rel Γ s ⟨ts,[]⟩ w η→∃v,(results fn ts).run Γ.P w=.ok v w∧R (.returned v) w):∀(ds:List Deferred) (w:World),Rel Γ s ⟨ts,ds⟩ w η→
  LeavesInM Γ.eV 0 Γ.P fn ts R ds .returning w:=by
 intro ds
 induction ds with
 |nil=>intro w hr;exact My w hr
 |cons d ds ih=>
  intro w hr
  obtain⟨r,h1,h2,h3⟩:=hr.marks.all d aia
  exact⟨by simp,.inl ⟨r,_,h1,run_takeDeferred h2,ih _ (hr.shut aD h1 h2 (hm0 _ h3))⟩⟩
theorem BO {az:Nat→Option TD} (au:aT P az) {f:FuncId} {fn:Func} {c:Code} {args:List AV} {R:AV→Prop} (hf:P.funcs[f]?=some fn) (hb:fn.body=some c) (gI:(fn.name == "runtime.NumGoroutine")=false) (hn:args.length≤fn.ntmps)
  (h:∀Γ:Env Unit,Γ.Ok→Γ.P=P→fn.ntmps=Γ.nt→Γ.oQ.length=0→Γ.DK→eM Γ c (MR az fn.results.toList (fun r _=>R r)) ⟨cV 0 args,[],()⟩):Pure P f args R:=by
 refine⟨⟨fn,hf,gI,by rw[hb];rfl⟩,fun w F bB hF hg hv=>?_⟩
 let Γ:Env Unit:={ P:=P,w0:=w,F0:=F,X:=fun _=>False,Y:=fun _=>False,Inv:=fun _ _=>True,nt:=fn.ntmps,Bw:=none,m0:=fun r=>w.heap.size≤r,Z:=fun _ _=>False,zY:=[],oQ:=[] }
 have aD:Γ.Ok:=⟨rfl,fun _ h=>h.elim,fun _ h=>h.elim,fun _ _ _ _ _ h=>h,fun _ _ h=>h.elim,hg,fun _ _ h=>h.elim (fun h=>h) fun h=>h⟩
 have Qw:=hv.length
 have jQ:∀b o,F b o→bn Γ w [] [] b o:=fun b o hb=>⟨.inl hb,hF b o hb,fun h=>h.elim (fun h=>h) fun h=>h,fun r v hr=>by simp at hr⟩
 have BB:∀(l:List AV) (us:List Value) (k:Nat),cH w F [] [] l us→∀t,bw w (bn Γ w [] []) [] [] (cV k l t) (if t<k then undef else(us[t-k]?).getD undef)∨t<k:=by
  intro l
  induction l with
  |nil=>intro us k _ t;exact .inl (.top _)
  |cons x l ih=>
   intro us k hl t
   cases us with
   |nil=>exact hl.elim
   |cons u us=>
    by_cases UQ:t<k
    ·exact .inr UQ
    ·refine .inl ?_
     rw[if_neg UQ]
     simp only[cV,gL]
     by_cases UR:t=k
     ·subst UR
      rw[if_pos rfl,ajG]
      exact hl.1.bD jQ
     ·rw[if_neg UR]
      rcases ih us (k+1) hl.2 t with h1|h1
      ·rw[if_neg (by omega)] at h1
       have:t-k=(t-(k+1))+1:=by omega
       rw[this,aiB]
       exact h1
      ·omega
 have fQ:Rel Γ ⟨cV 0 args,[],()⟩ ⟨bB.toArray++Array.replicate (fn.ntmps-bB.toArray.size) undef,[]⟩ w []:=by
  refine⟨by simp[Γ];omega,fun t=>?_,⟨rfl,fun r o v h=>by simp at h,fun r r' o o' v v' b _ h=>by simp at h⟩,fun r o v b h=>by simp at h,cD.refl _ w,True.intro,⟨fun d hd=>(by cases hd),List.Pairwise.nil⟩,⟨fun _ _ _ _ h=>h,fun _ _ _ _ h=>h,jQ,fun _ _ h=>h,fun _ _ h=>h,fun _ _ _ h=>h⟩⟩
  have:=BB args bB 0 hv t
  simp only[ajX,if_false,or_false,Nat.sub_zero] at this
  have e:(bB.toArray++Array.replicate (fn.ntmps-bB.toArray.size) undef).getD t undef=(bB[t]?).getD undef:=by
   rw[aiu]
   by_cases ht:t<bB.length
   ·rw[ajO (by simpa using ht)];simp
   ·rw[Array.getElem?_append_right (by simpa using ht),aiG (by omega)]
    rw[ajT]
    split<;>rfl
  show bw w _ _ _ _ ((bB.toArray++Array.replicate (fn.ntmps-bB.toArray.size) undef).getD t undef)
  rw[e];exact this
 have kD:=h Γ aD rfl rfl rfl ⟨rfl,fun _ h=>h⟩ _ _ _ fQ
 refine callsIn_of_wp_marks (F:=Fence.wide) hf hb trivial (wpIn_mono (F:=Fence.wide) kD fun e a' w' ⟨s',aU,hq,fZ⟩=>?_)
 have fin:(∃l,eW az s' fn.results.toList=some l∧R ((ij l).qN s'.hp))→LeavesInM Fence.wide 0 P fn a'.tmps (fun e w'=>∃v r,e=.returned v∧R r∧bX w w'∧bw w' (Ho F w w') [] [] r v) a'.defers .returning w':=by
  intro ⟨l,hl,hR⟩
  have:=BN (Γ:=Γ) (s:=s') (η:=aU) (fn:=fn) (ts:=a'.tmps) (R:=fun e w'=>∃v r,e=.returned v∧R r∧bX w w'∧bw w' (Ho F w w') [] [] r v) aD (fun _ h=>h) (fun w2 nH=>by
   obtain⟨v,h1,h2⟩:=lZ au nH hl
   refine⟨v,h1,v,_,rfl,hR,nH.keeps.same fun b _ hx=>by rcases hx with h|h<;>exact h,?_⟩
   refine D7 nH.heap nH.cE (fun b o hf=>?_) (fun b o hb ay=>hb.elim (fun hb=>.inr ⟨hb,ay⟩) fun hb=>hb.elim) h2
   rcases hf.1 with h3|h3|h3
   ·exact .inl h3
   ·exact .inr ⟨h3,hf.2.1⟩
   ·exact h3.elim) a'.defers w' fZ
  exact this
 cases e with
 |normal=>
  simp only[MR] at hq
  split at hq
  ·rename_i l hl;exact fin ⟨l,hl,hq⟩
  ·exact hq.elim
 |ret=>
  simp only[MR] at hq
  split at hq
  ·rename_i l hl;exact fin ⟨l,hl,hq⟩
  ·exact hq.elim
 |_=>exact hq.elim
end Go.Proofs.YtjhanogfpkbamaaGreatDoor
