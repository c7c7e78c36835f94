/- Texts of ours laid together for a claim: FilZ. -/
import Derived.RangeFuncRecord
import Derived.Test.YtjhanogfpkbamaaGreatDoorQ25
namespace Go.Proofs.YtjhanogfpkbamaaGreatDoor
open Go
set_option linter.unusedSimpArgs false
set_option linter.unusedVariables false
variable {P:Program} {Γ:Env Unit} {s s':AS Unit} {a:Act} {w w' w2:World} {η aU:List Value} {hp hp':List af} {F:Cells}
theorem AQ (h:eI w F η hp) {b:Nat} (hl:aQ η hp b):(∃vs T p,w.heap[b]?=some (.cells vs T p))∨∃en c,w.heap[b]?=some (.map en c):=by
 obtain⟨r,o,v,g1,g2,g3,g4⟩:=hl
 have eP:=h.obj r o v g1 g3
 cases o with
 |dead=>exact g2.elim
 |box cs=>obtain⟨b',vs,T,rfl,h1,_⟩:=eP;simp only[dK,Option.some.injEq] at g4;subst g4;exact .inl ⟨_,_,_,h1⟩
 |row e size els=>
  obtain⟨_,xs,h1,_⟩:=eP
  obtain⟨cur,h5⟩:=h1.lt g4
  exact .inl ⟨_,_,_,h5⟩
 |cQ es=>obtain⟨b',en,c,rfl,h1,_⟩:=eP;simp only[dK,Option.some.injEq] at g4;subst g4;exact .inr ⟨_,_,h1⟩
 |dD q k=>obtain⟨b',vs,rfl,h1,_⟩:=eP;simp only[dK,Option.some.injEq] at g4;subst g4;exact .inl ⟨_,_,_,h1⟩
 |bM e size els=>
  obtain⟨_,xs,h1,_⟩:=eP
  obtain⟨cur,h5⟩:=h1.lt g4
  exact .inl ⟨_,_,_,h5⟩
 |eH e m ns=>
  obtain⟨cur,h5⟩:=ga.lt eP g4
  exact .inl ⟨_,_,_,h5⟩
theorem AR (h:eI w F η hp) {l:Nat} {r:Loop} (hl:w.heap[l]?=some (.loop r)):¬aQ η hp l:=by
 intro hb
 rcases AQ h hb with⟨_,_,_,h1⟩|⟨_,_,h1⟩<;>rw[hl] at h1<;>cases h1
theorem EN (h:eI w F η hp) {l:Nat} {r:Option (List Deferred)} (hl:w.heap[l]?=some (.deferred r)):¬aQ η hp l:=by
 intro hb
 rcases AQ h hb with⟨_,_,_,h1⟩|⟨_,_,h1⟩<;>rw[hl] at h1<;>cases h1
theorem nq (hlen:η.length=hp.length) {b o:Nat} (h:¬aQ η hp b):mB η hp b o:=by
 refine(aZ b o).2 fun q u hu Mg=>?_
 have hq:q<hp.length:=by rw[←hlen];exact(ahY.1 hu).1
 have hg:hp[q]?=some hp[q]:=by simp[hq]
 refine⟨_,hg,?_⟩
 cases hx:hp[q] with
 |dead=>exact True.intro
 |_=>
  exfalso
  rw[hx] at hg
  exact h ⟨q,_,u,hg,True.intro,hu,Mg⟩
theorem Rel.Vg (hr:Rel Γ s a w η) {l:Nat} {r:Loop} (hx:Γ.X l) (hl:w.heap[l]?=some (.loop r)) (ob:Obj) {I:Unit→World→Prop} (hI:I () (w.putObj l ob)):Rel { Γ with Inv:=I } s a (w.putObj l ob) η:=by
 have hs:∀k,k≠l→(w.putObj l ob).heap[k]?=w.heap[k]?:=fun k hk=>World.putObj_heap_other hk
 have he:Ext w (bn Γ w η s.hp) η s.hp (w.putObj l ob) (bn { Γ with Inv:=I } (w.putObj l ob) η s.hp) η s.hp:=by
  refine⟨fun b o v hf hc=>?_,fun b es c hf hc=>?_,fun b o hf=>⟨hf.1,by simpa using hf.2.1,hf.2.2⟩,fun _ _ h=>h,fun _ _ h=>h,fun _ _ _ h=>h⟩
  ·rw[World.cell?_of_block (hs b fun e=>hf.2.2.1 (.inl (e▸hx)))];exact hc
  ·rw[hs b fun e=>hf.2.2.1 (.inl (e▸hx))];exact hc
 have AB:∀(q:Nat) (o:af) (v:Value) (b:Nat),s.hp[q]?=some o→o.live→η[q]?=some v→dK v=some b→b≠l:=by
  intro q o v b h1 h2 h3 h4 hb
  subst hb
  exact(hr.cE q o v b h1 h2 h3 h4).2 0 (.inl hx)
 refine⟨hr.nt,fun t=>(hr.tmps t).ext he,⟨hr.heap.len,fun q o v h1 h2=>?_,hr.heap.sep⟩,hr.cE,?_,hI,?_,hr.ext.trans he⟩
 ·by_cases hv:o.live
  ·exact(hr.heap.obj q o v h1 h2).ext he (by simp) fun b hb _=>hs b (AB q o v b h1 hv h2 hb)
  ·cases o<;>first|exact True.intro|exact(hv True.intro).elim
 ·refine⟨hr.keeps.os,hr.keeps.tape,hr.keeps.output,by simpa using hr.keeps.size,fun k hk QD=>?_⟩
  rw[hs k fun e=>QD (.inl (e▸hx))]
  exact hr.keeps.block k hk QD
 ·refine⟨fun d hd=>?_,hr.marks.apart⟩
  obtain⟨q,h1,h2,h3⟩:=hr.marks.all d hd
  refine⟨q,h1,?_,h3⟩
  rw[hs q fun e=>by subst e;rw[hl] at h2;cases h2]
  exact h2
def tM:List Nat→List AV→(Nat→AV)→Nat→AV
 |p::ps,x::xs,f=>tM ps xs (Bx f p x)
 |_,_,f=>f
theorem Lc {x:List AV}:∀(ps:List Nat) (xs:List AV) (f:Nat→AV) (ts:Array Value) (vs:List Value),(∀p∈ps,p<ts.size)→(∀t,bw w F η hp (f t) (ts.getD t undef))→cH w F η hp xs vs→
  ∀t,bw w F η hp (tM ps xs f t) (((ps.zip vs).foldl (fun t (p,v)=>t.setIfInBounds p v) ts).getD t undef):=by
 intro ps
 induction ps with
 |nil=>intro xs f ts vs _ hf _ t;simp only[tM,List.zip_nil_left,List.foldl_nil];exact hf t
 |cons p ps ih=>
  intro xs f ts vs Vh hf hx t
  cases xs with
  |nil=>
   cases vs with
   |nil=>simp only[tM,List.zip_nil_right,List.foldl_nil];exact hf t
   |cons v vs=>exact hx.elim
  |cons x xs=>
   cases vs with
   |nil=>exact hx.elim
   |cons v vs=>
    simp only[tM,List.zip_cons_cons,List.foldl_cons]
    refine ih xs (Bx f p x) (ts.setIfInBounds p v) vs (fun q hq=>by rw[Array.size_setIfInBounds];exact Vh q (aip _ hq)) (fun t=>?_) hx.2 t
    have hp:=Vh p aia
    rw[gL]
    by_cases htp:t=p
    ·subst htp
     rw[if_pos rfl]
     have e:(ts.setIfInBounds t v).getD t undef=v:=by simp[hp]
     rw[e];exact hx.1
    ·rw[if_neg htp]
     have e:(ts.setIfInBounds p v).getD t undef=ts.getD t undef:=by
      simp only[aiu]
      rw[ajo (ajz htp)]
     rw[e];exact hf t
theorem AU:∀(l:List (Nat×Value)) (ts:Array Value),(l.foldl (fun t (p,v)=>t.setIfInBounds p v) ts).size=ts.size
 | [],_=>rfl
 |(p,v)::l,ts=>by rw[List.foldl_cons,AU l];simp
def HQ:Code→Exit→Prop
 | .ret,e=>e=.ret
 | .exit id,e=>e=.exit id
 |_,_=>False
def NU (lQ:Env Unit) (H:List (List AV)→List af→Prop) (rest:List (List AV)) (Q:Exit→AS Unit→Prop) (f:Nat→AV):Exit→AS Unit→Prop
 | .normal,s'=>∃hp,cT lQ s' ⟨fun _=>.top,hp,()⟩∧H rest hp
 | .ret,s'=>Q .ret ⟨f,s'.hp,()⟩
 | .exit id,s'=>Q (.exit id) ⟨f,s'.hp,()⟩
 |_,_=>False
def noQ:Exit→AS Unit→Prop:=fun _ _=>False
structure iX (Γ:Env Unit) (n:Nat) (lQ:Env Unit):Prop where
 ok:lQ.Ok
 hP:lQ.P=Γ.P
 nt:lQ.nt=Γ.nt
 h0:lQ.oQ.length=n
structure RJ (η:List Value) (hp:List af) (F1:Cells) (w:World) (rec:LoopState→Option Code→Loop) (m:Nat) (H:List (List AV)→List af→Prop) (S:Exit→List af→Prop)
  (D:Cells) (Y:Nat→Prop) (gh:Gh) (W:World) (F:Cells) (aU:List Value) (hp':List af):Prop where
 pre:Eb W F aU hp'
 keeps:cD (aQ η hp) w W
 ext:Ext w F1 η hp W F aU hp'
 cE:∀b,aQ aU hp' b→w.heap.size≤b∨aQ η hp b
 bD:∀b o,F b o→F1 b o∨w.heap.size≤b∨aQ η hp b
 NV:∀b o,F b o→b≠w.heap.size+1
 df:∀b o,D b o→F b o
 y:∀b,Y b→b<W.heap.size∧¬aQ aU hp' b∧w.heap.size+2≤b
 fy:∀b o,F b o→Y b→D b o
 size:w.heap.size+2≤W.heap.size
 gw:∀b,nJ b→b<w.heap.size
 db:W.heap[w.heap.size]?=some (.deferred (some []))
 st:match gh with
  |some rest=>W.heap[w.heap.size+1]?=some (.loop (rec .ready none))∧H rest hp'∧∀x∈rest,x.length=m
  |none=>∃c e,W.heap[w.heap.size+1]?=some (.loop (rec .done (some c)))∧HQ c e∧S e hp'
variable {F1 D D':Cells} {Y Y':Nat→Prop} {gh:Gh} {W W':World} {rec:LoopState→Option Code→Loop} {m:Nat} {H:List (List AV)→List af→Prop} {S:Exit→List af→Prop}
theorem RJ.Lb (h:RJ η hp F1 w rec m H S D Y gh W F aU hp') (k:Adv D Y W D' Y' W'):RJ η hp F1 w rec m H S D' Y' gh W' (fun b o=>F b o∨D' b o) aU hp':=by
 have hE:Ext W F aU hp' W' (fun b o=>F b o∨D' b o) aU hp':=by
  refine⟨fun b o v hf hc=>?_,fun b es c hf hc=>?_,fun b o hf=>.inl hf,fun _ _ h=>h,fun _ _ h=>h,fun _ _ _ h=>h⟩
  ·by_cases hy:Y b
   ·exact k.cell b o v (h.fy b o hf hy) hc
   ·rw[World.cell?_of_block (k.same.block b (h.pre.bD b o hf).1 hy)];exact hc
  ·by_cases hy:Y b
   ·exact k.kJ b es c (h.fy b 0 hf hy) hc
   ·rw[k.same.block b (h.pre.bD b 0 hf).1 hy];exact hc
 have cJ:=k.same.size
 have U7:∀b,W.heap.size≤b→¬aQ aU hp' b:=fun b hb hl=>by have:=h.pre.live b hl;omega
 have hly:∀b,aQ aU hp' b→¬Y b:=fun b hl hy=>(h.y b hy).2.1 hl
 have U8:¬Y (w.heap.size+1):=fun hy=>by have:=(h.y _ hy).2.2;omega
 have qL:¬Y w.heap.size:=fun hy=>by have:=(h.y _ hy).2.2;omega
 have UM:=h.size
 refine⟨⟨fun b o hf=>?_,⟨h.pre.heap.len,fun q o v h1 h2=>?_,h.pre.heap.sep⟩,fun b hb=>aiD (h.pre.live b hb) cJ,h.pre.kg.keeps k.same fun b hb hy=>(by have:=(h.y b hy).2.2;have:=h.gw b hb;omega),h.pre.gx⟩,h.keeps.trans k.same fun i hi hy=>?_,h.ext.trans hE,h.cE,fun b o hf=>?_,fun b o hf=>?_,fun b o hd=>.inr hd,fun b hb=>?_,fun b o hf hy=>?_,by omega,h.gw,?_,?_⟩
 ·rcases hf with hf|hd
  ·exact⟨aiD (h.pre.bD b o hf).1 cJ,(h.pre.bD b o hf).2⟩
  ·obtain⟨h1,h2⟩:=k.back b o hd
   refine⟨h2,?_⟩
   rcases h1 with h1|h1|h1
   ·exact(h.pre.bD b o (h.df b o h1)).2
   ·exact nq h.pre.heap.len (h.y b h1).2.1
   ·exact nq h.pre.heap.len (U7 b h1)
 ·by_cases hv:o.live
  ·exact(h.pre.heap.obj q o v h1 h2).ext hE cJ fun b hb ay=>k.same.block b ay (hly b ⟨q,o,v,h1,hv,h2,hb⟩)
  ·cases o<;>first|exact True.intro|exact(hv True.intro).elim
 ·have:=(h.y i hy).2.2;omega
 ·rcases hf with hf|hd
  ·exact h.bD b o hf
  ·rcases (k.back b o hd).1 with h1|h1|h1
   ·exact h.bD b o (h.df b o h1)
   ·exact .inr (.inl (by have:=(h.y b h1).2.2;omega))
   ·exact .inr (.inl (by omega))
 ·rcases hf with hf|hd
  ·exact h.NV b o hf
  ·rcases (k.back b o hd).1 with h1|h1|h1
   ·exact h.NV b o (h.df b o h1)
   ·have:=(h.y b h1).2.2;omega
   ·omega
 ·obtain⟨h1,h2⟩:=k.Ve b hb
  refine⟨h2,?_,?_⟩
  ·rcases h1 with h1|h1
   ·exact(h.y b h1).2.1
   ·exact U7 b h1
  ·rcases h1 with h1|h1
   ·exact(h.y b h1).2.2
   ·omega
 ·rcases hf with hf|hd
  ·rcases (k.Ve b hy).1 with h1|h1
   ·exact k.bD b o (h.fy b o hf h1)
   ·have:=(h.pre.bD b o hf).1;omega
  ·exact hd
 ·rw[k.same.block _ (by omega) qL];exact h.db
 ·have BB:=h.st
  have e:W'.heap[w.heap.size+1]?=W.heap[w.heap.size+1]?:=k.same.block _ (by omega) U8
  cases gh with
  |some rest=>simp only[e];exact BB
  |none=>simp only[e];exact BB
def iY (Γ:Env Unit) (W:World) (F:Cells) (aU:List Value) (hp':List af) (l:Nat) (I:Unit→World→Prop):Env Unit:=
 { P:=Γ.P,w0:=W,F0:=F,X:=fun b=>b=l,Y:=aQ aU hp',Inv:=I,nt:=Γ.nt,Bw:=some l,m0:=fun r=>W.heap.size≤r,Z:=fun _ _=>False,zY:=aU,oQ:=hp' }
theorem RJ.after (h:RJ η hp F1 w rec m H S D Y gh W F aU hp') (hD:∀b o,D b o→b<W.heap.size) {I:Unit→World→Prop} {f3:Nat→AV} {a3:Act} {w3:World} {L8:List Value} {pM:List af} (hr:Rel (iY Γ W F aU hp' (w.heap.size+1) I) ⟨f3,pM,()⟩ a3 w3 L8)
  {r:Loop} (hl:w3.heap[w.heap.size+1]?=some (.loop r)) (ob:Loop) {Yl:Gh} (BB:∀W':World,W'.heap[w.heap.size+1]?=some (.loop ob)→match Yl with
   |some rest=>W'.heap[w.heap.size+1]?=some (.loop (rec .ready none))∧H rest pM∧∀x∈rest,x.length=m
   |none=>∃c e,W'.heap[w.heap.size+1]?=some (.loop (rec .done (some c)))∧HQ c e∧S e pM):
  RJ η hp F1 w rec m H S D Y Yl (w3.putObj (w.heap.size+1) (.loop ob)) (bn (iY Γ W F aU hp' (w.heap.size+1) (fun _ _=>True)) (w3.putObj (w.heap.size+1) (.loop ob)) L8 pM) L8 pM∧
   Left D Y W D (w3.putObj (w.heap.size+1) (.loop ob)):=by
 have UM:=h.size
 have ay:w.heap.size+1<w3.heap.size:=bY hl
 have Xt:Rel (iY Γ W F aU hp' (w.heap.size+1) (fun _ _=>True)) ⟨f3,pM,()⟩ a3 (w3.putObj (w.heap.size+1) (.loop ob)) L8:=hr.Vg (I:=fun _ _=>True) rfl hl (.loop ob) True.intro
 have AW:cD (fun b=>b=w.heap.size+1∨aQ aU hp' b) W (w3.putObj (w.heap.size+1) (.loop ob)):=Xt.keeps
 have cJ:=AW.size
 have fI:Ext W F aU hp' (w3.putObj (w.heap.size+1) (.loop ob)) (bn (iY Γ W F aU hp' (w.heap.size+1) (fun _ _=>True)) (w3.putObj (w.heap.size+1) (.loop ob)) L8 pM) L8 pM:=Xt.ext
 have NW:∀b,aQ L8 pM b→(W.heap.size≤b∨aQ aU hp' b)∧b≠w.heap.size+1:=fun b ⟨q,o,v,g1,g2,g3,g4⟩=>
  ⟨(Xt.cE q o v b g1 g2 g3 g4).1,fun e=>(Xt.cE q o v b g1 g2 g3 g4).2 0 (.inl e)⟩
 have ab8:∀b,aQ L8 pM b→b<(w3.putObj (w.heap.size+1) (.loop ob)).heap.size:=fun b ⟨q,o,v,g1,g2,g3,g4⟩=>Xt.heap.block g1 g2 g3 g4
 have hgk:∀b,nJ b→¬(b=w.heap.size+1∨aQ aU hp' b):=fun b hb hx=>hx.elim (fun e=>by have:=h.gw b hb;omega) (h.pre.gx b hb)
 refine⟨⟨⟨fun b o hf=>⟨hf.2.1,hf.2.2.2⟩,Xt.heap,ab8,h.pre.kg.keeps AW hgk,fun b hb hl=>(NW b hl).1.elim (fun h1=>by have:=h.gw b hb;omega) (h.pre.gx b hb)⟩,h.keeps.trans AW fun i hi hx=>?_,h.ext.trans fI,fun b hb=>?_,fun b o hf=>?_,fun b o hf e=>hf.2.2.1 (.inl e),fun b o hd=>fI.bD _ _ (h.df b o hd),fun b hb=>⟨?_,fun hl=>?_,(h.y b hb).2.2⟩,fun b o hf hy=>?_,by omega,h.gw,?_,?_⟩,
  cJ,fun b o v hd hc=>fI.cell b o v (h.df b o hd) hc,fun b es c hd hc=>fI.kJ b es c (h.df b 0 hd) hc,fun b hb=>?_,fun _ _ h=>h,fun b o hd=>⟨.inl hd,?_⟩,fun b hb=>AW.block b (by have:=h.gw b hb;omega) (hgk b hb)⟩
 ·rcases hx with rfl|hx
  ·omega
  ·rcases h.cE i hx with h1|h1
   ·omega
   ·exact h1
 ·rcases (NW b hb).1 with h1|h1
  ·exact .inl (by omega)
  ·exact h.cE b h1
 ·rcases hf.1 with h1|h1|h1
  ·exact h.bD b o h1
  ·have h1':W.heap.size≤b:=h1
   exact .inr (.inl (by omega))
  ·exact(h.cE b h1).imp (fun h=>.inl h) (fun h=>h) |>.elim (fun h=>.inr h) fun h=>.inr (.inr h)
 ·have:=(h.y b hb).1;omega
 ·rcases (NW b hl).1 with h1|h1
  ·have:=(h.y b hb).1;omega
  ·exact(h.y b hb).2.1 h1
 ·rcases hf.1 with h1|h1|h1
  ·exact h.fy b o h1 hy
  ·have h1':W.heap.size≤b:=h1
   have:=(h.y b hy).1;omega
  ·exact((h.y b hy).2.1 h1).elim
 ·rw[AW.block _ (by omega) fun hx=>hx.elim (fun e=>by omega) fun hx=>EN h.pre.heap h.db hx]
  exact h.db
 ·exact BB _ (World.putObj_heap_same ay)
 ·have:=h.y b hb
  exact AW.block b this.1 fun hx=>hx.elim (fun e=>by omega) this.2.1
 ·have:=hD b o hd;omega
theorem Ru (ps:Array Nat) (bB:List Value) (ts:Array Value):(ps.zip bB.toArray).foldl (fun tmps (t,a)=>tmps.setIfInBounds t a) ts=(ps.toList.zip bB).foldl (fun t (p,v)=>t.setIfInBounds p v) ts:=by
 rw[←Array.foldl_toList]
 simp
theorem RJ.round {ps:Array Tmp} {yY body:Code} {fn:Nat} {Q:Exit→AS Unit→Prop} {f:Nat→AV} (ha:a.tmps.size=Γ.nt) (Vh:∀p∈ps.toList,p<Γ.nt) (hf:∀t,bw w F1 η hp (f t) (a.tmps.getD t undef))
  (lR:rec=fun st pe=>{ state:=st,pending:=pe,fn:=fn,tmps:=a.tmps,params:=ps,assign:=yY,body:=body,defers:=w.heap.size })
  (sA:∀x rest hp,H (x::rest) hp→∃N:AS Unit→Prop,(∀lQ,iX Γ hp.length lQ→eM lQ yY (rN N noQ) ⟨tM ps.toList x f,hp,()⟩)∧∀s1,N s1→∀lQ,iX Γ hp.length lQ→eM lQ body (NU lQ H rest Q f) s1)
  {x:List AV} {rest:List (List AV)} {bB:List Value} (h:RJ η hp F1 w rec ps.size H (fun e hp=>Q e ⟨f,hp,()⟩) D Y (some (x::rest)) W F aU hp') (hD:∀b o,D b o→b<W.heap.size) (hv:cH W D [] [] x bB):
  NN Γ.P (.func (.yield (w.heap.size+1)) #[] #[]) bB W fun e w'=>∃b,e=.returned (.bool b)∧(∃F aU hp',RJ η hp F1 w rec ps.size H (fun e hp=>Q e ⟨f,hp,()⟩) D Y (gT b rest) w' F aU hp')∧Left D Y W D w':=by
 generalize hR:(fun(e:Ending) (w':World)=>∃b,e=.returned (.bool b)∧(∃F aU hp',RJ η hp F1 w rec ps.size H (fun e hp=>Q e ⟨f,hp,()⟩) D Y (gT b rest) w' F aU hp')∧Left D Y W D w')=R
 obtain⟨hl,hH,hlen⟩:=h.st
 have UM:=h.size
 have Qw:=hv.length
 have hxl:=hlen x aia
 have hy:=run_yield (P:=Γ.P) (args:=bB.toArray) hl (by rw[lR];simp;omega)
 refine⟨_,_,_,_,_,rfl,hy,roundIn_of_wpIn (F:=Fence.wide) (P:=Γ.P) trivial ?_⟩
 obtain⟨N,ab9,kD⟩:=sA x rest hp' hH
 rw[lR]
 simp only[Ru]
 have Ym:∀I:Unit→World→Prop,(∀(w1 w2:World),w2.heap[w.heap.size+1]?=w1.heap[w.heap.size+1]?→I () w1→I () w2)→iX Γ hp'.length (iY Γ W F aU hp' (w.heap.size+1) I):=fun I hI=>
  ⟨⟨h.pre.heap.len,fun b hb=>by have:b=w.heap.size+1:=hb;show b<W.heap.size;omega,h.pre.live,fun g w1 w2 hx _ hi=>hI w1 w2 (hx _ rfl) hi,fun _ _ h=>h.elim,h.pre.kg,fun b hb hx=>hx.elim (fun e=>by have:b=w.heap.size+1:=e;have:=h.gw b hb;omega) (h.pre.gx b hb)⟩,rfl,rfl,rfl⟩
 have U7:=AR h.pre.heap hl
 have Eh:∀(I:Unit→World→Prop) b o,F b o→bn (iY Γ W F aU hp' (w.heap.size+1) I) W aU hp' b o:=fun I b o hf=>⟨.inl hf,(h.pre.bD b o hf).1,fun hx=>hx.elim (fun e=>h.NV b o hf e) fun h=>h,(h.pre.bD b o hf).2⟩
 let I1:Unit→World→Prop:=fun _ w1=>w1.heap[w.heap.size+1]?=some (.loop (rec .ready none))
 let I2:Unit→World→Prop:=fun _ w1=>w1.heap[w.heap.size+1]?=some (.loop { rec .ready none with state:=.busy })
 have hE:Ext W F aU hp' W (bn (iY Γ W F aU hp' (w.heap.size+1) I1) W aU hp') aU hp':=⟨fun _ _ _ _ h=>h,fun _ _ _ _ h=>h,Eh I1,fun _ _ h=>h,fun _ _ h=>h,fun _ _ _ h=>h⟩
 have fQ:Rel (iY Γ W F aU hp' (w.heap.size+1) I1) ⟨tM ps.toList x f,hp',()⟩ ⟨(ps.toList.zip bB).foldl (fun t (p,v)=>t.setIfInBounds p v) a.tmps,[]⟩ W aU:=by
  refine⟨by rw[AU];exact ha,Lc (x:=x) ps.toList x f a.tmps bB (fun p hp=>by rw[ha];exact Vh p hp) (fun t=>((hf t).ext h.ext).ext hE) ?_,⟨h.pre.heap.len,fun q o v h1 h2=>(h.pre.heap.obj q o v h1 h2).ext hE (ah5 _) fun _ _ _=>rfl,h.pre.heap.sep⟩,
   fun q o v b h1 h2 h3 h4=>⟨.inr ⟨q,o,v,h1,h2,h3,h4⟩,fun _ hx=>hx.elim (fun e=>U7 (e▸⟨q,o,v,h1,h2,h3,h4⟩)) fun h=>h⟩,cD.refl _ _,hl,⟨fun d hd=>(by cases hd),List.Pairwise.nil⟩,hE⟩
  exact dF hv.length fun j y u hy hu=>((hv.get j y u hy hu).bD fun b o hd=>Eh I1 b o (h.df b o hd)).lift
 have h1:=ab9 _ (Ym I1 fun w1 w2 e hi=>by show w2.heap[_]?=_;rw[e];exact hi) _ _ _ fQ
 refine wpIn_mono (F:=Fence.wide.inRound (w.heap.size+1)) h1 fun e a1 w1 ⟨s1,pL,hN,GY⟩=>?_
 cases e with
 |normal=>
  have DA:w1.heap[w.heap.size+1]?=some (.loop (rec .ready none)):=GY.inv
  have Nh:w.heap.size+1<w1.heap.size:=bY DA
  refine⟨_,run_beginRound DA (by rw[lR]),?_⟩
  have nH:Rel (iY Γ W F aU hp' (w.heap.size+1) I2) s1 a1 (w1.putObj (w.heap.size+1) (.loop { rec .ready none with state:=.busy })) pL:=GY.Vg (I:=I2) rfl DA _ (World.putObj_heap_same Nh)
  have h2:=kD s1 hN _ (Ym I2 fun w1 w2 e hi=>by show w2.heap[_]?=_;rw[e];exact hi) _ _ _ nH
  refine wpIn_mono (F:=Fence.wide.inRound (w.heap.size+1)) h2 fun e a3 w3 ⟨s3,L8,hq,Hw⟩=>?_
  have US:w3.heap[w.heap.size+1]?=some (.loop { rec .ready none with state:=.busy }):=Hw.inv
  cases e with
  |normal=>
   obtain⟨pM,hw,hH3⟩:=hq
   obtain⟨η4,hr4⟩:=hw _ _ _ Hw
   have Vi:=RJ.after (Yl:=some rest) h hD hr4 US (rec .ready none) fun W' QE=>⟨QE,hH3,fun y hy=>hlen y (aip _ hy)⟩
   have he:=run_endRound (P:=Γ.P) none US
   have e2:({ { rec .ready none with state:=.busy } with state:=if(none:Option Code).isNone then .ready else .done,pending:=none }:Loop)=rec .ready none:=by rw[lR];rfl
   rw[e2] at he
   exact⟨_,_,he,by rw[←hR];exact⟨true,rfl,⟨_,_,_,Vi.1⟩,Vi.2⟩⟩
  |ret=>
   have Vi:=RJ.after (Yl:=none) h hD (f3:=s3.tmps) (pM:=s3.hp) Hw US (rec .done (some .ret)) fun W' QE=>⟨.ret,.ret,QE,rfl,hq⟩
   have he:=run_endRound (P:=Γ.P) (some .ret) US
   have e2:({ { rec .ready none with state:=.busy } with state:=if(some Code.ret).isNone then .ready else .done,pending:=some .ret }:Loop)=rec .done (some .ret):=by rw[lR];rfl
   rw[e2] at he
   exact⟨_,_,he,by rw[←hR];exact⟨false,rfl,⟨_,_,_,Vi.1⟩,Vi.2⟩⟩
  |exit id=>
   have Vi:=RJ.after (Yl:=none) h hD (f3:=s3.tmps) (pM:=s3.hp) Hw US (rec .done (some (.exit id))) fun W' QE=>⟨.exit id,.exit id,QE,rfl,hq⟩
   have he:=run_endRound (P:=Γ.P) (some (.exit id)) US
   have e2:({ { rec .ready none with state:=.busy } with state:=if(some (Code.exit id)).isNone then .ready else .done,pending:=some (.exit id) }:Loop)=rec .done (some (.exit id)):=by rw[lR];rfl
   rw[e2] at he
   exact⟨_,_,he,by rw[←hR];exact⟨false,rfl,⟨_,_,_,Vi.1⟩,Vi.2⟩⟩
  |_=>exact hq.elim
 |_=>exact hN.elim
theorem RJ.back (aD:Γ.Ok) (cU:Γ.DK) (hr:Rel Γ s a w η) (h:RJ η s.hp (bn Γ w η s.hp) w rec m H S D Y gh W F aU hp') {r:Loop} (hl:W.heap[w.heap.size+1]?=some (.loop r)) (ob:Loop):
  Rel Γ ⟨s.tmps,hp',()⟩ { a with defers:={ target:=.collected w.heap.size,args:=#[] }::a.defers } (W.putObj (w.heap.size+1) (.loop ob)) aU:=by
 have hs:∀k,k≠w.heap.size+1→(W.putObj (w.heap.size+1) (.loop ob)).heap[k]?=W.heap[k]?:=fun k hk=>World.putObj_heap_other hk
 have cJ:=hr.keeps.size
 have UM:=h.size
 have fo:∀b,aQ η s.hp b→(Γ.w0.heap.size≤b∨Γ.Y b)∧∀o,¬Γ.No b o:=fun b ⟨q,o,v,g1,g2,g3,g4⟩=>hr.cE q o v b g1 g2 g3 g4
 have Eh:∀b o,F b o→bn Γ (W.putObj (w.heap.size+1) (.loop ob)) aU hp' b o:=by
  intro b o hf
  have h1:=h.pre.bD b o hf
  refine⟨?_,by simpa using h1.1,?_,h1.2⟩
  ·rcases h.bD b o hf with g|g|g
   ·exact g.1
   ·exact .inr (.inl (by omega))
   ·exact .inr (fo b g).1
  ·rcases h.bD b o hf with g|g|g
   ·exact g.2.2.1
   ·intro hx;have:=aD.no hx;omega
   ·exact(fo b g).2 o
 have hE:Ext W F aU hp' (W.putObj (w.heap.size+1) (.loop ob)) (bn Γ (W.putObj (w.heap.size+1) (.loop ob)) aU hp') aU hp':=by
  refine⟨fun b o v hf hc=>?_,fun b es c hf hc=>?_,Eh,fun _ _ h=>h,fun _ _ h=>h,fun _ _ _ h=>h⟩
  ·rw[World.cell?_of_block (hs b (h.NV b o hf))];exact hc
  ·rw[hs b (h.NV b 0 hf)];exact hc
 have hET:=h.ext.trans hE
 have AB:∀b,aQ aU hp' b→b≠w.heap.size+1:=fun b hb e=>AR h.pre.heap hl (e▸hb)
 refine⟨hr.nt,fun t=>(hr.tmps t).ext hET,⟨h.pre.heap.len,fun q o v h1 h2=>?_,h.pre.heap.sep⟩,fun q o v b h1 h2 h3 h4=>?_,?_,?_,?_,hr.ext.trans hET⟩
 ·by_cases hv:o.live
  ·exact(h.pre.heap.obj q o v h1 h2).ext hE (by simp) fun b hb _=>hs b (AB b ⟨q,o,v,h1,hv,h2,hb⟩)
  ·cases o<;>first|exact True.intro|exact(hv True.intro).elim
 ·rcases h.cE b ⟨q,o,v,h1,h2,h3,h4⟩ with g|g
  ·exact⟨.inl (by omega),fun o hx=>by have:=aD.no hx;omega⟩
  ·exact fo b g
 ·refine⟨h.keeps.os.trans hr.keeps.os,h.keeps.tape.trans hr.keeps.tape,h.keeps.output.trans hr.keeps.output,by simp;omega,fun k hk hx=>?_⟩
  rw[hs k (by omega),h.keeps.block k (by omega) fun hl=>?_]
  ·exact hr.keeps.block k hk hx
  ·rcases (fo k hl).1 with g|g
   ·omega
   ·exact hx (.inr g)
 ·refine aD.pO _ _ _ (fun b hb=>?_) (by simp;omega) hr.inv
  have hb0:=aD.x b hb
  rw[hs b (by omega),h.keeps.block b (by omega) fun hl=>(fo b hl).2 0 (.inl hb)]
 ·refine⟨fun d hd=>?_,ajf.2 ⟨fun d hd=>?_,hr.marks.apart⟩⟩
  ·rcases aiC.1 hd with rfl|hd
   ·exact⟨_,rfl,by rw[hs _ (by omega)];exact h.db,cU.2 _ cJ⟩
   ·obtain⟨q,g1,g2,g3⟩:=hr.marks.all d hd
    have hq:=bY g2
    refine⟨q,g1,?_,g3⟩
    rw[hs q (by omega),h.keeps.block q hq fun hl=>EN hr.heap g2 hl]
    exact g2
  ·obtain⟨q,g1,g2,g3⟩:=hr.marks.all d hd
   have hq:=bY g2
   rw[g1]
   simp
   omega
theorem eM.range (aD:Γ.Ok) (cU:Γ.DK) {g:Operand} {ps:Array Tmp} {yY body:Code} {Q:Exit→AS Unit→Prop} {gf:Nat} {caps:List AV} {L:List (List AV)} (hg:s.ev g=.ck gf caps) (Yn:NP Γ.P gf (fun v=>v::caps.map (AV.sn 0 s.hp)) L false)
  (hlen:∀x∈L,x.length=ps.size) (Vh:∀p∈ps.toList,p<Γ.nt) (H:List (List AV)→List af→Prop) (h0:H L s.hp)
  (sA:∀x rest hp,H (x::rest) hp→∃N:AS Unit→Prop,(∀lQ,iX Γ hp.length lQ→eM lQ yY (rN N noQ) ⟨tM ps.toList x s.tmps,hp,()⟩)∧∀s1,N s1→∀lQ,iX Γ hp.length lQ→eM lQ body (NU lQ H rest Q s.tmps) s1)
  (y6:∀hp,H [] hp→Q .normal ⟨s.tmps,hp,()⟩):eM Γ (.rangeFunc g ps yY body) Q s:=by
 intro a w η hr
 refine wpIn_rangeFunc fun fn Xs=>?_
 have ry:Γ.eV.round=none:=cU.1
 rw[ry]
 obtain⟨rec,lR⟩:∃rec:LoopState→Option Code→Loop,rec=fun st pe=>{ state:=st,pending:=pe,fn:=fn,tmps:=a.tmps,params:=ps,assign:=yY,body:=body,defers:=w.heap.size }:=⟨_,rfl⟩
 obtain⟨W1,Yo⟩:∃W1,(w.alloc (.deferred (some []))).alloc (.loop (rec .ready none))=W1:=⟨_,rfl⟩
 have jU:bX w W1:=by rw[←Yo];exact(bX.alloc w _).trans (bX.alloc _ _)
 have acd:W1.heap.size=w.heap.size+2:=by rw[←Yo];simp
 have hL1:W1.heap[w.heap.size+1]?=some (.loop (rec .ready none)):=by
  rw[←Yo];have:=World.alloc_heap_new (w.alloc (.deferred (some []))) (.loop (rec .ready none));rwa [World.size_alloc] at this
 have hK1:W1.heap[w.heap.size]?=some (.deferred (some [])):=by
  rw[←Yo];exact(heap_alloc_old _ _ (by simp)).trans (World.alloc_heap_new w _)
 have hgr:=hr.ev g
 rw[hg] at hgr
 generalize hgv:a.eval g=v at hgr
 cases hgr with
 |ck _ _ vs Qw hvr=>
 refine⟨w.heap.size+1,[{ target:=.collected w.heap.size,args:=#[] }],W1,{ target:=.fn (.func gf) vs,args:=#[.func (.yield (w.heap.size+1)) #[] #[]] },W1,gf,
  #[.func (.yield (w.heap.size+1)) #[] #[]]++vs,W1,?_,?_,fun _ _=>trivial,?_,fun h=>(by cases h),?_⟩
 ·rw[←Yo,lR];exact run_enterLoop_outer _ _ _ _ _
 ·simp only[resolve,hgv]
  simp[go_sem]
 ·simp[invoke,nN Yn.1]
 ·let J:JT:=fun D Y gh W=>∃F aU hp',RJ η s.hp (bn Γ w η s.hp) w rec ps.size H (fun e hp=>Q e ⟨s.tmps,hp,()⟩) D Y gh W F aU hp'
  have hC:Cons Γ.P (.func (.yield (w.heap.size+1)) #[] #[]) J:=
   ⟨rfl,fun D Y gh W D' Y' W' ⟨F,aU,hp',h⟩ k=>⟨_,_,_,h.Lb k⟩,fun D Y x rest W bB ⟨F,aU,hp',h⟩ hD hY _ hv=>h.round hr.nt Vh hr.tmps lR sA hD hv⟩
  have Yp:Ext w (bn Γ w η s.hp) η s.hp W1 (bn Γ w η s.hp) η s.hp:=
   ⟨fun b o v hf hc=>by rw[World.cell?_of_block (jU.block b hf.2.1)];exact hc,fun b es c hf hc=>by rw[jU.block b hf.2.1];exact hc,fun _ _ h=>h,fun _ _ h=>h,fun _ _ h=>h,fun _ _ _ h=>h⟩
  have fo:∀b,aQ η s.hp b→b<w.heap.size:=fun b ⟨q,o,v,g1,g2,g3,g4⟩=>hr.heap.block g1 g2 g3 g4
  have hJ:J (bn Γ w η s.hp) (fun _=>False) (some (L++[])) W1:=by
   rw[aiH]
   refine⟨_,_,_,⟨⟨fun b o hf=>⟨aiD hf.2.1 jU.size,hf.2.2.2⟩,⟨hr.heap.len,fun q o v h1 h2=>(hr.heap.obj q o v h1 h2).ext Yp jU.size fun b _ ay=>jU.block b ay,hr.heap.sep⟩,fun b hb=>aiD (fo b hb) jU.size,(hr.kg aD).same jU,fun b hb hl=>hr.gx aD hb hl⟩,jU.keeps _,Yp,fun b hb=>.inr hb,fun b o hf=>.inl hf,
    fun b o hf=>by have:=hf.2.1;omega,fun _ _ h=>h,fun _ h=>h.elim,fun _ _ _ h=>h.elim,by omega,fun b hb=>(hr.kg aD).lt hb,hK1,⟨hL1,h0,hlen⟩⟩⟩
  have Yq:cH W1 (bn Γ w η s.hp) [] [] (.fn (.func (.yield (w.heap.size+1)) #[] #[])::caps.map (AV.sn 0 s.hp)) (.func (.yield (w.heap.size+1)) #[] #[]::vs.toList):=by
   refine⟨.fn _ rfl,?_⟩
   have eu:cH w (bn Γ w η s.hp) η s.hp caps vs.toList:=dF (by simpa using Qw) fun j y u hy hu=>hvr j y u hy (by simpa using hu)
   exact cH.ext ⟨Yp.cell,Yp.kJ,Yp.bD,fun _ _ h=>h,fun _ _ h=>h,fun _ _ _ h=>h⟩ (nh hr _ _ eu)
  have hav:(#[.func (.yield (w.heap.size+1)) #[] #[]]++vs:Array Value)=(.func (.yield (w.heap.size+1)) #[] #[]::vs.toList:List Value).toArray:=by apply ajm;simp
  have mR:=Yn.2 J _ hC (bn Γ w η s.hp) (fun _=>False) [] W1 _ hJ (fun b o hf=>aiD hf.2.1 jU.size) (fun _ h=>h.elim) ((hr.kg aD).same jU) Yq
  rw[hav]
  refine CallsIn.mono (F:=Γ.eV) (R:=fun e w'=>∃v D' b,e=.returned v∧YR false b v∧J D' (fun _=>False) (gT b []) w'∧Left (bn Γ w η s.hp) (fun _=>False) W1 D' w') mR fun e w3 ⟨v,D',b,he,_,⟨F,aU,hp',hj⟩,_⟩=>?_
  subst he
  cases b with
  |true=>
   obtain⟨hl,hH,_⟩:=hj.st
   have:=run_endLoop (P:=Γ.P) hl (by rw[lR];simp)
   rw[lR] at this
   exact⟨none,_,this,⟨s.tmps,hp',()⟩,aU,y6 _ hH,hj.back aD cU hr hl _⟩
  |false=>
   obtain⟨c,e,hl,Js,hS⟩:=hj.st
   have:=run_endLoop (P:=Γ.P) hl (by rw[lR];simp)
   rw[lR] at this
   refine⟨some c,_,this,?_⟩
   cases c<;>simp only[HQ] at Js<;>first|exact Js.elim|skip
   ·subst Js;exact wpIn_exit ⟨_,aU,hS,hj.back aD cU hr hl _⟩
   ·subst Js;exact wpIn_ret ⟨_,aU,hS,hj.back aD cU hr hl _⟩
end Go.Proofs.YtjhanogfpkbamaaGreatDoor
