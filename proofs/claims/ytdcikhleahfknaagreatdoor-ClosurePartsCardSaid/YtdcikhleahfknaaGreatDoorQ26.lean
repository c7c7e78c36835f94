/- Texts of ours laid together for a claim: FilZ. -/
import Derived.RangeFuncRecord
import Derived.Test.YtdcikhleahfknaaGreatDoorQ25
namespace Go.Proofs.YtdcikhleahfknaaGreatDoor
open Go
set_option linter.unusedSimpArgs false
set_option linter.unusedVariables false
variable {P:Program} {Γ:Env Unit} {s s':AS Unit} {a:Act} {w w' w2:World} {η aM:List Value} {hp hp':List af} {F:Cells}
theorem wk (h:cT w F η hp) {b:Nat} (hl:aC η hp b):(∃vs T p,w.heap[b]?=some (.cells vs T p))∨∃en c,w.heap[b]?=some (.map en c):=by
 obtain⟨r,o,v,g1,g2,g3,g4⟩:=hl
 have cR:=h.obj r o v g1 g3
 cases o with
 |dead=>exact g2.elim
 |box cs=>obtain⟨b',vs,T,rfl,h1,_⟩:=cR;simp only[bT,Option.some.injEq] at g4;subst g4;exact .inl ⟨_,_,_,h1⟩
 |row e size els=>
  obtain⟨_,xs,h1,_⟩:=cR
  obtain⟨cur,h5⟩:=h1.lt g4
  exact .inl ⟨_,_,_,h5⟩
 |aP es=>obtain⟨b',en,c,rfl,h1,_⟩:=cR;simp only[bT,Option.some.injEq] at g4;subst g4;exact .inr ⟨_,_,h1⟩
 |cA q k=>obtain⟨b',vs,rfl,h1,_⟩:=cR;simp only[bT,Option.some.injEq] at g4;subst g4;exact .inl ⟨_,_,_,h1⟩
 |aF e size els=>
  obtain⟨_,xs,h1,_⟩:=cR
  obtain⟨cur,h5⟩:=h1.lt g4
  exact .inl ⟨_,_,_,h5⟩
 |dh e m ns=>
  obtain⟨cur,h5⟩:=dT.lt cR g4
  exact .inl ⟨_,_,_,h5⟩
theorem wm (h:cT w F η hp) {l:Nat} {r:Loop} (hl:w.heap[l]?=some (.loop r)):¬aC η hp l:=by
 intro hb
 rcases wk h hb with⟨_,_,_,h1⟩|⟨_,_,h1⟩<;>rw[hl] at h1<;>cases h1
theorem Ao (h:cT w F η hp) {l:Nat} {r:Option (List Deferred)} (hl:w.heap[l]?=some (.deferred r)):¬aC η hp l:=by
 intro hb
 rcases wk h hb with⟨_,_,_,h1⟩|⟨_,_,h1⟩<;>rw[hl] at h1<;>cases h1
theorem kD (hlen:η.length=hp.length) {b o:Nat} (h:¬aC η hp b):gW η hp b o:=by
 refine(aN b o).2 fun q u hu Hh=>?_
 have hq:q<hp.length:=by rw[←hlen];exact(List.getElem?_eq_some_iff.1 hu).1
 have hg:hp[q]?=some hp[q]:=by simp[hq]
 refine⟨_,hg,?_⟩
 cases hx:hp[q] with
 |dead=>exact True.intro
 |_=>
  exfalso
  rw[hx] at hg
  exact h ⟨q,_,u,hg,True.intro,hu,Hh⟩
theorem Rel.Ps (hr:Rel Γ s a w η) {l:Nat} {r:Loop} (hx:Γ.X l) (hl:w.heap[l]?=some (.loop r)) (ob:Obj) {I:Unit→World→Prop} (hI:I () (w.putObj l ob)):Rel { Γ with Inv:=I } s a (w.putObj l ob) η:=by
 have hs:∀k,k≠l→(w.putObj l ob).heap[k]?=w.heap[k]?:=fun k hk=>World.putObj_heap_other hk
 have he:Ext w (aU Γ w η s.hp) η s.hp (w.putObj l ob) (aU { Γ with Inv:=I } (w.putObj l ob) η s.hp) η s.hp:=by
  refine⟨fun b o v hf hc=>?_,fun b es c hf hc=>?_,fun b o hf=>⟨hf.1,by simpa using hf.2.1,hf.2.2⟩,fun _ _ h=>h,fun _ _ h=>h,fun _ _ _ h=>h⟩
  ·rw[World.cell?_of_block (hs b fun e=>hf.2.2.1 (.inl (e▸hx)))];exact hc
  ·rw[hs b fun e=>hf.2.2.1 (.inl (e▸hx))];exact hc
 have tA:∀(q:Nat) (o:af) (v:Value) (b:Nat),s.hp[q]?=some o→o.live→η[q]?=some v→bT v=some b→b≠l:=by
  intro q o v b h1 h2 h3 h4 hb
  subst hb
  exact(hr.bA q o v b h1 h2 h3 h4).2 0 (.inl hx)
 refine⟨hr.nt,fun t=>(hr.tmps t).ext he,⟨hr.heap.len,fun q o v h1 h2=>?_,hr.heap.sep⟩,hr.bA,?_,hI,?_,hr.ext.trans he⟩
 ·by_cases hv:o.live
  ·exact(hr.heap.obj q o v h1 h2).ext he (by simp) fun b hb _=>hs b (tA q o v b h1 hv h2 hb)
  ·cases o<;>first|exact True.intro|exact(hv True.intro).elim
 ·refine⟨hr.keeps.os,hr.keeps.tape,hr.keeps.output,by simpa using hr.keeps.size,fun k hk Ck=>?_⟩
  rw[hs k fun e=>Ck (.inl (e▸hx))]
  exact hr.keeps.block k hk Ck
 ·refine⟨fun d hd=>?_,hr.marks.apart⟩
  obtain⟨q,h1,h2,h3⟩:=hr.marks.all d hd
  refine⟨q,h1,?_,h3⟩
  rw[hs q fun e=>by subst e;rw[hl] at h2;cases h2]
  exact h2
def pO:List Nat→List AV→(Nat→AV)→Nat→AV
 |p::ps,x::xs,f=>pO ps xs (xa f p x)
 |_,_,f=>f
theorem Gb {x:List AV}:∀(ps:List Nat) (xs:List AV) (f:Nat→AV) (ts:Array Value) (vs:List Value),(∀p∈ps,p<ts.size)→(∀t,aV w F η hp (f t) (ts.getD t undef))→bF w F η hp xs vs→
  ∀t,aV w F η hp (pO ps xs f t) (((ps.zip vs).foldl (fun t (p,v)=>t.setIfInBounds p v) ts).getD t undef):=by
 intro ps
 induction ps with
 |nil=>intro xs f ts vs _ hf _ t;simp only[pO,List.zip_nil_left,List.foldl_nil];exact hf t
 |cons p ps ih=>
  intro xs f ts vs IL hf hx t
  cases xs with
  |nil=>
   cases vs with
   |nil=>simp only[pO,List.zip_nil_right,List.foldl_nil];exact hf t
   |cons v vs=>exact hx.elim
  |cons x xs=>
   cases vs with
   |nil=>exact hx.elim
   |cons v vs=>
    simp only[pO,List.zip_cons_cons,List.foldl_cons]
    refine ih xs (xa f p x) (ts.setIfInBounds p v) vs (fun q hq=>by rw[Array.size_setIfInBounds];exact IL q (List.mem_cons_of_mem _ hq)) (fun t=>?_) hx.2 t
    have hp:=IL p List.mem_cons_self
    rw[eF]
    by_cases WS:t=p
    ·subst WS
     rw[if_pos rfl]
     have e:(ts.setIfInBounds t v).getD t undef=v:=by simp[hp]
     rw[e];exact hx.1
    ·rw[if_neg WS]
     have e:(ts.setIfInBounds p v).getD t undef=ts.getD t undef:=by
      simp only[Array.getD_eq_getD_getElem?]
      rw[Array.getElem?_setIfInBounds_ne (Ne.symm WS)]
     rw[e];exact hf t
theorem wo:∀(l:List (Nat×Value)) (ts:Array Value),(l.foldl (fun t (p,v)=>t.setIfInBounds p v) ts).size=ts.size
 | [],_=>rfl
 |(p,v)::l,ts=>by rw[List.foldl_cons,wo l];simp
def C7:Code→Exit→Prop
 | .ret,e=>e=.ret
 | .exit id,e=>e=.exit id
 |_,_=>False
def IM (iW:Env Unit) (H:List (List AV)→List af→Prop) (rest:List (List AV)) (Q:Exit→AS Unit→Prop) (f:Nat→AV):Exit→AS Unit→Prop
 | .normal,s'=>∃hp,bV iW s' ⟨fun _=>.top,hp,()⟩∧H rest hp
 | .ret,s'=>Q .ret ⟨f,s'.hp,()⟩
 | .exit id,s'=>Q (.exit id) ⟨f,s'.hp,()⟩
 |_,_=>False
def WT:Exit→AS Unit→Prop:=fun _ _=>False
structure fG (Γ:Env Unit) (n:Nat) (iW:Env Unit):Prop where
 ok:iW.Ok
 hP:iW.P=Γ.P
 nt:iW.nt=Γ.nt
 h0:iW.ir.length=n
structure RJ (η:List Value) (hp:List af) (F1:Cells) (w:World) (rec:LoopState→Option Code→Loop) (m:Nat) (H:List (List AV)→List af→Prop) (S:Exit→List af→Prop)
  (D:Cells) (Y:Nat→Prop) (gh:Gh) (W:World) (F:Cells) (aM:List Value) (hp':List af):Prop where
 pre:nW W F aM hp'
 keeps:bo (aC η hp) w W
 ext:Ext w F1 η hp W F aM hp'
 bA:∀b,aC aM hp' b→w.heap.size≤b∨aC η hp b
 aY:∀b o,F b o→F1 b o∨w.heap.size≤b∨aC η hp b
 IP:∀b o,F b o→b≠w.heap.size+1
 df:∀b o,D b o→F b o
 y:∀b,Y b→b<W.heap.size∧¬aC aM hp' b∧w.heap.size+2≤b
 fy:∀b o,F b o→Y b→D b o
 size:w.heap.size+2≤W.heap.size
 gw:∀b,kQ b→b<w.heap.size
 db:W.heap[w.heap.size]?=some (.deferred (some []))
 st:match gh with
  |some rest=>W.heap[w.heap.size+1]?=some (.loop (rec .ready none))∧H rest hp'∧∀x∈rest,x.length=m
  |none=>∃c e,W.heap[w.heap.size+1]?=some (.loop (rec .done (some c)))∧C7 c e∧S e hp'
variable {F1 D D':Cells} {Y Y':Nat→Prop} {gh:Gh} {W W':World} {rec:LoopState→Option Code→Loop} {m:Nat} {H:List (List AV)→List af→Prop} {S:Exit→List af→Prop}
theorem RJ.Ga (h:RJ η hp F1 w rec m H S D Y gh W F aM hp') (k:Zs D Y W D' Y' W'):RJ η hp F1 w rec m H S D' Y' gh W' (fun b o=>F b o∨D' b o) aM hp':=by
 have hE:Ext W F aM hp' W' (fun b o=>F b o∨D' b o) aM hp':=by
  refine⟨fun b o v hf hc=>?_,fun b es c hf hc=>?_,fun b o hf=>.inl hf,fun _ _ h=>h,fun _ _ h=>h,fun _ _ _ h=>h⟩
  ·by_cases hy:Y b
   ·exact k.cell b o v (h.fy b o hf hy) hc
   ·rw[World.cell?_of_block (k.same.block b (h.pre.aY b o hf).1 hy)];exact hc
  ·by_cases hy:Y b
   ·exact k.fQ b es c (h.fy b 0 hf hy) hc
   ·rw[k.same.block b (h.pre.aY b 0 hf).1 hy];exact hc
 have bE:=k.same.size
 have Pk:∀b,W.heap.size≤b→¬aC aM hp' b:=fun b hb hl=>by have:=h.pre.live b hl;omega
 have hly:∀b,aC aM hp' b→¬Y b:=fun b hl hy=>(h.y b hy).2.1 hl
 have RL:¬Y (w.heap.size+1):=fun hy=>by have:=(h.y _ hy).2.2;omega
 have kV:¬Y w.heap.size:=fun hy=>by have:=(h.y _ hy).2.2;omega
 have O2:=h.size
 refine⟨⟨fun b o hf=>?_,⟨h.pre.heap.len,fun q o v h1 h2=>?_,h.pre.heap.sep⟩,fun b hb=>Nat.lt_of_lt_of_le (h.pre.live b hb) bE,h.pre.fX.keeps k.same fun b hb hy=>(by have:=(h.y b hy).2.2;have:=h.gw b hb;omega),h.pre.gx⟩,h.keeps.trans k.same fun i hi hy=>?_,h.ext.trans hE,h.bA,fun b o hf=>?_,fun b o hf=>?_,fun b o hd=>.inr hd,fun b hb=>?_,fun b o hf hy=>?_,by omega,h.gw,?_,?_⟩
 ·rcases hf with hf|hd
  ·exact⟨Nat.lt_of_lt_of_le (h.pre.aY b o hf).1 bE,(h.pre.aY b o hf).2⟩
  ·obtain⟨h1,h2⟩:=k.back b o hd
   refine⟨h2,?_⟩
   rcases h1 with h1|h1|h1
   ·exact(h.pre.aY b o (h.df b o h1)).2
   ·exact kD h.pre.heap.len (h.y b h1).2.1
   ·exact kD h.pre.heap.len (Pk b h1)
 ·by_cases hv:o.live
  ·exact(h.pre.heap.obj q o v h1 h2).ext hE bE fun b hb al=>k.same.block b al (hly b ⟨q,o,v,h1,hv,h2,hb⟩)
  ·cases o<;>first|exact True.intro|exact(hv True.intro).elim
 ·have:=(h.y i hy).2.2;omega
 ·rcases hf with hf|hd
  ·exact h.aY b o hf
  ·rcases (k.back b o hd).1 with h1|h1|h1
   ·exact h.aY b o (h.df b o h1)
   ·exact .inr (.inl (by have:=(h.y b h1).2.2;omega))
   ·exact .inr (.inl (by omega))
 ·rcases hf with hf|hd
  ·exact h.IP b o hf
  ·rcases (k.back b o hd).1 with h1|h1|h1
   ·exact h.IP b o (h.df b o h1)
   ·have:=(h.y b h1).2.2;omega
   ·omega
 ·obtain⟨h1,h2⟩:=k.Pq b hb
  refine⟨h2,?_,?_⟩
  ·rcases h1 with h1|h1
   ·exact(h.y b h1).2.1
   ·exact Pk b h1
  ·rcases h1 with h1|h1
   ·exact(h.y b h1).2.2
   ·omega
 ·rcases hf with hf|hd
  ·rcases (k.Pq b hy).1 with h1|h1
   ·exact k.aY b o (h.fy b o hf h1)
   ·have:=(h.pre.aY b o hf).1;omega
  ·exact hd
 ·rw[k.same.block _ (by omega) kV];exact h.db
 ·have vR:=h.st
  have e:W'.heap[w.heap.size+1]?=W.heap[w.heap.size+1]?:=k.same.block _ (by omega) RL
  cases gh with
  |some rest=>simp only[e];exact vR
  |none=>simp only[e];exact vR
def fH (Γ:Env Unit) (W:World) (F:Cells) (aM:List Value) (hp':List af) (l:Nat) (I:Unit→World→Prop):Env Unit:=
 { P:=Γ.P,w0:=W,F0:=F,X:=fun b=>b=l,Y:=aC aM hp',Inv:=I,nt:=Γ.nt,vQ:=some l,m0:=fun r=>W.heap.size≤r,Z:=fun _ _=>False,vh:=aM,ir:=hp' }
theorem RJ.after (h:RJ η hp F1 w rec m H S D Y gh W F aM hp') (hD:∀b o,D b o→b<W.heap.size) {I:Unit→World→Prop} {f3:Nat→AV} {a3:Act} {w3:World} {G9:List Value} {hp3:List af} (hr:Rel (fH Γ W F aM hp' (w.heap.size+1) I) ⟨f3,hp3,()⟩ a3 w3 G9)
  {r:Loop} (hl:w3.heap[w.heap.size+1]?=some (.loop r)) (ob:Loop) {gh2:Gh} (vR:∀W':World,W'.heap[w.heap.size+1]?=some (.loop ob)→match gh2 with
   |some rest=>W'.heap[w.heap.size+1]?=some (.loop (rec .ready none))∧H rest hp3∧∀x∈rest,x.length=m
   |none=>∃c e,W'.heap[w.heap.size+1]?=some (.loop (rec .done (some c)))∧C7 c e∧S e hp3):
  RJ η hp F1 w rec m H S D Y gh2 (w3.putObj (w.heap.size+1) (.loop ob)) (aU (fH Γ W F aM hp' (w.heap.size+1) (fun _ _=>True)) (w3.putObj (w.heap.size+1) (.loop ob)) G9 hp3) G9 hp3∧
   Left D Y W D (w3.putObj (w.heap.size+1) (.loop ob)):=by
 have O2:=h.size
 have al:w.heap.size+1<w3.heap.size:=aX hl
 have RN:Rel (fH Γ W F aM hp' (w.heap.size+1) (fun _ _=>True)) ⟨f3,hp3,()⟩ a3 (w3.putObj (w.heap.size+1) (.loop ob)) G9:=hr.Ps (I:=fun _ _=>True) rfl hl (.loop ob) True.intro
 have pP:bo (fun b=>b=w.heap.size+1∨aC aM hp' b) W (w3.putObj (w.heap.size+1) (.loop ob)):=RN.keeps
 have bE:=pP.size
 have bY:Ext W F aM hp' (w3.putObj (w.heap.size+1) (.loop ob)) (aU (fH Γ W F aM hp' (w.heap.size+1) (fun _ _=>True)) (w3.putObj (w.heap.size+1) (.loop ob)) G9 hp3) G9 hp3:=RN.ext
 have zQ:∀b,aC G9 hp3 b→(W.heap.size≤b∨aC aM hp' b)∧b≠w.heap.size+1:=fun b ⟨q,o,v,g1,g2,g3,g4⟩=>
  ⟨(RN.bA q o v b g1 g2 g3 g4).1,fun e=>(RN.bA q o v b g1 g2 g3 g4).2 0 (.inl e)⟩
 have WU:∀b,aC G9 hp3 b→b<(w3.putObj (w.heap.size+1) (.loop ob)).heap.size:=fun b ⟨q,o,v,g1,g2,g3,g4⟩=>RN.heap.block g1 g2 g3 g4
 have Zw:∀b,kQ b→¬(b=w.heap.size+1∨aC aM hp' b):=fun b hb hx=>hx.elim (fun e=>by have:=h.gw b hb;omega) (h.pre.gx b hb)
 refine⟨⟨⟨fun b o hf=>⟨hf.2.1,hf.2.2.2⟩,RN.heap,WU,h.pre.fX.keeps pP Zw,fun b hb hl=>(zQ b hl).1.elim (fun h1=>by have:=h.gw b hb;omega) (h.pre.gx b hb)⟩,h.keeps.trans pP fun i hi hx=>?_,h.ext.trans bY,fun b hb=>?_,fun b o hf=>?_,fun b o hf e=>hf.2.2.1 (.inl e),fun b o hd=>bY.aY _ _ (h.df b o hd),fun b hb=>⟨?_,fun hl=>?_,(h.y b hb).2.2⟩,fun b o hf hy=>?_,by omega,h.gw,?_,?_⟩,
  bE,fun b o v hd hc=>bY.cell b o v (h.df b o hd) hc,fun b es c hd hc=>bY.fQ b es c (h.df b 0 hd) hc,fun b hb=>?_,fun _ _ h=>h,fun b o hd=>⟨.inl hd,?_⟩,fun b hb=>pP.block b (by have:=h.gw b hb;omega) (Zw b hb)⟩
 ·rcases hx with rfl|hx
  ·omega
  ·rcases h.bA i hx with h1|h1
   ·omega
   ·exact h1
 ·rcases (zQ b hb).1 with h1|h1
  ·exact .inl (by omega)
  ·exact h.bA b h1
 ·rcases hf.1 with h1|h1|h1
  ·exact h.aY b o h1
  ·have h1':W.heap.size≤b:=h1
   exact .inr (.inl (by omega))
  ·exact(h.bA b h1).imp (fun h=>.inl h) (fun h=>h) |>.elim (fun h=>.inr h) fun h=>.inr (.inr h)
 ·have:=(h.y b hb).1;omega
 ·rcases (zQ b hl).1 with h1|h1
  ·have:=(h.y b hb).1;omega
  ·exact(h.y b hb).2.1 h1
 ·rcases hf.1 with h1|h1|h1
  ·exact h.fy b o h1 hy
  ·have h1':W.heap.size≤b:=h1
   have:=(h.y b hy).1;omega
  ·exact((h.y b hy).2.1 h1).elim
 ·rw[pP.block _ (by omega) fun hx=>hx.elim (fun e=>by omega) fun hx=>Ao h.pre.heap h.db hx]
  exact h.db
 ·exact vR _ (World.putObj_heap_same al)
 ·have:=h.y b hb
  exact pP.block b this.1 fun hx=>hx.elim (fun e=>by omega) this.2.1
 ·have:=hD b o hd;omega
theorem Mq (ps:Array Nat) (aR:List Value) (ts:Array Value):(ps.zip aR.toArray).foldl (fun tmps (t,a)=>tmps.setIfInBounds t a) ts=(ps.toList.zip aR).foldl (fun t (p,v)=>t.setIfInBounds p v) ts:=by
 rw[←Array.foldl_toList]
 simp
theorem RJ.round {ps:Array Tmp} {ue body:Code} {fn:Nat} {Q:Exit→AS Unit→Prop} {f:Nat→AV} (ha:a.tmps.size=Γ.nt) (IL:∀p∈ps.toList,p<Γ.nt) (hf:∀t,aV w F1 η hp (f t) (a.tmps.getD t undef))
  (qP:rec=fun st pe=>{ state:=st,pending:=pe,fn:=fn,tmps:=a.tmps,params:=ps,assign:=ue,body:=body,defers:=w.heap.size })
  (oK:∀x rest hp,H (x::rest) hp→∃N:AS Unit→Prop,(∀iW,fG Γ hp.length iW→dq iW ue (n8 N WT) ⟨pO ps.toList x f,hp,()⟩)∧∀s1,N s1→∀iW,fG Γ hp.length iW→dq iW body (IM iW H rest Q f) s1)
  {x:List AV} {rest:List (List AV)} {aR:List Value} (h:RJ η hp F1 w rec ps.size H (fun e hp=>Q e ⟨f,hp,()⟩) D Y (some (x::rest)) W F aM hp') (hD:∀b o,D b o→b<W.heap.size) (hv:bF W D [] [] x aR):
  IG Γ.P (.func (.yield (w.heap.size+1)) #[] #[]) aR W fun e w'=>∃b,e=.returned (.bool b)∧(∃F aM hp',RJ η hp F1 w rec ps.size H (fun e hp=>Q e ⟨f,hp,()⟩) D Y (gT b rest) w' F aM hp')∧Left D Y W D w':=by
 generalize hR:(fun(e:Ending) (w':World)=>∃b,e=.returned (.bool b)∧(∃F aM hp',RJ η hp F1 w rec ps.size H (fun e hp=>Q e ⟨f,hp,()⟩) D Y (gT b rest) w' F aM hp')∧Left D Y W D w')=R
 obtain⟨hl,hH,hlen⟩:=h.st
 have O2:=h.size
 have Lu:=hv.length
 have WV:=hlen x List.mem_cons_self
 have hy:=run_yield (P:=Γ.P) (args:=aR.toArray) hl (by rw[qP];simp;omega)
 refine⟨_,_,_,_,_,rfl,hy,roundIn_of_wpIn (F:=Fence.wide) (P:=Γ.P) trivial ?_⟩
 obtain⟨N,WW,fx⟩:=oK x rest hp' hH
 rw[qP]
 simp only[Mq]
 have SQ:∀I:Unit→World→Prop,(∀(w1 w2:World),w2.heap[w.heap.size+1]?=w1.heap[w.heap.size+1]?→I () w1→I () w2)→fG Γ hp'.length (fH Γ W F aM hp' (w.heap.size+1) I):=fun I hI=>
  ⟨⟨h.pre.heap.len,fun b hb=>by have:b=w.heap.size+1:=hb;show b<W.heap.size;omega,h.pre.live,fun g w1 w2 hx _ hi=>hI w1 w2 (hx _ rfl) hi,fun _ _ h=>h.elim,h.pre.fX,fun b hb hx=>hx.elim (fun e=>by have:b=w.heap.size+1:=e;have:=h.gw b hb;omega) (h.pre.gx b hb)⟩,rfl,rfl,rfl⟩
 have Pk:=wm h.pre.heap hl
 have vo:∀(I:Unit→World→Prop) b o,F b o→aU (fH Γ W F aM hp' (w.heap.size+1) I) W aM hp' b o:=fun I b o hf=>⟨.inl hf,(h.pre.aY b o hf).1,fun hx=>hx.elim (fun e=>h.IP b o hf e) fun h=>h,(h.pre.aY b o hf).2⟩
 let I1:Unit→World→Prop:=fun _ w1=>w1.heap[w.heap.size+1]?=some (.loop (rec .ready none))
 let I2:Unit→World→Prop:=fun _ w1=>w1.heap[w.heap.size+1]?=some (.loop { rec .ready none with state:=.busy })
 have hE:Ext W F aM hp' W (aU (fH Γ W F aM hp' (w.heap.size+1) I1) W aM hp') aM hp':=⟨fun _ _ _ _ h=>h,fun _ _ _ _ h=>h,vo I1,fun _ _ h=>h,fun _ _ h=>h,fun _ _ _ h=>h⟩
 have hrel:Rel (fH Γ W F aM hp' (w.heap.size+1) I1) ⟨pO ps.toList x f,hp',()⟩ ⟨(ps.toList.zip aR).foldl (fun t (p,v)=>t.setIfInBounds p v) a.tmps,[]⟩ W aM:=by
  refine⟨by rw[wo];exact ha,Gb (x:=x) ps.toList x f a.tmps aR (fun p hp=>by rw[ha];exact IL p hp) (fun t=>((hf t).ext h.ext).ext hE) ?_,⟨h.pre.heap.len,fun q o v h1 h2=>(h.pre.heap.obj q o v h1 h2).ext hE (Nat.le_refl _) fun _ _ _=>rfl,h.pre.heap.sep⟩,
   fun q o v b h1 h2 h3 h4=>⟨.inr ⟨q,o,v,h1,h2,h3,h4⟩,fun _ hx=>hx.elim (fun e=>Pk (e▸⟨q,o,v,h1,h2,h3,h4⟩)) fun h=>h⟩,bo.refl _ _,hl,⟨fun d hd=>(by cases hd),List.Pairwise.nil⟩,hE⟩
  exact cd hv.length fun j y u hy hu=>((hv.get j y u hy hu).aY fun b o hd=>vo I1 b o (h.df b o hd)).lift
 have h1:=WW _ (SQ I1 fun w1 w2 e hi=>by show w2.heap[_]?=_;rw[e];exact hi) _ _ _ hrel
 refine wpIn_mono (F:=Fence.wide.inRound (w.heap.size+1)) h1 fun e a1 w1 ⟨s1,iq,hN,Cj⟩=>?_
 cases e with
 |normal=>
  have zh:w1.heap[w.heap.size+1]?=some (.loop (rec .ready none)):=Cj.inv
  have H7:w.heap.size+1<w1.heap.size:=aX zh
  refine⟨_,run_beginRound zh (by rw[qP]),?_⟩
  have kO:Rel (fH Γ W F aM hp' (w.heap.size+1) I2) s1 a1 (w1.putObj (w.heap.size+1) (.loop { rec .ready none with state:=.busy })) iq:=Cj.Ps (I:=I2) rfl zh _ (World.putObj_heap_same H7)
  have h2:=fx s1 hN _ (SQ I2 fun w1 w2 e hi=>by show w2.heap[_]?=_;rw[e];exact hi) _ _ _ kO
  refine wpIn_mono (F:=Fence.wide.inRound (w.heap.size+1)) h2 fun e a3 w3 ⟨s3,G9,hq,CM⟩=>?_
  have O5:w3.heap[w.heap.size+1]?=some (.loop { rec .ready none with state:=.busy }):=CM.inv
  cases e with
  |normal=>
   obtain⟨hp3,hw,hH3⟩:=hq
   obtain⟨η4,VH⟩:=hw _ _ _ CM
   have Pt:=RJ.after (gh2:=some rest) h hD VH O5 (rec .ready none) fun W' LB=>⟨LB,hH3,fun y hy=>hlen y (List.mem_cons_of_mem _ hy)⟩
   have he:=run_endRound (P:=Γ.P) none O5
   have e2:({ { rec .ready none with state:=.busy } with state:=if(none:Option Code).isNone then .ready else .done,pending:=none }:Loop)=rec .ready none:=by rw[qP];rfl
   rw[e2] at he
   exact⟨_,_,he,by rw[←hR];exact⟨true,rfl,⟨_,_,_,Pt.1⟩,Pt.2⟩⟩
  |ret=>
   have Pt:=RJ.after (gh2:=none) h hD (f3:=s3.tmps) (hp3:=s3.hp) CM O5 (rec .done (some .ret)) fun W' LB=>⟨.ret,.ret,LB,rfl,hq⟩
   have he:=run_endRound (P:=Γ.P) (some .ret) O5
   have e2:({ { rec .ready none with state:=.busy } with state:=if(some Code.ret).isNone then .ready else .done,pending:=some .ret }:Loop)=rec .done (some .ret):=by rw[qP];rfl
   rw[e2] at he
   exact⟨_,_,he,by rw[←hR];exact⟨false,rfl,⟨_,_,_,Pt.1⟩,Pt.2⟩⟩
  |exit id=>
   have Pt:=RJ.after (gh2:=none) h hD (f3:=s3.tmps) (hp3:=s3.hp) CM O5 (rec .done (some (.exit id))) fun W' LB=>⟨.exit id,.exit id,LB,rfl,hq⟩
   have he:=run_endRound (P:=Γ.P) (some (.exit id)) O5
   have e2:({ { rec .ready none with state:=.busy } with state:=if(some (Code.exit id)).isNone then .ready else .done,pending:=some (.exit id) }:Loop)=rec .done (some (.exit id)):=by rw[qP];rfl
   rw[e2] at he
   exact⟨_,_,he,by rw[←hR];exact⟨false,rfl,⟨_,_,_,Pt.1⟩,Pt.2⟩⟩
  |_=>exact hq.elim
 |_=>exact hN.elim
theorem RJ.back (aq:Γ.Ok) (cf:Γ.zg) (hr:Rel Γ s a w η) (h:RJ η s.hp (aU Γ w η s.hp) w rec m H S D Y gh W F aM hp') {r:Loop} (hl:W.heap[w.heap.size+1]?=some (.loop r)) (ob:Loop):
  Rel Γ ⟨s.tmps,hp',()⟩ { a with defers:={ target:=.collected w.heap.size,args:=#[] }::a.defers } (W.putObj (w.heap.size+1) (.loop ob)) aM:=by
 have hs:∀k,k≠w.heap.size+1→(W.putObj (w.heap.size+1) (.loop ob)).heap[k]?=W.heap[k]?:=fun k hk=>World.putObj_heap_other hk
 have bE:=hr.keeps.size
 have O2:=h.size
 have cX:∀b,aC η s.hp b→(Γ.w0.heap.size≤b∨Γ.Y b)∧∀o,¬Γ.No b o:=fun b ⟨q,o,v,g1,g2,g3,g4⟩=>hr.bA q o v b g1 g2 g3 g4
 have vo:∀b o,F b o→aU Γ (W.putObj (w.heap.size+1) (.loop ob)) aM hp' b o:=by
  intro b o hf
  have h1:=h.pre.aY b o hf
  refine⟨?_,by simpa using h1.1,?_,h1.2⟩
  ·rcases h.aY b o hf with g|g|g
   ·exact g.1
   ·exact .inr (.inl (by omega))
   ·exact .inr (cX b g).1
  ·rcases h.aY b o hf with g|g|g
   ·exact g.2.2.1
   ·intro hx;have:=aq.no hx;omega
   ·exact(cX b g).2 o
 have hE:Ext W F aM hp' (W.putObj (w.heap.size+1) (.loop ob)) (aU Γ (W.putObj (w.heap.size+1) (.loop ob)) aM hp') aM hp':=by
  refine⟨fun b o v hf hc=>?_,fun b es c hf hc=>?_,vo,fun _ _ h=>h,fun _ _ h=>h,fun _ _ _ h=>h⟩
  ·rw[World.cell?_of_block (hs b (h.IP b o hf))];exact hc
  ·rw[hs b (h.IP b 0 hf)];exact hc
 have Zx:=h.ext.trans hE
 have tA:∀b,aC aM hp' b→b≠w.heap.size+1:=fun b hb e=>wm h.pre.heap hl (e▸hb)
 refine⟨hr.nt,fun t=>(hr.tmps t).ext Zx,⟨h.pre.heap.len,fun q o v h1 h2=>?_,h.pre.heap.sep⟩,fun q o v b h1 h2 h3 h4=>?_,?_,?_,?_,hr.ext.trans Zx⟩
 ·by_cases hv:o.live
  ·exact(h.pre.heap.obj q o v h1 h2).ext hE (by simp) fun b hb _=>hs b (tA b ⟨q,o,v,h1,hv,h2,hb⟩)
  ·cases o<;>first|exact True.intro|exact(hv True.intro).elim
 ·rcases h.bA b ⟨q,o,v,h1,h2,h3,h4⟩ with g|g
  ·exact⟨.inl (by omega),fun o hx=>by have:=aq.no hx;omega⟩
  ·exact cX b g
 ·refine⟨h.keeps.os.trans hr.keeps.os,h.keeps.tape.trans hr.keeps.tape,h.keeps.output.trans hr.keeps.output,by simp;omega,fun k hk hx=>?_⟩
  rw[hs k (by omega),h.keeps.block k (by omega) fun hl=>?_]
  ·exact hr.keeps.block k hk hx
  ·rcases (cX k hl).1 with g|g
   ·omega
   ·exact hx (.inr g)
 ·refine aq.l8 _ _ _ (fun b hb=>?_) (by simp;omega) hr.inv
  have hb0:=aq.x b hb
  rw[hs b (by omega),h.keeps.block b (by omega) fun hl=>(cX b hl).2 0 (.inl hb)]
 ·refine⟨fun d hd=>?_,List.pairwise_cons.2 ⟨fun d hd=>?_,hr.marks.apart⟩⟩
  ·rcases List.mem_cons.1 hd with rfl|hd
   ·exact⟨_,rfl,by rw[hs _ (by omega)];exact h.db,cf.2 _ bE⟩
   ·obtain⟨q,g1,g2,g3⟩:=hr.marks.all d hd
    have hq:=aX g2
    refine⟨q,g1,?_,g3⟩
    rw[hs q (by omega),h.keeps.block q hq fun hl=>Ao hr.heap g2 hl]
    exact g2
  ·obtain⟨q,g1,g2,g3⟩:=hr.marks.all d hd
   have hq:=aX g2
   rw[g1]
   simp
   omega
theorem dq.range (aq:Γ.Ok) (cf:Γ.zg) {g:Operand} {ps:Array Tmp} {ue body:Code} {Q:Exit→AS Unit→Prop} {gf:Nat} {caps:List AV} {L:List (List AV)} (hg:s.ev g=.aS gf caps) (SR:vz Γ.P gf (fun v=>v::caps.map (AV.oF 0 s.hp)) L false)
  (hlen:∀x∈L,x.length=ps.size) (IL:∀p∈ps.toList,p<Γ.nt) (H:List (List AV)→List af→Prop) (h0:H L s.hp)
  (oK:∀x rest hp,H (x::rest) hp→∃N:AS Unit→Prop,(∀iW,fG Γ hp.length iW→dq iW ue (n8 N WT) ⟨pO ps.toList x s.tmps,hp,()⟩)∧∀s1,N s1→∀iW,fG Γ hp.length iW→dq iW body (IM iW H rest Q s.tmps) s1)
  (SS:∀hp,H [] hp→Q .normal ⟨s.tmps,hp,()⟩):dq Γ (.rangeFunc g ps ue body) Q s:=by
 intro a w η hr
 refine wpIn_rangeFunc fun fn RM=>?_
 have nQ:Γ.dA.round=none:=cf.1
 rw[nQ]
 obtain⟨rec,qP⟩:∃rec:LoopState→Option Code→Loop,rec=fun st pe=>{ state:=st,pending:=pe,fn:=fn,tmps:=a.tmps,params:=ps,assign:=ue,body:=body,defers:=w.heap.size }:=⟨_,rfl⟩
 obtain⟨W1,Gc⟩:∃W1,(w.alloc (.deferred (some []))).alloc (.loop (rec .ready none))=W1:=⟨_,rfl⟩
 have gz:bt w W1:=by rw[←Gc];exact(bt.alloc w _).trans (bt.alloc _ _)
 have WX:W1.heap.size=w.heap.size+2:=by rw[←Gc];simp
 have hL1:W1.heap[w.heap.size+1]?=some (.loop (rec .ready none)):=by
  rw[←Gc];have:=World.alloc_heap_new (w.alloc (.deferred (some []))) (.loop (rec .ready none));rwa [World.size_alloc] at this
 have Zy:W1.heap[w.heap.size]?=some (.deferred (some [])):=by
  rw[←Gc];exact(heap_alloc_old _ _ (by simp)).trans (World.alloc_heap_new w _)
 have WY:=hr.ev g
 rw[hg] at WY
 generalize hgv:a.eval g=v at WY
 cases WY with
 |aS _ _ vs Lu hvr=>
 refine⟨w.heap.size+1,[{ target:=.collected w.heap.size,args:=#[] }],W1,{ target:=.fn (.func gf) vs,args:=#[.func (.yield (w.heap.size+1)) #[] #[]] },W1,gf,
  #[.func (.yield (w.heap.size+1)) #[] #[]]++vs,W1,?_,?_,fun _ _=>trivial,?_,fun h=>(by cases h),?_⟩
 ·rw[←Gc,qP];exact run_enterLoop_outer _ _ _ _ _
 ·simp only[resolve,hgv]
  simp[go_sem]
 ·simp[invoke,gY SR.1]
 ·let J:JT:=fun D Y gh W=>∃F aM hp',RJ η s.hp (aU Γ w η s.hp) w rec ps.size H (fun e hp=>Q e ⟨s.tmps,hp,()⟩) D Y gh W F aM hp'
  have hC:Cons Γ.P (.func (.yield (w.heap.size+1)) #[] #[]) J:=
   ⟨rfl,fun D Y gh W D' Y' W' ⟨F,aM,hp',h⟩ k=>⟨_,_,_,h.Ga k⟩,fun D Y x rest W aR ⟨F,aM,hp',h⟩ hD hY _ hv=>h.round hr.nt IL hr.tmps qP oK hD hv⟩
  have SU:Ext w (aU Γ w η s.hp) η s.hp W1 (aU Γ w η s.hp) η s.hp:=
   ⟨fun b o v hf hc=>by rw[World.cell?_of_block (gz.block b hf.2.1)];exact hc,fun b es c hf hc=>by rw[gz.block b hf.2.1];exact hc,fun _ _ h=>h,fun _ _ h=>h,fun _ _ h=>h,fun _ _ _ h=>h⟩
  have cX:∀b,aC η s.hp b→b<w.heap.size:=fun b ⟨q,o,v,g1,g2,g3,g4⟩=>hr.heap.block g1 g2 g3 g4
  have hJ:J (aU Γ w η s.hp) (fun _=>False) (some (L++[])) W1:=by
   rw[List.append_nil]
   refine⟨_,_,_,⟨⟨fun b o hf=>⟨Nat.lt_of_lt_of_le hf.2.1 gz.size,hf.2.2.2⟩,⟨hr.heap.len,fun q o v h1 h2=>(hr.heap.obj q o v h1 h2).ext SU gz.size fun b _ al=>gz.block b al,hr.heap.sep⟩,fun b hb=>Nat.lt_of_lt_of_le (cX b hb) gz.size,(hr.fX aq).same gz,fun b hb hl=>hr.gx aq hb hl⟩,gz.keeps _,SU,fun b hb=>.inr hb,fun b o hf=>.inl hf,
    fun b o hf=>by have:=hf.2.1;omega,fun _ _ h=>h,fun _ h=>h.elim,fun _ _ _ h=>h.elim,by omega,fun b hb=>(hr.fX aq).lt hb,Zy,⟨hL1,h0,hlen⟩⟩⟩
  have SV:bF W1 (aU Γ w η s.hp) [] [] (.fn (.func (.yield (w.heap.size+1)) #[] #[])::caps.map (AV.oF 0 s.hp)) (.func (.yield (w.heap.size+1)) #[] #[]::vs.toList):=by
   refine⟨.fn _ rfl,?_⟩
   have cS:bF w (aU Γ w η s.hp) η s.hp caps vs.toList:=cd (by simpa using Lu) fun j y u hy hu=>hvr j y u hy (by simpa using hu)
   exact bF.ext ⟨SU.cell,SU.fQ,SU.aY,fun _ _ h=>h,fun _ _ h=>h,fun _ _ _ h=>h⟩ (ky hr _ _ cS)
  have WM:(#[.func (.yield (w.heap.size+1)) #[] #[]]++vs:Array Value)=(.func (.yield (w.heap.size+1)) #[] #[]::vs.toList:List Value).toArray:=by apply Array.ext';simp
  have iB:=SR.2 J _ hC (aU Γ w η s.hp) (fun _=>False) [] W1 _ hJ (fun b o hf=>Nat.lt_of_lt_of_le hf.2.1 gz.size) (fun _ h=>h.elim) ((hr.fX aq).same gz) SV
  rw[WM]
  refine CallsIn.mono (F:=Γ.dA) (R:=fun e w'=>∃v D' b,e=.returned v∧YR false b v∧J D' (fun _=>False) (gT b []) w'∧Left (aU Γ w η s.hp) (fun _=>False) W1 D' w') iB fun e w3 ⟨v,D',b,he,_,⟨F,aM,hp',hj⟩,_⟩=>?_
  subst he
  cases b with
  |true=>
   obtain⟨hl,hH,_⟩:=hj.st
   have:=run_endLoop (P:=Γ.P) hl (by rw[qP];simp)
   rw[qP] at this
   exact⟨none,_,this,⟨s.tmps,hp',()⟩,aM,SS _ hH,hj.back aq cf hr hl _⟩
  |false=>
   obtain⟨c,e,hl,ET,hS⟩:=hj.st
   have:=run_endLoop (P:=Γ.P) hl (by rw[qP];simp)
   rw[qP] at this
   refine⟨some c,_,this,?_⟩
   cases c<;>simp only[C7] at ET<;>first|exact ET.elim|skip
   ·subst ET;exact wpIn_exit ⟨_,aM,hS,hj.back aq cf hr hl _⟩
   ·subst ET;exact wpIn_ret ⟨_,aM,hS,hj.back aq cf hr hl _⟩
end Go.Proofs.YtdcikhleahfknaaGreatDoor
