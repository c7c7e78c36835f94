/- Texts of ours laid together for a claim: FilZ. -/
import Derived.RangeFuncRecord
import Derived.Test.YtdcikhleahfknaaGreatDoorQ25
namespace Go.Proofs.YtdcikhleahfknaaGreatDoor
open Go
set_option linter.unusedSimpArgs false
set_option linter.unusedVariables false
variable {P:Program} {Γ:Env Unit} {s s':AS Unit} {a:Act} {w w' w2:World} {η aH:List Value} {hp hp':List af} {F:Cells}
theorem xb (h:cX w F η hp) {b:Nat} (hl:aE η hp b):(∃vs T p,w.heap[b]?=some (.cells vs T p))∨∃en c,w.heap[b]?=some (.map en c):=by
 obtain⟨r,o,v,g1,g2,g3,g4⟩:=hl
 have cW:=h.obj r o v g1 g3
 cases o with
 |dead=>exact g2.elim
 |box cs=>obtain⟨b',vs,T,rfl,h1,_⟩:=cW;simp only[bU,Option.some.injEq] at g4;subst g4;exact .inl ⟨_,_,_,h1⟩
 |row e size els=>
  obtain⟨_,xs,h1,_⟩:=cW
  obtain⟨cur,h5⟩:=h1.lt g4
  exact .inl ⟨_,_,_,h5⟩
 |aB es=>obtain⟨b',en,c,rfl,h1,_⟩:=cW;simp only[bU,Option.some.injEq] at g4;subst g4;exact .inr ⟨_,_,h1⟩
 |cA q k=>obtain⟨b',vs,rfl,h1,_⟩:=cW;simp only[bU,Option.some.injEq] at g4;subst g4;exact .inl ⟨_,_,_,h1⟩
 |aI e size els=>
  obtain⟨_,xs,h1,_⟩:=cW
  obtain⟨cur,h5⟩:=h1.lt g4
  exact .inl ⟨_,_,_,h5⟩
 |dB e m ns=>
  obtain⟨cur,h5⟩:=eA.lt cW g4
  exact .inl ⟨_,_,_,h5⟩
theorem xc (h:cX w F η hp) {l:Nat} {r:Loop} (hl:w.heap[l]?=some (.loop r)):¬aE η hp l:=by
 intro hb
 rcases xb h hb with⟨_,_,_,h1⟩|⟨_,_,h1⟩<;>rw[hl] at h1<;>cases h1
theorem Bz (h:cX w F η hp) {l:Nat} {r:Option (List Deferred)} (hl:w.heap[l]?=some (.deferred r)):¬aE η hp l:=by
 intro hb
 rcases xb h hb with⟨_,_,_,h1⟩|⟨_,_,h1⟩<;>rw[hl] at h1<;>cases h1
theorem k9 (hlen:η.length=hp.length) {b o:Nat} (h:¬aE η hp b):gO η hp b o:=by
 refine(aR b o).2 fun q u hu IK=>?_
 have hq:q<hp.length:=by rw[←hlen];exact(List.getElem?_eq_some_iff.1 hu).1
 have hg:hp[q]?=some hp[q]:=by simp[hq]
 refine⟨_,hg,?_⟩
 cases hx:hp[q] with
 |dead=>exact True.intro
 |_=>
  exfalso
  rw[hx] at hg
  exact h ⟨q,_,u,hg,True.intro,hu,IK⟩
theorem Rel.Q3 (hr:Rel Γ s a w η) {l:Nat} {r:Loop} (hx:Γ.X l) (hl:w.heap[l]?=some (.loop r)) (ob:Obj) {I:Unit→World→Prop} (hI:I () (w.putObj l ob)):Rel { Γ with Inv:=I } s a (w.putObj l ob) η:=by
 have hs:∀k,k≠l→(w.putObj l ob).heap[k]?=w.heap[k]?:=fun k hk=>World.putObj_heap_other hk
 have he:Ext w (aW Γ w η s.hp) η s.hp (w.putObj l ob) (aW { Γ with Inv:=I } (w.putObj l ob) η s.hp) η s.hp:=by
  refine⟨fun b o v hf hc=>?_,fun b es c hf hc=>?_,fun b o hf=>⟨hf.1,by simpa using hf.2.1,hf.2.2⟩,fun _ _ h=>h,fun _ _ h=>h,fun _ _ _ h=>h⟩
  ·rw[World.cell?_of_block (hs b fun e=>hf.2.2.1 (.inl (e▸hx)))];exact hc
  ·rw[hs b fun e=>hf.2.2.1 (.inl (e▸hx))];exact hc
 have um:∀(q:Nat) (o:af) (v:Value) (b:Nat),s.hp[q]?=some o→o.live→η[q]?=some v→bU v=some b→b≠l:=by
  intro q o v b h1 h2 h3 h4 hb
  subst hb
  exact(hr.bA q o v b h1 h2 h3 h4).2 0 (.inl hx)
 refine⟨hr.nt,fun t=>(hr.tmps t).ext he,⟨hr.heap.len,fun q o v h1 h2=>?_,hr.heap.sep⟩,hr.bA,?_,hI,?_,hr.ext.trans he⟩
 ·by_cases hv:o.live
  ·exact(hr.heap.obj q o v h1 h2).ext he (by simp) fun b hb _=>hs b (um q o v b h1 hv h2 hb)
  ·cases o<;>first|exact True.intro|exact(hv True.intro).elim
 ·refine⟨hr.keeps.os,hr.keeps.tape,hr.keeps.output,by simpa using hr.keeps.size,fun k hk Hq=>?_⟩
  rw[hs k fun e=>Hq (.inl (e▸hx))]
  exact hr.keeps.block k hk Hq
 ·refine⟨fun d hd=>?_,hr.marks.apart⟩
  obtain⟨q,h1,h2,h3⟩:=hr.marks.all d hd
  refine⟨q,h1,?_,h3⟩
  rw[hs q fun e=>by subst e;rw[hl] at h2;cases h2]
  exact h2
def qi:List Nat→List AV→(Nat→AV)→Nat→AV
 |p::ps,x::xs,f=>qi ps xs (xQ f p x)
 |_,_,f=>f
theorem Hr {x:List AV}:∀(ps:List Nat) (xs:List AV) (f:Nat→AV) (ts:Array Value) (vs:List Value),(∀p∈ps,p<ts.size)→(∀t,aY w F η hp (f t) (ts.getD t undef))→bM w F η hp xs vs→
  ∀t,aY w F η hp (qi ps xs f t) (((ps.zip vs).foldl (fun t (p,v)=>t.setIfInBounds p v) ts).getD t undef):=by
 intro ps
 induction ps with
 |nil=>intro xs f ts vs _ hf _ t;simp only[qi,List.zip_nil_left,List.foldl_nil];exact hf t
 |cons p ps ih=>
  intro xs f ts vs Kh hf hx t
  cases xs with
  |nil=>
   cases vs with
   |nil=>simp only[qi,List.zip_nil_right,List.foldl_nil];exact hf t
   |cons v vs=>exact hx.elim
  |cons x xs=>
   cases vs with
   |nil=>exact hx.elim
   |cons v vs=>
    simp only[qi,List.zip_cons_cons,List.foldl_cons]
    refine ih xs (xQ f p x) (ts.setIfInBounds p v) vs (fun q hq=>by rw[Array.size_setIfInBounds];exact Kh q (List.mem_cons_of_mem _ hq)) (fun t=>?_) hx.2 t
    have hp:=Kh p List.mem_cons_self
    rw[fc]
    by_cases Yu:t=p
    ·subst Yu
     rw[if_pos rfl]
     have e:(ts.setIfInBounds t v).getD t undef=v:=by simp[hp]
     rw[e];exact hx.1
    ·rw[if_neg Yu]
     have e:(ts.setIfInBounds p v).getD t undef=ts.getD t undef:=by
      simp only[Array.getD_eq_getD_getElem?]
      rw[Array.getElem?_setIfInBounds_ne (Ne.symm Yu)]
     rw[e];exact hf t
theorem xd:∀(l:List (Nat×Value)) (ts:Array Value),(l.foldl (fun t (p,v)=>t.setIfInBounds p v) ts).size=ts.size
 | [],_=>rfl
 |(p,v)::l,ts=>by rw[List.foldl_cons,xd l];simp
def Er:Code→Exit→Prop
 | .ret,e=>e=.ret
 | .exit id,e=>e=.exit id
 |_,_=>False
def Ki (jC:Env Unit) (H:List (List AV)→List af→Prop) (rest:List (List AV)) (Q:Exit→AS Unit→Prop) (f:Nat→AV):Exit→AS Unit→Prop
 | .normal,s'=>∃hp,bX jC s' ⟨fun _=>.top,hp,()⟩∧H rest hp
 | .ret,s'=>Q .ret ⟨f,s'.hp,()⟩
 | .exit id,s'=>Q (.exit id) ⟨f,s'.hp,()⟩
 |_,_=>False
def Yv:Exit→AS Unit→Prop:=fun _ _=>False
structure fY (Γ:Env Unit) (n:Nat) (jC:Env Unit):Prop where
 ok:jC.Ok
 hP:jC.P=Γ.P
 nt:jC.nt=Γ.nt
 h0:jC.iV.length=n
structure RJ (η:List Value) (hp:List af) (F1:Cells) (w:World) (rec:LoopState→Option Code→Loop) (m:Nat) (H:List (List AV)→List af→Prop) (S:Exit→List af→Prop)
  (D:Cells) (Y:Nat→Prop) (gh:Gh) (W:World) (F:Cells) (aH:List Value) (hp':List af):Prop where
 pre:oB W F aH hp'
 keeps:bo (aE η hp) w W
 ext:Ext w F1 η hp W F aH hp'
 bA:∀b,aE aH hp' b→w.heap.size≤b∨aE η hp b
 bb:∀b o,F b o→F1 b o∨w.heap.size≤b∨aE η hp b
 Kj:∀b o,F b o→b≠w.heap.size+1
 df:∀b o,D b o→F b o
 y:∀b,Y b→b<W.heap.size∧¬aE aH hp' b∧w.heap.size+2≤b
 fy:∀b o,F b o→Y b→D b o
 size:w.heap.size+2≤W.heap.size
 gw:∀b,ly b→b<w.heap.size
 db:W.heap[w.heap.size]?=some (.deferred (some []))
 st:match gh with
  |some rest=>W.heap[w.heap.size+1]?=some (.loop (rec .ready none))∧H rest hp'∧∀x∈rest,x.length=m
  |none=>∃c e,W.heap[w.heap.size+1]?=some (.loop (rec .done (some c)))∧Er c e∧S e hp'
variable {F1 D D':Cells} {Y Y':Nat→Prop} {gh:Gh} {W W':World} {rec:LoopState→Option Code→Loop} {m:Nat} {H:List (List AV)→List af→Prop} {S:Exit→List af→Prop}
theorem RJ.Hp (h:RJ η hp F1 w rec m H S D Y gh W F aH hp') (k:Adv D Y W D' Y' W'):RJ η hp F1 w rec m H S D' Y' gh W' (fun b o=>F b o∨D' b o) aH hp':=by
 have hE:Ext W F aH hp' W' (fun b o=>F b o∨D' b o) aH hp':=by
  refine⟨fun b o v hf hc=>?_,fun b es c hf hc=>?_,fun b o hf=>.inl hf,fun _ _ h=>h,fun _ _ h=>h,fun _ _ _ h=>h⟩
  ·by_cases hy:Y b
   ·exact k.cell b o v (h.fy b o hf hy) hc
   ·rw[World.cell?_of_block (k.same.block b (h.pre.bb b o hf).1 hy)];exact hc
  ·by_cases hy:Y b
   ·exact k.gp b es c (h.fy b 0 hf hy) hc
   ·rw[k.same.block b (h.pre.bb b 0 hf).1 hy];exact hc
 have bC:=k.same.size
 have QV:∀b,W.heap.size≤b→¬aE aH hp' b:=fun b hb hl=>by have:=h.pre.live b hl;omega
 have hly:∀b,aE aH hp' b→¬Y b:=fun b hl hy=>(h.y b hy).2.1 hl
 have Tt:¬Y (w.heap.size+1):=fun hy=>by have:=(h.y _ hy).2.2;omega
 have lC:¬Y w.heap.size:=fun hy=>by have:=(h.y _ hy).2.2;omega
 have QF:=h.size
 refine⟨⟨fun b o hf=>?_,⟨h.pre.heap.len,fun q o v h1 h2=>?_,h.pre.heap.sep⟩,fun b hb=>Nat.lt_of_lt_of_le (h.pre.live b hb) bC,h.pre.gz.keeps k.same fun b hb hy=>(by have:=(h.y b hy).2.2;have:=h.gw b hb;omega),h.pre.gx⟩,h.keeps.trans k.same fun i hi hy=>?_,h.ext.trans hE,h.bA,fun b o hf=>?_,fun b o hf=>?_,fun b o hd=>.inr hd,fun b hb=>?_,fun b o hf hy=>?_,by omega,h.gw,?_,?_⟩
 ·rcases hf with hf|hd
  ·exact⟨Nat.lt_of_lt_of_le (h.pre.bb b o hf).1 bC,(h.pre.bb b o hf).2⟩
  ·obtain⟨h1,h2⟩:=k.back b o hd
   refine⟨h2,?_⟩
   rcases h1 with h1|h1|h1
   ·exact(h.pre.bb b o (h.df b o h1)).2
   ·exact k9 h.pre.heap.len (h.y b h1).2.1
   ·exact k9 h.pre.heap.len (QV b h1)
 ·by_cases hv:o.live
  ·exact(h.pre.heap.obj q o v h1 h2).ext hE bC fun b hb ak=>k.same.block b ak (hly b ⟨q,o,v,h1,hv,h2,hb⟩)
  ·cases o<;>first|exact True.intro|exact(hv True.intro).elim
 ·have:=(h.y i hy).2.2;omega
 ·rcases hf with hf|hd
  ·exact h.bb b o hf
  ·rcases (k.back b o hd).1 with h1|h1|h1
   ·exact h.bb b o (h.df b o h1)
   ·exact .inr (.inl (by have:=(h.y b h1).2.2;omega))
   ·exact .inr (.inl (by omega))
 ·rcases hf with hf|hd
  ·exact h.Kj b o hf
  ·rcases (k.back b o hd).1 with h1|h1|h1
   ·exact h.Kj b o (h.df b o h1)
   ·have:=(h.y b h1).2.2;omega
   ·omega
 ·obtain⟨h1,h2⟩:=k.Q1 b hb
  refine⟨h2,?_,?_⟩
  ·rcases h1 with h1|h1
   ·exact(h.y b h1).2.1
   ·exact QV b h1
  ·rcases h1 with h1|h1
   ·exact(h.y b h1).2.2
   ·omega
 ·rcases hf with hf|hd
  ·rcases (k.Q1 b hy).1 with h1|h1
   ·exact k.bb b o (h.fy b o hf h1)
   ·have:=(h.pre.bb b o hf).1;omega
  ·exact hd
 ·rw[k.same.block _ (by omega) lC];exact h.db
 ·have pK:=h.st
  have e:W'.heap[w.heap.size+1]?=W.heap[w.heap.size+1]?:=k.same.block _ (by omega) Tt
  cases gh with
  |some rest=>simp only[e];exact pK
  |none=>simp only[e];exact pK
def fZ (Γ:Env Unit) (W:World) (F:Cells) (aH:List Value) (hp':List af) (l:Nat) (I:Unit→World→Prop):Env Unit:=
 { P:=Γ.P,w0:=W,F0:=F,X:=fun b=>b=l,Y:=aE aH hp',Inv:=I,nt:=Γ.nt,wP:=some l,m0:=fun r=>W.heap.size≤r,Z:=fun _ _=>False,vZ:=aH,iV:=hp' }
theorem RJ.after (h:RJ η hp F1 w rec m H S D Y gh W F aH hp') (hD:∀b o,D b o→b<W.heap.size) {I:Unit→World→Prop} {f3:Nat→AV} {a3:Act} {w3:World} {IE:List Value} {hp3:List af} (hr:Rel (fZ Γ W F aH hp' (w.heap.size+1) I) ⟨f3,hp3,()⟩ a3 w3 IE)
  {r:Loop} (hl:w3.heap[w.heap.size+1]?=some (.loop r)) (ob:Loop) {gh2:Gh} (pK:∀W':World,W'.heap[w.heap.size+1]?=some (.loop ob)→match gh2 with
   |some rest=>W'.heap[w.heap.size+1]?=some (.loop (rec .ready none))∧H rest hp3∧∀x∈rest,x.length=m
   |none=>∃c e,W'.heap[w.heap.size+1]?=some (.loop (rec .done (some c)))∧Er c e∧S e hp3):
  RJ η hp F1 w rec m H S D Y gh2 (w3.putObj (w.heap.size+1) (.loop ob)) (aW (fZ Γ W F aH hp' (w.heap.size+1) (fun _ _=>True)) (w3.putObj (w.heap.size+1) (.loop ob)) IE hp3) IE hp3∧
   Left D Y W D (w3.putObj (w.heap.size+1) (.loop ob)):=by
 have QF:=h.size
 have ak:w.heap.size+1<w3.heap.size:=ba hl
 have Tv:Rel (fZ Γ W F aH hp' (w.heap.size+1) (fun _ _=>True)) ⟨f3,hp3,()⟩ a3 (w3.putObj (w.heap.size+1) (.loop ob)) IE:=hr.Q3 (I:=fun _ _=>True) rfl hl (.loop ob) True.intro
 have qj:bo (fun b=>b=w.heap.size+1∨aE aH hp' b) W (w3.putObj (w.heap.size+1) (.loop ob)):=Tv.keeps
 have bC:=qj.size
 have bZ:Ext W F aH hp' (w3.putObj (w.heap.size+1) (.loop ob)) (aW (fZ Γ W F aH hp' (w.heap.size+1) (fun _ _=>True)) (w3.putObj (w.heap.size+1) (.loop ob)) IE hp3) IE hp3:=Tv.ext
 have A8:∀b,aE IE hp3 b→(W.heap.size≤b∨aE aH hp' b)∧b≠w.heap.size+1:=fun b ⟨q,o,v,g1,g2,g3,g4⟩=>
  ⟨(Tv.bA q o v b g1 g2 g3 g4).1,fun e=>(Tv.bA q o v b g1 g2 g3 g4).2 0 (.inl e)⟩
 have Yw:∀b,aE IE hp3 b→b<(w3.putObj (w.heap.size+1) (.loop ob)).heap.size:=fun b ⟨q,o,v,g1,g2,g3,g4⟩=>Tv.heap.block g1 g2 g3 g4
 have hgk:∀b,ly b→¬(b=w.heap.size+1∨aE aH hp' b):=fun b hb hx=>hx.elim (fun e=>by have:=h.gw b hb;omega) (h.pre.gx b hb)
 refine⟨⟨⟨fun b o hf=>⟨hf.2.1,hf.2.2.2⟩,Tv.heap,Yw,h.pre.gz.keeps qj hgk,fun b hb hl=>(A8 b hl).1.elim (fun h1=>by have:=h.gw b hb;omega) (h.pre.gx b hb)⟩,h.keeps.trans qj fun i hi hx=>?_,h.ext.trans bZ,fun b hb=>?_,fun b o hf=>?_,fun b o hf e=>hf.2.2.1 (.inl e),fun b o hd=>bZ.bb _ _ (h.df b o hd),fun b hb=>⟨?_,fun hl=>?_,(h.y b hb).2.2⟩,fun b o hf hy=>?_,by omega,h.gw,?_,?_⟩,
  bC,fun b o v hd hc=>bZ.cell b o v (h.df b o hd) hc,fun b es c hd hc=>bZ.gp b es c (h.df b 0 hd) hc,fun b hb=>?_,fun _ _ h=>h,fun b o hd=>⟨.inl hd,?_⟩,fun b hb=>qj.block b (by have:=h.gw b hb;omega) (hgk b hb)⟩
 ·rcases hx with rfl|hx
  ·omega
  ·rcases h.bA i hx with h1|h1
   ·omega
   ·exact h1
 ·rcases (A8 b hb).1 with h1|h1
  ·exact .inl (by omega)
  ·exact h.bA b h1
 ·rcases hf.1 with h1|h1|h1
  ·exact h.bb b o h1
  ·have h1':W.heap.size≤b:=h1
   exact .inr (.inl (by omega))
  ·exact(h.bA b h1).imp (fun h=>.inl h) (fun h=>h) |>.elim (fun h=>.inr h) fun h=>.inr (.inr h)
 ·have:=(h.y b hb).1;omega
 ·rcases (A8 b hl).1 with h1|h1
  ·have:=(h.y b hb).1;omega
  ·exact(h.y b hb).2.1 h1
 ·rcases hf.1 with h1|h1|h1
  ·exact h.fy b o h1 hy
  ·have h1':W.heap.size≤b:=h1
   have:=(h.y b hy).1;omega
  ·exact((h.y b hy).2.1 h1).elim
 ·rw[qj.block _ (by omega) fun hx=>hx.elim (fun e=>by omega) fun hx=>Bz h.pre.heap h.db hx]
  exact h.db
 ·exact pK _ (World.putObj_heap_same ak)
 ·have:=h.y b hb
  exact qj.block b this.1 fun hx=>hx.elim (fun e=>by omega) this.2.1
 ·have:=hD b o hd;omega
theorem N1 (ps:Array Nat) (aU:List Value) (ts:Array Value):(ps.zip aU.toArray).foldl (fun tmps (t,a)=>tmps.setIfInBounds t a) ts=(ps.toList.zip aU).foldl (fun t (p,v)=>t.setIfInBounds p v) ts:=by
 rw[←Array.foldl_toList]
 simp
theorem RJ.round {ps:Array Tmp} {uU body:Code} {fn:Nat} {Q:Exit→AS Unit→Prop} {f:Nat→AV} (ha:a.tmps.size=Γ.nt) (Kh:∀p∈ps.toList,p<Γ.nt) (hf:∀t,aY w F1 η hp (f t) (a.tmps.getD t undef))
  (ru:rec=fun st pe=>{ state:=st,pending:=pe,fn:=fn,tmps:=a.tmps,params:=ps,assign:=uU,body:=body,defers:=w.heap.size })
  (o9:∀x rest hp,H (x::rest) hp→∃N:AS Unit→Prop,(∀jC,fY Γ hp.length jC→dG jC uU (oI N Yv) ⟨qi ps.toList x f,hp,()⟩)∧∀s1,N s1→∀jC,fY Γ hp.length jC→dG jC body (Ki jC H rest Q f) s1)
  {x:List AV} {rest:List (List AV)} {aU:List Value} (h:RJ η hp F1 w rec ps.size H (fun e hp=>Q e ⟨f,hp,()⟩) D Y (some (x::rest)) W F aH hp') (hD:∀b o,D b o→b<W.heap.size) (hv:bM W D [] [] x aU):
  Kb Γ.P (.func (.yield (w.heap.size+1)) #[] #[]) aU W fun e w'=>∃b,e=.returned (.bool b)∧(∃F aH hp',RJ η hp F1 w rec ps.size H (fun e hp=>Q e ⟨f,hp,()⟩) D Y (gT b rest) w' F aH hp')∧Left D Y W D w':=by
 generalize hR:(fun(e:Ending) (w':World)=>∃b,e=.returned (.bool b)∧(∃F aH hp',RJ η hp F1 w rec ps.size H (fun e hp=>Q e ⟨f,hp,()⟩) D Y (gT b rest) w' F aH hp')∧Left D Y W D w')=R
 obtain⟨hl,hH,hlen⟩:=h.st
 have QF:=h.size
 have MZ:=hv.length
 have Yx:=hlen x List.mem_cons_self
 have hy:=run_yield (P:=Γ.P) (args:=aU.toArray) hl (by rw[ru];simp;omega)
 refine⟨_,_,_,_,_,rfl,hy,roundIn_of_wpIn (F:=Fence.wide) (P:=Γ.P) trivial ?_⟩
 obtain⟨N,Yy,fa⟩:=o9 x rest hp' hH
 rw[ru]
 simp only[N1]
 have Uz:∀I:Unit→World→Prop,(∀(w1 w2:World),w2.heap[w.heap.size+1]?=w1.heap[w.heap.size+1]?→I () w1→I () w2)→fY Γ hp'.length (fZ Γ W F aH hp' (w.heap.size+1) I):=fun I hI=>
  ⟨⟨h.pre.heap.len,fun b hb=>by have:b=w.heap.size+1:=hb;show b<W.heap.size;omega,h.pre.live,fun g w1 w2 hx _ hi=>hI w1 w2 (hx _ rfl) hi,fun _ _ h=>h.elim,h.pre.gz,fun b hb hx=>hx.elim (fun e=>by have:b=w.heap.size+1:=e;have:=h.gw b hb;omega) (h.pre.gx b hb)⟩,rfl,rfl,rfl⟩
 have QV:=xc h.pre.heap hl
 have wg:∀(I:Unit→World→Prop) b o,F b o→aW (fZ Γ W F aH hp' (w.heap.size+1) I) W aH hp' b o:=fun I b o hf=>⟨.inl hf,(h.pre.bb b o hf).1,fun hx=>hx.elim (fun e=>h.Kj b o hf e) fun h=>h,(h.pre.bb b o hf).2⟩
 let I1:Unit→World→Prop:=fun _ w1=>w1.heap[w.heap.size+1]?=some (.loop (rec .ready none))
 let I2:Unit→World→Prop:=fun _ w1=>w1.heap[w.heap.size+1]?=some (.loop { rec .ready none with state:=.busy })
 have hE:Ext W F aH hp' W (aW (fZ Γ W F aH hp' (w.heap.size+1) I1) W aH hp') aH hp':=⟨fun _ _ _ _ h=>h,fun _ _ _ _ h=>h,wg I1,fun _ _ h=>h,fun _ _ h=>h,fun _ _ _ h=>h⟩
 have hrel:Rel (fZ Γ W F aH hp' (w.heap.size+1) I1) ⟨qi ps.toList x f,hp',()⟩ ⟨(ps.toList.zip aU).foldl (fun t (p,v)=>t.setIfInBounds p v) a.tmps,[]⟩ W aH:=by
  refine⟨by rw[xd];exact ha,Hr (x:=x) ps.toList x f a.tmps aU (fun p hp=>by rw[ha];exact Kh p hp) (fun t=>((hf t).ext h.ext).ext hE) ?_,⟨h.pre.heap.len,fun q o v h1 h2=>(h.pre.heap.obj q o v h1 h2).ext hE (Nat.le_refl _) fun _ _ _=>rfl,h.pre.heap.sep⟩,
   fun q o v b h1 h2 h3 h4=>⟨.inr ⟨q,o,v,h1,h2,h3,h4⟩,fun _ hx=>hx.elim (fun e=>QV (e▸⟨q,o,v,h1,h2,h3,h4⟩)) fun h=>h⟩,bo.refl _ _,hl,⟨fun d hd=>(by cases hd),List.Pairwise.nil⟩,hE⟩
  exact cf hv.length fun j y u hy hu=>((hv.get j y u hy hu).bb fun b o hd=>wg I1 b o (h.df b o hd)).lift
 have h1:=Yy _ (Uz I1 fun w1 w2 e hi=>by show w2.heap[_]?=_;rw[e];exact hi) _ _ _ hrel
 refine wpIn_mono (F:=Fence.wide.inRound (w.heap.size+1)) h1 fun e a1 w1 ⟨s1,iU,hN,DC⟩=>?_
 cases e with
 |normal=>
  have As:w1.heap[w.heap.size+1]?=some (.loop (rec .ready none)):=DC.inv
  have JE:w.heap.size+1<w1.heap.size:=ba As
  refine⟨_,run_beginRound As (by rw[ru]),?_⟩
  have lr:Rel (fZ Γ W F aH hp' (w.heap.size+1) I2) s1 a1 (w1.putObj (w.heap.size+1) (.loop { rec .ready none with state:=.busy })) iU:=DC.Q3 (I:=I2) rfl As _ (World.putObj_heap_same JE)
  have h2:=fa s1 hN _ (Uz I2 fun w1 w2 e hi=>by show w2.heap[_]?=_;rw[e];exact hi) _ _ _ lr
  refine wpIn_mono (F:=Fence.wide.inRound (w.heap.size+1)) h2 fun e a3 w3 ⟨s3,IE,hq,D7⟩=>?_
  have QI:w3.heap[w.heap.size+1]?=some (.loop { rec .ready none with state:=.busy }):=D7.inv
  cases e with
  |normal=>
   obtain⟨hp3,hw,hH3⟩:=hq
   obtain⟨η4,Xm⟩:=hw _ _ _ D7
   have Q4:=RJ.after (gh2:=some rest) h hD Xm QI (rec .ready none) fun W' Na=>⟨Na,hH3,fun y hy=>hlen y (List.mem_cons_of_mem _ hy)⟩
   have he:=run_endRound (P:=Γ.P) none QI
   have e2:({ { rec .ready none with state:=.busy } with state:=if(none:Option Code).isNone then .ready else .done,pending:=none }:Loop)=rec .ready none:=by rw[ru];rfl
   rw[e2] at he
   exact⟨_,_,he,by rw[←hR];exact⟨true,rfl,⟨_,_,_,Q4.1⟩,Q4.2⟩⟩
  |ret=>
   have Q4:=RJ.after (gh2:=none) h hD (f3:=s3.tmps) (hp3:=s3.hp) D7 QI (rec .done (some .ret)) fun W' Na=>⟨.ret,.ret,Na,rfl,hq⟩
   have he:=run_endRound (P:=Γ.P) (some .ret) QI
   have e2:({ { rec .ready none with state:=.busy } with state:=if(some Code.ret).isNone then .ready else .done,pending:=some .ret }:Loop)=rec .done (some .ret):=by rw[ru];rfl
   rw[e2] at he
   exact⟨_,_,he,by rw[←hR];exact⟨false,rfl,⟨_,_,_,Q4.1⟩,Q4.2⟩⟩
  |exit id=>
   have Q4:=RJ.after (gh2:=none) h hD (f3:=s3.tmps) (hp3:=s3.hp) D7 QI (rec .done (some (.exit id))) fun W' Na=>⟨.exit id,.exit id,Na,rfl,hq⟩
   have he:=run_endRound (P:=Γ.P) (some (.exit id)) QI
   have e2:({ { rec .ready none with state:=.busy } with state:=if(some (Code.exit id)).isNone then .ready else .done,pending:=some (.exit id) }:Loop)=rec .done (some (.exit id)):=by rw[ru];rfl
   rw[e2] at he
   exact⟨_,_,he,by rw[←hR];exact⟨false,rfl,⟨_,_,_,Q4.1⟩,Q4.2⟩⟩
  |_=>exact hq.elim
 |_=>exact hN.elim
theorem RJ.back (ao:Γ.Ok) (cg:Γ.Ar) (hr:Rel Γ s a w η) (h:RJ η s.hp (aW Γ w η s.hp) w rec m H S D Y gh W F aH hp') {r:Loop} (hl:W.heap[w.heap.size+1]?=some (.loop r)) (ob:Loop):
  Rel Γ ⟨s.tmps,hp',()⟩ { a with defers:={ target:=.collected w.heap.size,args:=#[] }::a.defers } (W.putObj (w.heap.size+1) (.loop ob)) aH:=by
 have hs:∀k,k≠w.heap.size+1→(W.putObj (w.heap.size+1) (.loop ob)).heap[k]?=W.heap[k]?:=fun k hk=>World.putObj_heap_other hk
 have bC:=hr.keeps.size
 have QF:=h.size
 have dw:∀b,aE η s.hp b→(Γ.w0.heap.size≤b∨Γ.Y b)∧∀o,¬Γ.No b o:=fun b ⟨q,o,v,g1,g2,g3,g4⟩=>hr.bA q o v b g1 g2 g3 g4
 have wg:∀b o,F b o→aW Γ (W.putObj (w.heap.size+1) (.loop ob)) aH hp' b o:=by
  intro b o hf
  have h1:=h.pre.bb b o hf
  refine⟨?_,by simpa using h1.1,?_,h1.2⟩
  ·rcases h.bb b o hf with g|g|g
   ·exact g.1
   ·exact .inr (.inl (by omega))
   ·exact .inr (dw b g).1
  ·rcases h.bb b o hf with g|g|g
   ·exact g.2.2.1
   ·intro hx;have:=ao.no hx;omega
   ·exact(dw b g).2 o
 have hE:Ext W F aH hp' (W.putObj (w.heap.size+1) (.loop ob)) (aW Γ (W.putObj (w.heap.size+1) (.loop ob)) aH hp') aH hp':=by
  refine⟨fun b o v hf hc=>?_,fun b es c hf hc=>?_,wg,fun _ _ h=>h,fun _ _ h=>h,fun _ _ _ h=>h⟩
  ·rw[World.cell?_of_block (hs b (h.Kj b o hf))];exact hc
  ·rw[hs b (h.Kj b 0 hf)];exact hc
 have hET:=h.ext.trans hE
 have um:∀b,aE aH hp' b→b≠w.heap.size+1:=fun b hb e=>xc h.pre.heap hl (e▸hb)
 refine⟨hr.nt,fun t=>(hr.tmps t).ext hET,⟨h.pre.heap.len,fun q o v h1 h2=>?_,h.pre.heap.sep⟩,fun q o v b h1 h2 h3 h4=>?_,?_,?_,?_,hr.ext.trans hET⟩
 ·by_cases hv:o.live
  ·exact(h.pre.heap.obj q o v h1 h2).ext hE (by simp) fun b hb _=>hs b (um b ⟨q,o,v,h1,hv,h2,hb⟩)
  ·cases o<;>first|exact True.intro|exact(hv True.intro).elim
 ·rcases h.bA b ⟨q,o,v,h1,h2,h3,h4⟩ with g|g
  ·exact⟨.inl (by omega),fun o hx=>by have:=ao.no hx;omega⟩
  ·exact dw b g
 ·refine⟨h.keeps.os.trans hr.keeps.os,h.keeps.tape.trans hr.keeps.tape,h.keeps.output.trans hr.keeps.output,by simp;omega,fun k hk hx=>?_⟩
  rw[hs k (by omega),h.keeps.block k (by omega) fun hl=>?_]
  ·exact hr.keeps.block k hk hx
  ·rcases (dw k hl).1 with g|g
   ·omega
   ·exact hx (.inr g)
 ·refine ao.mJ _ _ _ (fun b hb=>?_) (by simp;omega) hr.inv
  have hb0:=ao.x b hb
  rw[hs b (by omega),h.keeps.block b (by omega) fun hl=>(dw b hl).2 0 (.inl hb)]
 ·refine⟨fun d hd=>?_,List.pairwise_cons.2 ⟨fun d hd=>?_,hr.marks.apart⟩⟩
  ·rcases List.mem_cons.1 hd with rfl|hd
   ·exact⟨_,rfl,by rw[hs _ (by omega)];exact h.db,cg.2 _ bC⟩
   ·obtain⟨q,g1,g2,g3⟩:=hr.marks.all d hd
    have hq:=ba g2
    refine⟨q,g1,?_,g3⟩
    rw[hs q (by omega),h.keeps.block q hq fun hl=>Bz hr.heap g2 hl]
    exact g2
  ·obtain⟨q,g1,g2,g3⟩:=hr.marks.all d hd
   have hq:=ba g2
   rw[g1]
   simp
   omega
theorem dG.range (ao:Γ.Ok) (cg:Γ.Ar) {g:Operand} {ps:Array Tmp} {uU body:Code} {Q:Exit→AS Unit→Prop} {gf:Nat} {caps:List AV} {L:List (List AV)} (hg:s.ev g=.aK gf caps) (UA:wu Γ.P gf (fun v=>v::caps.map (AV.oZ 0 s.hp)) L false)
  (hlen:∀x∈L,x.length=ps.size) (Kh:∀p∈ps.toList,p<Γ.nt) (H:List (List AV)→List af→Prop) (h0:H L s.hp)
  (o9:∀x rest hp,H (x::rest) hp→∃N:AS Unit→Prop,(∀jC,fY Γ hp.length jC→dG jC uU (oI N Yv) ⟨qi ps.toList x s.tmps,hp,()⟩)∧∀s1,N s1→∀jC,fY Γ hp.length jC→dG jC body (Ki jC H rest Q s.tmps) s1)
  (UB:∀hp,H [] hp→Q .normal ⟨s.tmps,hp,()⟩):dG Γ (.rangeFunc g ps uU body) Q s:=by
 intro a w η hr
 refine wpIn_rangeFunc fun fn Tu=>?_
 have ox:Γ.dM.round=none:=cg.1
 rw[ox]
 obtain⟨rec,ru⟩:∃rec:LoopState→Option Code→Loop,rec=fun st pe=>{ state:=st,pending:=pe,fn:=fn,tmps:=a.tmps,params:=ps,assign:=uU,body:=body,defers:=w.heap.size }:=⟨_,rfl⟩
 obtain⟨W1,Hs⟩:∃W1,(w.alloc (.deferred (some []))).alloc (.loop (rec .ready none))=W1:=⟨_,rfl⟩
 have gR:bu w W1:=by rw[←Hs];exact(bu.alloc w _).trans (bu.alloc _ _)
 have Yz:W1.heap.size=w.heap.size+2:=by rw[←Hs];simp
 have hL1:W1.heap[w.heap.size+1]?=some (.loop (rec .ready none)):=by
  rw[←Hs];have:=World.alloc_heap_new (w.alloc (.deferred (some []))) (.loop (rec .ready none));rwa [World.size_alloc] at this
 have hK1:W1.heap[w.heap.size]?=some (.deferred (some [])):=by
  rw[←Hs];exact(heap_alloc_old _ _ (by simp)).trans (World.alloc_heap_new w _)
 have YA:=hr.ev g
 rw[hg] at YA
 generalize hgv:a.eval g=v at YA
 cases YA with
 |aK _ _ vs MZ hvr=>
 refine⟨w.heap.size+1,[{ target:=.collected w.heap.size,args:=#[] }],W1,{ target:=.fn (.func gf) vs,args:=#[.func (.yield (w.heap.size+1)) #[] #[]] },W1,gf,
  #[.func (.yield (w.heap.size+1)) #[] #[]]++vs,W1,?_,?_,fun _ _=>trivial,?_,fun h=>(by cases h),?_⟩
 ·rw[←Hs,ru];exact run_enterLoop_outer _ _ _ _ _
 ·simp only[resolve,hgv]
  simp[go_sem]
 ·simp[invoke,iI UA.1]
 ·let J:JT:=fun D Y gh W=>∃F aH hp',RJ η s.hp (aW Γ w η s.hp) w rec ps.size H (fun e hp=>Q e ⟨s.tmps,hp,()⟩) D Y gh W F aH hp'
  have hC:Cons Γ.P (.func (.yield (w.heap.size+1)) #[] #[]) J:=
   ⟨rfl,fun D Y gh W D' Y' W' ⟨F,aH,hp',h⟩ k=>⟨_,_,_,h.Hp k⟩,fun D Y x rest W aU ⟨F,aH,hp',h⟩ hD hY _ hv=>h.round hr.nt Kh hr.tmps ru o9 hD hv⟩
  have UC:Ext w (aW Γ w η s.hp) η s.hp W1 (aW Γ w η s.hp) η s.hp:=
   ⟨fun b o v hf hc=>by rw[World.cell?_of_block (gR.block b hf.2.1)];exact hc,fun b es c hf hc=>by rw[gR.block b hf.2.1];exact hc,fun _ _ h=>h,fun _ _ h=>h,fun _ _ h=>h,fun _ _ _ h=>h⟩
  have dw:∀b,aE η s.hp b→b<w.heap.size:=fun b ⟨q,o,v,g1,g2,g3,g4⟩=>hr.heap.block g1 g2 g3 g4
  have hJ:J (aW Γ w η s.hp) (fun _=>False) (some (L++[])) W1:=by
   rw[List.append_nil]
   refine⟨_,_,_,⟨⟨fun b o hf=>⟨Nat.lt_of_lt_of_le hf.2.1 gR.size,hf.2.2.2⟩,⟨hr.heap.len,fun q o v h1 h2=>(hr.heap.obj q o v h1 h2).ext UC gR.size fun b _ ak=>gR.block b ak,hr.heap.sep⟩,fun b hb=>Nat.lt_of_lt_of_le (dw b hb) gR.size,(hr.gz ao).same gR,fun b hb hl=>hr.gx ao hb hl⟩,gR.keeps _,UC,fun b hb=>.inr hb,fun b o hf=>.inl hf,
    fun b o hf=>by have:=hf.2.1;omega,fun _ _ h=>h,fun _ h=>h.elim,fun _ _ _ h=>h.elim,by omega,fun b hb=>(hr.gz ao).lt hb,hK1,⟨hL1,h0,hlen⟩⟩⟩
  have UD:bM W1 (aW Γ w η s.hp) [] [] (.fn (.func (.yield (w.heap.size+1)) #[] #[])::caps.map (AV.oZ 0 s.hp)) (.func (.yield (w.heap.size+1)) #[] #[]::vs.toList):=by
   refine⟨.fn _ rfl,?_⟩
   have cS:bM w (aW Γ w η s.hp) η s.hp caps vs.toList:=cf (by simpa using MZ) fun j y u hy hu=>hvr j y u hy (by simpa using hu)
   exact bM.ext ⟨UC.cell,UC.gp,UC.bb,fun _ _ h=>h,fun _ _ h=>h,fun _ _ _ h=>h⟩ (kX hr _ _ cS)
  have Yp:(#[.func (.yield (w.heap.size+1)) #[] #[]]++vs:Array Value)=(.func (.yield (w.heap.size+1)) #[] #[]::vs.toList:List Value).toArray:=by apply Array.ext';simp
  have jc:=UA.2 J _ hC (aW Γ w η s.hp) (fun _=>False) [] W1 _ hJ (fun b o hf=>Nat.lt_of_lt_of_le hf.2.1 gR.size) (fun _ h=>h.elim) ((hr.gz ao).same gR) UD
  rw[Yp]
  refine CallsIn.mono (F:=Γ.dM) (R:=fun e w'=>∃v D' b,e=.returned v∧YR false b v∧J D' (fun _=>False) (gT b []) w'∧Left (aW Γ w η s.hp) (fun _=>False) W1 D' w') jc fun e w3 ⟨v,D',b,he,_,⟨F,aH,hp',hj⟩,_⟩=>?_
  subst he
  cases b with
  |true=>
   obtain⟨hl,hH,_⟩:=hj.st
   have:=run_endLoop (P:=Γ.P) hl (by rw[ru];simp)
   rw[ru] at this
   exact⟨none,_,this,⟨s.tmps,hp',()⟩,aH,UB _ hH,hj.back ao cg hr hl _⟩
  |false=>
   obtain⟨c,e,hl,Gb,hS⟩:=hj.st
   have:=run_endLoop (P:=Γ.P) hl (by rw[ru];simp)
   rw[ru] at this
   refine⟨some c,_,this,?_⟩
   cases c<;>simp only[Er] at Gb<;>first|exact Gb.elim|skip
   ·subst Gb;exact wpIn_exit ⟨_,aH,hS,hj.back ao cg hr hl _⟩
   ·subst Gb;exact wpIn_ret ⟨_,aH,hS,hj.back ao cg hr hl _⟩
end Go.Proofs.YtdcikhleahfknaaGreatDoor
