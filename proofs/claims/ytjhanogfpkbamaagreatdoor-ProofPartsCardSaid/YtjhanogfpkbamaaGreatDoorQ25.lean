/- Texts of ours laid together for a claim: FilZ. -/
import Derived.RangeFuncRecord
import Derived.Test.YtjhanogfpkbamaaGreatDoorQ24
namespace Go.Proofs.YtjhanogfpkbamaaGreatDoor
open Go
set_option linter.unusedSimpArgs false
set_option linter.unusedVariables false
variable {P:Program} {Γ:Env Unit} {s s':AS Unit} {a:Act} {w w' w2:World} {η η':List Value} {hp hp':List AObj} {F:Cells}
theorem live_kind (h:HeapOk w F η hp) {b:Nat} (hl:LiveBlk η hp b):(∃vs T p,w.heap[b]?=some (.cells vs T p))∨∃en c,w.heap[b]?=some (.map en c):=by
 obtain⟨r,o,v,g1,g2,g3,g4⟩:=hl
 have hob:=h.obj r o v g1 g3
 cases o with
 |dead=>exact g2.elim
 |box cs=>obtain⟨b',vs,T,rfl,h1,_⟩:=hob;simp only[blk,Option.some.injEq] at g4;subst g4;exact .inl ⟨_,_,_,h1⟩
 |row e size els=>
  obtain⟨_,xs,h1,_⟩:=hob
  obtain⟨cur,h5⟩:=h1.lt g4
  exact .inl ⟨_,_,_,h5⟩
 |mapo es=>obtain⟨b',en,c,rfl,h1,_⟩:=hob;simp only[blk,Option.some.injEq] at g4;subst g4;exact .inr ⟨_,_,h1⟩
 |bld q k=>obtain⟨b',vs,rfl,h1,_⟩:=hob;simp only[blk,Option.some.injEq] at g4;subst g4;exact .inl ⟨_,_,_,h1⟩
 |mrow e size els=>
  obtain⟨_,xs,h1,_⟩:=hob
  obtain⟨cur,h5⟩:=h1.lt g4
  exact .inl ⟨_,_,_,h5⟩
theorem live_loop (h:HeapOk w F η hp) {l:Nat} {r:Loop} (hl:w.heap[l]?=some (.loop r)):¬LiveBlk η hp l:=by
 intro hb
 rcases live_kind h hb with⟨_,_,_,h1⟩|⟨_,_,h1⟩<;>rw[hl] at h1<;>cases h1
theorem live_def (h:HeapOk w F η hp) {l:Nat} {r:Option (List Deferred)} (hl:w.heap[l]?=some (.deferred r)):¬LiveBlk η hp l:=by
 intro hb
 rcases live_kind h hb with⟨_,_,_,h1⟩|⟨_,_,h1⟩<;>rw[hl] at h1<;>cases h1
theorem objF_of_not_live (hlen:η.length=hp.length) {b o:Nat} (h:¬LiveBlk η hp b):ObjF η hp b o:=by
 refine(objF_iff b o).2 fun q u hu hbu=>?_
 have hq:q<hp.length:=by rw[←hlen];exact(List.getElem?_eq_some_iff.1 hu).1
 have hg:hp[q]?=some hp[q]:=by simp[hq]
 refine⟨_,hg,?_⟩
 cases hx:hp[q] with
 |dead=>exact True.intro
 |_=>
  exfalso
  rw[hx] at hg
  exact h ⟨q,_,u,hg,True.intro,hu,hbu⟩
theorem Rel.turnX (hr:Rel Γ s a w η) {l:Nat} {r:Loop} (hx:Γ.X l) (hl:w.heap[l]?=some (.loop r)) (ob:Obj) {I:Unit→World→Prop} (hI:I () (w.putObj l ob)):Rel { Γ with Inv:=I } s a (w.putObj l ob) η:=by
 have hs:∀k,k≠l→(w.putObj l ob).heap[k]?=w.heap[k]?:=fun k hk=>World.putObj_heap_other hk
 have he:Ext w (Fok Γ w η s.hp) η s.hp (w.putObj l ob) (Fok { Γ with Inv:=I } (w.putObj l ob) η s.hp) η s.hp:=by
  refine⟨fun b o v hf hc=>?_,fun b es c hf hc=>?_,fun b o hf=>⟨hf.1,by simpa using hf.2.1,hf.2.2⟩,fun _ _ h=>h,fun _ _ h=>h,fun _ _ _ h=>h⟩
  ·rw[World.cell?_of_block (hs b fun e=>hf.2.2.1 (.inl (e▸hx)))];exact hc
  ·rw[hs b fun e=>hf.2.2.1 (.inl (e▸hx))];exact hc
 have hlv:∀(q:Nat) (o:AObj) (v:Value) (b:Nat),s.hp[q]?=some o→o.live→η[q]?=some v→blk v=some b→b≠l:=by
  intro q o v b h1 h2 h3 h4 hb
  subst hb
  exact(hr.mine q o v b h1 h2 h3 h4).2 0 (.inl hx)
 refine⟨hr.nt,fun t=>(hr.tmps t).ext he,⟨hr.heap.len,fun q o v h1 h2=>?_,hr.heap.sep⟩,hr.mine,?_,hI,?_,hr.ext.trans he⟩
 ·by_cases hv:o.live
  ·exact(hr.heap.obj q o v h1 h2).ext he (by simp) fun b hb _=>hs b (hlv q o v b h1 hv h2 hb)
  ·cases o<;>first|exact True.intro|exact(hv True.intro).elim
 ·refine⟨hr.keeps.os,hr.keeps.tape,hr.keeps.output,by simpa using hr.keeps.size,fun k hk hk2=>?_⟩
  rw[hs k fun e=>hk2 (.inl (e▸hx))]
  exact hr.keeps.block k hk hk2
 ·refine⟨fun d hd=>?_,hr.marks.apart⟩
  obtain⟨q,h1,h2,h3⟩:=hr.marks.all d hd
  refine⟨q,h1,?_,h3⟩
  rw[hs q fun e=>by subst e;rw[hl] at h2;cases h2]
  exact h2
def setPs:List Nat→List AV→(Nat→AV)→Nat→AV
 |p::ps,x::xs,f=>setPs ps xs (upd f p x)
 |_,_,f=>f
theorem setPs_rep {x:List AV}:∀(ps:List Nat) (xs:List AV) (f:Nat→AV) (ts:Array Value) (vs:List Value),(∀p∈ps,p<ts.size)→(∀t,Rep w F η hp (f t) (ts.getD t undef))→RepL w F η hp xs vs→
  ∀t,Rep w F η hp (setPs ps xs f t) (((ps.zip vs).foldl (fun t (p,v)=>t.setIfInBounds p v) ts).getD t undef):=by
 intro ps
 induction ps with
 |nil=>intro xs f ts vs _ hf _ t;simp only[setPs,List.zip_nil_left,List.foldl_nil];exact hf t
 |cons p ps ih=>
  intro xs f ts vs hps hf hx t
  cases xs with
  |nil=>
   cases vs with
   |nil=>simp only[setPs,List.zip_nil_right,List.foldl_nil];exact hf t
   |cons v vs=>exact hx.elim
  |cons x xs=>
   cases vs with
   |nil=>exact hx.elim
   |cons v vs=>
    simp only[setPs,List.zip_cons_cons,List.foldl_cons]
    refine ih xs (upd f p x) (ts.setIfInBounds p v) vs (fun q hq=>by rw[Array.size_setIfInBounds];exact hps q (List.mem_cons_of_mem _ hq)) (fun t=>?_) hx.2 t
    have hp:=hps p List.mem_cons_self
    rw[upd_eq]
    by_cases htp:t=p
    ·subst htp
     rw[if_pos rfl]
     have e:(ts.setIfInBounds t v).getD t undef=v:=by simp[hp]
     rw[e];exact hx.1
    ·rw[if_neg htp]
     have e:(ts.setIfInBounds p v).getD t undef=ts.getD t undef:=by
      simp only[Array.getD_eq_getD_getElem?]
      rw[Array.getElem?_setIfInBounds_ne (Ne.symm htp)]
     rw[e];exact hf t
theorem fold_size:∀(l:List (Nat×Value)) (ts:Array Value),(l.foldl (fun t (p,v)=>t.setIfInBounds p v) ts).size=ts.size
 | [],_=>rfl
 |(p,v)::l,ts=>by rw[List.foldl_cons,fold_size l];simp
def JumpOf:Code→Exit→Prop
 | .ret,e=>e=.ret
 | .exit id,e=>e=.exit id
 |_,_=>False
def rangeQ (Γr:Env Unit) (H:List (List AV)→List AObj→Prop) (rest:List (List AV)) (Q:Exit→AS Unit→Prop) (f:Nat→AV):Exit→AS Unit→Prop
 | .normal,s'=>∃hp,Weak Γr s' ⟨fun _=>.top,hp,()⟩∧H rest hp
 | .ret,s'=>Q .ret ⟨f,s'.hp,()⟩
 | .exit id,s'=>Q (.exit id) ⟨f,s'.hp,()⟩
 |_,_=>False
def noQ:Exit→AS Unit→Prop:=fun _ _=>False
structure RoundEnv (Γ:Env Unit) (n:Nat) (Γr:Env Unit):Prop where
 ok:Γr.Ok
 hP:Γr.P=Γ.P
 nt:Γr.nt=Γ.nt
 h0:Γr.hp0.length=n
structure RJ (η:List Value) (hp:List AObj) (F1:Cells) (w:World) (rec:LoopState→Option Code→Loop) (m:Nat) (H:List (List AV)→List AObj→Prop) (S:Exit→List AObj→Prop)
  (D:Cells) (Y:Nat→Prop) (gh:Gh) (W:World) (F:Cells) (η':List Value) (hp':List AObj):Prop where
 pre:HPre W F η' hp'
 keeps:Keeps (LiveBlk η hp) w W
 ext:Ext w F1 η hp W F η' hp'
 mine:∀b,LiveBlk η' hp' b→w.heap.size≤b∨LiveBlk η hp b
 foot:∀b o,F b o→F1 b o∨w.heap.size≤b∨LiveBlk η hp b
 notl:∀b o,F b o→b≠w.heap.size+1
 df:∀b o,D b o→F b o
 y:∀b,Y b→b<W.heap.size∧¬LiveBlk η' hp' b∧w.heap.size+2≤b
 fy:∀b o,F b o→Y b→D b o
 size:w.heap.size+2≤W.heap.size
 gw:∀b,IsGlob b→b<w.heap.size
 db:W.heap[w.heap.size]?=some (.deferred (some []))
 st:match gh with
  |some rest=>W.heap[w.heap.size+1]?=some (.loop (rec .ready none))∧H rest hp'∧∀x∈rest,x.length=m
  |none=>∃c e,W.heap[w.heap.size+1]?=some (.loop (rec .done (some c)))∧JumpOf c e∧S e hp'
variable {F1 D D':Cells} {Y Y':Nat→Prop} {gh:Gh} {W W':World} {rec:LoopState→Option Code→Loop} {m:Nat} {H:List (List AV)→List AObj→Prop} {S:Exit→List AObj→Prop}
theorem RJ.stab (h:RJ η hp F1 w rec m H S D Y gh W F η' hp') (k:Adv D Y W D' Y' W'):RJ η hp F1 w rec m H S D' Y' gh W' (fun b o=>F b o∨D' b o) η' hp':=by
 have hE:Ext W F η' hp' W' (fun b o=>F b o∨D' b o) η' hp':=by
  refine⟨fun b o v hf hc=>?_,fun b es c hf hc=>?_,fun b o hf=>.inl hf,fun _ _ h=>h,fun _ _ h=>h,fun _ _ _ h=>h⟩
  ·by_cases hy:Y b
   ·exact k.cell b o v (h.fy b o hf hy) hc
   ·rw[World.cell?_of_block (k.same.block b (h.pre.foot b o hf).1 hy)];exact hc
  ·by_cases hy:Y b
   ·exact k.mapb b es c (h.fy b 0 hf hy) hc
   ·rw[k.same.block b (h.pre.foot b 0 hf).1 hy];exact hc
 have hsz:=k.same.size
 have hnl:∀b,W.heap.size≤b→¬LiveBlk η' hp' b:=fun b hb hl=>by have:=h.pre.live b hl;omega
 have hly:∀b,LiveBlk η' hp' b→¬Y b:=fun b hl hy=>(h.y b hy).2.1 hl
 have hn1:¬Y (w.heap.size+1):=fun hy=>by have:=(h.y _ hy).2.2;omega
 have hn0:¬Y w.heap.size:=fun hy=>by have:=(h.y _ hy).2.2;omega
 have hs2:=h.size
 refine⟨⟨fun b o hf=>?_,⟨h.pre.heap.len,fun q o v h1 h2=>?_,h.pre.heap.sep⟩,fun b hb=>Nat.lt_of_lt_of_le (h.pre.live b hb) hsz,h.pre.glob.keeps k.same fun b hb hy=>(by have:=(h.y b hy).2.2;have:=h.gw b hb;omega),h.pre.gx⟩,h.keeps.trans k.same fun i hi hy=>?_,h.ext.trans hE,h.mine,fun b o hf=>?_,fun b o hf=>?_,fun b o hd=>.inr hd,fun b hb=>?_,fun b o hf hy=>?_,by omega,h.gw,?_,?_⟩
 ·rcases hf with hf|hd
  ·exact⟨Nat.lt_of_lt_of_le (h.pre.foot b o hf).1 hsz,(h.pre.foot b o hf).2⟩
  ·obtain⟨h1,h2⟩:=k.back b o hd
   refine⟨h2,?_⟩
   rcases h1 with h1|h1|h1
   ·exact(h.pre.foot b o (h.df b o h1)).2
   ·exact objF_of_not_live h.pre.heap.len (h.y b h1).2.1
   ·exact objF_of_not_live h.pre.heap.len (hnl b h1)
 ·by_cases hv:o.live
  ·exact(h.pre.heap.obj q o v h1 h2).ext hE hsz fun b hb hlt=>k.same.block b hlt (hly b ⟨q,o,v,h1,hv,h2,hb⟩)
  ·cases o<;>first|exact True.intro|exact(hv True.intro).elim
 ·have:=(h.y i hy).2.2;omega
 ·rcases hf with hf|hd
  ·exact h.foot b o hf
  ·rcases (k.back b o hd).1 with h1|h1|h1
   ·exact h.foot b o (h.df b o h1)
   ·exact .inr (.inl (by have:=(h.y b h1).2.2;omega))
   ·exact .inr (.inl (by omega))
 ·rcases hf with hf|hd
  ·exact h.notl b o hf
  ·rcases (k.back b o hd).1 with h1|h1|h1
   ·exact h.notl b o (h.df b o h1)
   ·have:=(h.y b h1).2.2;omega
   ·omega
 ·obtain⟨h1,h2⟩:=k.yback b hb
  refine⟨h2,?_,?_⟩
  ·rcases h1 with h1|h1
   ·exact(h.y b h1).2.1
   ·exact hnl b h1
  ·rcases h1 with h1|h1
   ·exact(h.y b h1).2.2
   ·omega
 ·rcases hf with hf|hd
  ·rcases (k.yback b hy).1 with h1|h1
   ·exact k.foot b o (h.fy b o hf h1)
   ·have:=(h.pre.foot b o hf).1;omega
  ·exact hd
 ·rw[k.same.block _ (by omega) hn0];exact h.db
 ·have hst:=h.st
  have e:W'.heap[w.heap.size+1]?=W.heap[w.heap.size+1]?:=k.same.block _ (by omega) hn1
  cases gh with
  |some rest=>simp only[e];exact hst
  |none=>simp only[e];exact hst
def roundEnv (Γ:Env Unit) (W:World) (F:Cells) (η':List Value) (hp':List AObj) (l:Nat) (I:Unit→World→Prop):Env Unit:=
 { P:=Γ.P,w0:=W,F0:=F,X:=fun b=>b=l,Y:=LiveBlk η' hp',Inv:=I,nt:=Γ.nt,rnd:=some l,m0:=fun r=>W.heap.size≤r,Z:=fun _ _=>False,η0:=η',hp0:=hp' }
theorem RJ.after (h:RJ η hp F1 w rec m H S D Y gh W F η' hp') (hD:∀b o,D b o→b<W.heap.size) {I:Unit→World→Prop} {f3:Nat→AV} {a3:Act} {w3:World} {η3:List Value} {hp3:List AObj} (hr:Rel (roundEnv Γ W F η' hp' (w.heap.size+1) I) ⟨f3,hp3,()⟩ a3 w3 η3)
  {r:Loop} (hl:w3.heap[w.heap.size+1]?=some (.loop r)) (ob:Loop) {gh2:Gh} (hst:∀W':World,W'.heap[w.heap.size+1]?=some (.loop ob)→match gh2 with
   |some rest=>W'.heap[w.heap.size+1]?=some (.loop (rec .ready none))∧H rest hp3∧∀x∈rest,x.length=m
   |none=>∃c e,W'.heap[w.heap.size+1]?=some (.loop (rec .done (some c)))∧JumpOf c e∧S e hp3):
  RJ η hp F1 w rec m H S D Y gh2 (w3.putObj (w.heap.size+1) (.loop ob)) (Fok (roundEnv Γ W F η' hp' (w.heap.size+1) (fun _ _=>True)) (w3.putObj (w.heap.size+1) (.loop ob)) η3 hp3) η3 hp3∧
   Left D Y W D (w3.putObj (w.heap.size+1) (.loop ob)):=by
 have hs2:=h.size
 have hlt:w.heap.size+1<w3.heap.size:=block_lt hl
 have hr5:Rel (roundEnv Γ W F η' hp' (w.heap.size+1) (fun _ _=>True)) ⟨f3,hp3,()⟩ a3 (w3.putObj (w.heap.size+1) (.loop ob)) η3:=hr.turnX (I:=fun _ _=>True) rfl hl (.loop ob) True.intro
 have hkeep:Keeps (fun b=>b=w.heap.size+1∨LiveBlk η' hp' b) W (w3.putObj (w.heap.size+1) (.loop ob)):=hr5.keeps
 have hsz:=hkeep.size
 have hext:Ext W F η' hp' (w3.putObj (w.heap.size+1) (.loop ob)) (Fok (roundEnv Γ W F η' hp' (w.heap.size+1) (fun _ _=>True)) (w3.putObj (w.heap.size+1) (.loop ob)) η3 hp3) η3 hp3:=hr5.ext
 have hmine:∀b,LiveBlk η3 hp3 b→(W.heap.size≤b∨LiveBlk η' hp' b)∧b≠w.heap.size+1:=fun b ⟨q,o,v,g1,g2,g3,g4⟩=>
  ⟨(hr5.mine q o v b g1 g2 g3 g4).1,fun e=>(hr5.mine q o v b g1 g2 g3 g4).2 0 (.inl e)⟩
 have hliv:∀b,LiveBlk η3 hp3 b→b<(w3.putObj (w.heap.size+1) (.loop ob)).heap.size:=fun b ⟨q,o,v,g1,g2,g3,g4⟩=>hr5.heap.block g1 g2 g3 g4
 have hgk:∀b,IsGlob b→¬(b=w.heap.size+1∨LiveBlk η' hp' b):=fun b hb hx=>hx.elim (fun e=>by have:=h.gw b hb;omega) (h.pre.gx b hb)
 refine⟨⟨⟨fun b o hf=>⟨hf.2.1,hf.2.2.2⟩,hr5.heap,hliv,h.pre.glob.keeps hkeep hgk,fun b hb hl=>(hmine b hl).1.elim (fun h1=>by have:=h.gw b hb;omega) (h.pre.gx b hb)⟩,h.keeps.trans hkeep fun i hi hx=>?_,h.ext.trans hext,fun b hb=>?_,fun b o hf=>?_,fun b o hf e=>hf.2.2.1 (.inl e),fun b o hd=>hext.foot _ _ (h.df b o hd),fun b hb=>⟨?_,fun hl=>?_,(h.y b hb).2.2⟩,fun b o hf hy=>?_,by omega,h.gw,?_,?_⟩,
  hsz,fun b o v hd hc=>hext.cell b o v (h.df b o hd) hc,fun b es c hd hc=>hext.mapb b es c (h.df b 0 hd) hc,fun b hb=>?_,fun _ _ h=>h,fun b o hd=>⟨.inl hd,?_⟩,fun b hb=>hkeep.block b (by have:=h.gw b hb;omega) (hgk b hb)⟩
 ·rcases hx with rfl|hx
  ·omega
  ·rcases h.mine i hx with h1|h1
   ·omega
   ·exact h1
 ·rcases (hmine b hb).1 with h1|h1
  ·exact .inl (by omega)
  ·exact h.mine b h1
 ·rcases hf.1 with h1|h1|h1
  ·exact h.foot b o h1
  ·have h1':W.heap.size≤b:=h1
   exact .inr (.inl (by omega))
  ·exact(h.mine b h1).imp (fun h=>.inl h) (fun h=>h) |>.elim (fun h=>.inr h) fun h=>.inr (.inr h)
 ·have:=(h.y b hb).1;omega
 ·rcases (hmine b hl).1 with h1|h1
  ·have:=(h.y b hb).1;omega
  ·exact(h.y b hb).2.1 h1
 ·rcases hf.1 with h1|h1|h1
  ·exact h.fy b o h1 hy
  ·have h1':W.heap.size≤b:=h1
   have:=(h.y b hy).1;omega
  ·exact((h.y b hy).2.1 h1).elim
 ·rw[hkeep.block _ (by omega) fun hx=>hx.elim (fun e=>by omega) fun hx=>live_def h.pre.heap h.db hx]
  exact h.db
 ·exact hst _ (World.putObj_heap_same hlt)
 ·have:=h.y b hb
  exact hkeep.block b this.1 fun hx=>hx.elim (fun e=>by omega) this.2.1
 ·have:=hD b o hd;omega
theorem zip_arr (ps:Array Nat) (vals:List Value) (ts:Array Value):(ps.zip vals.toArray).foldl (fun tmps (t,a)=>tmps.setIfInBounds t a) ts=(ps.toList.zip vals).foldl (fun t (p,v)=>t.setIfInBounds p v) ts:=by
 rw[←Array.foldl_toList]
 simp
theorem RJ.round {ps:Array Tmp} {asg body:Code} {fn:Nat} {Q:Exit→AS Unit→Prop} {f:Nat→AV} (ha:a.tmps.size=Γ.nt) (hps:∀p∈ps.toList,p<Γ.nt) (hf:∀t,Rep w F1 η hp (f t) (a.tmps.getD t undef))
  (hrec:rec=fun st pe=>{ state:=st,pending:=pe,fn:=fn,tmps:=a.tmps,params:=ps,assign:=asg,body:=body,defers:=w.heap.size })
  (hround:∀x rest hp,H (x::rest) hp→∃N:AS Unit→Prop,(∀Γr,RoundEnv Γ hp.length Γr→AWp Γr asg (thenQ N noQ) ⟨setPs ps.toList x f,hp,()⟩)∧∀s1,N s1→∀Γr,RoundEnv Γ hp.length Γr→AWp Γr body (rangeQ Γr H rest Q f) s1)
  {x:List AV} {rest:List (List AV)} {vals:List Value} (h:RJ η hp F1 w rec ps.size H (fun e hp=>Q e ⟨f,hp,()⟩) D Y (some (x::rest)) W F η' hp') (hD:∀b o,D b o→b<W.heap.size) (hv:RepL W D [] [] x vals):
  VCalls Γ.P (.func (.yield (w.heap.size+1)) #[] #[]) vals W fun e w'=>∃b,e=.returned (.bool b)∧(∃F η' hp',RJ η hp F1 w rec ps.size H (fun e hp=>Q e ⟨f,hp,()⟩) D Y (gT b rest) w' F η' hp')∧Left D Y W D w':=by
 generalize hR:(fun(e:Ending) (w':World)=>∃b,e=.returned (.bool b)∧(∃F η' hp',RJ η hp F1 w rec ps.size H (fun e hp=>Q e ⟨f,hp,()⟩) D Y (gT b rest) w' F η' hp')∧Left D Y W D w')=R
 obtain⟨hl,hH,hlen⟩:=h.st
 have hs2:=h.size
 have hvl:=hv.length
 have hxl:=hlen x List.mem_cons_self
 have hy:=run_yield (P:=Γ.P) (args:=vals.toArray) hl (by rw[hrec];simp;omega)
 refine⟨_,_,_,_,_,rfl,hy,roundIn_of_wpIn (F:=Fence.wide) (P:=Γ.P) trivial ?_⟩
 obtain⟨N,hasg,hbody⟩:=hround x rest hp' hH
 rw[hrec]
 simp only[zip_arr]
 have mkOk:∀I:Unit→World→Prop,(∀(w1 w2:World),w2.heap[w.heap.size+1]?=w1.heap[w.heap.size+1]?→I () w1→I () w2)→RoundEnv Γ hp'.length (roundEnv Γ W F η' hp' (w.heap.size+1) I):=fun I hI=>
  ⟨⟨h.pre.heap.len,fun b hb=>by have:b=w.heap.size+1:=hb;show b<W.heap.size;omega,h.pre.live,fun g w1 w2 hx _ hi=>hI w1 w2 (hx _ rfl) hi,fun _ _ h=>h.elim,h.pre.glob,fun b hb hx=>hx.elim (fun e=>by have:b=w.heap.size+1:=e;have:=h.gw b hb;omega) (h.pre.gx b hb)⟩,rfl,rfl,rfl⟩
 have hnl:=live_loop h.pre.heap hl
 have hfok:∀(I:Unit→World→Prop) b o,F b o→Fok (roundEnv Γ W F η' hp' (w.heap.size+1) I) W η' hp' b o:=fun I b o hf=>⟨.inl hf,(h.pre.foot b o hf).1,fun hx=>hx.elim (fun e=>h.notl b o hf e) fun h=>h,(h.pre.foot b o hf).2⟩
 let I1:Unit→World→Prop:=fun _ w1=>w1.heap[w.heap.size+1]?=some (.loop (rec .ready none))
 let I2:Unit→World→Prop:=fun _ w1=>w1.heap[w.heap.size+1]?=some (.loop { rec .ready none with state:=.busy })
 have hE:Ext W F η' hp' W (Fok (roundEnv Γ W F η' hp' (w.heap.size+1) I1) W η' hp') η' hp':=⟨fun _ _ _ _ h=>h,fun _ _ _ _ h=>h,hfok I1,fun _ _ h=>h,fun _ _ h=>h,fun _ _ _ h=>h⟩
 have hrel:Rel (roundEnv Γ W F η' hp' (w.heap.size+1) I1) ⟨setPs ps.toList x f,hp',()⟩ ⟨(ps.toList.zip vals).foldl (fun t (p,v)=>t.setIfInBounds p v) a.tmps,[]⟩ W η':=by
  refine⟨by rw[fold_size];exact ha,setPs_rep (x:=x) ps.toList x f a.tmps vals (fun p hp=>by rw[ha];exact hps p hp) (fun t=>((hf t).ext h.ext).ext hE) ?_,⟨h.pre.heap.len,fun q o v h1 h2=>(h.pre.heap.obj q o v h1 h2).ext hE (Nat.le_refl _) fun _ _ _=>rfl,h.pre.heap.sep⟩,
   fun q o v b h1 h2 h3 h4=>⟨.inr ⟨q,o,v,h1,h2,h3,h4⟩,fun _ hx=>hx.elim (fun e=>hnl (e▸⟨q,o,v,h1,h2,h3,h4⟩)) fun h=>h⟩,Keeps.refl _ _,hl,⟨fun d hd=>(by cases hd),List.Pairwise.nil⟩,hE⟩
  exact repL_of_get hv.length fun j y u hy hu=>((hv.get j y u hy hu).foot fun b o hd=>hfok I1 b o (h.df b o hd)).lift
 have h1:=hasg _ (mkOk I1 fun w1 w2 e hi=>by show w2.heap[_]?=_;rw[e];exact hi) _ _ _ hrel
 refine wpIn_mono (F:=Fence.wide.inRound (w.heap.size+1)) h1 fun e a1 w1 ⟨s1,η1,hN,hr1⟩=>?_
 cases e with
 |normal=>
  have hl1:w1.heap[w.heap.size+1]?=some (.loop (rec .ready none)):=hr1.inv
  have hlt1:w.heap.size+1<w1.heap.size:=block_lt hl1
  refine⟨_,run_beginRound hl1 (by rw[hrec]),?_⟩
  have hr2:Rel (roundEnv Γ W F η' hp' (w.heap.size+1) I2) s1 a1 (w1.putObj (w.heap.size+1) (.loop { rec .ready none with state:=.busy })) η1:=hr1.turnX (I:=I2) rfl hl1 _ (World.putObj_heap_same hlt1)
  have h2:=hbody s1 hN _ (mkOk I2 fun w1 w2 e hi=>by show w2.heap[_]?=_;rw[e];exact hi) _ _ _ hr2
  refine wpIn_mono (F:=Fence.wide.inRound (w.heap.size+1)) h2 fun e a3 w3 ⟨s3,η3,hq,hr3⟩=>?_
  have hl3:w3.heap[w.heap.size+1]?=some (.loop { rec .ready none with state:=.busy }):=hr3.inv
  cases e with
  |normal=>
   obtain⟨hp3,hw,hH3⟩:=hq
   obtain⟨η4,hr4⟩:=hw _ _ _ hr3
   have hra:=RJ.after (gh2:=some rest) h hD hr4 hl3 (rec .ready none) fun W' hW'=>⟨hW',hH3,fun y hy=>hlen y (List.mem_cons_of_mem _ hy)⟩
   have he:=run_endRound (P:=Γ.P) none hl3
   have e2:({ { rec .ready none with state:=.busy } with state:=if(none:Option Code).isNone then .ready else .done,pending:=none }:Loop)=rec .ready none:=by rw[hrec];rfl
   rw[e2] at he
   exact⟨_,_,he,by rw[←hR];exact⟨true,rfl,⟨_,_,_,hra.1⟩,hra.2⟩⟩
  |ret=>
   have hra:=RJ.after (gh2:=none) h hD (f3:=s3.tmps) (hp3:=s3.hp) hr3 hl3 (rec .done (some .ret)) fun W' hW'=>⟨.ret,.ret,hW',rfl,hq⟩
   have he:=run_endRound (P:=Γ.P) (some .ret) hl3
   have e2:({ { rec .ready none with state:=.busy } with state:=if(some Code.ret).isNone then .ready else .done,pending:=some .ret }:Loop)=rec .done (some .ret):=by rw[hrec];rfl
   rw[e2] at he
   exact⟨_,_,he,by rw[←hR];exact⟨false,rfl,⟨_,_,_,hra.1⟩,hra.2⟩⟩
  |exit id=>
   have hra:=RJ.after (gh2:=none) h hD (f3:=s3.tmps) (hp3:=s3.hp) hr3 hl3 (rec .done (some (.exit id))) fun W' hW'=>⟨.exit id,.exit id,hW',rfl,hq⟩
   have he:=run_endRound (P:=Γ.P) (some (.exit id)) hl3
   have e2:({ { rec .ready none with state:=.busy } with state:=if(some (Code.exit id)).isNone then .ready else .done,pending:=some (.exit id) }:Loop)=rec .done (some (.exit id)):=by rw[hrec];rfl
   rw[e2] at he
   exact⟨_,_,he,by rw[←hR];exact⟨false,rfl,⟨_,_,_,hra.1⟩,hra.2⟩⟩
  |_=>exact hq.elim
 |_=>exact hN.elim
theorem RJ.back (hok:Γ.Ok) (hfree:Γ.Free) (hr:Rel Γ s a w η) (h:RJ η s.hp (Fok Γ w η s.hp) w rec m H S D Y gh W F η' hp') {r:Loop} (hl:W.heap[w.heap.size+1]?=some (.loop r)) (ob:Loop):
  Rel Γ ⟨s.tmps,hp',()⟩ { a with defers:={ target:=.collected w.heap.size,args:=#[] }::a.defers } (W.putObj (w.heap.size+1) (.loop ob)) η':=by
 have hs:∀k,k≠w.heap.size+1→(W.putObj (w.heap.size+1) (.loop ob)).heap[k]?=W.heap[k]?:=fun k hk=>World.putObj_heap_other hk
 have hsz:=hr.keeps.size
 have hs2:=h.size
 have hlive:∀b,LiveBlk η s.hp b→(Γ.w0.heap.size≤b∨Γ.Y b)∧∀o,¬Γ.No b o:=fun b ⟨q,o,v,g1,g2,g3,g4⟩=>hr.mine q o v b g1 g2 g3 g4
 have hfok:∀b o,F b o→Fok Γ (W.putObj (w.heap.size+1) (.loop ob)) η' hp' b o:=by
  intro b o hf
  have h1:=h.pre.foot b o hf
  refine⟨?_,by simpa using h1.1,?_,h1.2⟩
  ·rcases h.foot b o hf with g|g|g
   ·exact g.1
   ·exact .inr (.inl (by omega))
   ·exact .inr (hlive b g).1
  ·rcases h.foot b o hf with g|g|g
   ·exact g.2.2.1
   ·intro hx;have:=hok.no hx;omega
   ·exact(hlive b g).2 o
 have hE:Ext W F η' hp' (W.putObj (w.heap.size+1) (.loop ob)) (Fok Γ (W.putObj (w.heap.size+1) (.loop ob)) η' hp') η' hp':=by
  refine⟨fun b o v hf hc=>?_,fun b es c hf hc=>?_,hfok,fun _ _ h=>h,fun _ _ h=>h,fun _ _ _ h=>h⟩
  ·rw[World.cell?_of_block (hs b (h.notl b o hf))];exact hc
  ·rw[hs b (h.notl b 0 hf)];exact hc
 have hET:=h.ext.trans hE
 have hlv:∀b,LiveBlk η' hp' b→b≠w.heap.size+1:=fun b hb e=>live_loop h.pre.heap hl (e▸hb)
 refine⟨hr.nt,fun t=>(hr.tmps t).ext hET,⟨h.pre.heap.len,fun q o v h1 h2=>?_,h.pre.heap.sep⟩,fun q o v b h1 h2 h3 h4=>?_,?_,?_,?_,hr.ext.trans hET⟩
 ·by_cases hv:o.live
  ·exact(h.pre.heap.obj q o v h1 h2).ext hE (by simp) fun b hb _=>hs b (hlv b ⟨q,o,v,h1,hv,h2,hb⟩)
  ·cases o<;>first|exact True.intro|exact(hv True.intro).elim
 ·rcases h.mine b ⟨q,o,v,h1,h2,h3,h4⟩ with g|g
  ·exact⟨.inl (by omega),fun o hx=>by have:=hok.no hx;omega⟩
  ·exact hlive b g
 ·refine⟨h.keeps.os.trans hr.keeps.os,h.keeps.tape.trans hr.keeps.tape,h.keeps.output.trans hr.keeps.output,by simp;omega,fun k hk hx=>?_⟩
  rw[hs k (by omega),h.keeps.block k (by omega) fun hl=>?_]
  ·exact hr.keeps.block k hk hx
  ·rcases (hlive k hl).1 with g|g
   ·omega
   ·exact hx (.inr g)
 ·refine hok.stable _ _ _ (fun b hb=>?_) (by simp;omega) hr.inv
  have hb0:=hok.x b hb
  rw[hs b (by omega),h.keeps.block b (by omega) fun hl=>(hlive b hl).2 0 (.inl hb)]
 ·refine⟨fun d hd=>?_,List.pairwise_cons.2 ⟨fun d hd=>?_,hr.marks.apart⟩⟩
  ·rcases List.mem_cons.1 hd with rfl|hd
   ·exact⟨_,rfl,by rw[hs _ (by omega)];exact h.db,hfree.2 _ hsz⟩
   ·obtain⟨q,g1,g2,g3⟩:=hr.marks.all d hd
    have hq:=block_lt g2
    refine⟨q,g1,?_,g3⟩
    rw[hs q (by omega),h.keeps.block q hq fun hl=>live_def hr.heap g2 hl]
    exact g2
  ·obtain⟨q,g1,g2,g3⟩:=hr.marks.all d hd
   have hq:=block_lt g2
   rw[g1]
   simp
   omega
theorem AWp.range (hok:Γ.Ok) (hfree:Γ.Free) {g:Operand} {ps:Array Tmp} {asg body:Code} {Q:Exit→AS Unit→Prop} {gf:Nat} {caps:List AV} {L:List (List AV)} (hg:s.ev g=.clo gf caps) (hseq:YFn Γ.P gf (fun v=>v::caps.map (AV.argN 0 s.hp)) L false)
  (hlen:∀x∈L,x.length=ps.size) (hps:∀p∈ps.toList,p<Γ.nt) (H:List (List AV)→List AObj→Prop) (h0:H L s.hp)
  (hround:∀x rest hp,H (x::rest) hp→∃N:AS Unit→Prop,(∀Γr,RoundEnv Γ hp.length Γr→AWp Γr asg (thenQ N noQ) ⟨setPs ps.toList x s.tmps,hp,()⟩)∧∀s1,N s1→∀Γr,RoundEnv Γ hp.length Γr→AWp Γr body (rangeQ Γr H rest Q s.tmps) s1)
  (hdone:∀hp,H [] hp→Q .normal ⟨s.tmps,hp,()⟩):AWp Γ (.rangeFunc g ps asg body) Q s:=by
 intro a w η hr
 refine wpIn_rangeFunc fun fn hfn=>?_
 have hro:Γ.fence.round=none:=hfree.1
 rw[hro]
 obtain⟨rec,hrec⟩:∃rec:LoopState→Option Code→Loop,rec=fun st pe=>{ state:=st,pending:=pe,fn:=fn,tmps:=a.tmps,params:=ps,assign:=asg,body:=body,defers:=w.heap.size }:=⟨_,rfl⟩
 obtain⟨W1,hW1⟩:∃W1,(w.alloc (.deferred (some []))).alloc (.loop (rec .ready none))=W1:=⟨_,rfl⟩
 have hsame:Same w W1:=by rw[←hW1];exact(Same.alloc w _).trans (Same.alloc _ _)
 have hsize1:W1.heap.size=w.heap.size+2:=by rw[←hW1];simp
 have hL1:W1.heap[w.heap.size+1]?=some (.loop (rec .ready none)):=by
  rw[←hW1];have:=World.alloc_heap_new (w.alloc (.deferred (some []))) (.loop (rec .ready none));rwa [World.size_alloc] at this
 have hK1:W1.heap[w.heap.size]?=some (.deferred (some [])):=by
  rw[←hW1];exact(heap_alloc_old _ _ (by simp)).trans (World.alloc_heap_new w _)
 have hgr:=hr.ev g
 rw[hg] at hgr
 generalize hgv:a.eval g=v at hgr
 cases hgr with
 |clo _ _ vs hvl hvr=>
 refine⟨w.heap.size+1,[{ target:=.collected w.heap.size,args:=#[] }],W1,{ target:=.fn (.func gf) vs,args:=#[.func (.yield (w.heap.size+1)) #[] #[]] },W1,gf,
  #[.func (.yield (w.heap.size+1)) #[] #[]]++vs,W1,?_,?_,fun _ _=>trivial,?_,fun h=>(by cases h),?_⟩
 ·rw[←hW1,hrec];exact run_enterLoop_outer _ _ _ _ _
 ·simp only[resolve,hgv]
  simp[go_sem]
 ·simp[invoke,run_callFunc hseq.1]
 ·let J:JT:=fun D Y gh W=>∃F η' hp',RJ η s.hp (Fok Γ w η s.hp) w rec ps.size H (fun e hp=>Q e ⟨s.tmps,hp,()⟩) D Y gh W F η' hp'
  have hC:Cons Γ.P (.func (.yield (w.heap.size+1)) #[] #[]) J:=
   ⟨rfl,fun D Y gh W D' Y' W' ⟨F,η',hp',h⟩ k=>⟨_,_,_,h.stab k⟩,fun D Y x rest W vals ⟨F,η',hp',h⟩ hD hY _ hv=>h.round hr.nt hps hr.tmps hrec hround hD hv⟩
  have he1:Ext w (Fok Γ w η s.hp) η s.hp W1 (Fok Γ w η s.hp) η s.hp:=
   ⟨fun b o v hf hc=>by rw[World.cell?_of_block (hsame.block b hf.2.1)];exact hc,fun b es c hf hc=>by rw[hsame.block b hf.2.1];exact hc,fun _ _ h=>h,fun _ _ h=>h,fun _ _ h=>h,fun _ _ _ h=>h⟩
  have hlive:∀b,LiveBlk η s.hp b→b<w.heap.size:=fun b ⟨q,o,v,g1,g2,g3,g4⟩=>hr.heap.block g1 g2 g3 g4
  have hJ:J (Fok Γ w η s.hp) (fun _=>False) (some (L++[])) W1:=by
   rw[List.append_nil]
   refine⟨_,_,_,⟨⟨fun b o hf=>⟨Nat.lt_of_lt_of_le hf.2.1 hsame.size,hf.2.2.2⟩,⟨hr.heap.len,fun q o v h1 h2=>(hr.heap.obj q o v h1 h2).ext he1 hsame.size fun b _ hlt=>hsame.block b hlt,hr.heap.sep⟩,fun b hb=>Nat.lt_of_lt_of_le (hlive b hb) hsame.size,(hr.glob hok).same hsame,fun b hb hl=>hr.gx hok hb hl⟩,hsame.keeps _,he1,fun b hb=>.inr hb,fun b o hf=>.inl hf,
    fun b o hf=>by have:=hf.2.1;omega,fun _ _ h=>h,fun _ h=>h.elim,fun _ _ _ h=>h.elim,by omega,fun b hb=>(hr.glob hok).lt hb,hK1,⟨hL1,h0,hlen⟩⟩⟩
  have hvals:RepL W1 (Fok Γ w η s.hp) [] [] (.fn (.func (.yield (w.heap.size+1)) #[] #[])::caps.map (AV.argN 0 s.hp)) (.func (.yield (w.heap.size+1)) #[] #[]::vs.toList):=by
   refine⟨.fn _ rfl,?_⟩
   have hcl:RepL w (Fok Γ w η s.hp) η s.hp caps vs.toList:=repL_of_get (by simpa using hvl) fun j y u hy hu=>hvr j y u hy (by simpa using hu)
   exact RepL.ext ⟨he1.cell,he1.mapb,he1.foot,fun _ _ h=>h,fun _ _ h=>h,fun _ _ _ h=>h⟩ (argN0_rep hr _ _ hcl)
  have hav:(#[.func (.yield (w.heap.size+1)) #[] #[]]++vs:Array Value)=(.func (.yield (w.heap.size+1)) #[] #[]::vs.toList:List Value).toArray:=by apply Array.ext';simp
  have hcall:=hseq.2 J _ hC (Fok Γ w η s.hp) (fun _=>False) [] W1 _ hJ (fun b o hf=>Nat.lt_of_lt_of_le hf.2.1 hsame.size) (fun _ h=>h.elim) ((hr.glob hok).same hsame) hvals
  rw[hav]
  refine CallsIn.mono (F:=Γ.fence) (R:=fun e w'=>∃v D' b,e=.returned v∧YR false b v∧J D' (fun _=>False) (gT b []) w'∧Left (Fok Γ w η s.hp) (fun _=>False) W1 D' w') hcall fun e w3 ⟨v,D',b,he,_,⟨F,η',hp',hj⟩,_⟩=>?_
  subst he
  cases b with
  |true=>
   obtain⟨hl,hH,_⟩:=hj.st
   have:=run_endLoop (P:=Γ.P) hl (by rw[hrec];simp)
   rw[hrec] at this
   exact⟨none,_,this,⟨s.tmps,hp',()⟩,η',hdone _ hH,hj.back hok hfree hr hl _⟩
  |false=>
   obtain⟨c,e,hl,hjump,hS⟩:=hj.st
   have:=run_endLoop (P:=Γ.P) hl (by rw[hrec];simp)
   rw[hrec] at this
   refine⟨some c,_,this,?_⟩
   cases c<;>simp only[JumpOf] at hjump<;>first|exact hjump.elim|skip
   ·subst hjump;exact wpIn_exit ⟨_,η',hS,hj.back hok hfree hr hl _⟩
   ·subst hjump;exact wpIn_ret ⟨_,η',hS,hj.back hok hfree hr hl _⟩
end Go.Proofs.YtjhanogfpkbamaaGreatDoor
