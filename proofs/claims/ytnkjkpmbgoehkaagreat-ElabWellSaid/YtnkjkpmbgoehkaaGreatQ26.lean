/- Lemmas. -/
import Derived.RangeFuncRecord
import Derived.Test.YtnkjkpmbgoehkaaGreatQ25
namespace Go.Proofs.YtnkjkpmbgoehkaaGreat
open Go
open _root_.True renaming intro->ai
set_option linter.unusedSimpArgs false
set_option linter.unusedVariables false
variable {P:Program} {Γ:Env Unit} {s s':AS Unit} {a:Act} {w w' w2:World} {η bf:List Value} {hp hp':List aw} {F:Cells}
theorem CF (h:eu w F η hp) {b:Nat} (hl:bb η hp b):(∃vs T p,w.heap[b]?=some (.cells vs T p))\/∃en c,w.heap[b]?=some (.map en c):=by
 obtain⟨r,o,v,g1,g2,g3,g4⟩:=hl;have eX:=h.obj r o v g1 g3
 cases o with
 |dead=>exact g2.elim
 |box cs=>obtain⟨b',vs,T,rfl,h1,_⟩:=eX;simp only[dO,aqq] at g4;subst g4;exact .inl ⟨_,_,_,h1⟩
 |row e size els=>
  obtain⟨_,xs,h1,_⟩:=eX;obtain⟨cur,h5⟩:=h1.lt g4;exact .inl ⟨_,_,_,h5⟩
 |cE es=>obtain⟨b',en,c,rfl,h1,_⟩:=eX;simp only[dO,aqq] at g4;subst g4;exact .inr ⟨_,_,h1⟩
 |jy q k=>obtain⟨b',vs,rfl,h1,_⟩:=eX;simp only[dO,aqq] at g4;subst g4;exact .inl ⟨_,_,_,h1⟩
 |bj e size els=>
  obtain⟨_,xs,h1,_⟩:=eX;obtain⟨cur,h5⟩:=h1.lt g4;exact .inl ⟨_,_,_,h5⟩
 |fz e m ns=>
  obtain⟨cur,h5⟩:=gv.lt eX g4;exact .inl ⟨_,_,_,h5⟩
theorem CG (h:eu w F η hp) {l:Nat} {r:Loop} (hl:w.heap[l]?=some (.loop r)):¬bb η hp l:=by
 intro hb;rcases CF h hb with⟨_,_,_,h1⟩|⟨_,_,h1⟩<;>rw[hl] at h1<;>cases h1
theorem GK (h:eu w F η hp) {l:Nat} {r:Option (List Deferred)} (hl:w.heap[l]?=some (.deferred r)):¬bb η hp l:=by
 intro hb;rcases CF h hb with⟨_,_,_,h1⟩|⟨_,_,h1⟩<;>rw[hl] at h1<;>cases h1
theorem oo (hlen:η.length=hp.length) {b o:Nat} (h:¬bb η hp b):lS η hp b o:=by
 refine(bm b o).2 fun q u hu QJ=>?_;have hq:q<hp.length:=by rw[<-hlen];exact(aqr.1 hu).1
 have hg:hp[q]?=some hp[q]:=by simp[hq]
 refine⟨_,hg,?_⟩
 cases hx:hp[q] with
 |dead=>exact ai
 |_=>
  exfalso;rw[hx] at hg;exact h ⟨q,_,u,hg,ai,hu,QJ⟩
theorem Rel.aaU (hr:Rel Γ s a w η) {l:Nat} {r:Loop} (hx:Γ.X l) (hl:w.heap[l]?=some (.loop r)) (ob:Obj) {I:Unit->World->Prop} (hI:I () (w.putObj l ob)):Rel { Γ with Inv:=I } s a (w.putObj l ob) η:=by
 have hs:∀k,k≠l->(w.putObj l ob).heap[k]?=w.heap[k]?:=fun k hk=>World.putObj_heap_other hk;have he:Ext w (bt Γ w η s.hp) η s.hp (w.putObj l ob) (bt { Γ with Inv:=I } (w.putObj l ob) η s.hp) η s.hp:=by
  refine⟨fun b o v hf hc=>?_,fun b es c hf hc=>?_,fun b o hf=>⟨hf.1,by simpa using hf.2.1,hf.2.2⟩,fun _ _ h=>h,fun _ _ h=>h,fun _ _ _ h=>h⟩
  ·rw[World.cell?_of_block (hs b fun e=>hf.2.2.1 (.inl (e▸hx)))];exact hc
  ·rw[hs b fun e=>hf.2.2.1 (.inl (e▸hx))];exact hc
 have FN:∀(q:Nat) (o:aw) (v:Value) (b:Nat),s.hp[q]?=some o->o.live->η[q]?=some v->dO v=some b->b≠l:=by
  intro q o v b h1 h2 h3 h4 hb;subst hb;exact(hr.cq q o v b h1 h2 h3 h4).2 0 (.inl hx)
 refine⟨hr.nt,fun t=>(hr.tmps t).ext he,⟨hr.heap.len,fun q o v h1 h2=>?_,hr.heap.sep⟩,hr.cq,?_,hI,?_,hr.ext.trans he⟩
 ·by_cases hv:o.live
  ·exact(hr.heap.obj q o v h1 h2).ext he (by simp) fun b hb _=>hs b (FN q o v b h1 hv h2 hb)
  ·cases o<;>first|exact ai|exact(hv ai).elim
 ·refine⟨hr.keeps.os,hr.keeps.tape,hr.keeps.output,by simpa using hr.keeps.size,fun k hk JA=>?_⟩;rw[hs k fun e=>JA (.inl (e▸hx))];exact hr.keeps.block k hk JA
 ·refine⟨fun d hd=>?_,hr.marks.apart⟩;obtain⟨q,h1,h2,h3⟩:=hr.marks.all d hd;refine⟨q,h1,?_,h3⟩;rw[hs q fun e=>by subst e;rw[hl] at h2;cases h2];exact h2
def uC:List Nat->List AV->(Nat->AV)->Nat->AV
 |p::ps,x::xs,f=>uC ps xs (Bz f p x)
 |_,_,f=>f
theorem Pd {x:List AV}:∀(ps:List Nat) (xs:List AV) (f:Nat->AV) (ts:Array Value) (vs:List Value),(∀p∈ps,p<ts.size)->(∀t,bB w F η hp (f t) (ts.getD t undef))->cu w F η hp xs vs->
  ∀t,bB w F η hp (uC ps xs f t) (((ps.zip vs).foldl (fun t (p,v)=>t.setIfInBounds p v) ts).getD t undef):=by
 intro ps
 induction ps with
 |nil=>intro xs f ts vs _ hf _ t;simp only[uC,List.zip_nil_left,List.foldl_nil];exact hf t
 |cons p ps ih=>
  intro xs f ts vs W8 hf hx t
  cases xs with
  |nil=>
   cases vs with
   |nil=>simp only[uC,List.zip_nil_right,List.foldl_nil];exact hf t
   |cons v vs=>exact hx.elim
  |cons x xs=>
   cases vs with
   |nil=>exact hx.elim
   |cons v vs=>
    simp only[uC,List.zip_cons_cons,List.foldl_cons];refine ih xs (Bz f p x) (ts.setIfInBounds p v) vs (fun q hq=>by rw[Array.size_setIfInBounds];exact W8 q (aqI _ hq)) (fun t=>?_) hx.2 t;have hp:=W8 p aqG;rw[gV]
    by_cases htp:t=p
    ·subst htp;rw[if_pos rfl];have e:(ts.setIfInBounds t v).getD t undef=v:=by simp[hp]
     rw[e];exact hx.1
    ·rw[if_neg htp];have e:(ts.setIfInBounds p v).getD t undef=ts.getD t undef:=by
      simp only[aq3];rw[Array.getElem?_setIfInBounds_ne (ar1 htp)]
     rw[e];exact hf t
theorem CH:∀(l:List (Nat×Value)) (ts:Array Value),(l.foldl (fun t (p,v)=>t.setIfInBounds p v) ts).size=ts.size
 | [],_=>rfl
 |(p,v)::l,ts=>by rw[List.foldl_cons,CH l];simp
def Ku:Code->Exit->Prop
 | .ret,e=>e=.ret
 | .exit id,e=>e=.exit id
 |_,_=>False
def Sg (mP:Env Unit) (H:List (List AV)->List aw->Prop) (rest:List (List AV)) (Q:Exit->AS Unit->Prop) (f:Nat->AV):Exit->AS Unit->Prop
 | .normal,s'=>∃hp,cR mP s' ⟨fun _=>.top,hp,()⟩/\H rest hp
 | .ret,s'=>Q .ret ⟨f,s'.hp,()⟩
 | .exit id,s'=>Q (.exit id) ⟨f,s'.hp,()⟩
 |_,_=>False
def noQ:Exit->AS Unit->Prop:=fun _ _=>False
structure jh (Γ:Env Unit) (n:Nat) (mP:Env Unit):Prop where
 ok:mP.Ok
 hP:mP.P=Γ.P
 nt:mP.nt=Γ.nt
 h0:mP.mU.length=n
structure RJ (η:List Value) (hp:List aw) (F1:Cells) (w:World) (rec:LoopState->Option Code->Loop) (m:Nat) (H:List (List AV)->List aw->Prop) (S:Exit->List aw->Prop)
  (D:Cells) (Y:Nat->Prop) (gh:Gh) (W:World) (F:Cells) (bf:List Value) (hp':List aw):Prop where
 pre:F6 W F bf hp'
 keeps:cG (bb η hp) w W
 ext:Ext w F1 η hp W F bf hp'
 cq:∀b,bb bf hp' b->w.heap.size<=b\/bb η hp b
 bI:∀b o,F b o->F1 b o\/w.heap.size<=b\/bb η hp b
 Si:∀b o,F b o->b≠w.heap.size+1
 df:∀b o,D b o->F b o
 y:∀b,Y b->b<W.heap.size/\¬bb bf hp' b/\w.heap.size+2<=b
 fy:∀b o,F b o->Y b->D b o
 size:w.heap.size+2<=W.heap.size
 gw:∀b,oS b->b<w.heap.size
 db:W.heap[w.heap.size]?=some (.deferred (some []))
 st:match gh with
  |some rest=>W.heap[w.heap.size+1]?=some (.loop (rec .ready none))/\H rest hp'/\∀x∈rest,x.length=m
  |none=>∃c e,W.heap[w.heap.size+1]?=some (.loop (rec .done (some c)))/\Ku c e/\S e hp'
variable {F1 D D':Cells} {Y Y':Nat->Prop} {gh:Gh} {W W':World} {rec:LoopState->Option Code->Loop} {m:Nat} {H:List (List AV)->List aw->Prop} {S:Exit->List aw->Prop}
theorem RJ.Pc (h:RJ η hp F1 w rec m H S D Y gh W F bf hp') (k:Adv D Y W D' Y' W'):RJ η hp F1 w rec m H S D' Y' gh W' (fun b o=>F b o\/D' b o) bf hp':=by
 have hE:Ext W F bf hp' W' (fun b o=>F b o\/D' b o) bf hp':=by
  refine⟨fun b o v hf hc=>?_,fun b es c hf hc=>?_,fun b o hf=>.inl hf,fun _ _ h=>h,fun _ _ h=>h,fun _ _ _ h=>h⟩
  ·by_cases hy:Y b
   ·exact k.cell b o v (h.fy b o hf hy) hc
   ·rw[World.cell?_of_block (k.same.block b (h.pre.bI b o hf).1 hy)];exact hc
  ·by_cases hy:Y b
   ·exact k.kM b es c (h.fy b 0 hf hy) hc
   ·rw[k.same.block b (h.pre.bI b 0 hf).1 hy];exact hc
 have cx:=k.same.size;have hnl:∀b,W.heap.size<=b->¬bb bf hp' b:=fun b hb hl=>by have:=h.pre.live b hl;omega
 have hly:∀b,bb bf hp' b->¬Y b:=fun b hl hy=>(h.y b hy).2.1 hl;have XH:¬Y (w.heap.size+1):=fun hy=>by have:=(h.y _ hy).2.2;omega
 have oY:¬Y w.heap.size:=fun hy=>by have:=(h.y _ hy).2.2;omega
 have hs2:=h.size;refine⟨⟨fun b o hf=>?_,⟨h.pre.heap.len,fun q o v h1 h2=>?_,h.pre.heap.sep⟩,fun b hb=>aqX (h.pre.live b hb) cx,h.pre.kN.keeps k.same fun b hb hy=>(by have:=(h.y b hy).2.2;have:=h.gw b hb;omega),h.pre.gx⟩,h.keeps.trans k.same fun i hi hy=>?_,h.ext.trans hE,h.cq,fun b o hf=>?_,fun b o hf=>?_,fun b o hd=>.inr hd,fun b hb=>?_,fun b o hf hy=>?_,by omega,h.gw,?_,?_⟩
 ·rcases hf with hf|hd
  ·exact⟨aqX (h.pre.bI b o hf).1 cx,(h.pre.bI b o hf).2⟩
  ·obtain⟨h1,h2⟩:=k.back b o hd;refine⟨h2,?_⟩;rcases h1 with h1|h1|h1
   ·exact(h.pre.bI b o (h.df b o h1)).2
   ·exact oo h.pre.heap.len (h.y b h1).2.1
   ·exact oo h.pre.heap.len (hnl b h1)
 ·by_cases hv:o.live
  ·exact(h.pre.heap.obj q o v h1 h2).ext hE cx fun b hb aH=>k.same.block b aH (hly b ⟨q,o,v,h1,hv,h2,hb⟩)
  ·cases o<;>first|exact ai|exact(hv ai).elim
 ·have:=(h.y i hy).2.2;omega
 ·rcases hf with hf|hd
  ·exact h.bI b o hf
  ·rcases (k.back b o hd).1 with h1|h1|h1
   ·exact h.bI b o (h.df b o h1)
   ·exact .inr (.inl (by have:=(h.y b h1).2.2;omega))
   ·exact .inr (.inl (by omega))
 ·rcases hf with hf|hd
  ·exact h.Si b o hf
  ·rcases (k.back b o hd).1 with h1|h1|h1
   ·exact h.Si b o (h.df b o h1)
   ·have:=(h.y b h1).2.2;omega
   ·omega
 ·obtain⟨h1,h2⟩:=k.aaS b hb;refine⟨h2,?_,?_⟩
  ·rcases h1 with h1|h1
   ·exact(h.y b h1).2.1
   ·exact hnl b h1
  ·rcases h1 with h1|h1
   ·exact(h.y b h1).2.2
   ·omega
 ·rcases hf with hf|hd
  ·rcases (k.aaS b hy).1 with h1|h1
   ·exact k.bI b o (h.fy b o hf h1)
   ·have:=(h.pre.bI b o hf).1;omega
  ·exact hd
 ·rw[k.same.block _ (by omega) oY];exact h.db
 ·have sS:=h.st;have e:W'.heap[w.heap.size+1]?=W.heap[w.heap.size+1]?:=k.same.block _ (by omega) XH
  cases gh with
  |some rest=>simp only[e];exact sS
  |none=>simp only[e];exact sS
def ji (Γ:Env Unit) (W:World) (F:Cells) (bf:List Value) (hp':List aw) (l:Nat) (I:Unit->World->Prop):Env Unit:=
 { P:=Γ.P,w0:=W,F0:=F,X:=fun b=>b=l,Y:=bb bf hp',Inv:=I,nt:=Γ.nt,Dw:=some l,m0:=fun r=>W.heap.size<=r,Z:=fun _ _=>False,BF:=bf,mU:=hp' }
theorem RJ.after (h:RJ η hp F1 w rec m H S D Y gh W F bf hp') (hD:∀b o,D b o->b<W.heap.size) {I:Unit->World->Prop} {f3:Nat->AV} {a3:Act} {w3:World} {QB:List Value} {hp3:List aw} (hr:Rel (ji Γ W F bf hp' (w.heap.size+1) I) ⟨f3,hp3,()⟩ a3 w3 QB)
  {r:Loop} (hl:w3.heap[w.heap.size+1]?=some (.loop r)) (ob:Loop) {gh2:Gh} (sS:∀W':World,W'.heap[w.heap.size+1]?=some (.loop ob)->match gh2 with
   |some rest=>W'.heap[w.heap.size+1]?=some (.loop (rec .ready none))/\H rest hp3/\∀x∈rest,x.length=m
   |none=>∃c e,W'.heap[w.heap.size+1]?=some (.loop (rec .done (some c)))/\Ku c e/\S e hp3):
  RJ η hp F1 w rec m H S D Y gh2 (w3.putObj (w.heap.size+1) (.loop ob)) (bt (ji Γ W F bf hp' (w.heap.size+1) (fun _ _=>True)) (w3.putObj (w.heap.size+1) (.loop ob)) QB hp3) QB hp3/\
   Left D Y W D (w3.putObj (w.heap.size+1) (.loop ob)):=by
 have hs2:=h.size;have aH:w.heap.size+1<w3.heap.size:=bX hl;have hr5:Rel (ji Γ W F bf hp' (w.heap.size+1) (fun _ _=>True)) ⟨f3,hp3,()⟩ a3 (w3.putObj (w.heap.size+1) (.loop ob)) QB:=hr.aaU (I:=fun _ _=>True) rfl hl (.loop ob) ai;have kA:cG (fun b=>b=w.heap.size+1\/bb bf hp' b) W (w3.putObj (w.heap.size+1) (.loop ob)):=hr5.keeps;have cx:=kA.size;have gu:Ext W F bf hp' (w3.putObj (w.heap.size+1) (.loop ob)) (bt (ji Γ W F bf hp' (w.heap.size+1) (fun _ _=>True)) (w3.putObj (w.heap.size+1) (.loop ob)) QB hp3) QB hp3:=hr5.ext;have Gg:∀b,bb QB hp3 b->(W.heap.size<=b\/bb bf hp' b)/\b≠w.heap.size+1:=fun b ⟨q,o,v,g1,g2,g3,g4⟩=>
  ⟨(hr5.cq q o v b g1 g2 g3 g4).1,fun e=>(hr5.cq q o v b g1 g2 g3 g4).2 0 (.inl e)⟩
 have akc:∀b,bb QB hp3 b->b<(w3.putObj (w.heap.size+1) (.loop ob)).heap.size:=fun b ⟨q,o,v,g1,g2,g3,g4⟩=>hr5.heap.block g1 g2 g3 g4;have hgk:∀b,oS b->¬(b=w.heap.size+1\/bb bf hp' b):=fun b hb hx=>hx.elim (fun e=>by have:=h.gw b hb;omega) (h.pre.gx b hb);refine⟨⟨⟨fun b o hf=>⟨hf.2.1,hf.2.2.2⟩,hr5.heap,akc,h.pre.kN.keeps kA hgk,fun b hb hl=>(Gg b hl).1.elim (fun h1=>by have:=h.gw b hb;omega) (h.pre.gx b hb)⟩,h.keeps.trans kA fun i hi hx=>?_,h.ext.trans gu,fun b hb=>?_,fun b o hf=>?_,fun b o hf e=>hf.2.2.1 (.inl e),fun b o hd=>gu.bI _ _ (h.df b o hd),fun b hb=>⟨?_,fun hl=>?_,(h.y b hb).2.2⟩,fun b o hf hy=>?_,by omega,h.gw,?_,?_⟩,
  cx,fun b o v hd hc=>gu.cell b o v (h.df b o hd) hc,fun b es c hd hc=>gu.kM b es c (h.df b 0 hd) hc,fun b hb=>?_,fun _ _ h=>h,fun b o hd=>⟨.inl hd,?_⟩,fun b hb=>kA.block b (by have:=h.gw b hb;omega) (hgk b hb)⟩
 ·rcases hx with rfl|hx
  ·omega
  ·rcases h.cq i hx with h1|h1
   ·omega
   ·exact h1
 ·rcases (Gg b hb).1 with h1|h1
  ·exact .inl (by omega)
  ·exact h.cq b h1
 ·rcases hf.1 with h1|h1|h1
  ·exact h.bI b o h1
  ·have h1':W.heap.size<=b:=h1;exact .inr (.inl (by omega))
  ·exact(h.cq b h1).imp (fun h=>.inl h) (fun h=>h) |>.elim (fun h=>.inr h) fun h=>.inr (.inr h)
 ·have:=(h.y b hb).1;omega
 ·rcases (Gg b hl).1 with h1|h1
  ·have:=(h.y b hb).1;omega
  ·exact(h.y b hb).2.1 h1
 ·rcases hf.1 with h1|h1|h1
  ·exact h.fy b o h1 hy
  ·have h1':W.heap.size<=b:=h1;have:=(h.y b hy).1;omega
  ·exact((h.y b hy).2.1 h1).elim
 ·rw[kA.block _ (by omega) fun hx=>hx.elim (fun e=>by omega) fun hx=>GK h.pre.heap h.db hx];exact h.db
 ·exact sS _ (World.putObj_heap_same aH)
 ·have:=h.y b hb;exact kA.block b this.1 fun hx=>hx.elim (fun e=>by omega) this.2.1
 ·have:=hD b o hd;omega
theorem XZ (ps:Array Nat) (bE:List Value) (ts:Array Value):(ps.zip bE.toArray).foldl (fun tmps (t,a)=>tmps.setIfInBounds t a) ts=(ps.toList.zip bE).foldl (fun t (p,v)=>t.setIfInBounds p v) ts:=by
 rw[<-Array.foldl_toList];simp
theorem RJ.round {ps:Array Tmp} {zH body:Code} {fn:Nat} {Q:Exit->AS Unit->Prop} {f:Nat->AV} (ha:a.tmps.size=Γ.nt) (W8:∀p∈ps.toList,p<Γ.nt) (hf:∀t,bB w F1 η hp (f t) (a.tmps.getD t undef))
  (vX:rec=fun st pe=>{ state:=st,pending:=pe,fn:=fn,tmps:=a.tmps,params:=ps,assign:=zH,body:=body,defers:=w.heap.size })
  (th:∀x rest hp,H (x::rest) hp->∃N:AS Unit->Prop,(∀mP,jh Γ hp.length mP->eY mP zH (sG N noQ) ⟨uC ps.toList x f,hp,()⟩)/\∀s1,N s1->∀mP,jh Γ hp.length mP->eY mP body (Sg mP H rest Q f) s1)
  {x:List AV} {rest:List (List AV)} {bE:List Value} (h:RJ η hp F1 w rec ps.size H (fun e hp=>Q e ⟨f,hp,()⟩) D Y (some (x::rest)) W F bf hp') (hD:∀b o,D b o->b<W.heap.size) (hv:cu W D [] [] x bE):
  Sa Γ.P (.func (.yield (w.heap.size+1)) #[] #[]) bE W fun e w'=>∃b,e=.returned (.bool b)/\(∃F bf hp',RJ η hp F1 w rec ps.size H (fun e hp=>Q e ⟨f,hp,()⟩) D Y (gT b rest) w' F bf hp')/\Left D Y W D w':=by
 generalize hR:(fun(e:Ending) (w':World)=>∃b,e=.returned (.bool b)/\(∃F bf hp',RJ η hp F1 w rec ps.size H (fun e hp=>Q e ⟨f,hp,()⟩) D Y (gT b rest) w' F bf hp')/\Left D Y W D w')=R;obtain⟨hl,hH,hlen⟩:=h.st;have hs2:=h.size;have Xp:=hv.length;have hxl:=hlen x aqG;have hy:=run_yield (P:=Γ.P) (args:=bE.toArray) hl (by rw[vX];simp;omega);refine⟨_,_,_,_,_,rfl,hy,roundIn_of_wpIn (F:=Fence.wide) (P:=Γ.P) trivial ?_⟩;obtain⟨N,ake,kY⟩:=th x rest hp' hH;rw[vX];simp only[XZ];have X0:∀I:Unit->World->Prop,(∀(w1 w2:World),w2.heap[w.heap.size+1]?=w1.heap[w.heap.size+1]?->I () w1->I () w2)->jh Γ hp'.length (ji Γ W F bf hp' (w.heap.size+1) I):=fun I hI=>
  ⟨⟨h.pre.heap.len,fun b hb=>by have:b=w.heap.size+1:=hb;show b<W.heap.size;omega,h.pre.live,fun g w1 w2 hx _ hi=>hI w1 w2 (hx _ rfl) hi,fun _ _ h=>h.elim,h.pre.kN,fun b hb hx=>hx.elim (fun e=>by have:b=w.heap.size+1:=e;have:=h.gw b hb;omega) (h.pre.gx b hb)⟩,rfl,rfl,rfl⟩
 have hnl:=CG h.pre.heap hl;have BO:∀(I:Unit->World->Prop) b o,F b o->bt (ji Γ W F bf hp' (w.heap.size+1) I) W bf hp' b o:=fun I b o hf=>⟨.inl hf,(h.pre.bI b o hf).1,fun hx=>hx.elim (fun e=>h.Si b o hf e) fun h=>h,(h.pre.bI b o hf).2⟩
 let I1:Unit->World->Prop:=fun _ w1=>w1.heap[w.heap.size+1]?=some (.loop (rec .ready none))
 let I2:Unit->World->Prop:=fun _ w1=>w1.heap[w.heap.size+1]?=some (.loop { rec .ready none with state:=.busy })
 have hE:Ext W F bf hp' W (bt (ji Γ W F bf hp' (w.heap.size+1) I1) W bf hp') bf hp':=⟨fun _ _ _ _ h=>h,fun _ _ _ _ h=>h,BO I1,fun _ _ h=>h,fun _ _ h=>h,fun _ _ _ h=>h⟩;have hrel:Rel (ji Γ W F bf hp' (w.heap.size+1) I1) ⟨uC ps.toList x f,hp',()⟩ ⟨(ps.toList.zip bE).foldl (fun t (p,v)=>t.setIfInBounds p v) a.tmps,[]⟩ W bf:=by
  refine⟨by rw[CH];exact ha,Pd (x:=x) ps.toList x f a.tmps bE (fun p hp=>by rw[ha];exact W8 p hp) (fun t=>((hf t).ext h.ext).ext hE) ?_,⟨h.pre.heap.len,fun q o v h1 h2=>(h.pre.heap.obj q o v h1 h2).ext hE (aqw _) fun _ _ _=>rfl,h.pre.heap.sep⟩,
   fun q o v b h1 h2 h3 h4=>⟨.inr ⟨q,o,v,h1,h2,h3,h4⟩,fun _ hx=>hx.elim (fun e=>hnl (e▸⟨q,o,v,h1,h2,h3,h4⟩)) fun h=>h⟩,cG.refl _ _,hl,⟨fun d hd=>(by cases hd),List.Pairwise.nil⟩,hE⟩
  exact dL hv.length fun j y u hy hu=>((hv.get j y u hy hu).bI fun b o hd=>BO I1 b o (h.df b o hd)).lift
 have h1:=ake _ (X0 I1 fun w1 w2 e hi=>by show w2.heap[_]?=_;rw[e];exact hi) _ _ _ hrel;refine wpIn_mono (F:=Fence.wide.inRound (w.heap.size+1)) h1 fun e a1 w1 ⟨s1,oR,hN,DP⟩=>?_
 cases e with
 |normal=>
  have QD:w1.heap[w.heap.size+1]?=some (.loop (rec .ready none)):=DP.inv;have RD:w.heap.size+1<w1.heap.size:=bX QD;refine⟨_,run_beginRound QD (by rw[vX]),?_⟩;have rV:Rel (ji Γ W F bf hp' (w.heap.size+1) I2) s1 a1 (w1.putObj (w.heap.size+1) (.loop { rec .ready none with state:=.busy })) oR:=DP.aaU (I:=I2) rfl QD _ (World.putObj_heap_same RD);have h2:=kY s1 hN _ (X0 I2 fun w1 w2 e hi=>by show w2.heap[_]?=_;rw[e];exact hi) _ _ _ rV;refine wpIn_mono (F:=Fence.wide.inRound (w.heap.size+1)) h2 fun e a3 w3 ⟨s3,QB,hq,J6⟩=>?_;have hl3:w3.heap[w.heap.size+1]?=some (.loop { rec .ready none with state:=.busy }):=J6.inv
  cases e with
  |normal=>
   obtain⟨hp3,hw,hH3⟩:=hq;obtain⟨η4,hr4⟩:=hw _ _ _ J6;have hra:=RJ.after (gh2:=some rest) h hD hr4 hl3 (rec .ready none) fun W' W9=>⟨W9,hH3,fun y hy=>hlen y (aqI _ hy)⟩;have he:=run_endRound (P:=Γ.P) none hl3;have e2:({ { rec .ready none with state:=.busy } with state:=if(none:Option Code).isNone then .ready else .done,pending:=none }:Loop)=rec .ready none:=by rw[vX];rfl
   rw[e2] at he;exact⟨_,_,he,by rw[<-hR];exact⟨true,rfl,⟨_,_,_,hra.1⟩,hra.2⟩⟩
  |ret=>
   have hra:=RJ.after (gh2:=none) h hD (f3:=s3.tmps) (hp3:=s3.hp) J6 hl3 (rec .done (some .ret)) fun W' W9=>⟨.ret,.ret,W9,rfl,hq⟩;have he:=run_endRound (P:=Γ.P) (some .ret) hl3;have e2:({ { rec .ready none with state:=.busy } with state:=if(some Code.ret).isNone then .ready else .done,pending:=some .ret }:Loop)=rec .done (some .ret):=by rw[vX];rfl
   rw[e2] at he;exact⟨_,_,he,by rw[<-hR];exact⟨false,rfl,⟨_,_,_,hra.1⟩,hra.2⟩⟩
  |exit id=>
   have hra:=RJ.after (gh2:=none) h hD (f3:=s3.tmps) (hp3:=s3.hp) J6 hl3 (rec .done (some (.exit id))) fun W' W9=>⟨.exit id,.exit id,W9,rfl,hq⟩;have he:=run_endRound (P:=Γ.P) (some (.exit id)) hl3;have e2:({ { rec .ready none with state:=.busy } with state:=if(some (Code.exit id)).isNone then .ready else .done,pending:=some (.exit id) }:Loop)=rec .done (some (.exit id)):=by rw[vX];rfl
   rw[e2] at he;exact⟨_,_,he,by rw[<-hR];exact⟨false,rfl,⟨_,_,_,hra.1⟩,hra.2⟩⟩
  |_=>exact hq.elim
 |_=>exact hN.elim
theorem RJ.back (aE:Γ.Ok) (dD:Γ.JF) (hr:Rel Γ s a w η) (h:RJ η s.hp (bt Γ w η s.hp) w rec m H S D Y gh W F bf hp') {r:Loop} (hl:W.heap[w.heap.size+1]?=some (.loop r)) (ob:Loop):
  Rel Γ ⟨s.tmps,hp',()⟩ { a with defers:={ target:=.collected w.heap.size,args:=#[] }::a.defers } (W.putObj (w.heap.size+1) (.loop ob)) bf:=by
 have hs:∀k,k≠w.heap.size+1->(W.putObj (w.heap.size+1) (.loop ob)).heap[k]?=W.heap[k]?:=fun k hk=>World.putObj_heap_other hk;have cx:=hr.keeps.size;have hs2:=h.size;have fB:∀b,bb η s.hp b->(Γ.w0.heap.size<=b\/Γ.Y b)/\∀o,¬Γ.No b o:=fun b ⟨q,o,v,g1,g2,g3,g4⟩=>hr.cq q o v b g1 g2 g3 g4;have BO:∀b o,F b o->bt Γ (W.putObj (w.heap.size+1) (.loop ob)) bf hp' b o:=by
  intro b o hf;have h1:=h.pre.bI b o hf;refine⟨?_,by simpa using h1.1,?_,h1.2⟩
  ·rcases h.bI b o hf with g|g|g
   ·exact g.1
   ·exact .inr (.inl (by omega))
   ·exact .inr (fB b g).1
  ·rcases h.bI b o hf with g|g|g
   ·exact g.2.2.1
   ·intro hx;have:=aE.no hx;omega
   ·exact(fB b g).2 o
 have hE:Ext W F bf hp' (W.putObj (w.heap.size+1) (.loop ob)) (bt Γ (W.putObj (w.heap.size+1) (.loop ob)) bf hp') bf hp':=by
  refine⟨fun b o v hf hc=>?_,fun b es c hf hc=>?_,BO,fun _ _ h=>h,fun _ _ h=>h,fun _ _ _ h=>h⟩
  ·rw[World.cell?_of_block (hs b (h.Si b o hf))];exact hc
  ·rw[hs b (h.Si b 0 hf)];exact hc
 have hET:=h.ext.trans hE;have FN:∀b,bb bf hp' b->b≠w.heap.size+1:=fun b hb e=>CG h.pre.heap hl (e▸hb);refine⟨hr.nt,fun t=>(hr.tmps t).ext hET,⟨h.pre.heap.len,fun q o v h1 h2=>?_,h.pre.heap.sep⟩,fun q o v b h1 h2 h3 h4=>?_,?_,?_,?_,hr.ext.trans hET⟩
 ·by_cases hv:o.live
  ·exact(h.pre.heap.obj q o v h1 h2).ext hE (by simp) fun b hb _=>hs b (FN b ⟨q,o,v,h1,hv,h2,hb⟩)
  ·cases o<;>first|exact ai|exact(hv ai).elim
 ·rcases h.cq b ⟨q,o,v,h1,h2,h3,h4⟩ with g|g
  ·exact⟨.inl (by omega),fun o hx=>by have:=aE.no hx;omega⟩
  ·exact fB b g
 ·refine⟨h.keeps.os.trans hr.keeps.os,h.keeps.tape.trans hr.keeps.tape,h.keeps.output.trans hr.keeps.output,by simp;omega,fun k hk hx=>?_⟩;rw[hs k (by omega),h.keeps.block k (by omega) fun hl=>?_]
  ·exact hr.keeps.block k hk hx
  ·rcases (fB k hl).1 with g|g
   ·omega
   ·exact hx (.inr g)
 ·refine aE.qv _ _ _ (fun b hb=>?_) (by simp;omega) hr.inv;have hb0:=aE.x b hb;rw[hs b (by omega),h.keeps.block b (by omega) fun hl=>(fB b hl).2 0 (.inl hb)]
 ·refine⟨fun d hd=>?_,List.pairwise_cons.2 ⟨fun d hd=>?_,hr.marks.apart⟩⟩
  ·rcases aqZ.1 hd with rfl|hd
   ·exact⟨_,rfl,by rw[hs _ (by omega)];exact h.db,dD.2 _ cx⟩
   ·obtain⟨q,g1,g2,g3⟩:=hr.marks.all d hd;have hq:=bX g2;refine⟨q,g1,?_,g3⟩;rw[hs q (by omega),h.keeps.block q hq fun hl=>GK hr.heap g2 hl];exact g2
  ·obtain⟨q,g1,g2,g3⟩:=hr.marks.all d hd;have hq:=bX g2;rw[g1];simp;omega
theorem eY.range (aE:Γ.Ok) (dD:Γ.JF) {g:Operand} {ps:Array Tmp} {zH body:Code} {Q:Exit->AS Unit->Prop} {gf:Nat} {caps:List AV} {L:List (List AV)} (hg:s.ev g=.bz gf caps) (aeF:vE Γ.P gf (fun v=>v::caps.map (AV.s6 0 s.hp)) L false)
  (hlen:∀x∈L,x.length=ps.size) (W8:∀p∈ps.toList,p<Γ.nt) (H:List (List AV)->List aw->Prop) (h0:H L s.hp)
  (th:∀x rest hp,H (x::rest) hp->∃N:AS Unit->Prop,(∀mP,jh Γ hp.length mP->eY mP zH (sG N noQ) ⟨uC ps.toList x s.tmps,hp,()⟩)/\∀s1,N s1->∀mP,jh Γ hp.length mP->eY mP body (Sg mP H rest Q s.tmps) s1)
  (Mz:∀hp,H [] hp->Q .normal ⟨s.tmps,hp,()⟩):eY Γ (.rangeFunc g ps zH body) Q s:=by
 intro a w η hr;refine wpIn_rangeFunc fun fn hfn=>?_;have ss:Γ.fj.round=none:=dD.1;rw[ss];obtain⟨rec,vX⟩:∃rec:LoopState->Option Code->Loop,rec=fun st pe=>{ state:=st,pending:=pe,fn:=fn,tmps:=a.tmps,params:=ps,assign:=zH,body:=body,defers:=w.heap.size }:=⟨_,rfl⟩;obtain⟨W1,hW1⟩:∃W1,(w.alloc (.deferred (some []))).alloc (.loop (rec .ready none))=W1:=⟨_,rfl⟩;have ku:bV w W1:=by rw[<-hW1];exact(bV.alloc w _).trans (bV.alloc _ _)
 have akf:W1.heap.size=w.heap.size+2:=by rw[<-hW1];simp
 have hL1:W1.heap[w.heap.size+1]?=some (.loop (rec .ready none)):=by
  rw[<-hW1];have:=World.alloc_heap_new (w.alloc (.deferred (some []))) (.loop (rec .ready none));rwa [World.size_alloc] at this
 have hK1:W1.heap[w.heap.size]?=some (.deferred (some [])):=by
  rw[<-hW1];exact(heap_alloc_old _ _ (by simp)).trans (World.alloc_heap_new w _)
 have hgr:=hr.ev g;rw[hg] at hgr;generalize hgv:a.eval g=v at hgr
 cases hgr with
 |bz _ _ vs Xp hvr=>
 refine⟨w.heap.size+1,[{ target:=.collected w.heap.size,args:=#[] }],W1,{ target:=.fn (.func gf) vs,args:=#[.func (.yield (w.heap.size+1)) #[] #[]] },W1,gf,
  #[.func (.yield (w.heap.size+1)) #[] #[]]++vs,W1,?_,?_,fun _ _=>trivial,?_,fun h=>(by cases h),?_⟩
 ·rw[<-hW1,vX];exact run_enterLoop_outer _ _ _ _ _
 ·simp only[resolve,hgv];simp[go_sem]
 ·simp[invoke,oZ aeF.1]
 ·let J:JT:=fun D Y gh W=>∃F bf hp',RJ η s.hp (bt Γ w η s.hp) w rec ps.size H (fun e hp=>Q e ⟨s.tmps,hp,()⟩) D Y gh W F bf hp'
  have hC:Cons Γ.P (.func (.yield (w.heap.size+1)) #[] #[]) J:=
   ⟨rfl,fun D Y gh W D' Y' W' ⟨F,bf,hp',h⟩ k=>⟨_,_,_,h.Pc k⟩,fun D Y x rest W bE ⟨F,bf,hp',h⟩ hD hY _ hv=>h.round hr.nt W8 hr.tmps vX th hD hv⟩
  have he1:Ext w (bt Γ w η s.hp) η s.hp W1 (bt Γ w η s.hp) η s.hp:=
   ⟨fun b o v hf hc=>by rw[World.cell?_of_block (ku.block b hf.2.1)];exact hc,fun b es c hf hc=>by rw[ku.block b hf.2.1];exact hc,fun _ _ h=>h,fun _ _ h=>h,fun _ _ h=>h,fun _ _ _ h=>h⟩
  have fB:∀b,bb η s.hp b->b<w.heap.size:=fun b ⟨q,o,v,g1,g2,g3,g4⟩=>hr.heap.block g1 g2 g3 g4;have hJ:J (bt Γ w η s.hp) (fun _=>False) (some (L++[])) W1:=by
   rw[aqR];refine⟨_,_,_,⟨⟨fun b o hf=>⟨aqX hf.2.1 ku.size,hf.2.2.2⟩,⟨hr.heap.len,fun q o v h1 h2=>(hr.heap.obj q o v h1 h2).ext he1 ku.size fun b _ aH=>ku.block b aH,hr.heap.sep⟩,fun b hb=>aqX (fB b hb) ku.size,(hr.kN aE).same ku,fun b hb hl=>hr.gx aE hb hl⟩,ku.keeps _,he1,fun b hb=>.inr hb,fun b o hf=>.inl hf,
    fun b o hf=>by have:=hf.2.1;omega,fun _ _ h=>h,fun _ h=>h.elim,fun _ _ _ h=>h.elim,by omega,fun b hb=>(hr.kN aE).lt hb,hK1,⟨hL1,h0,hlen⟩⟩⟩
  have aeI:cu W1 (bt Γ w η s.hp) [] [] (.fn (.func (.yield (w.heap.size+1)) #[] #[])::caps.map (AV.s6 0 s.hp)) (.func (.yield (w.heap.size+1)) #[] #[]::vs.toList):=by
   refine⟨.fn _ rfl,?_⟩;have dK:cu w (bt Γ w η s.hp) η s.hp caps vs.toList:=dL (by simpa using Xp) fun j y u hy hu=>hvr j y u hy (by simpa using hu);exact cu.ext ⟨he1.cell,he1.kM,he1.bI,fun _ _ h=>h,fun _ _ h=>h,fun _ _ _ h=>h⟩ (og hr _ _ dK)
  have hav:(#[.func (.yield (w.heap.size+1)) #[] #[]]++vs:Array Value)=(.func (.yield (w.heap.size+1)) #[] #[]::vs.toList:List Value).toArray:=by apply arL;simp
  have fP:=aeF.2 J _ hC (bt Γ w η s.hp) (fun _=>False) [] W1 _ hJ (fun b o hf=>aqX hf.2.1 ku.size) (fun _ h=>h.elim) ((hr.kN aE).same ku) aeI;rw[hav];refine CallsIn.mono (F:=Γ.fj) (R:=fun e w'=>∃v D' b,e=.returned v/\YR false b v/\J D' (fun _=>False) (gT b []) w'/\Left (bt Γ w η s.hp) (fun _=>False) W1 D' w') fP fun e w3 ⟨v,D',b,he,_,⟨F,bf,hp',hj⟩,_⟩=>?_;subst he
  cases b with
  |true=>
   obtain⟨hl,hH,_⟩:=hj.st;have:=run_endLoop (P:=Γ.P) hl (by rw[vX];simp);rw[vX] at this;exact⟨none,_,this,⟨s.tmps,hp',()⟩,bf,Mz _ hH,hj.back aE dD hr hl _⟩
  |false=>
   obtain⟨c,e,hl,MA,hS⟩:=hj.st;have:=run_endLoop (P:=Γ.P) hl (by rw[vX];simp);rw[vX] at this;refine⟨some c,_,this,?_⟩
   cases c<;>simp only[Ku] at MA<;>first|exact MA.elim|skip
   ·subst MA;exact wpIn_exit ⟨_,bf,hS,hj.back aE dD hr hl _⟩
   ·subst MA;exact wpIn_ret ⟨_,bf,hS,hj.back aE dD hr hl _⟩
end Go.Proofs.YtnkjkpmbgoehkaaGreat
