/- Texts of ours laid together for a claim: FilZ. -/
import Derived.RangeFuncRecord
import Derived.Test.YtdcikhleahfknaaGreatDoorQ25
namespace Go.Proofs.YtdcikhleahfknaaGreatDoor
open Go
set_option linter.unusedSimpArgs false
set_option linter.unusedVariables false
variable {P:Program} {Γ:Env Unit} {s s':AS Unit} {a:Act} {w w' w2:World} {η aN:List Value} {hp hp':List af} {F:Cells}
theorem z6 (h:dC w F η hp) {b:Nat} (hl:aG η hp b):(∃vs T p,w.heap[b]?=some (.cells vs T p))\/∃en c,w.heap[b]?=some (.map en c):=by
 obtain⟨r,o,v,g1,g2,g3,g4⟩:=hl;have dB:=h.obj r o v g1 g3
 cases o with
 |dead=>exact g2.elim
 |box cs=>obtain⟨b',vs,T,rfl,h1,_⟩:=dB;simp only[ct,als] at g4;subst g4;exact .inl ⟨_,_,_,h1⟩
 |row e size els=>
  obtain⟨_,xs,h1,_⟩:=dB;obtain⟨cur,h5⟩:=h1.lt g4;exact .inl ⟨_,_,_,h5⟩
 |aJ es=>obtain⟨b',en,c,rfl,h1,_⟩:=dB;simp only[ct,als] at g4;subst g4;exact .inr ⟨_,_,h1⟩
 |cU q k=>obtain⟨b',vs,rfl,h1,_⟩:=dB;simp only[ct,als] at g4;subst g4;exact .inl ⟨_,_,_,h1⟩
 |aQ e size els=>
  obtain⟨_,xs,h1,_⟩:=dB;obtain⟨cur,h5⟩:=h1.lt g4;exact .inl ⟨_,_,_,h5⟩
 |dN e m ns=>
  obtain⟨cur,h5⟩:=eS.lt dB g4;exact .inl ⟨_,_,_,h5⟩
theorem z7 (h:dC w F η hp) {l:Nat} {r:Loop} (hl:w.heap[l]?=some (.loop r)):¬aG η hp l:=by
 intro hb;rcases z6 h hb with⟨_,_,_,h1⟩|⟨_,_,h1⟩<;>rw[hl] at h1<;>cases h1
theorem Et (h:dC w F η hp) {l:Nat} {r:Option (List Deferred)} (hl:w.heap[l]?=some (.deferred r)):¬aG η hp l:=by
 intro hb;rcases z6 h hb with⟨_,_,_,h1⟩|⟨_,_,h1⟩<;>rw[hl] at h1<;>cases h1
theorem mw (hlen:η.length=hp.length) {b o:Nat} (h:¬aG η hp b):iR η hp b o:=by
 refine(aU b o).2 fun q u hu MU=>?_;have hq:q<hp.length:=by rw[<-hlen];exact(alu.1 hu).1
 have hg:hp[q]?=some hp[q]:=by simp[hq]
 refine⟨_,hg,?_⟩
 cases hx:hp[q] with
 |dead=>exact True.intro
 |_=>
  exfalso;rw[hx] at hg;exact h ⟨q,_,u,hg,True.intro,hu,MU⟩
theorem Rel.Xq (hr:Rel Γ s a w η) {l:Nat} {r:Loop} (hx:Γ.X l) (hl:w.heap[l]?=some (.loop r)) (ob:Obj) {I:Unit->World->Prop} (hI:I () (w.putObj l ob)):Rel { Γ with Inv:=I } s a (w.putObj l ob) η:=by
 have hs:∀k,k≠l->(w.putObj l ob).heap[k]?=w.heap[k]?:=fun k hk=>World.putObj_heap_other hk;have he:Ext w (bk Γ w η s.hp) η s.hp (w.putObj l ob) (bk { Γ with Inv:=I } (w.putObj l ob) η s.hp) η s.hp:=by
  refine⟨fun b o v hf hc=>?_,fun b es c hf hc=>?_,fun b o hf=>⟨hf.1,by simpa using hf.2.1,hf.2.2⟩,fun _ _ h=>h,fun _ _ h=>h,fun _ _ _ h=>h⟩
  ·rw[World.cell?_of_block (hs b fun e=>hf.2.2.1 (.inl (e▸hx)))];exact hc
  ·rw[hs b fun e=>hf.2.2.1 (.inl (e▸hx))];exact hc
 have wV:∀(q:Nat) (o:af) (v:Value) (b:Nat),s.hp[q]?=some o->o.live->η[q]?=some v->ct v=some b->b≠l:=by
  intro q o v b h1 h2 h3 h4 hb;subst hb;exact(hr.bM q o v b h1 h2 h3 h4).2 0 (.inl hx)
 refine⟨hr.nt,fun t=>(hr.tmps t).ext he,⟨hr.heap.len,fun q o v h1 h2=>?_,hr.heap.sep⟩,hr.bM,?_,hI,?_,hr.ext.trans he⟩
 ·by_cases hv:o.live
  ·exact(hr.heap.obj q o v h1 h2).ext he (by simp) fun b hb _=>hs b (wV q o v b h1 hv h2 hb)
  ·cases o<;>first|exact True.intro|exact(hv True.intro).elim
 ·refine⟨hr.keeps.os,hr.keeps.tape,hr.keeps.output,by simpa using hr.keeps.size,fun k hk oX=>?_⟩;rw[hs k fun e=>oX (.inl (e▸hx))];exact hr.keeps.block k hk oX
 ·refine⟨fun d hd=>?_,hr.marks.apart⟩;obtain⟨q,h1,h2,h3⟩:=hr.marks.all d hd;refine⟨q,h1,?_,h3⟩;rw[hs q fun e=>by subst e;rw[hl] at h2;cases h2];exact h2
def si:List Nat->List AV->(Nat->AV)->Nat->AV
 |p::ps,x::xs,f=>si ps xs (yZ f p x)
 |_,_,f=>f
theorem LA {x:List AV}:∀(ps:List Nat) (xs:List AV) (f:Nat->AV) (ts:Array Value) (vs:List Value),(∀p∈ps,p<ts.size)->(∀t,bm w F η hp (f t) (ts.getD t undef))->bZ w F η hp xs vs->
  ∀t,bm w F η hp (si ps xs f t) (((ps.zip vs).foldl (fun t (p,v)=>t.setIfInBounds p v) ts).getD t undef):=by
 intro ps
 induction ps with
 |nil=>intro xs f ts vs _ hf _ t;simp only[si,List.zip_nil_left,List.foldl_nil];exact hf t
 |cons p ps ih=>
  intro xs f ts vs J5 hf hx t
  cases xs with
  |nil=>
   cases vs with
   |nil=>simp only[si,List.zip_nil_right,List.foldl_nil];exact hf t
   |cons v vs=>exact hx.elim
  |cons x xs=>
   cases vs with
   |nil=>exact hx.elim
   |cons v vs=>
    simp only[si,List.zip_cons_cons,amU];refine ih xs (yZ f p x) (ts.setIfInBounds p v) vs (fun q hq=>by rw[Array.size_setIfInBounds];exact J5 q (alR _ hq)) (fun t=>?_) hx.2 t;have hp:=J5 p alS;rw[fc]
    by_cases htp:t=p
    ·subst htp;rw[if_pos rfl];have e:(ts.setIfInBounds t v).getD t undef=v:=by simp[hp]
     rw[e];exact hx.1
    ·rw[if_neg htp];have e:(ts.setIfInBounds p v).getD t undef=ts.getD t undef:=by
      simp only[al9];rw[amS (am5 htp)]
     rw[e];exact hf t
theorem z8:∀(l:List (Nat×Value)) (ts:Array Value),(l.foldl (fun t (p,v)=>t.setIfInBounds p v) ts).size=ts.size
 | [],_=>rfl
 |(p,v)::l,ts=>by rw[amU,z8 l];simp
def HN:Code->Exit->Prop
 | .ret,e=>e=.ret
 | .exit id,e=>e=.exit id
 |_,_=>False
def Ov (kG:Env Unit) (H:List (List AV)->List af->Prop) (rest:List (List AV)) (Q:Exit->AS Unit->Prop) (f:Nat->AV):Exit->AS Unit->Prop
 | .normal,s'=>∃hp,cx kG s' ⟨fun _=>.top,hp,()⟩/\H rest hp
 | .ret,s'=>Q .ret ⟨f,s'.hp,()⟩
 | .exit id,s'=>Q (.exit id) ⟨f,s'.hp,()⟩
 |_,_=>False
def noQ:Exit->AS Unit->Prop:=fun _ _=>False
structure hM (Γ:Env Unit) (n:Nat) (kG:Env Unit):Prop where
 ok:kG.Ok
 hP:kG.P=Γ.P
 nt:kG.nt=Γ.nt
 h0:kG.jR.length=n
structure RJ (η:List Value) (hp:List af) (F1:Cells) (w:World) (rec:LoopState->Option Code->Loop) (m:Nat) (H:List (List AV)->List af->Prop) (S:Exit->List af->Prop)
  (D:Cells) (Y:Nat->Prop) (gh:Gh) (W:World) (F:Cells) (aN:List Value) (hp':List af):Prop where
 pre:kE W F aN hp'
 keeps:bE (aG η hp) w W
 ext:Ext w F1 η hp W F aN hp'
 bM:∀b,aG aN hp' b->w.heap.size<=b\/aG η hp b
 bg:∀b o,F b o->F1 b o\/w.heap.size<=b\/aG η hp b
 Ow:∀b o,F b o->b≠w.heap.size+1
 df:∀b o,D b o->F b o
 y:∀b,Y b->b<W.heap.size/\¬aG aN hp' b/\w.heap.size+2<=b
 fy:∀b o,F b o->Y b->D b o
 size:w.heap.size+2<=W.heap.size
 gw:∀b,mS b->b<w.heap.size
 db:W.heap[w.heap.size]?=some (.deferred (some []))
 st:match gh with
  |some rest=>W.heap[w.heap.size+1]?=some (.loop (rec .ready none))/\H rest hp'/\∀x∈rest,x.length=m
  |none=>∃c e,W.heap[w.heap.size+1]?=some (.loop (rec .done (some c)))/\HN c e/\S e hp'
variable {F1 D D':Cells} {Y Y':Nat->Prop} {gh:Gh} {W W':World} {rec:LoopState->Option Code->Loop} {m:Nat} {H:List (List AV)->List af->Prop} {S:Exit->List af->Prop}
theorem RJ.Lz (h:RJ η hp F1 w rec m H S D Y gh W F aN hp') (k:Adv D Y W D' Y' W'):RJ η hp F1 w rec m H S D' Y' gh W' (fun b o=>F b o\/D' b o) aN hp':=by
 have hE:Ext W F aN hp' W' (fun b o=>F b o\/D' b o) aN hp':=by
  refine⟨fun b o v hf hc=>?_,fun b es c hf hc=>?_,fun b o hf=>.inl hf,fun _ _ h=>h,fun _ _ h=>h,fun _ _ _ h=>h⟩
  ·by_cases hy:Y b
   ·exact k.cell b o v (h.fy b o hf hy) hc
   ·rw[World.cell?_of_block (k.same.block b (h.pre.bg b o hf).1 hy)];exact hc
  ·by_cases hy:Y b
   ·exact k.ir b es c (h.fy b 0 hf hy) hc
   ·rw[k.same.block b (h.pre.bg b 0 hf).1 hy];exact hc
 have bN:=k.same.size;have Xh:∀b,W.heap.size<=b->¬aG aN hp' b:=fun b hb hl=>by have:=h.pre.live b hl;omega
 have hly:∀b,aG aN hp' b->¬Y b:=fun b hl hy=>(h.y b hy).2.1 hl;have Yu:¬Y (w.heap.size+1):=fun hy=>by have:=(h.y _ hy).2.2;omega
 have l8:¬Y w.heap.size:=fun hy=>by have:=(h.y _ hy).2.2;omega
 have Hh:=h.size;refine⟨⟨fun b o hf=>?_,⟨h.pre.heap.len,fun q o v h1 h2=>?_,h.pre.heap.sep⟩,fun b hb=>al8 (h.pre.live b hb) bN,h.pre.gL.keeps k.same fun b hb hy=>(by have:=(h.y b hy).2.2;have:=h.gw b hb;omega),h.pre.gx⟩,h.keeps.trans k.same fun i hi hy=>?_,h.ext.trans hE,h.bM,fun b o hf=>?_,fun b o hf=>?_,fun b o hd=>.inr hd,fun b hb=>?_,fun b o hf hy=>?_,by omega,h.gw,?_,?_⟩
 ·rcases hf with hf|hd
  ·exact⟨al8 (h.pre.bg b o hf).1 bN,(h.pre.bg b o hf).2⟩
  ·obtain⟨h1,h2⟩:=k.back b o hd;refine⟨h2,?_⟩;rcases h1 with h1|h1|h1
   ·exact(h.pre.bg b o (h.df b o h1)).2
   ·exact mw h.pre.heap.len (h.y b h1).2.1
   ·exact mw h.pre.heap.len (Xh b h1)
 ·by_cases hv:o.live
  ·exact(h.pre.heap.obj q o v h1 h2).ext hE bN fun b hb ak=>k.same.block b ak (hly b ⟨q,o,v,h1,hv,h2,hb⟩)
  ·cases o<;>first|exact True.intro|exact(hv True.intro).elim
 ·have:=(h.y i hy).2.2;omega
 ·rcases hf with hf|hd
  ·exact h.bg b o hf
  ·rcases (k.back b o hd).1 with h1|h1|h1
   ·exact h.bg b o (h.df b o h1)
   ·exact .inr (.inl (by have:=(h.y b h1).2.2;omega))
   ·exact .inr (.inl (by omega))
 ·rcases hf with hf|hd
  ·exact h.Ow b o hf
  ·rcases (k.back b o hd).1 with h1|h1|h1
   ·exact h.Ow b o (h.df b o h1)
   ·have:=(h.y b h1).2.2;omega
   ·omega
 ·obtain⟨h1,h2⟩:=k.Xo b hb;refine⟨h2,?_,?_⟩
  ·rcases h1 with h1|h1
   ·exact(h.y b h1).2.1
   ·exact Xh b h1
  ·rcases h1 with h1|h1
   ·exact(h.y b h1).2.2
   ·omega
 ·rcases hf with hf|hd
  ·rcases (k.Xo b hy).1 with h1|h1
   ·exact k.bg b o (h.fy b o hf h1)
   ·have:=(h.pre.bg b o hf).1;omega
  ·exact hd
 ·rw[k.same.block _ (by omega) l8];exact h.db
 ·have qv:=h.st;have e:W'.heap[w.heap.size+1]?=W.heap[w.heap.size+1]?:=k.same.block _ (by omega) Yu
  cases gh with
  |some rest=>simp only[e];exact qv
  |none=>simp only[e];exact qv
def ia (Γ:Env Unit) (W:World) (F:Cells) (aN:List Value) (hp':List af) (l:Nat) (I:Unit->World->Prop):Env Unit:=
 { P:=Γ.P,w0:=W,F0:=F,X:=fun b=>b=l,Y:=aG aN hp',Inv:=I,nt:=Γ.nt,zH:=some l,m0:=fun r=>W.heap.size<=r,Z:=fun _ _=>False,yY:=aN,jR:=hp' }
theorem RJ.after (h:RJ η hp F1 w rec m H S D Y gh W F aN hp') (hD:∀b o,D b o->b<W.heap.size) {I:Unit->World->Prop} {f3:Nat->AV} {a3:Act} {w3:World} {MO:List Value} {hp3:List af} (hr:Rel (ia Γ W F aN hp' (w.heap.size+1) I) ⟨f3,hp3,()⟩ a3 w3 MO)
  {r:Loop} (hl:w3.heap[w.heap.size+1]?=some (.loop r)) (ob:Loop) {gh2:Gh} (qv:∀W':World,W'.heap[w.heap.size+1]?=some (.loop ob)->match gh2 with
   |some rest=>W'.heap[w.heap.size+1]?=some (.loop (rec .ready none))/\H rest hp3/\∀x∈rest,x.length=m
   |none=>∃c e,W'.heap[w.heap.size+1]?=some (.loop (rec .done (some c)))/\HN c e/\S e hp3):
  RJ η hp F1 w rec m H S D Y gh2 (w3.putObj (w.heap.size+1) (.loop ob)) (bk (ia Γ W F aN hp' (w.heap.size+1) (fun _ _=>True)) (w3.putObj (w.heap.size+1) (.loop ob)) MO hp3) MO hp3/\
   Left D Y W D (w3.putObj (w.heap.size+1) (.loop ob)):=by
 have Hh:=h.size;have ak:w.heap.size+1<w3.heap.size:=bo hl;have ZU:Rel (ia Γ W F aN hp' (w.heap.size+1) (fun _ _=>True)) ⟨f3,hp3,()⟩ a3 (w3.putObj (w.heap.size+1) (.loop ob)) MO:=hr.Xq (I:=fun _ _=>True) rfl hl (.loop ob) True.intro;have sj:bE (fun b=>b=w.heap.size+1\/aG aN hp' b) W (w3.putObj (w.heap.size+1) (.loop ob)):=ZU.keeps;have bN:=sj.size;have cA:Ext W F aN hp' (w3.putObj (w.heap.size+1) (.loop ob)) (bk (ia Γ W F aN hp' (w.heap.size+1) (fun _ _=>True)) (w3.putObj (w.heap.size+1) (.loop ob)) MO hp3) MO hp3:=ZU.ext;have DY:∀b,aG MO hp3 b->(W.heap.size<=b\/aG aN hp' b)/\b≠w.heap.size+1:=fun b ⟨q,o,v,g1,g2,g3,g4⟩=>
  ⟨(ZU.bM q o v b g1 g2 g3 g4).1,fun e=>(ZU.bM q o v b g1 g2 g3 g4).2 0 (.inl e)⟩
 have aff:∀b,aG MO hp3 b->b<(w3.putObj (w.heap.size+1) (.loop ob)).heap.size:=fun b ⟨q,o,v,g1,g2,g3,g4⟩=>ZU.heap.block g1 g2 g3 g4;have hgk:∀b,mS b->¬(b=w.heap.size+1\/aG aN hp' b):=fun b hb hx=>hx.elim (fun e=>by have:=h.gw b hb;omega) (h.pre.gx b hb);refine⟨⟨⟨fun b o hf=>⟨hf.2.1,hf.2.2.2⟩,ZU.heap,aff,h.pre.gL.keeps sj hgk,fun b hb hl=>(DY b hl).1.elim (fun h1=>by have:=h.gw b hb;omega) (h.pre.gx b hb)⟩,h.keeps.trans sj fun i hi hx=>?_,h.ext.trans cA,fun b hb=>?_,fun b o hf=>?_,fun b o hf e=>hf.2.2.1 (.inl e),fun b o hd=>cA.bg _ _ (h.df b o hd),fun b hb=>⟨?_,fun hl=>?_,(h.y b hb).2.2⟩,fun b o hf hy=>?_,by omega,h.gw,?_,?_⟩,
  bN,fun b o v hd hc=>cA.cell b o v (h.df b o hd) hc,fun b es c hd hc=>cA.ir b es c (h.df b 0 hd) hc,fun b hb=>?_,fun _ _ h=>h,fun b o hd=>⟨.inl hd,?_⟩,fun b hb=>sj.block b (by have:=h.gw b hb;omega) (hgk b hb)⟩
 ·rcases hx with rfl|hx
  ·omega
  ·rcases h.bM i hx with h1|h1
   ·omega
   ·exact h1
 ·rcases (DY b hb).1 with h1|h1
  ·exact .inl (by omega)
  ·exact h.bM b h1
 ·rcases hf.1 with h1|h1|h1
  ·exact h.bg b o h1
  ·have h1':W.heap.size<=b:=h1;exact .inr (.inl (by omega))
  ·exact(h.bM b h1).imp (fun h=>.inl h) (fun h=>h) |>.elim (fun h=>.inr h) fun h=>.inr (.inr h)
 ·have:=(h.y b hb).1;omega
 ·rcases (DY b hl).1 with h1|h1
  ·have:=(h.y b hb).1;omega
  ·exact(h.y b hb).2.1 h1
 ·rcases hf.1 with h1|h1|h1
  ·exact h.fy b o h1 hy
  ·have h1':W.heap.size<=b:=h1;have:=(h.y b hy).1;omega
  ·exact((h.y b hy).2.1 h1).elim
 ·rw[sj.block _ (by omega) fun hx=>hx.elim (fun e=>by omega) fun hx=>Et h.pre.heap h.db hx];exact h.db
 ·exact qv _ (World.putObj_heap_same ak)
 ·have:=h.y b hb;exact sj.block b this.1 fun hx=>hx.elim (fun e=>by omega) this.2.1
 ·have:=hD b o hd;omega
theorem Tw (ps:Array Nat) (bb:List Value) (ts:Array Value):(ps.zip bb.toArray).foldl (fun tmps (t,a)=>tmps.setIfInBounds t a) ts=(ps.toList.zip bb).foldl (fun t (p,v)=>t.setIfInBounds p v) ts:=by
 rw[<-Array.foldl_toList];simp
theorem RJ.round {ps:Array Tmp} {xv body:Code} {fn:Nat} {Q:Exit->AS Unit->Prop} {f:Nat->AV} (ha:a.tmps.size=Γ.nt) (J5:∀p∈ps.toList,p<Γ.nt) (hf:∀t,bm w F1 η hp (f t) (a.tmps.getD t undef))
  (tV:rec=fun st pe=>{ state:=st,pending:=pe,fn:=fn,tmps:=a.tmps,params:=ps,assign:=xv,body:=body,defers:=w.heap.size })
  (qV:∀x rest hp,H (x::rest) hp->∃N:AS Unit->Prop,(∀kG,hM Γ hp.length kG->dT kG xv (qw N noQ) ⟨si ps.toList x f,hp,()⟩)/\∀s1,N s1->∀kG,hM Γ hp.length kG->dT kG body (Ov kG H rest Q f) s1)
  {x:List AV} {rest:List (List AV)} {bb:List Value} (h:RJ η hp F1 w rec ps.size H (fun e hp=>Q e ⟨f,hp,()⟩) D Y (some (x::rest)) W F aN hp') (hD:∀b o,D b o->b<W.heap.size) (hv:bZ W D [] [] x bb):
  On Γ.P (.func (.yield (w.heap.size+1)) #[] #[]) bb W fun e w'=>∃b,e=.returned (.bool b)/\(∃F aN hp',RJ η hp F1 w rec ps.size H (fun e hp=>Q e ⟨f,hp,()⟩) D Y (gT b rest) w' F aN hp')/\Left D Y W D w':=by
 generalize hR:(fun(e:Ending) (w':World)=>∃b,e=.returned (.bool b)/\(∃F aN hp',RJ η hp F1 w rec ps.size H (fun e hp=>Q e ⟨f,hp,()⟩) D Y (gT b rest) w' F aN hp')/\Left D Y W D w')=R;obtain⟨hl,hH,hlen⟩:=h.st;have Hh:=h.size;have Sw:=hv.length;have hxl:=hlen x alS;have hy:=run_yield (P:=Γ.P) (args:=bb.toArray) hl (by rw[tV];simp;omega);refine⟨_,_,_,_,_,rfl,hy,roundIn_of_wpIn (F:=Fence.wide) (P:=Γ.P) trivial ?_⟩;obtain⟨N,afh,gR⟩:=qV x rest hp' hH;rw[tV];simp only[Tw];have aaQ:∀I:Unit->World->Prop,(∀(w1 w2:World),w2.heap[w.heap.size+1]?=w1.heap[w.heap.size+1]?->I () w1->I () w2)->hM Γ hp'.length (ia Γ W F aN hp' (w.heap.size+1) I):=fun I hI=>
  ⟨⟨h.pre.heap.len,fun b hb=>by have:b=w.heap.size+1:=hb;show b<W.heap.size;omega,h.pre.live,fun g w1 w2 hx _ hi=>hI w1 w2 (hx _ rfl) hi,fun _ _ h=>h.elim,h.pre.gL,fun b hb hx=>hx.elim (fun e=>by have:b=w.heap.size+1:=e;have:=h.gw b hb;omega) (h.pre.gx b hb)⟩,rfl,rfl,rfl⟩
 have Xh:=z7 h.pre.heap hl;have zb:∀(I:Unit->World->Prop) b o,F b o->bk (ia Γ W F aN hp' (w.heap.size+1) I) W aN hp' b o:=fun I b o hf=>⟨.inl hf,(h.pre.bg b o hf).1,fun hx=>hx.elim (fun e=>h.Ow b o hf e) fun h=>h,(h.pre.bg b o hf).2⟩
 let I1:Unit->World->Prop:=fun _ w1=>w1.heap[w.heap.size+1]?=some (.loop (rec .ready none))
 let I2:Unit->World->Prop:=fun _ w1=>w1.heap[w.heap.size+1]?=some (.loop { rec .ready none with state:=.busy })
 have hE:Ext W F aN hp' W (bk (ia Γ W F aN hp' (w.heap.size+1) I1) W aN hp') aN hp':=⟨fun _ _ _ _ h=>h,fun _ _ _ _ h=>h,zb I1,fun _ _ h=>h,fun _ _ h=>h,fun _ _ _ h=>h⟩;have hrel:Rel (ia Γ W F aN hp' (w.heap.size+1) I1) ⟨si ps.toList x f,hp',()⟩ ⟨(ps.toList.zip bb).foldl (fun t (p,v)=>t.setIfInBounds p v) a.tmps,[]⟩ W aN:=by
  refine⟨by rw[z8];exact ha,LA (x:=x) ps.toList x f a.tmps bb (fun p hp=>by rw[ha];exact J5 p hp) (fun t=>((hf t).ext h.ext).ext hE) ?_,⟨h.pre.heap.len,fun q o v h1 h2=>(h.pre.heap.obj q o v h1 h2).ext hE (alA _) fun _ _ _=>rfl,h.pre.heap.sep⟩,
   fun q o v b h1 h2 h3 h4=>⟨.inr ⟨q,o,v,h1,h2,h3,h4⟩,fun _ hx=>hx.elim (fun e=>Xh (e▸⟨q,o,v,h1,h2,h3,h4⟩)) fun h=>h⟩,bE.refl _ _,hl,⟨fun d hd=>(by cases hd),List.Pairwise.nil⟩,hE⟩
  exact cF hv.length fun j y u hy hu=>((hv.get j y u hy hu).bg fun b o hd=>zb I1 b o (h.df b o hd)).lift
 have h1:=afh _ (aaQ I1 fun w1 w2 e hi=>by show w2.heap[_]?=_;rw[e];exact hi) _ _ _ hrel;refine wpIn_mono (F:=Fence.wide.inRound (w.heap.size+1)) h1 fun e a1 w1 ⟨s1,jP,hN,DR⟩=>?_
 cases e with
 |normal=>
  have A7:w1.heap[w.heap.size+1]?=some (.loop (rec .ready none)):=DR.inv;have NP:w.heap.size+1<w1.heap.size:=bo A7;refine⟨_,run_beginRound A7 (by rw[tV]),?_⟩;have mP:Rel (ia Γ W F aN hp' (w.heap.size+1) I2) s1 a1 (w1.putObj (w.heap.size+1) (.loop { rec .ready none with state:=.busy })) jP:=DR.Xq (I:=I2) rfl A7 _ (World.putObj_heap_same NP);have h2:=gR s1 hN _ (aaQ I2 fun w1 w2 e hi=>by show w2.heap[_]?=_;rw[e];exact hi) _ _ _ mP;refine wpIn_mono (F:=Fence.wide.inRound (w.heap.size+1)) h2 fun e a3 w3 ⟨s3,MO,hq,Hu⟩=>?_;have W4:w3.heap[w.heap.size+1]?=some (.loop { rec .ready none with state:=.busy }):=Hu.inv
  cases e with
  |normal=>
   obtain⟨hp3,hw,hH3⟩:=hq;obtain⟨η4,hr4⟩:=hw _ _ _ Hu;have Xr:=RJ.after (gh2:=some rest) h hD hr4 W4 (rec .ready none) fun W' SD=>⟨SD,hH3,fun y hy=>hlen y (alR _ hy)⟩;have he:=run_endRound (P:=Γ.P) none W4;have e2:({ { rec .ready none with state:=.busy } with state:=if(none:Option Code).isNone then .ready else .done,pending:=none }:Loop)=rec .ready none:=by rw[tV];rfl
   rw[e2] at he;exact⟨_,_,he,by rw[<-hR];exact⟨true,rfl,⟨_,_,_,Xr.1⟩,Xr.2⟩⟩
  |ret=>
   have Xr:=RJ.after (gh2:=none) h hD (f3:=s3.tmps) (hp3:=s3.hp) Hu W4 (rec .done (some .ret)) fun W' SD=>⟨.ret,.ret,SD,rfl,hq⟩;have he:=run_endRound (P:=Γ.P) (some .ret) W4;have e2:({ { rec .ready none with state:=.busy } with state:=if(some Code.ret).isNone then .ready else .done,pending:=some .ret }:Loop)=rec .done (some .ret):=by rw[tV];rfl
   rw[e2] at he;exact⟨_,_,he,by rw[<-hR];exact⟨false,rfl,⟨_,_,_,Xr.1⟩,Xr.2⟩⟩
  |exit id=>
   have Xr:=RJ.after (gh2:=none) h hD (f3:=s3.tmps) (hp3:=s3.hp) Hu W4 (rec .done (some (.exit id))) fun W' SD=>⟨.exit id,.exit id,SD,rfl,hq⟩;have he:=run_endRound (P:=Γ.P) (some (.exit id)) W4;have e2:({ { rec .ready none with state:=.busy } with state:=if(some (Code.exit id)).isNone then .ready else .done,pending:=some (.exit id) }:Loop)=rec .done (some (.exit id)):=by rw[tV];rfl
   rw[e2] at he;exact⟨_,_,he,by rw[<-hR];exact⟨false,rfl,⟨_,_,_,Xr.1⟩,Xr.2⟩⟩
  |_=>exact hq.elim
 |_=>exact hN.elim
theorem RJ.back (ax:Γ.Ok) (cG:Γ.Dn) (hr:Rel Γ s a w η) (h:RJ η s.hp (bk Γ w η s.hp) w rec m H S D Y gh W F aN hp') {r:Loop} (hl:W.heap[w.heap.size+1]?=some (.loop r)) (ob:Loop):
  Rel Γ ⟨s.tmps,hp',()⟩ { a with defers:={ target:=.collected w.heap.size,args:=#[] }::a.defers } (W.putObj (w.heap.size+1) (.loop ob)) aN:=by
 have hs:∀k,k≠w.heap.size+1->(W.putObj (w.heap.size+1) (.loop ob)).heap[k]?=W.heap[k]?:=fun k hk=>World.putObj_heap_other hk;have bN:=hr.keeps.size;have Hh:=h.size;have da:∀b,aG η s.hp b->(Γ.w0.heap.size<=b\/Γ.Y b)/\∀o,¬Γ.No b o:=fun b ⟨q,o,v,g1,g2,g3,g4⟩=>hr.bM q o v b g1 g2 g3 g4;have zb:∀b o,F b o->bk Γ (W.putObj (w.heap.size+1) (.loop ob)) aN hp' b o:=by
  intro b o hf;have h1:=h.pre.bg b o hf;refine⟨?_,by simpa using h1.1,?_,h1.2⟩
  ·rcases h.bg b o hf with g|g|g
   ·exact g.1
   ·exact .inr (.inl (by omega))
   ·exact .inr (da b g).1
  ·rcases h.bg b o hf with g|g|g
   ·exact g.2.2.1
   ·intro hx;have:=ax.no hx;omega
   ·exact(da b g).2 o
 have hE:Ext W F aN hp' (W.putObj (w.heap.size+1) (.loop ob)) (bk Γ (W.putObj (w.heap.size+1) (.loop ob)) aN hp') aN hp':=by
  refine⟨fun b o v hf hc=>?_,fun b es c hf hc=>?_,zb,fun _ _ h=>h,fun _ _ h=>h,fun _ _ _ h=>h⟩
  ·rw[World.cell?_of_block (hs b (h.Ow b o hf))];exact hc
  ·rw[hs b (h.Ow b 0 hf)];exact hc
 have hET:=h.ext.trans hE;have wV:∀b,aG aN hp' b->b≠w.heap.size+1:=fun b hb e=>z7 h.pre.heap hl (e▸hb);refine⟨hr.nt,fun t=>(hr.tmps t).ext hET,⟨h.pre.heap.len,fun q o v h1 h2=>?_,h.pre.heap.sep⟩,fun q o v b h1 h2 h3 h4=>?_,?_,?_,?_,hr.ext.trans hET⟩
 ·by_cases hv:o.live
  ·exact(h.pre.heap.obj q o v h1 h2).ext hE (by simp) fun b hb _=>hs b (wV b ⟨q,o,v,h1,hv,h2,hb⟩)
  ·cases o<;>first|exact True.intro|exact(hv True.intro).elim
 ·rcases h.bM b ⟨q,o,v,h1,h2,h3,h4⟩ with g|g
  ·exact⟨.inl (by omega),fun o hx=>by have:=ax.no hx;omega⟩
  ·exact da b g
 ·refine⟨h.keeps.os.trans hr.keeps.os,h.keeps.tape.trans hr.keeps.tape,h.keeps.output.trans hr.keeps.output,by simp;omega,fun k hk hx=>?_⟩;rw[hs k (by omega),h.keeps.block k (by omega) fun hl=>?_]
  ·exact hr.keeps.block k hk hx
  ·rcases (da k hl).1 with g|g
   ·omega
   ·exact hx (.inr g)
 ·refine ax.ou _ _ _ (fun b hb=>?_) (by simp;omega) hr.inv;have hb0:=ax.x b hb;rw[hs b (by omega),h.keeps.block b (by omega) fun hl=>(da b hl).2 0 (.inl hb)]
 ·refine⟨fun d hd=>?_,List.pairwise_cons.2 ⟨fun d hd=>?_,hr.marks.apart⟩⟩
  ·rcases al6.1 hd with rfl|hd
   ·exact⟨_,rfl,by rw[hs _ (by omega)];exact h.db,cG.2 _ bN⟩
   ·obtain⟨q,g1,g2,g3⟩:=hr.marks.all d hd;have hq:=bo g2;refine⟨q,g1,?_,g3⟩;rw[hs q (by omega),h.keeps.block q hq fun hl=>Et hr.heap g2 hl];exact g2
  ·obtain⟨q,g1,g2,g3⟩:=hr.marks.all d hd;have hq:=bo g2;rw[g1];simp;omega
theorem dT.range (ax:Γ.Ok) (cG:Γ.Dn) {g:Operand} {ps:Array Tmp} {xv body:Code} {Q:Exit->AS Unit->Prop} {gf:Nat} {caps:List AV} {L:List (List AV)} (hg:s.ev g=.aY gf caps) (aaR:zi Γ.P gf (fun v=>v::caps.map (AV.qQ 0 s.hp)) L false)
  (hlen:∀x∈L,x.length=ps.size) (J5:∀p∈ps.toList,p<Γ.nt) (H:List (List AV)->List af->Prop) (h0:H L s.hp)
  (qV:∀x rest hp,H (x::rest) hp->∃N:AS Unit->Prop,(∀kG,hM Γ hp.length kG->dT kG xv (qw N noQ) ⟨si ps.toList x s.tmps,hp,()⟩)/\∀s1,N s1->∀kG,hM Γ hp.length kG->dT kG body (Ov kG H rest Q s.tmps) s1)
  (aaS:∀hp,H [] hp->Q .normal ⟨s.tmps,hp,()⟩):dT Γ (.rangeFunc g ps xv body) Q s:=by
 intro a w η hr;refine wpIn_rangeFunc fun fn Xk=>?_;have qi:Γ.ec.round=none:=cG.1;rw[qi];obtain⟨rec,tV⟩:∃rec:LoopState->Option Code->Loop,rec=fun st pe=>{ state:=st,pending:=pe,fn:=fn,tmps:=a.tmps,params:=ps,assign:=xv,body:=body,defers:=w.heap.size }:=⟨_,rfl⟩;obtain⟨W1,LB⟩:∃W1,(w.alloc (.deferred (some []))).alloc (.loop (rec .ready none))=W1:=⟨_,rfl⟩;have eA:bI w W1:=by rw[<-LB];exact(bI.alloc w _).trans (bI.alloc _ _)
 have afj:W1.heap.size=w.heap.size+2:=by rw[<-LB];simp
 have hL1:W1.heap[w.heap.size+1]?=some (.loop (rec .ready none)):=by
  rw[<-LB];have:=World.alloc_heap_new (w.alloc (.deferred (some []))) (.loop (rec .ready none));rwa [World.size_alloc] at this
 have hK1:W1.heap[w.heap.size]?=some (.deferred (some [])):=by
  rw[<-LB];exact(heap_alloc_old _ _ (by simp)).trans (World.alloc_heap_new w _)
 have hgr:=hr.ev g;rw[hg] at hgr;generalize hgv:a.eval g=v at hgr
 cases hgr with
 |aY _ _ vs Sw hvr=>
 refine⟨w.heap.size+1,[{ target:=.collected w.heap.size,args:=#[] }],W1,{ target:=.fn (.func gf) vs,args:=#[.func (.yield (w.heap.size+1)) #[] #[]] },W1,gf,
  #[.func (.yield (w.heap.size+1)) #[] #[]]++vs,W1,?_,?_,fun _ _=>trivial,?_,fun h=>(by cases h),?_⟩
 ·rw[<-LB,tV];exact run_enterLoop_outer _ _ _ _ _
 ·simp only[resolve,hgv];simp[go_sem]
 ·simp[invoke,jE aaR.1]
 ·let J:JT:=fun D Y gh W=>∃F aN hp',RJ η s.hp (bk Γ w η s.hp) w rec ps.size H (fun e hp=>Q e ⟨s.tmps,hp,()⟩) D Y gh W F aN hp'
  have hC:Cons Γ.P (.func (.yield (w.heap.size+1)) #[] #[]) J:=
   ⟨rfl,fun D Y gh W D' Y' W' ⟨F,aN,hp',h⟩ k=>⟨_,_,_,h.Lz k⟩,fun D Y x rest W bb ⟨F,aN,hp',h⟩ hD hY _ hv=>h.round hr.nt J5 hr.tmps tV qV hD hv⟩
  have he1:Ext w (bk Γ w η s.hp) η s.hp W1 (bk Γ w η s.hp) η s.hp:=
   ⟨fun b o v hf hc=>by rw[World.cell?_of_block (eA.block b hf.2.1)];exact hc,fun b es c hf hc=>by rw[eA.block b hf.2.1];exact hc,fun _ _ h=>h,fun _ _ h=>h,fun _ _ h=>h,fun _ _ _ h=>h⟩
  have da:∀b,aG η s.hp b->b<w.heap.size:=fun b ⟨q,o,v,g1,g2,g3,g4⟩=>hr.heap.block g1 g2 g3 g4;have hJ:J (bk Γ w η s.hp) (fun _=>False) (some (L++[])) W1:=by
   rw[alV];refine⟨_,_,_,⟨⟨fun b o hf=>⟨al8 hf.2.1 eA.size,hf.2.2.2⟩,⟨hr.heap.len,fun q o v h1 h2=>(hr.heap.obj q o v h1 h2).ext he1 eA.size fun b _ ak=>eA.block b ak,hr.heap.sep⟩,fun b hb=>al8 (da b hb) eA.size,(hr.gL ax).same eA,fun b hb hl=>hr.gx ax hb hl⟩,eA.keeps _,he1,fun b hb=>.inr hb,fun b o hf=>.inl hf,
    fun b o hf=>by have:=hf.2.1;omega,fun _ _ h=>h,fun _ h=>h.elim,fun _ _ _ h=>h.elim,by omega,fun b hb=>(hr.gL ax).lt hb,hK1,⟨hL1,h0,hlen⟩⟩⟩
  have aaU:bZ W1 (bk Γ w η s.hp) [] [] (.fn (.func (.yield (w.heap.size+1)) #[] #[])::caps.map (AV.qQ 0 s.hp)) (.func (.yield (w.heap.size+1)) #[] #[]::vs.toList):=by
   refine⟨.fn _ rfl,?_⟩;have dx:bZ w (bk Γ w η s.hp) η s.hp caps vs.toList:=cF (by simpa using Sw) fun j y u hy hu=>hvr j y u hy (by simpa using hu);exact bZ.ext ⟨he1.cell,he1.ir,he1.bg,fun _ _ h=>h,fun _ _ h=>h,fun _ _ _ h=>h⟩ (mo hr _ _ dx)
  have hav:(#[.func (.yield (w.heap.size+1)) #[] #[]]++vs:Array Value)=(.func (.yield (w.heap.size+1)) #[] #[]::vs.toList:List Value).toArray:=by apply amT;simp
  have jZ:=aaR.2 J _ hC (bk Γ w η s.hp) (fun _=>False) [] W1 _ hJ (fun b o hf=>al8 hf.2.1 eA.size) (fun _ h=>h.elim) ((hr.gL ax).same eA) aaU;rw[hav];refine CallsIn.mono (F:=Γ.ec) (R:=fun e w'=>∃v D' b,e=.returned v/\YR false b v/\J D' (fun _=>False) (gT b []) w'/\Left (bk Γ w η s.hp) (fun _=>False) W1 D' w') jZ fun e w3 ⟨v,D',b,he,_,⟨F,aN,hp',hj⟩,_⟩=>?_;subst he
  cases b with
  |true=>
   obtain⟨hl,hH,_⟩:=hj.st;have:=run_endLoop (P:=Γ.P) hl (by rw[tV];simp);rw[tV] at this;exact⟨none,_,this,⟨s.tmps,hp',()⟩,aN,aaS _ hH,hj.back ax cG hr hl _⟩
  |false=>
   obtain⟨c,e,hl,J6,hS⟩:=hj.st;have:=run_endLoop (P:=Γ.P) hl (by rw[tV];simp);rw[tV] at this;refine⟨some c,_,this,?_⟩
   cases c<;>simp only[HN] at J6<;>first|exact J6.elim|skip
   ·subst J6;exact wpIn_exit ⟨_,aN,hS,hj.back ax cG hr hl _⟩
   ·subst J6;exact wpIn_ret ⟨_,aN,hS,hj.back ax cG hr hl _⟩
end Go.Proofs.YtdcikhleahfknaaGreatDoor
