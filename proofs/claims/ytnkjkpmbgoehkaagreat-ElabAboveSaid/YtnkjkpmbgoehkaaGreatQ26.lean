/- Texts of ours laid together for a claim: FilZ. -/
import Derived.RangeFuncRecord
import Derived.Test.YtnkjkpmbgoehkaaGreatQ25
namespace Go.Proofs.YtnkjkpmbgoehkaaGreat
open Go
set_option linter.unusedSimpArgs false
set_option linter.unusedVariables false
variable {P:Program} {Γ:Env Unit} {s s':AS Unit} {a:Act} {w w' w2:World} {η aO:List Value} {hp hp':List ab} {F:Cells}
theorem Al (h:dJ w F η hp) {b:Nat} (hl:aI η hp b):(∃vs T p,w.heap[b]?=some (.cells vs T p))\/∃en c,w.heap[b]?=some (.map en c):=by
 obtain⟨r,o,v,g1,g2,g3,g4⟩:=hl;have ei:=h.obj r o v g1 g3
 cases o with
 |dead=>exact g2.elim
 |box cs=>obtain⟨b',vs,T,rfl,h1,_⟩:=ei;simp only[cZ,alh] at g4;subst g4;exact .inl ⟨_,_,_,h1⟩
 |row e size els=>
  obtain⟨_,xs,h1,_⟩:=ei;obtain⟨cur,h5⟩:=h1.lt g4;exact .inl ⟨_,_,_,h5⟩
 |bW es=>obtain⟨b',en,c,rfl,h1,_⟩:=ei;simp only[cZ,alh] at g4;subst g4;exact .inr ⟨_,_,h1⟩
 |iz q k=>obtain⟨b',vs,rfl,h1,_⟩:=ei;simp only[cZ,alh] at g4;subst g4;exact .inl ⟨_,_,_,h1⟩
 |aQ e size els=>
  obtain⟨_,xs,h1,_⟩:=ei;obtain⟨cur,h5⟩:=h1.lt g4;exact .inl ⟨_,_,_,h5⟩
 |eI e m ns=>
  obtain⟨cur,h5⟩:=fH.lt ei g4;exact .inl ⟨_,_,_,h5⟩
theorem Am (h:dJ w F η hp) {l:Nat} {r:Loop} (hl:w.heap[l]?=some (.loop r)):¬aI η hp l:=by
 intro hb;rcases Al h hb with⟨_,_,_,h1⟩|⟨_,_,h1⟩<;>rw[hl] at h1<;>cases h1
theorem D1 (h:dJ w F η hp) {l:Nat} {r:Option (List Deferred)} (hl:w.heap[l]?=some (.deferred r)):¬aI η hp l:=by
 intro hb;rcases Al h hb with⟨_,_,_,h1⟩|⟨_,_,h1⟩<;>rw[hl] at h1<;>cases h1
theorem mL (hlen:η.length=hp.length) {b o:Nat} (h:¬aI η hp b):kz η hp b o:=by
 refine(aS b o).2 fun q u hu MK=>?_;have hq:q<hp.length:=by rw[<-hlen];exact(ali.1 hu).1
 have hg:hp[q]?=some hp[q]:=by simp[hq]
 refine⟨_,hg,?_⟩
 cases hx:hp[q] with
 |dead=>exact True.intro
 |_=>
  exfalso;rw[hx] at hg;exact h ⟨q,_,u,hg,True.intro,hu,MK⟩
theorem Rel.Ws (hr:Rel Γ s a w η) {l:Nat} {r:Loop} (hx:Γ.X l) (hl:w.heap[l]?=some (.loop r)) (ob:Obj) {I:Unit->World->Prop} (hI:I () (w.putObj l ob)):Rel { Γ with Inv:=I } s a (w.putObj l ob) η:=by
 have hs:∀k,k≠l->(w.putObj l ob).heap[k]?=w.heap[k]?:=fun k hk=>World.putObj_heap_other hk;have he:Ext w (aW Γ w η s.hp) η s.hp (w.putObj l ob) (aW { Γ with Inv:=I } (w.putObj l ob) η s.hp) η s.hp:=by
  refine⟨fun b o v hf hc=>?_,fun b es c hf hc=>?_,fun b o hf=>⟨hf.1,by simpa using hf.2.1,hf.2.2⟩,fun _ _ h=>h,fun _ _ h=>h,fun _ _ _ h=>h⟩
  ·rw[World.cell?_of_block (hs b fun e=>hf.2.2.1 (.inl (e▸hx)))];exact hc
  ·rw[hs b fun e=>hf.2.2.1 (.inl (e▸hx))];exact hc
 have Da:∀(q:Nat) (o:ab) (v:Value) (b:Nat),s.hp[q]?=some o->o.live->η[q]?=some v->cZ v=some b->b≠l:=by
  intro q o v b h1 h2 h3 h4 hb;subst hb;exact(hr.bN q o v b h1 h2 h3 h4).2 0 (.inl hx)
 refine⟨hr.nt,fun t=>(hr.tmps t).ext he,⟨hr.heap.len,fun q o v h1 h2=>?_,hr.heap.sep⟩,hr.bN,?_,hI,?_,hr.ext.trans he⟩
 ·by_cases hv:o.live
  ·exact(hr.heap.obj q o v h1 h2).ext he (by simp) fun b hb _=>hs b (Da q o v b h1 hv h2 hb)
  ·cases o<;>first|exact True.intro|exact(hv True.intro).elim
 ·refine⟨hr.keeps.os,hr.keeps.tape,hr.keeps.output,by simpa using hr.keeps.size,fun k hk Hw=>?_⟩;rw[hs k fun e=>Hw (.inl (e▸hx))];exact hr.keeps.block k hk Hw
 ·refine⟨fun d hd=>?_,hr.marks.apart⟩;obtain⟨q,h1,h2,h3⟩:=hr.marks.all d hd;refine⟨q,h1,?_,h3⟩;rw[hs q fun e=>by subst e;rw[hl] at h2;cases h2];exact h2
def sy:List Nat->List AV->(Nat->AV)->Nat->AV
 |p::ps,x::xs,f=>sy ps xs (zb f p x)
 |_,_,f=>f
theorem Li {x:List AV}:∀(ps:List Nat) (xs:List AV) (f:Nat->AV) (ts:Array Value) (vs:List Value),(∀p∈ps,p<ts.size)->(∀t,ba w F η hp (f t) (ts.getD t undef))->bS w F η hp xs vs->
  ∀t,ba w F η hp (sy ps xs f t) (((ps.zip vs).foldl (fun t (p,v)=>t.setIfInBounds p v) ts).getD t undef):=by
 intro ps
 induction ps with
 |nil=>intro xs f ts vs _ hf _ t;simp only[sy,List.zip_nil_left,List.foldl_nil];exact hf t
 |cons p ps ih=>
  intro xs f ts vs SX hf hx t
  cases xs with
  |nil=>
   cases vs with
   |nil=>simp only[sy,List.zip_nil_right,List.foldl_nil];exact hf t
   |cons v vs=>exact hx.elim
  |cons x xs=>
   cases vs with
   |nil=>exact hx.elim
   |cons v vs=>
    simp only[sy,List.zip_cons_cons,List.foldl_cons];refine ih xs (zb f p x) (ts.setIfInBounds p v) vs (fun q hq=>by rw[Array.size_setIfInBounds];exact SX q (alK _ hq)) (fun t=>?_) hx.2 t;have hp:=SX p alD;rw[fX]
    by_cases ZN:t=p
    ·subst ZN;rw[if_pos rfl];have e:(ts.setIfInBounds t v).getD t undef=v:=by simp[hp]
     rw[e];exact hx.1
    ·rw[if_neg ZN];have e:(ts.setIfInBounds p v).getD t undef=ts.getD t undef:=by
      simp only[alR];rw[Array.getElem?_setIfInBounds_ne (amK ZN)]
     rw[e];exact hf t
theorem An:∀(l:List (Nat×Value)) (ts:Array Value),(l.foldl (fun t (p,v)=>t.setIfInBounds p v) ts).size=ts.size
 | [],_=>rfl
 |(p,v)::l,ts=>by rw[List.foldl_cons,An l];simp
def Hx:Code->Exit->Prop
 | .ret,e=>e=.ret
 | .exit id,e=>e=.exit id
 |_,_=>False
def Ox (lq:Env Unit) (H:List (List AV)->List ab->Prop) (rest:List (List AV)) (Q:Exit->AS Unit->Prop) (f:Nat->AV):Exit->AS Unit->Prop
 | .normal,s'=>∃hp,ck lq s' ⟨fun _=>.top,hp,()⟩/\H rest hp
 | .ret,s'=>Q .ret ⟨f,s'.hp,()⟩
 | .exit id,s'=>Q (.exit id) ⟨f,s'.hp,()⟩
 |_,_=>False
def noQ:Exit->AS Unit->Prop:=fun _ _=>False
structure ia (Γ:Env Unit) (n:Nat) (lq:Env Unit):Prop where
 ok:lq.Ok
 hP:lq.P=Γ.P
 nt:lq.nt=Γ.nt
 h0:lq.lx.length=n
structure RJ (η:List Value) (hp:List ab) (F1:Cells) (w:World) (rec:LoopState->Option Code->Loop) (m:Nat) (H:List (List AV)->List ab->Prop) (S:Exit->List ab->Prop)
  (D:Cells) (Y:Nat->Prop) (gh:Gh) (W:World) (F:Cells) (aO:List Value) (hp':List ab):Prop where
 pre:Dp W F aO hp'
 keeps:bZ (aI η hp) w W
 ext:Ext w F1 η hp W F aO hp'
 bN:∀b,aI aO hp' b->w.heap.size<=b\/aI η hp b
 bk:∀b o,F b o->F1 b o\/w.heap.size<=b\/aI η hp b
 Oy:∀b o,F b o->b≠w.heap.size+1
 df:∀b o,D b o->F b o
 y:∀b,Y b->b<W.heap.size/\¬aI aO hp' b/\w.heap.size+2<=b
 fy:∀b o,F b o->Y b->D b o
 size:w.heap.size+2<=W.heap.size
 gw:∀b,nf b->b<w.heap.size
 db:W.heap[w.heap.size]?=some (.deferred (some []))
 st:match gh with
  |some rest=>W.heap[w.heap.size+1]?=some (.loop (rec .ready none))/\H rest hp'/\∀x∈rest,x.length=m
  |none=>∃c e,W.heap[w.heap.size+1]?=some (.loop (rec .done (some c)))/\Hx c e/\S e hp'
variable {F1 D D':Cells} {Y Y':Nat->Prop} {gh:Gh} {W W':World} {rec:LoopState->Option Code->Loop} {m:Nat} {H:List (List AV)->List ab->Prop} {S:Exit->List ab->Prop}
theorem RJ.Lh (h:RJ η hp F1 w rec m H S D Y gh W F aO hp') (k:Adv D Y W D' Y' W'):RJ η hp F1 w rec m H S D' Y' gh W' (fun b o=>F b o\/D' b o) aO hp':=by
 have hE:Ext W F aO hp' W' (fun b o=>F b o\/D' b o) aO hp':=by
  refine⟨fun b o v hf hc=>?_,fun b es c hf hc=>?_,fun b o hf=>.inl hf,fun _ _ h=>h,fun _ _ h=>h,fun _ _ _ h=>h⟩
  ·by_cases hy:Y b
   ·exact k.cell b o v (h.fy b o hf hy) hc
   ·rw[World.cell?_of_block (k.same.block b (h.pre.bk b o hf).1 hy)];exact hc
  ·by_cases hy:Y b
   ·exact k.jt b es c (h.fy b 0 hf hy) hc
   ·rw[k.same.block b (h.pre.bk b 0 hf).1 hy];exact hc
 have bO:=k.same.size;have YN:∀b,W.heap.size<=b->¬aI aO hp' b:=fun b hb hl=>by have:=h.pre.live b hl;omega
 have hly:∀b,aI aO hp' b->¬Y b:=fun b hl hy=>(h.y b hy).2.1 hl;have Tz:¬Y (w.heap.size+1):=fun hy=>by have:=(h.y _ hy).2.2;omega
 have nk:¬Y w.heap.size:=fun hy=>by have:=(h.y _ hy).2.2;omega
 have V4:=h.size;refine⟨⟨fun b o hf=>?_,⟨h.pre.heap.len,fun q o v h1 h2=>?_,h.pre.heap.sep⟩,fun b hb=>alJ (h.pre.live b hb) bO,h.pre.ju.keeps k.same fun b hb hy=>(by have:=(h.y b hy).2.2;have:=h.gw b hb;omega),h.pre.gx⟩,h.keeps.trans k.same fun i hi hy=>?_,h.ext.trans hE,h.bN,fun b o hf=>?_,fun b o hf=>?_,fun b o hd=>.inr hd,fun b hb=>?_,fun b o hf hy=>?_,by omega,h.gw,?_,?_⟩
 ·rcases hf with hf|hd
  ·exact⟨alJ (h.pre.bk b o hf).1 bO,(h.pre.bk b o hf).2⟩
  ·obtain⟨h1,h2⟩:=k.back b o hd;refine⟨h2,?_⟩;rcases h1 with h1|h1|h1
   ·exact(h.pre.bk b o (h.df b o h1)).2
   ·exact mL h.pre.heap.len (h.y b h1).2.1
   ·exact mL h.pre.heap.len (YN b h1)
 ·by_cases hv:o.live
  ·exact(h.pre.heap.obj q o v h1 h2).ext hE bO fun b hb aq=>k.same.block b aq (hly b ⟨q,o,v,h1,hv,h2,hb⟩)
  ·cases o<;>first|exact True.intro|exact(hv True.intro).elim
 ·have:=(h.y i hy).2.2;omega
 ·rcases hf with hf|hd
  ·exact h.bk b o hf
  ·rcases (k.back b o hd).1 with h1|h1|h1
   ·exact h.bk b o (h.df b o h1)
   ·exact .inr (.inl (by have:=(h.y b h1).2.2;omega))
   ·exact .inr (.inl (by omega))
 ·rcases hf with hf|hd
  ·exact h.Oy b o hf
  ·rcases (k.back b o hd).1 with h1|h1|h1
   ·exact h.Oy b o (h.df b o h1)
   ·have:=(h.y b h1).2.2;omega
   ·omega
 ·obtain⟨h1,h2⟩:=k.Wq b hb;refine⟨h2,?_,?_⟩
  ·rcases h1 with h1|h1
   ·exact(h.y b h1).2.1
   ·exact YN b h1
  ·rcases h1 with h1|h1
   ·exact(h.y b h1).2.2
   ·omega
 ·rcases hf with hf|hd
  ·rcases (k.Wq b hy).1 with h1|h1
   ·exact k.bk b o (h.fy b o hf h1)
   ·have:=(h.pre.bk b o hf).1;omega
  ·exact hd
 ·rw[k.same.block _ (by omega) nk];exact h.db
 ·have CV:=h.st;have e:W'.heap[w.heap.size+1]?=W.heap[w.heap.size+1]?:=k.same.block _ (by omega) Tz
  cases gh with
  |some rest=>simp only[e];exact CV
  |none=>simp only[e];exact CV
def ib (Γ:Env Unit) (W:World) (F:Cells) (aO:List Value) (hp':List ab) (l:Nat) (I:Unit->World->Prop):Env Unit:=
 { P:=Γ.P,w0:=W,F0:=F,X:=fun b=>b=l,Y:=aI aO hp',Inv:=I,nt:=Γ.nt,A1:=some l,m0:=fun r=>W.heap.size<=r,Z:=fun _ _=>False,zg:=aO,lx:=hp' }
theorem RJ.after (h:RJ η hp F1 w rec m H S D Y gh W F aO hp') (hD:∀b o,D b o->b<W.heap.size) {I:Unit->World->Prop} {f3:Nat->AV} {a3:Act} {w3:World} {My:List Value} {hp3:List ab} (hr:Rel (ib Γ W F aO hp' (w.heap.size+1) I) ⟨f3,hp3,()⟩ a3 w3 My)
  {r:Loop} (hl:w3.heap[w.heap.size+1]?=some (.loop r)) (ob:Loop) {gh2:Gh} (CV:∀W':World,W'.heap[w.heap.size+1]?=some (.loop ob)->match gh2 with
   |some rest=>W'.heap[w.heap.size+1]?=some (.loop (rec .ready none))/\H rest hp3/\∀x∈rest,x.length=m
   |none=>∃c e,W'.heap[w.heap.size+1]?=some (.loop (rec .done (some c)))/\Hx c e/\S e hp3):
  RJ η hp F1 w rec m H S D Y gh2 (w3.putObj (w.heap.size+1) (.loop ob)) (aW (ib Γ W F aO hp' (w.heap.size+1) (fun _ _=>True)) (w3.putObj (w.heap.size+1) (.loop ob)) My hp3) My hp3/\
   Left D Y W D (w3.putObj (w.heap.size+1) (.loop ob)):=by
 have V4:=h.size;have aq:w.heap.size+1<w3.heap.size:=bF hl;have YO:Rel (ib Γ W F aO hp' (w.heap.size+1) (fun _ _=>True)) ⟨f3,hp3,()⟩ a3 (w3.putObj (w.heap.size+1) (.loop ob)) My:=hr.Ws (I:=fun _ _=>True) rfl hl (.loop ob) True.intro;have sA:bZ (fun b=>b=w.heap.size+1\/aI aO hp' b) W (w3.putObj (w.heap.size+1) (.loop ob)):=YO.keeps;have bO:=sA.size;have fF:Ext W F aO hp' (w3.putObj (w.heap.size+1) (.loop ob)) (aW (ib Γ W F aO hp' (w.heap.size+1) (fun _ _=>True)) (w3.putObj (w.heap.size+1) (.loop ob)) My hp3) My hp3:=YO.ext;have Dz:∀b,aI My hp3 b->(W.heap.size<=b\/aI aO hp' b)/\b≠w.heap.size+1:=fun b ⟨q,o,v,g1,g2,g3,g4⟩=>
  ⟨(YO.bN q o v b g1 g2 g3 g4).1,fun e=>(YO.bN q o v b g1 g2 g3 g4).2 0 (.inl e)⟩
 have afi:∀b,aI My hp3 b->b<(w3.putObj (w.heap.size+1) (.loop ob)).heap.size:=fun b ⟨q,o,v,g1,g2,g3,g4⟩=>YO.heap.block g1 g2 g3 g4;have hgk:∀b,nf b->¬(b=w.heap.size+1\/aI aO hp' b):=fun b hb hx=>hx.elim (fun e=>by have:=h.gw b hb;omega) (h.pre.gx b hb);refine⟨⟨⟨fun b o hf=>⟨hf.2.1,hf.2.2.2⟩,YO.heap,afi,h.pre.ju.keeps sA hgk,fun b hb hl=>(Dz b hl).1.elim (fun h1=>by have:=h.gw b hb;omega) (h.pre.gx b hb)⟩,h.keeps.trans sA fun i hi hx=>?_,h.ext.trans fF,fun b hb=>?_,fun b o hf=>?_,fun b o hf e=>hf.2.2.1 (.inl e),fun b o hd=>fF.bk _ _ (h.df b o hd),fun b hb=>⟨?_,fun hl=>?_,(h.y b hb).2.2⟩,fun b o hf hy=>?_,by omega,h.gw,?_,?_⟩,
  bO,fun b o v hd hc=>fF.cell b o v (h.df b o hd) hc,fun b es c hd hc=>fF.jt b es c (h.df b 0 hd) hc,fun b hb=>?_,fun _ _ h=>h,fun b o hd=>⟨.inl hd,?_⟩,fun b hb=>sA.block b (by have:=h.gw b hb;omega) (hgk b hb)⟩
 ·rcases hx with rfl|hx
  ·omega
  ·rcases h.bN i hx with h1|h1
   ·omega
   ·exact h1
 ·rcases (Dz b hb).1 with h1|h1
  ·exact .inl (by omega)
  ·exact h.bN b h1
 ·rcases hf.1 with h1|h1|h1
  ·exact h.bk b o h1
  ·have h1':W.heap.size<=b:=h1;exact .inr (.inl (by omega))
  ·exact(h.bN b h1).imp (fun h=>.inl h) (fun h=>h) |>.elim (fun h=>.inr h) fun h=>.inr (.inr h)
 ·have:=(h.y b hb).1;omega
 ·rcases (Dz b hl).1 with h1|h1
  ·have:=(h.y b hb).1;omega
  ·exact(h.y b hb).2.1 h1
 ·rcases hf.1 with h1|h1|h1
  ·exact h.fy b o h1 hy
  ·have h1':W.heap.size<=b:=h1;have:=(h.y b hy).1;omega
  ·exact((h.y b hy).2.1 h1).elim
 ·rw[sA.block _ (by omega) fun hx=>hx.elim (fun e=>by omega) fun hx=>D1 h.pre.heap h.db hx];exact h.db
 ·exact CV _ (World.putObj_heap_same aq)
 ·have:=h.y b hb;exact sA.block b this.1 fun hx=>hx.elim (fun e=>by omega) this.2.1
 ·have:=hD b o hd;omega
theorem TX (ps:Array Nat) (bg:List Value) (ts:Array Value):(ps.zip bg.toArray).foldl (fun tmps (t,a)=>tmps.setIfInBounds t a) ts=(ps.toList.zip bg).foldl (fun t (p,v)=>t.setIfInBounds p v) ts:=by
 rw[<-Array.foldl_toList];simp
theorem RJ.round {ps:Array Tmp} {xw body:Code} {fn:Nat} {Q:Exit->AS Unit->Prop} {f:Nat->AV} (ha:a.tmps.size=Γ.nt) (SX:∀p∈ps.toList,p<Γ.nt) (hf:∀t,ba w F1 η hp (f t) (a.tmps.getD t undef))
  (tW:rec=fun st pe=>{ state:=st,pending:=pe,fn:=fn,tmps:=a.tmps,params:=ps,assign:=xw,body:=body,defers:=w.heap.size })
  (rj:∀x rest hp,H (x::rest) hp->∃N:AS Unit->Prop,(∀lq,ia Γ hp.length lq->ej lq xw (qG N noQ) ⟨sy ps.toList x f,hp,()⟩)/\∀s1,N s1->∀lq,ia Γ hp.length lq->ej lq body (Ox lq H rest Q f) s1)
  {x:List AV} {rest:List (List AV)} {bg:List Value} (h:RJ η hp F1 w rec ps.size H (fun e hp=>Q e ⟨f,hp,()⟩) D Y (some (x::rest)) W F aO hp') (hD:∀b o,D b o->b<W.heap.size) (hv:bS W D [] [] x bg):
  Oq Γ.P (.func (.yield (w.heap.size+1)) #[] #[]) bg W fun e w'=>∃b,e=.returned (.bool b)/\(∃F aO hp',RJ η hp F1 w rec ps.size H (fun e hp=>Q e ⟨f,hp,()⟩) D Y (gT b rest) w' F aO hp')/\Left D Y W D w':=by
 generalize hR:(fun(e:Ending) (w':World)=>∃b,e=.returned (.bool b)/\(∃F aO hp',RJ η hp F1 w rec ps.size H (fun e hp=>Q e ⟨f,hp,()⟩) D Y (gT b rest) w' F aO hp')/\Left D Y W D w')=R;obtain⟨hl,hH,hlen⟩:=h.st;have V4:=h.size;have Te:=hv.length;have hxl:=hlen x alD;have hy:=run_yield (P:=Γ.P) (args:=bg.toArray) hl (by rw[tW];simp;omega);refine⟨_,_,_,_,_,rfl,hy,roundIn_of_wpIn (F:=Fence.wide) (P:=Γ.P) trivial ?_⟩;obtain⟨N,afj,jD⟩:=rj x rest hp' hH;rw[tW];simp only[TX];have TY:∀I:Unit->World->Prop,(∀(w1 w2:World),w2.heap[w.heap.size+1]?=w1.heap[w.heap.size+1]?->I () w1->I () w2)->ia Γ hp'.length (ib Γ W F aO hp' (w.heap.size+1) I):=fun I hI=>
  ⟨⟨h.pre.heap.len,fun b hb=>by have:b=w.heap.size+1:=hb;show b<W.heap.size;omega,h.pre.live,fun g w1 w2 hx _ hi=>hI w1 w2 (hx _ rfl) hi,fun _ _ h=>h.elim,h.pre.ju,fun b hb hx=>hx.elim (fun e=>by have:b=w.heap.size+1:=e;have:=h.gw b hb;omega) (h.pre.gx b hb)⟩,rfl,rfl,rfl⟩
 have YN:=Am h.pre.heap hl;have zp:∀(I:Unit->World->Prop) b o,F b o->aW (ib Γ W F aO hp' (w.heap.size+1) I) W aO hp' b o:=fun I b o hf=>⟨.inl hf,(h.pre.bk b o hf).1,fun hx=>hx.elim (fun e=>h.Oy b o hf e) fun h=>h,(h.pre.bk b o hf).2⟩
 let I1:Unit->World->Prop:=fun _ w1=>w1.heap[w.heap.size+1]?=some (.loop (rec .ready none))
 let I2:Unit->World->Prop:=fun _ w1=>w1.heap[w.heap.size+1]?=some (.loop { rec .ready none with state:=.busy })
 have hE:Ext W F aO hp' W (aW (ib Γ W F aO hp' (w.heap.size+1) I1) W aO hp') aO hp':=⟨fun _ _ _ _ h=>h,fun _ _ _ _ h=>h,zp I1,fun _ _ h=>h,fun _ _ h=>h,fun _ _ _ h=>h⟩;have hrel:Rel (ib Γ W F aO hp' (w.heap.size+1) I1) ⟨sy ps.toList x f,hp',()⟩ ⟨(ps.toList.zip bg).foldl (fun t (p,v)=>t.setIfInBounds p v) a.tmps,[]⟩ W aO:=by
  refine⟨by rw[An];exact ha,Li (x:=x) ps.toList x f a.tmps bg (fun p hp=>by rw[ha];exact SX p hp) (fun t=>((hf t).ext h.ext).ext hE) ?_,⟨h.pre.heap.len,fun q o v h1 h2=>(h.pre.heap.obj q o v h1 h2).ext hE (alp _) fun _ _ _=>rfl,h.pre.heap.sep⟩,
   fun q o v b h1 h2 h3 h4=>⟨.inr ⟨q,o,v,h1,h2,h3,h4⟩,fun _ hx=>hx.elim (fun e=>YN (e▸⟨q,o,v,h1,h2,h3,h4⟩)) fun h=>h⟩,bZ.refl _ _,hl,⟨fun d hd=>(by cases hd),List.Pairwise.nil⟩,hE⟩
  exact cU hv.length fun j y u hy hu=>((hv.get j y u hy hu).bk fun b o hd=>zp I1 b o (h.df b o hd)).lift
 have h1:=afj _ (TY I1 fun w1 w2 e hi=>by show w2.heap[_]?=_;rw[e];exact hi) _ _ _ hrel;refine wpIn_mono (F:=Fence.wide.inRound (w.heap.size+1)) h1 fun e a1 w1 ⟨s1,nc,hN,Bi⟩=>?_
 cases e with
 |normal=>
  have MA:w1.heap[w.heap.size+1]?=some (.loop (rec .ready none)):=Bi.inv;have NR:w.heap.size+1<w1.heap.size:=bF MA;refine⟨_,run_beginRound MA (by rw[tW]),?_⟩;have pX:Rel (ib Γ W F aO hp' (w.heap.size+1) I2) s1 a1 (w1.putObj (w.heap.size+1) (.loop { rec .ready none with state:=.busy })) nc:=Bi.Ws (I:=I2) rfl MA _ (World.putObj_heap_same NR);have h2:=jD s1 hN _ (TY I2 fun w1 w2 e hi=>by show w2.heap[_]?=_;rw[e];exact hi) _ _ _ pX;refine wpIn_mono (F:=Fence.wide.inRound (w.heap.size+1)) h2 fun e a3 w3 ⟨s3,My,hq,Ha⟩=>?_;have V6:w3.heap[w.heap.size+1]?=some (.loop { rec .ready none with state:=.busy }):=Ha.inv
  cases e with
  |normal=>
   obtain⟨hp3,hw,hH3⟩:=hq;obtain⟨η4,hr4⟩:=hw _ _ _ Ha;have Wt:=RJ.after (gh2:=some rest) h hD hr4 V6 (rec .ready none) fun W' SY=>⟨SY,hH3,fun y hy=>hlen y (alK _ hy)⟩;have he:=run_endRound (P:=Γ.P) none V6;have e2:({ { rec .ready none with state:=.busy } with state:=if(none:Option Code).isNone then .ready else .done,pending:=none }:Loop)=rec .ready none:=by rw[tW];rfl
   rw[e2] at he;exact⟨_,_,he,by rw[<-hR];exact⟨true,rfl,⟨_,_,_,Wt.1⟩,Wt.2⟩⟩
  |ret=>
   have Wt:=RJ.after (gh2:=none) h hD (f3:=s3.tmps) (hp3:=s3.hp) Ha V6 (rec .done (some .ret)) fun W' SY=>⟨.ret,.ret,SY,rfl,hq⟩;have he:=run_endRound (P:=Γ.P) (some .ret) V6;have e2:({ { rec .ready none with state:=.busy } with state:=if(some Code.ret).isNone then .ready else .done,pending:=some .ret }:Loop)=rec .done (some .ret):=by rw[tW];rfl
   rw[e2] at he;exact⟨_,_,he,by rw[<-hR];exact⟨false,rfl,⟨_,_,_,Wt.1⟩,Wt.2⟩⟩
  |exit id=>
   have Wt:=RJ.after (gh2:=none) h hD (f3:=s3.tmps) (hp3:=s3.hp) Ha V6 (rec .done (some (.exit id))) fun W' SY=>⟨.exit id,.exit id,SY,rfl,hq⟩;have he:=run_endRound (P:=Γ.P) (some (.exit id)) V6;have e2:({ { rec .ready none with state:=.busy } with state:=if(some (Code.exit id)).isNone then .ready else .done,pending:=some (.exit id) }:Loop)=rec .done (some (.exit id)):=by rw[tW];rfl
   rw[e2] at he;exact⟨_,_,he,by rw[<-hR];exact⟨false,rfl,⟨_,_,_,Wt.1⟩,Wt.2⟩⟩
  |_=>exact hq.elim
 |_=>exact hN.elim
theorem RJ.back (al:Γ.Ok) (cQ:Γ.GF) (hr:Rel Γ s a w η) (h:RJ η s.hp (aW Γ w η s.hp) w rec m H S D Y gh W F aO hp') {r:Loop} (hl:W.heap[w.heap.size+1]?=some (.loop r)) (ob:Loop):
  Rel Γ ⟨s.tmps,hp',()⟩ { a with defers:={ target:=.collected w.heap.size,args:=#[] }::a.defers } (W.putObj (w.heap.size+1) (.loop ob)) aO:=by
 have hs:∀k,k≠w.heap.size+1->(W.putObj (w.heap.size+1) (.loop ob)).heap[k]?=W.heap[k]?:=fun k hk=>World.putObj_heap_other hk;have bO:=hr.keeps.size;have V4:=h.size;have eL:∀b,aI η s.hp b->(Γ.w0.heap.size<=b\/Γ.Y b)/\∀o,¬Γ.No b o:=fun b ⟨q,o,v,g1,g2,g3,g4⟩=>hr.bN q o v b g1 g2 g3 g4;have zp:∀b o,F b o->aW Γ (W.putObj (w.heap.size+1) (.loop ob)) aO hp' b o:=by
  intro b o hf;have h1:=h.pre.bk b o hf;refine⟨?_,by simpa using h1.1,?_,h1.2⟩
  ·rcases h.bk b o hf with g|g|g
   ·exact g.1
   ·exact .inr (.inl (by omega))
   ·exact .inr (eL b g).1
  ·rcases h.bk b o hf with g|g|g
   ·exact g.2.2.1
   ·intro hx;have:=al.no hx;omega
   ·exact(eL b g).2 o
 have hE:Ext W F aO hp' (W.putObj (w.heap.size+1) (.loop ob)) (aW Γ (W.putObj (w.heap.size+1) (.loop ob)) aO hp') aO hp':=by
  refine⟨fun b o v hf hc=>?_,fun b es c hf hc=>?_,zp,fun _ _ h=>h,fun _ _ h=>h,fun _ _ _ h=>h⟩
  ·rw[World.cell?_of_block (hs b (h.Oy b o hf))];exact hc
  ·rw[hs b (h.Oy b 0 hf)];exact hc
 have hET:=h.ext.trans hE;have Da:∀b,aI aO hp' b->b≠w.heap.size+1:=fun b hb e=>Am h.pre.heap hl (e▸hb);refine⟨hr.nt,fun t=>(hr.tmps t).ext hET,⟨h.pre.heap.len,fun q o v h1 h2=>?_,h.pre.heap.sep⟩,fun q o v b h1 h2 h3 h4=>?_,?_,?_,?_,hr.ext.trans hET⟩
 ·by_cases hv:o.live
  ·exact(h.pre.heap.obj q o v h1 h2).ext hE (by simp) fun b hb _=>hs b (Da b ⟨q,o,v,h1,hv,h2,hb⟩)
  ·cases o<;>first|exact True.intro|exact(hv True.intro).elim
 ·rcases h.bN b ⟨q,o,v,h1,h2,h3,h4⟩ with g|g
  ·exact⟨.inl (by omega),fun o hx=>by have:=al.no hx;omega⟩
  ·exact eL b g
 ·refine⟨h.keeps.os.trans hr.keeps.os,h.keeps.tape.trans hr.keeps.tape,h.keeps.output.trans hr.keeps.output,by simp;omega,fun k hk hx=>?_⟩;rw[hs k (by omega),h.keeps.block k (by omega) fun hl=>?_]
  ·exact hr.keeps.block k hk hx
  ·rcases (eL k hl).1 with g|g
   ·omega
   ·exact hx (.inr g)
 ·refine al.oC _ _ _ (fun b hb=>?_) (by simp;omega) hr.inv;have hb0:=al.x b hb;rw[hs b (by omega),h.keeps.block b (by omega) fun hl=>(eL b hl).2 0 (.inl hb)]
 ·refine⟨fun d hd=>?_,List.pairwise_cons.2 ⟨fun d hd=>?_,hr.marks.apart⟩⟩
  ·rcases alW.1 hd with rfl|hd
   ·exact⟨_,rfl,by rw[hs _ (by omega)];exact h.db,cQ.2 _ bO⟩
   ·obtain⟨q,g1,g2,g3⟩:=hr.marks.all d hd;have hq:=bF g2;refine⟨q,g1,?_,g3⟩;rw[hs q (by omega),h.keeps.block q hq fun hl=>D1 hr.heap g2 hl];exact g2
  ·obtain⟨q,g1,g2,g3⟩:=hr.marks.all d hd;have hq:=bF g2;rw[g1];simp;omega
theorem ej.range (al:Γ.Ok) (cQ:Γ.GF) {g:Operand} {ps:Array Tmp} {xw body:Code} {Q:Exit->AS Unit->Prop} {gf:Nat} {caps:List AV} {L:List (List AV)} (hg:s.ev g=.bf gf caps) (ZO:uQ Γ.P gf (fun v=>v::caps.map (AV.q9 0 s.hp)) L false)
  (hlen:∀x∈L,x.length=ps.size) (SX:∀p∈ps.toList,p<Γ.nt) (H:List (List AV)->List ab->Prop) (h0:H L s.hp)
  (rj:∀x rest hp,H (x::rest) hp->∃N:AS Unit->Prop,(∀lq,ia Γ hp.length lq->ej lq xw (qG N noQ) ⟨sy ps.toList x s.tmps,hp,()⟩)/\∀s1,N s1->∀lq,ia Γ hp.length lq->ej lq body (Ox lq H rest Q s.tmps) s1)
  (Jz:∀hp,H [] hp->Q .normal ⟨s.tmps,hp,()⟩):ej Γ (.rangeFunc g ps xw body) Q s:=by
 intro a w η hr;refine wpIn_rangeFunc fun fn hfn=>?_;have qp:Γ.eB.round=none:=cQ.1;rw[qp];obtain⟨rec,tW⟩:∃rec:LoopState->Option Code->Loop,rec=fun st pe=>{ state:=st,pending:=pe,fn:=fn,tmps:=a.tmps,params:=ps,assign:=xw,body:=body,defers:=w.heap.size }:=⟨_,rfl⟩;obtain⟨W1,ZP⟩:∃W1,(w.alloc (.deferred (some []))).alloc (.loop (rec .ready none))=W1:=⟨_,rfl⟩;have jg:bD w W1:=by rw[<-ZP];exact(bD.alloc w _).trans (bD.alloc _ _)
 have afk:W1.heap.size=w.heap.size+2:=by rw[<-ZP];simp
 have hL1:W1.heap[w.heap.size+1]?=some (.loop (rec .ready none)):=by
  rw[<-ZP];have:=World.alloc_heap_new (w.alloc (.deferred (some []))) (.loop (rec .ready none));rwa [World.size_alloc] at this
 have hK1:W1.heap[w.heap.size]?=some (.deferred (some [])):=by
  rw[<-ZP];exact(heap_alloc_old _ _ (by simp)).trans (World.alloc_heap_new w _)
 have Wu:=hr.ev g;rw[hg] at Wu;generalize hgv:a.eval g=v at Wu
 cases Wu with
 |bf _ _ vs Te hvr=>
 refine⟨w.heap.size+1,[{ target:=.collected w.heap.size,args:=#[] }],W1,{ target:=.fn (.func gf) vs,args:=#[.func (.yield (w.heap.size+1)) #[] #[]] },W1,gf,
  #[.func (.yield (w.heap.size+1)) #[] #[]]++vs,W1,?_,?_,fun _ _=>trivial,?_,fun h=>(by cases h),?_⟩
 ·rw[<-ZP,tW];exact run_enterLoop_outer _ _ _ _ _
 ·simp only[resolve,hgv];simp[go_sem]
 ·simp[invoke,nm ZO.1]
 ·let J:JT:=fun D Y gh W=>∃F aO hp',RJ η s.hp (aW Γ w η s.hp) w rec ps.size H (fun e hp=>Q e ⟨s.tmps,hp,()⟩) D Y gh W F aO hp'
  have hC:Cons Γ.P (.func (.yield (w.heap.size+1)) #[] #[]) J:=
   ⟨rfl,fun D Y gh W D' Y' W' ⟨F,aO,hp',h⟩ k=>⟨_,_,_,h.Lh k⟩,fun D Y x rest W bg ⟨F,aO,hp',h⟩ hD hY _ hv=>h.round hr.nt SX hr.tmps tW rj hD hv⟩
  have ZQ:Ext w (aW Γ w η s.hp) η s.hp W1 (aW Γ w η s.hp) η s.hp:=
   ⟨fun b o v hf hc=>by rw[World.cell?_of_block (jg.block b hf.2.1)];exact hc,fun b es c hf hc=>by rw[jg.block b hf.2.1];exact hc,fun _ _ h=>h,fun _ _ h=>h,fun _ _ h=>h,fun _ _ _ h=>h⟩
  have eL:∀b,aI η s.hp b->b<w.heap.size:=fun b ⟨q,o,v,g1,g2,g3,g4⟩=>hr.heap.block g1 g2 g3 g4;have hJ:J (aW Γ w η s.hp) (fun _=>False) (some (L++[])) W1:=by
   rw[ame];refine⟨_,_,_,⟨⟨fun b o hf=>⟨alJ hf.2.1 jg.size,hf.2.2.2⟩,⟨hr.heap.len,fun q o v h1 h2=>(hr.heap.obj q o v h1 h2).ext ZQ jg.size fun b _ aq=>jg.block b aq,hr.heap.sep⟩,fun b hb=>alJ (eL b hb) jg.size,(hr.ju al).same jg,fun b hb hl=>hr.gx al hb hl⟩,jg.keeps _,ZQ,fun b hb=>.inr hb,fun b o hf=>.inl hf,
    fun b o hf=>by have:=hf.2.1;omega,fun _ _ h=>h,fun _ h=>h.elim,fun _ _ _ h=>h.elim,by omega,fun b hb=>(hr.ju al).lt hb,hK1,⟨hL1,h0,hlen⟩⟩⟩
  have ZR:bS W1 (aW Γ w η s.hp) [] [] (.fn (.func (.yield (w.heap.size+1)) #[] #[])::caps.map (AV.q9 0 s.hp)) (.func (.yield (w.heap.size+1)) #[] #[]::vs.toList):=by
   refine⟨.fn _ rfl,?_⟩;have cY:bS w (aW Γ w η s.hp) η s.hp caps vs.toList:=cU (by simpa using Te) fun j y u hy hu=>hvr j y u hy (by simpa using hu);exact bS.ext ⟨ZQ.cell,ZQ.jt,ZQ.bk,fun _ _ h=>h,fun _ _ h=>h,fun _ _ _ h=>h⟩ (mI hr _ _ cY)
  have hav:(#[.func (.yield (w.heap.size+1)) #[] #[]]++vs:Array Value)=(.func (.yield (w.heap.size+1)) #[] #[]::vs.toList:List Value).toArray:=by apply amy;simp
  have ff:=ZO.2 J _ hC (aW Γ w η s.hp) (fun _=>False) [] W1 _ hJ (fun b o hf=>alJ hf.2.1 jg.size) (fun _ h=>h.elim) ((hr.ju al).same jg) ZR;rw[hav];refine CallsIn.mono (F:=Γ.eB) (R:=fun e w'=>∃v D' b,e=.returned v/\YR false b v/\J D' (fun _=>False) (gT b []) w'/\Left (aW Γ w η s.hp) (fun _=>False) W1 D' w') ff fun e w3 ⟨v,D',b,he,_,⟨F,aO,hp',hj⟩,_⟩=>?_;subst he
  cases b with
  |true=>
   obtain⟨hl,hH,_⟩:=hj.st;have:=run_endLoop (P:=Γ.P) hl (by rw[tW];simp);rw[tW] at this;exact⟨none,_,this,⟨s.tmps,hp',()⟩,aO,Jz _ hH,hj.back al cQ hr hl _⟩
  |false=>
   obtain⟨c,e,hl,JA,hS⟩:=hj.st;have:=run_endLoop (P:=Γ.P) hl (by rw[tW];simp);rw[tW] at this;refine⟨some c,_,this,?_⟩
   cases c<;>simp only[Hx] at JA<;>first|exact JA.elim|skip
   ·subst JA;exact wpIn_exit ⟨_,aO,hS,hj.back al cQ hr hl _⟩
   ·subst JA;exact wpIn_ret ⟨_,aO,hS,hj.back al cQ hr hl _⟩
end Go.Proofs.YtnkjkpmbgoehkaaGreat
