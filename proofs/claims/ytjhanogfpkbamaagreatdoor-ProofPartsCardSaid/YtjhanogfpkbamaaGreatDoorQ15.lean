/- Texts of ours laid together for a claim: VcF. -/
import Derived.Test.YtjhanogfpkbamaaGreatDoorQ14
namespace Go.Proofs.YtjhanogfpkbamaaGreatDoor
open Go
set_option linter.unusedSimpArgs false
set_option linter.unusedVariables false
variable {P:Program} {w w':World} {F F':Nat→Nat→Prop} {η η':List Value} {hp hp' more:List AObj}
theorem get_app_lt {α:Type} {l m:List α} {r:Nat} (h:r<l.length):(l++m)[r]?=l[r]?:=List.getElem?_append_left h
theorem get_app_ge {α:Type} {l m:List α} {r:Nat} (h:l.length≤r):(l++m)[r]?=m[r-l.length]?:=List.getElem?_append_right h
theorem closed_repL {n:Nat}:∀{xs:List AV} {vs:List Value},xs.all (AV.closed n)=true→RepL w F η hp xs vs→RepL w F (η.take n) (hp.take n) xs vs
 | [],[],_,_=>True.intro
 |x::xs,v::vs,hc,h=>by
  simp only[List.all_cons,Bool.and_eq_true] at hc
  exact⟨closed_rep hc.1 h.1,closed_repL hc.2 h.2⟩
 | [],_::_,_,h=>h.elim
 |_::_,[],_,h=>h.elim
theorem HFn.mono {f:FuncId} {args:List AV} {R R':AV→List AObj→Prop} (h:HFn P f args hp R) (hR:∀r h',R r h'→R' r h'):HFn P f args hp R':=
 ⟨h.1,fun w F η vals hpre hv=>(h.2 w F η vals hpre hv).mono fun _ _ ⟨v,r,hp',η',h1,h2,h3⟩=>⟨v,r,hp',η',h1,hR r hp' h2,h3⟩⟩
theorem HFn.frame {f:FuncId} {args:List AV} {R:AV→List AObj→Prop} (h:HFn P f args hp R) (hR:∀r h',R r h'→h'.length=hp.length) (hargs:args.all (AV.closed hp.length)=true) (hcl:hp.all (AObj.closed hp.length)=true):
  HFn P f args (hp++more) (fun r hp'=>∃h',hp'=h'++more∧R r h'):=by
 refine⟨h.1,fun w F η vals hpre hv=>?_⟩
 have hlen:η.length=(hp++more).length:=hpre.heap.len
 have hn:hp.length≤η.length:=by rw[hlen];simp
 have hη:η.take hp.length++η.drop hp.length=η:=List.take_append_drop _ _
 have hl1:(η.take hp.length).length=hp.length:=by simp;omega
 have gη:∀{r:Nat},r<hp.length→(η.take hp.length)[r]?=η[r]?:=fun hr=>by rw[List.getElem?_take,if_pos hr]
 have gh:∀{r:Nat},r<hp.length→(hp++more)[r]?=hp[r]?:=fun hr=>get_app_lt hr
 have htake:(hp++more).take hp.length=hp:=List.take_left
 have objF1:∀b o,ObjF η (hp++more) b o→ObjF (η.take hp.length) hp b o:=by
  intro b o hf r v hr hb
  have hlt:r<hp.length:=by have:=(List.getElem?_eq_some_iff.1 hr).1;rw[hl1] at this;exact this
  have:=hf r v (by rw[←gη hlt];exact hr) hb
  rwa [gh hlt] at this
 have live1:∀b,LiveBlk (η.take hp.length) hp b→LiveBlk η (hp++more) b:=by
  intro b ⟨r,o,v,h1,h2,h3,h4⟩
  have hlt:r<hp.length:=(List.getElem?_eq_some_iff.1 h1).1
  exact⟨r,o,v,by rw[gh hlt];exact h1,h2,by rw[←gη hlt];exact h3,h4⟩
 have hpre1:HPre w F (η.take hp.length) hp:=by
  refine⟨fun b o hb=>⟨(hpre.foot b o hb).1,objF1 b o (hpre.foot b o hb).2⟩,⟨hl1,fun r o v h1 h2=>?_,fun r r' o o' v v' b hne h1 h2 l1 l2 e1 e2 hb=>?_⟩,fun b hb=>hpre.live b (live1 b hb),hpre.glob,fun b hb hl=>hpre.gx b hb (live1 b hl)⟩
  ·have hlt:r<hp.length:=(List.getElem?_eq_some_iff.1 h1).1
   have hob:=hpre.heap.obj r o v (by rw[gh hlt];exact h1) (by rw[←gη hlt];exact h2)
   have hco:AObj.closed hp.length o=true:=List.all_eq_true.1 hcl o (List.mem_of_getElem? h1)
   cases o with
   |dead=>exact True.intro
   |box cs=>
    obtain⟨b,vs,T,e1,e2,e3,e4⟩:=hob
    refine⟨b,vs,T,e1,e2,e3,fun j x u hx hu=>?_⟩
    have h5:=e4 j x u hx hu
    have hcx:x.closedC hp.length=true:=List.all_eq_true.1 hco x (List.mem_of_getElem? hx)
    have h6:=closedC_rep (n:=hp.length) hcx h5.1
    rw[htake] at h6
    exact⟨h6,h5.2⟩
   |row e size els=>exact hob
   |mapo es=>exact hob
   |bld q k=>
    obtain⟨b,vs,e1,e2,e3,e4,u,e5,e6⟩:=hob
    have h6:=closedC_rep (n:=hp.length) (x:=.own q k) (by simpa [AV.closedC,AObj.closed] using hco) e6
    rw[htake] at h6
    exact⟨b,vs,e1,e2,e3,e4,u,e5,h6⟩
   |mrow e size els=>exact hob
  ·have q1:r<hp.length:=(List.getElem?_eq_some_iff.1 h1).1
   have q2:r' < hp.length:=(List.getElem?_eq_some_iff.1 h2).1
   exact hpre.heap.sep r r' o o' v v' b hne (by rw[gh q1];exact h1) (by rw[gh q2];exact h2) l1 l2 (by rw[←gη q1];exact e1) (by rw[←gη q2];exact e2) hb
 have hv1:RepL w F (η.take hp.length) hp args vals:=by
  have:=closed_repL (n:=hp.length) hargs hv
  rwa [htake] at this
 refine(h.2 w F (η.take hp.length) vals hpre1 hv1).mono fun e w' ⟨v,r,h',η1,he,hRr,hpost⟩=>?_
 have hlen':=hR r h' hRr
 have hη1:η1.length=hp.length:=by rw[hpost.heap.len];exact hlen'
 refine⟨v,r,h'++more,η1++η.drop hp.length,he,⟨h',rfl,hRr⟩,?_⟩
 have hdrop:∀{r:Nat},hp.length≤r→(η1++η.drop hp.length)[r]?=η[r]?:=fun {r} hr=>by
  rw[get_app_ge (by omega),List.getElem?_drop,hη1];congr 1;omega
 have hmore:∀{r:Nat},hp.length≤r→(h'++more)[r]?=(hp++more)[r]?:=fun {r} hr=>by
  rw[get_app_ge (by omega),get_app_ge hr,hlen']
 have lt1:∀{r:Nat},r<hp.length→(η1++η.drop hp.length)[r]?=η1[r]?:=fun hr=>get_app_lt (by omega)
 have lt2:∀{r:Nat},r<hp.length→(h'++more)[r]?=h'[r]?:=fun hr=>get_app_lt (by omega)
 have apart:∀{r:Nat} {o:AObj} {u:Value} {b:Nat},hp.length≤r→(hp++more)[r]?=some o→o.live→η[r]?=some u→blk u=some b→b<w.heap.size∧¬LiveBlk (η.take hp.length) hp b:=by
  intro r o u b hr h1 h2 h3 h4
  refine⟨hpre.live b ⟨r,o,u,h1,h2,h3,h4⟩,fun⟨r1,o1,v1,g1,g2,g3,g4⟩=>?_⟩
  have hlt:r1<hp.length:=(List.getElem?_eq_some_iff.1 g1).1
  exact hpre.heap.sep r1 r o1 o v1 u b (by omega) (by rw[gh hlt];exact g1) h1 g2 h2 (by rw[←gη hlt];exact g3) h3 g4 h4
 have ontoF:∀b o,OntoH F w (η.take hp.length) hp w' η1 h' b o→OntoH F w η (hp++more) w' (η1++η.drop hp.length) (h'++more) b o:=by
  intro b o ⟨h1,h2,h3⟩
  refine⟨h1.imp id (Or.imp id (live1 b)),h2,fun r u hr hb=>?_⟩
  by_cases hlt:r<hp.length
  ·rw[lt1 hlt] at hr
   rw[lt2 hlt]
   exact h3 r u hr hb
  ·have hge:hp.length≤r:=by omega
   rw[hdrop hge] at hr
   rw[hmore hge]
   have hr2:r<(hp++more).length:=by rw[←hlen];exact(List.getElem?_eq_some_iff.1 hr).1
   have ho:(hp++more)[r]?=some (hp++more)[r]:=by simp[hr2]
   have key:(hp++more)[r].live→F b o:=by
    intro hl
    have ha:=apart hge ho hl hr hb
    rcases h1 with h1|h1|h1
    ·exact h1
    ·omega
    ·exact(ha.2 h1).elim
   rw[ho]
   cases hk:(hp++more)[r] with
   |dead=>exact True.intro
   |_=>
    rw[hk] at key ho
    have:=(hpre.foot b o (key True.intro)).2 r u hr hb
    rw[ho] at this
    exact this
 have hextR:Ext w' (OntoH F w (η.take hp.length) hp w' η1 h') η1 h' w' (OntoH F w η (hp++more) w' (η1++η.drop hp.length) (h'++more)) (η1++η.drop hp.length) (h'++more):=by
  refine⟨fun _ _ _ _ h=>h,fun _ _ _ _ h=>h,ontoF,fun r a hr=>?_,fun r a hr=>?_,fun r k u ho=>?_⟩
  ·rw[lt1 (by have:=(List.getElem?_eq_some_iff.1 hr).1;omega)];exact hr
  ·rw[lt1 (by have:=(List.getElem?_eq_some_iff.1 hr).1;omega)];exact hr
  ·unfold OwnOk at ho ⊢
   by_cases hlt:r<hp.length
   ·rw[lt1 hlt,lt2 hlt];exact ho
   ·rw[List.getElem?_eq_none (by omega)] at ho;exact ho.elim
 have hext:Ext w F η (hp++more) w' (OntoH F w η (hp++more) w' (η1++η.drop hp.length) (h'++more)) (η1++η.drop hp.length) (h'++more):=by
  refine⟨fun b o u hf hc=>hpost.ext.cell b o u hf hc,fun b es c hf hc=>hpost.ext.mapb b es c hf hc,fun b o hf=>ontoF b o (hpost.ext.foot b o hf),fun r a hr=>?_,fun r a hr=>?_,fun r k u ho=>?_⟩
  ·by_cases hlt:r<hp.length
   ·rw[lt1 hlt];exact hpost.ext.ptr r a (by rw[gη hlt];exact hr)
   ·rw[hdrop (by omega)];exact hr
  ·by_cases hlt:r<hp.length
   ·rw[lt1 hlt];exact hpost.ext.mp r a (by rw[gη hlt];exact hr)
   ·rw[hdrop (by omega)];exact hr
  ·by_cases hlt:r<hp.length
   ·have h1:OwnOk (η.take hp.length) hp r k u:=by
     unfold OwnOk at ho ⊢
     rw[gη hlt];rwa [gh hlt] at ho
    have:=hpost.ext.own r k u h1
    unfold OwnOk at this ⊢
    rw[lt1 hlt,lt2 hlt];exact this
   ·unfold OwnOk at ho ⊢
    rw[hdrop (by omega),hmore (by omega)];exact ho
 refine⟨?_,hext,⟨by simp[hη1,hlen',hlen],fun r o u h1 h2=>?_,fun r r' o o' v1 v2 b hne h1 h2 l1 l2 e1 e2 hb=>?_⟩,fun b ⟨r,o,u,h1,h2,h3,h4⟩=>?_,hpost.rep.ext hextR⟩
 ·exact⟨hpost.keeps.os,hpost.keeps.tape,hpost.keeps.output,hpost.keeps.size,fun k hk hx=>hpost.keeps.block k hk fun hl=>hx (live1 k hl)⟩
 ·by_cases hlt:r<hp.length
  ·rw[lt2 hlt] at h1
   rw[lt1 hlt] at h2
   exact(hpost.heap.obj r o u h1 h2).ext hextR (Nat.le_refl _) fun _ _ _=>rfl
  ·have hge:hp.length≤r:=by omega
   rw[hmore hge] at h1
   rw[hdrop hge] at h2
   by_cases hl:o.live
   ·exact(hpre.heap.obj r o u h1 h2).ext hext hpost.keeps.size fun b hb hlt'=>hpost.keeps.block b hlt' (apart hge h1 hl h2 hb).2
   ·cases o<;>first|exact True.intro|exact(hl True.intro).elim
 ·have cross:∀{r r':Nat} {o o':AObj} {v1 v2:Value} {b:Nat},r<hp.length→hp.length≤r'→h'[r]?=some o→(hp++more)[r']?=some o'→o.live→o'.live→η1[r]?=some v1→η[r']?=some v2→blk v1=some b→blk v2=some b→False:=by
   intro r r' o o' v1 v2 b _ hr' h1 h2 l1 l2 e1 e2 hb hb'
   have ha:=apart hr' h2 l2 e2 hb'
   rcases hpost.mine b ⟨r,o,v1,h1,l1,e1,hb⟩ with h5|h5
   ·omega
   ·exact ha.2 h5
  by_cases q1:r<hp.length
  ·rw[lt2 q1] at h1
   rw[lt1 q1] at e1
   by_cases q2:r' < hp.length
   ·rw[lt2 q2] at h2
    rw[lt1 q2] at e2
    exact hpost.heap.sep r r' o o' v1 v2 b hne h1 h2 l1 l2 e1 e2 hb
   ·have q2':hp.length≤r':=by omega
    rw[hmore q2'] at h2
    rw[hdrop q2'] at e2
    exact fun hb'=>cross q1 q2' h1 h2 l1 l2 e1 e2 hb hb'
  ·have q1':hp.length≤r:=by omega
   rw[hmore q1'] at h1
   rw[hdrop q1'] at e1
   by_cases q2:r' < hp.length
   ·rw[lt2 q2] at h2
    rw[lt1 q2] at e2
    exact fun hb'=>cross q2 q1' h2 h1 l2 l1 e2 e1 hb' hb
   ·have q2':hp.length≤r':=by omega
    rw[hmore q2'] at h2
    rw[hdrop q2'] at e2
    exact hpre.heap.sep r r' o o' v1 v2 b hne h1 h2 l1 l2 e1 e2 hb
 ·by_cases hlt:r<hp.length
  ·rw[lt2 hlt] at h1
   rw[lt1 hlt] at h3
   rcases hpost.mine b ⟨r,o,u,h1,h2,h3,h4⟩ with h5|h5
   ·exact .inl h5
   ·exact .inr (live1 b h5)
  ·have hge:hp.length≤r:=by omega
   rw[hmore hge] at h1
   rw[hdrop hge] at h3
   exact .inr ⟨r,o,u,h1,h2,h3,h4⟩
section
variable {G:Type} {Γ:Env G} {s:AS G} {a:Act}
theorem ACall.heapV (hok:Γ.Ok) {o:Oper} {c:Call} (ho:o.op=.call c) {f:FuncId} {R:AV→List AObj→Prop} {args':List AV} (hP:HFn Γ.P f args' s.hp R)
  (hent:∀(a:Act) (w:World) (η:List Value),Rel Γ s a w η→∃us:List Value,(execOp a.eval o).run Γ.P w=.ok (.enter f us.toArray) w∧RepL w (Fok Γ w η s.hp) η s.hp args' us)
  (hd:dstOk Γ.nt o.dst) {K:AS G→Prop} (hK:∀r hp',R r hp'→K (AS.put { s with hp:=hp' } o.dst r)):ACall Γ o s K:=by
 intro a w η Kc Qc hk hr
 obtain⟨us,hent,hreps⟩:=hent a w η hr
 refine⟨fun _ _=>trivial,?_⟩
 have hne:∀c',o.op ≠ .defer c':=by intro c' h;rw[ho] at h;cases h
 rw[Oper.semAt_eq _ _ _ hne,hent]
 refine⟨fun h=>(by cases h),?_⟩
 have hlive:∀b,LiveBlk η s.hp b→b<w.heap.size∧(Γ.w0.heap.size≤b∨Γ.Y b)∧∀o,¬Γ.No b o:=fun b ⟨r,o,v,g1,g2,g3,g4⟩=>⟨hr.heap.block g1 g2 g3 g4,hr.mine r o v b g1 g2 g3 g4⟩
 have hcall:=hP.2 w (Fok Γ w η s.hp) η _ ⟨fun b o hf=>⟨hf.2.1,hf.2.2.2⟩,hr.heap,fun b hb=>(hlive b hb).1,hr.glob hok,fun b hb hl=>hr.gx hok hb hl⟩ hreps
 refine CallsIn.mono (F:=Γ.fence) (R:=fun e w'=>∃v r hp' η',e=.returned v∧R r hp'∧HPost w (Fok Γ w η s.hp) η s.hp w' η' hp' r v) ?_ fun e w' ⟨u,r,hp',η',he,hR,hpost⟩=>?_
 ·exact hcall
 ·subst he
  have hfok:∀b o,OntoH (Fok Γ w η s.hp) w η s.hp w' η' hp' b o→Fok Γ w' η' hp' b o:=by
   intro b o ⟨h1,h2,h3⟩
   refine⟨?_,h2,?_,h3⟩
   ·rcases h1 with h1|h1|h1
    ·exact h1.1
    ·exact .inr (.inl (Nat.le_trans hr.keeps.size h1))
    ·exact .inr (hlive b h1).2.1
   ·rcases h1 with h1|h1|h1
    ·exact h1.2.2.1
    ·intro hx;have:=hok.no hx;have:=hr.keeps.size;omega
    ·exact(hlive b h1).2.2 _
  have hex:∀{η1:List Value} {hp1:List AObj},Ext w' (OntoH (Fok Γ w η s.hp) w η s.hp w' η' hp') η1 hp1 w' (Fok Γ w' η' hp') η1 hp1:=
   ⟨fun _ _ _ _ h=>h,fun _ _ _ _ h=>h,hfok,fun _ _ h=>h,fun _ _ h=>h,fun _ _ _ h=>h⟩
  have he2:=hpost.ext.trans hex
  have hrel:Rel Γ { s with hp:=hp' } a w' η':=by
   refine⟨hr.nt,fun t=>(hr.tmps t).ext he2,⟨hpost.heap.len,fun r o v h1 h2=>(hpost.heap.obj r o v h1 h2).ext hex (Nat.le_refl _) fun _ _ _=>rfl,hpost.heap.sep⟩,fun r o v b h1 h2 h3 h4=>?_,?_,?_,?_,hr.ext.trans he2⟩
   ·rcases hpost.mine b ⟨r,o,v,h1,h2,h3,h4⟩ with h5|h5
    ·exact⟨.inl (Nat.le_trans hr.keeps.size h5),fun o hx=>by have:=hok.no hx;have:=hr.keeps.size;omega⟩
    ·exact(hlive b h5).2
   ·refine hr.keeps.trans hpost.keeps fun b hb hl=>?_
    rcases (hlive b hl).2.1 with h1|h1
    ·omega
    ·exact .inr h1
   ·exact hok.stable _ _ _ (fun b hb=>hpost.keeps.block b (Nat.lt_of_lt_of_le (hok.x b hb) hr.keeps.size) fun hl=>(hlive b hl).2.2 0 (.inl hb)) hpost.keeps.size hr.inv
   ·refine hpost.keeps.marks hr.marks fun b hl=>.inr fun d hd=>?_
    obtain⟨r,o,v,g1,g2,g3,g4⟩:=hl
    have hob:=hr.heap.obj r o v g1 g3
    cases o with
    |dead=>exact g2.elim
    |box cs=>obtain⟨b',vs,T,rfl,q1,_⟩:=hob;simp only[blk,Option.some.injEq] at g4;subst g4;rw[hd] at q1;cases q1
    |row e size els=>obtain⟨_,xs,q1,_⟩:=hob;obtain⟨cur,q2⟩:=q1.lt g4;rw[hd] at q2;cases q2
    |mapo es=>obtain⟨b',en,c,rfl,q1,_⟩:=hob;simp only[blk,Option.some.injEq] at g4;subst g4;rw[hd] at q1;cases q1
    |bld q k=>obtain⟨b',vs,rfl,q1,_⟩:=hob;simp only[blk,Option.some.injEq] at g4;subst g4;rw[hd] at q1;cases q1
    |mrow e size els=>obtain⟨_,xs,q1,_⟩:=hob;obtain⟨cur,q2⟩:=q1.lt g4;rw[hd] at q2;cases q2
  exact hk _ _ _ _ (hK r hp' hR) (hrel.put (dstOk_spec hd) (hpost.rep.ext hex))
theorem ACall.heapW (hok:Γ.Ok) {o:Oper} {c:Call} {x:Operand} (ho:o.op=.call c) (hc:c.callee=.value x) {f:FuncId} {caps:List AV} (hx:s.ev x=.clo f caps) {R:AV→List AObj→Prop}
  {args':List AV} (hP:HFn Γ.P f args' s.hp R) (hargs':∀(a:Act) (w:World) (η:List Value) (us:List Value),Rel Γ s a w η→RepL w (Fok Γ w η s.hp) η s.hp (c.args.toList.map s.ev++caps) us→RepL w (Fok Γ w η s.hp) η s.hp args' us) (hd:dstOk Γ.nt o.dst) {K:AS G→Prop} (hK:∀r hp',R r hp'→K (AS.put { s with hp:=hp' } o.dst r)):ACall Γ o s K:=by
 refine ACall.heapV hok ho hP (fun a w η hr=>?_) hd hK
 have hxr:=hr.ev x
 rw[hx] at hxr
 generalize hv:a.eval x=v at hxr
 cases hxr with
 |clo _ _ vs hl hrep=>
  have hargs:(c.args.map a.eval++vs)=(c.args.toList.map a.eval++vs.toList).toArray:=by apply Array.ext';simp
  exact⟨_,by rw[run_call_clo ho hc hP.1 hv,hargs],hargs' a w η _ hr (repL_append _ _ (repArgs hr c.args.toList) (repL_of_get (by simpa using hl) fun j y u hy hu=>hrep j y u hy (by simpa using hu)))⟩
theorem ACall.heapM (hok:Γ.Ok) {o:Oper} {c:Call} {x:Operand} (ho:o.op=.call c) (hc:c.callee=.value x) {f:FuncId} {fst:List AV} (hx:s.ev x=.mclo f fst) {R:AV→List AObj→Prop}
  {args':List AV} (hP:HFn Γ.P f args' s.hp R) (hargs':∀(a:Act) (w:World) (η:List Value) (us:List Value),Rel Γ s a w η→RepL w (Fok Γ w η s.hp) η s.hp (fst++c.args.toList.map s.ev) us→RepL w (Fok Γ w η s.hp) η s.hp args' us) (hd:dstOk Γ.nt o.dst) {K:AS G→Prop} (hK:∀r hp',R r hp'→K (AS.put { s with hp:=hp' } o.dst r)):ACall Γ o s K:=by
 refine ACall.heapV hok ho hP (fun a w η hr=>?_) hd hK
 have hxr:=hr.ev x
 rw[hx] at hxr
 generalize hv:a.eval x=v at hxr
 cases hxr with
 |mclo _ _ vs hl hrep=>
  have hargs:(vs++c.args.map a.eval)=(vs.toList++c.args.toList.map a.eval).toArray:=by apply Array.ext';simp
  refine⟨_,?_,hargs' a w η _ hr (repL_append fst vs.toList (repL_of_get (by rw[Array.length_toList];exact hl) fun j y u hy hu=>hrep j y u hy (by simpa using hu)) (repArgs hr c.args.toList))⟩
  rw[←hargs]
  simp[execOp,ho,resolve,hc,hv,Deferred.ofValue,invoke,run_callFunc hP.1]
theorem ACall.pureW (hok:Γ.Ok) {o:Oper} {c:Call} {x:Operand} (ho:o.op=.call c) (hc:c.callee=.value x) {f:FuncId} {caps:List AV} (hx:s.ev x=.clo f caps) {R:AV→Prop}
  {args':List AV} (hP:Pure Γ.P f args' R) (hargs':∀(a:Act) (w:World) (η:List Value) (us:List Value),Rel Γ s a w η→RepL w (Fok Γ w η s.hp) η s.hp (c.args.toList.map s.ev++caps) us→RepL w (Fok Γ w η s.hp) [] [] args' us) (hd:dstOk Γ.nt o.dst) {K:AS G→Prop} (hK:∀r,R r→K (s.put o.dst r)):ACall Γ o s K:=by
 intro a w η Kc Qc hk hr
 have hxr:=hr.ev x
 rw[hx] at hxr
 generalize hv:a.eval x=v at hxr
 cases hxr with
 |clo _ _ vs hl hrep=>
  refine⟨fun _ _=>trivial,?_⟩
  have hne:∀c',o.op ≠ .defer c':=by intro c' h;rw[ho] at h;cases h
  rw[Oper.semAt_eq _ _ _ hne,run_call_clo ho hc hP.1 hv]
  have hargs:(c.args.map a.eval++vs)=(c.args.toList.map a.eval++vs.toList).toArray:=by apply Array.ext';simp
  have hcl:RepL w (Fok Γ w η s.hp) η s.hp caps vs.toList:=repL_of_get (by simpa using hl) fun j y u hy hu=>hrep j y u hy (by simpa using hu)
  have hreps:=hargs' a w η _ hr (repL_append _ _ (repArgs hr c.args.toList) hcl)
  refine⟨fun h=>(by cases h),?_⟩
  rw[hargs]
  have hcall:=hP.2 w (Fok Γ w η s.hp) _ (fun _ _=>fok_lt) (hr.glob hok) hreps
  refine CallsIn.mono (F:=Γ.fence) ?_ (R:=fun e w'=>∃v r,e=.returned v∧R r∧Same w w'∧Rep w' (Onto (Fok Γ w η s.hp) w w') [] [] r v) fun e w' ⟨u,r,he,hR,hs,hru⟩=>?_
  ·exact hcall
  ·subst he
   exact hk _ _ _ _ (hK r hR) ((hr.same hok hs).put (dstOk_spec hd) ((hru.foot fun b o h=>onto_fok hok hr hs h).lift))
def AV.argN (n:Nat) (hp:List AObj) (x:AV):AV:=if x.closed n=true then x else x.toData hp
theorem argN_rep (hr:Rel Γ s a w η) (n:Nat):∀(xs:List AV) (vs:List Value),RepL w (Fok Γ w η s.hp) η s.hp xs vs→RepL w (Fok Γ w η s.hp) η s.hp (xs.map (AV.argN n s.hp)) vs
 | [],[],_=>True.intro
 |x::xs,v::vs,h=>⟨by
   unfold AV.argN
   split
   ·exact h.1
   ·exact(toData_rep hr.heap hr.mine h.1).lift,argN_rep hr n xs vs h.2⟩
 | [],_::_,h=>h.elim
 |_::_,[],h=>h.elim
theorem argN0_rep (hr:Rel Γ s a w η):∀(xs:List AV) (vs:List Value),RepL w (Fok Γ w η s.hp) η s.hp xs vs→RepL w (Fok Γ w η s.hp) [] [] (xs.map (AV.argN 0 s.hp)) vs
 | [],[],_=>True.intro
 |x::xs,v::vs,h=>⟨by
   unfold AV.argN
   split
   ·rename_i hc
    have:=closed_rep (n:=0) hc h.1
    simpa using this
   ·exact toData_rep hr.heap hr.mine h.1,argN0_rep hr xs vs h.2⟩
 | [],_::_,h=>h.elim
 |_::_,[],h=>h.elim
end
end Go.Proofs.YtjhanogfpkbamaaGreatDoor
