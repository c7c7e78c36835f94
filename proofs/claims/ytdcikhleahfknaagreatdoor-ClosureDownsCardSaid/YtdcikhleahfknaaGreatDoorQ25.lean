/- Texts of ours laid together for a claim: FilY. -/
import Derived.RangeFuncIn
import Derived.Test.YtdcikhleahfknaaGreatDoorQ24
namespace Go.Proofs.YtdcikhleahfknaaGreatDoor
open Go
set_option linter.unusedSimpArgs false
set_option linter.unusedVariables false
abbrev Cells:=Nat->Nat->Prop
abbrev Gh:=Option (List (List AV))
def gT (b:Bool) (rest:List (List AV)):Gh:=
 match b with
 |true=>some rest
 |false=>none
structure Adv (D:Cells) (Y:Nat->Prop) (w:World) (D':Cells) (Y':Nat->Prop) (w':World):Prop where
 same:bE Y w w'
 cell:∀b o v,D b o->w.cell? ⟨b,o,none⟩=some v->w'.cell? ⟨b,o,none⟩=some v
 ir:∀b es c,D b 0->w.heap[b]?=some (.map es c)->w'.heap[b]?=some (.map es c)
 bg:∀b o,D b o->D' b o
 back:∀b o,D' b o->(D b o\/Y b\/w.heap.size<=b)/\b<w'.heap.size
 Xo:∀b,Y' b->(Y b\/w.heap.size<=b)/\b<w'.heap.size
structure Left (D:Cells) (Y:Nat->Prop) (w:World) (D':Cells) (w':World):Prop where
 size:w.heap.size<=w'.heap.size
 cell:∀b o v,D b o->w.cell? ⟨b,o,none⟩=some v->w'.cell? ⟨b,o,none⟩=some v
 ir:∀b es c,D b 0->w.heap[b]?=some (.map es c)->w'.heap[b]?=some (.map es c)
 blocks:∀b,Y b->w'.heap[b]?=w.heap[b]?
 bg:∀b o,D b o->D' b o
 back:∀b o,D' b o->(D b o\/w.heap.size<=b)/\b<w'.heap.size
 gl:∀b,mS b->w'.heap[b]?=w.heap[b]?
def On (P:Program) (yv:Value) (bb:List Value) (w:World) (R:Ending->World->Prop):Prop:=
 ∃l fn tmps xv body,yv=.func (.yield l) #[] #[]/\(Instr.yield l bb.toArray).run P w=.ok (.round l fn tmps xv body) w/\RoundIn Fence.wide 0 P l fn tmps xv body w R
abbrev JT:=Cells->(Nat->Prop)->Gh->World->Prop
structure Cons (P:Program) (yv:Value) (J:JT):Prop where
 aii:yv.oneCell'=true
 Lz:∀D Y g w D' Y' w',J D Y g w->Adv D Y w D' Y' w'->J D' Y' g w'
 yield:∀(D:Cells) (Y:Nat->Prop) x rest w bb,J D Y (some (x::rest)) w->(∀b o,D b o->b<w.heap.size)->(∀b,Y b->b<w.heap.size)->og w->bZ w D [] [] x bb->
  On P yv bb w fun e w'=>∃b,e=.returned (.bool b)/\J D Y (gT b rest) w'/\Left D Y w D w'
def YR (kind:Bool) (b:Bool) (v:Value):Prop:=
 match kind with
 |true=>v=.bool b
 |false=>True
def zi (P:Program) (f:FuncId) (args:AV->List AV) (L:List (List AV)) (kind:Bool):Prop:=
 iW P f/\∀(J:JT) (yv:Value),Cons P yv J->∀(D:Cells) (Y:Nat->Prop) (rest:List (List AV)) (w:World) (bb:List Value),
  J D Y (some (L++rest)) w->(∀b o,D b o->b<w.heap.size)->(∀b,Y b->b<w.heap.size)->og w->bZ w D [] [] (args (.fn yv)) bb->
  CallsIn Fence.wide 0 P f bb.toArray w fun e w'=>∃v D' b,e=.returned v/\YR kind b v/\J D' Y (gT b rest) w'/\Left D Y w D' w'
section walk
variable {P:Program} {yv:Value} {J:JT} {D0:Cells} {Y0:Nat->Prop} {fx:World} {nt:Nat}
structure mu (P:Program) (J:JT) (D0:Cells) (Y0:Nat->Prop) (fx:World) (nt:Nat) (Γ:Env Unit) (g:Gh):Prop where
 ok:Γ.Ok
 hP:Γ.P=P
 cW:Γ.nt=nt
 zH:Γ.zH=none
 x:∀b,¬Γ.X b
 z:∀b o,¬Γ.Z b o
 h0:Γ.jR.length=0
 m0:∀r,¬Γ.m0 r
 j:J Γ.F0 (fun b=>Y0 b\/Γ.Y b) g Γ.w0
 f0:∀b o,Γ.F0 b o->b<Γ.w0.heap.size
 cell:∀b o v,D0 b o->fx.cell? ⟨b,o,none⟩=some v->Γ.w0.cell? ⟨b,o,none⟩=some v
 ir:∀b es c,D0 b 0->fx.heap[b]?=some (.map es c)->Γ.w0.heap[b]?=some (.map es c)
 y0:∀b,Y0 b->Γ.w0.heap[b]?=fx.heap[b]?
 Oo:∀b,Y0 b->b<fx.heap.size
 size:fx.heap.size<=Γ.w0.heap.size
 d0:∀b o,D0 b o->Γ.F0 b o
 f00:∀b o,Γ.F0 b o->D0 b o\/fx.heap.size<=b
 own:∀b,Γ.Y b->fx.heap.size<=b
 gl:∀b,mS b->Γ.w0.heap[b]?=fx.heap[b]?
variable {Γ:Env Unit} {s s':AS Unit} {a:Act} {w w' w2:World} {η:List Value} {g g2:Gh}
theorem mu.Er (hB:mu P J D0 Y0 fx nt Γ g) (hr:Rel Γ s a w η):a.defers=[]:=by
 cases hd:a.defers with
 |nil=>rfl
 |cons d l=>
  obtain⟨r,_,_,h⟩:=hr.marks.all d (by rw[hd];exact alS);exact(hB.m0 r h).elim
theorem mu.live (hr:Rel Γ s a w η):∀b,aG η s.hp b->b<w.heap.size/\(Γ.w0.heap.size<=b\/Γ.Y b):=fun b ⟨q,o,v,g1,g2,g3,g4⟩=>
 ⟨hr.heap.block g1 g2 g3 g4,(hr.bM q o v b g1 g2 g3 g4).1⟩
theorem mu.now (hC:Cons P yv J) (hB:mu P J D0 Y0 fx nt Γ g) (hr:Rel Γ s a w η):J (bk Γ w η s.hp) (fun b=>Y0 b\/aG η s.hp b) g w:=by
 have bN:=hr.keeps.size;refine hC.Lz _ _ _ _ _ _ _ hB.j ⟨?_,hr.ext.cell,hr.ext.ir,hr.ext.bg,fun b o hf=>⟨?_,hf.2.1⟩,fun b hb=>?_⟩
 ·exact⟨hr.keeps.os,hr.keeps.tape,hr.keeps.output,bN,fun k hk hx=>hr.keeps.block k hk fun h=>h.elim (hB.x k) fun h=>hx (.inr h)⟩
 ·rcases hf.1 with h|h|h
  ·exact .inl h
  ·exact .inr (.inr h)
  ·exact .inr (.inl (.inr h))
 ·rcases hb with h|h
  ·exact⟨.inl (.inl h),by have:=hB.Oo b h;have:=hB.size;omega⟩
  ·obtain⟨h1,h2⟩:=mu.live hr b h;rcases h2 with h2|h2
   ·exact⟨.inr h2,h1⟩
   ·exact⟨.inl (.inr h2),h1⟩
def qU (Γ:Env Unit) (w2:World) (D2:Cells) (Y:Nat->Prop):Env Unit:=
 { P:=Γ.P,w0:=w2,F0:=D2,X:=fun _=>False,Y:=Y,Inv:=fun _ _=>True,nt:=Γ.nt,zH:=none,m0:=fun _=>False,Z:=fun _ _=>False,yY:=[],jR:=[] }
theorem mu.step (hC:Cons P yv J) (hB:mu P J D0 Y0 fx nt Γ g) (hr:Rel Γ s a w η) {D2:Cells} (hj:J D2 (fun b=>Y0 b\/aG η s.hp b) g2 w2) (hl:Left (bk Γ w η s.hp) (fun b=>Y0 b\/aG η s.hp b) w D2 w2):
  mu P J D0 Y0 fx nt (qU Γ w2 D2 (aG η s.hp)) g2/\Rel (qU Γ w2 D2 (aG η s.hp)) s a w2 η:=by
 have bN:=hr.keeps.size;have da:=mu.live hr;have Nz:(qU Γ w2 D2 (aG η s.hp)).Ok:=⟨rfl,fun _ h=>h.elim,fun b hb=>al8 (da b hb).1 hl.size,fun _ _ _ _ _ _=>True.intro,fun _ _ h=>h.elim,fun p hp=>by
  obtain⟨T,h1⟩:=(hr.gL hB.ok) p hp
  exact⟨T,(hl.gl p.1 ⟨p,hp,rfl⟩).trans h1⟩,fun b hb h=>h.elim (fun h=>h) (hr.gx hB.ok hb)⟩
 have lP:∀b o,D2 b o->iR η s.hp b o:=by
  intro b o hb;rcases (hl.back b o hb).1 with h|h
  ·exact h.2.2.2
  ·refine(aU b o).2 fun q u hu MU=>?_;have hq:q<s.hp.length:=by rw[<-hr.heap.len];exact(alu.1 hu).1
   have hg:s.hp[q]?=some s.hp[q]:=by simp[hq]
   refine⟨_,hg,?_⟩
   cases hx:s.hp[q] with
   |dead=>exact True.intro
   |_=>
    exfalso;rw[hx] at hg;have:=hr.heap.block hg True.intro hu MU;omega
 have he:Ext w (bk Γ w η s.hp) η s.hp w2 (bk (qU Γ w2 D2 (aG η s.hp)) w2 η s.hp) η s.hp:=
  ⟨hl.cell,hl.ir,fun b o hf=>⟨.inl (hl.bg b o hf),al8 hf.2.1 hl.size,fun h=>h.elim (fun h=>h) fun h=>h,hf.2.2.2⟩,fun _ _ h=>h,fun _ _ h=>h,fun _ _ _ h=>h⟩
 refine⟨⟨Nz,hB.hP,hB.cW,rfl,fun _ h=>h,fun _ _ h=>h,rfl,fun _ h=>h,hj,fun b o hb=>(hl.back b o hb).2,fun b o v hd hc=>?_,fun b es c hd hc=>?_,fun b hb=>?_,hB.Oo,?_,fun b o hd=>?_,fun b o hf=>?_,fun b hb=>?_,fun b hb=>(hl.gl b hb).trans ((hr.keeps.block b (hB.ok.gL.lt hb) (hB.ok.gx b hb)).trans (hB.gl b hb))⟩,
  ⟨hr.nt,fun t=>(hr.tmps t).ext he,⟨hr.heap.len,fun q o v h1 h2=>?_,hr.heap.sep⟩,fun q o v b h1 h2 h3 h4=>⟨.inr ⟨q,o,v,h1,h2,h3,h4⟩,fun _ h=>h.elim (fun h=>h) fun h=>h⟩,bE.refl _ _,True.intro,?_,?_⟩⟩
 ·exact hl.cell b o v (hr.ext.bg _ _ (hB.d0 b o hd)) (hr.ext.cell b o v (hB.d0 b o hd) (hB.cell b o v hd hc))
 ·exact hl.ir b es c (hr.ext.bg _ _ (hB.d0 b 0 hd)) (hr.ext.ir b es c (hB.d0 b 0 hd) (hB.ir b es c hd hc))
 ·show w2.heap[b]?=_;rw[hl.blocks b (.inl hb),<-hB.y0 b hb];have h1:=hB.Oo b hb;have h2:=hB.size;exact hr.keeps.block b (by omega) fun h=>h.elim (hB.x b) fun h=>by have:=hB.own b h;omega
 ·show fx.heap.size<=w2.heap.size;have h1:=hB.size;have h2:=hl.size;omega
 ·exact hl.bg b o (hr.ext.bg _ _ (hB.d0 b o hd))
 ·have h1:=hB.size;rcases (hl.back b o hf).1 with h|h
  ·rcases h.1 with h|h|h
   ·exact hB.f00 b o h
   ·exact .inr (by omega)
   ·exact .inr (hB.own b h)
  ·exact .inr (by omega)
 ·have h1:=hB.size;rcases (da b hb).2 with h|h
  ·omega
  ·exact hB.own b h
 ·by_cases hv:o.live
  ·exact(hr.heap.obj q o v h1 h2).ext he hl.size fun b hb _=>hl.blocks b (.inr ⟨q,o,v,h1,hv,h2,hb⟩)
  ·cases o<;>first|exact True.intro|exact(hv True.intro).elim
 ·rw[hB.Er hr];exact⟨fun d hd=>(by cases hd),List.Pairwise.nil⟩
 ·refine⟨fun _ _ _ _ h=>h,fun _ _ _ _ h=>h,fun b o hb=>⟨.inl hb,(hl.back b o hb).2,fun h=>h.elim (fun h=>h) fun h=>h,lP b o hb⟩,fun r a h=>?_,fun r a h=>?_,fun r n v h=>?_⟩
  ·simp[qU] at h
  ·simp[qU] at h
  ·simp[qU,aT] at h
def zZ (P:Program) (J:JT) (D0:Cells) (Y0:Nat->Prop) (fx:World) (nt:Nat) (K:AS Unit->Gh->Prop) (a':Act) (w':World):Prop:=
 ∃(rR:Env Unit) (s':AS Unit) (aN:List Value) (g':Gh),mu P J D0 Y0 fx nt rR g'/\K s' g'/\Rel rR s' a' w' aN
theorem zZ.mono {K K':AS Unit->Gh->Prop} (hk:∀s g,K s g->K' s g) {a':Act} (h:zZ P J D0 Y0 fx nt K a' w'):zZ P J D0 Y0 fx nt K' a' w':=
 let ⟨rR,s',aN,g',h1,h2,h3⟩:=h;⟨rR,s',aN,g',h1,hk _ _ h2,h3⟩
def dq (P:Program) (J:JT) (D0:Cells) (Y0:Nat->Prop) (fx:World) (nt:Nat) (c:Code) (Q:Exit->AS Unit->Gh->Prop) (s:AS Unit) (g:Gh):Prop:=
 ∀Γ a w η,mu P J D0 Y0 fx nt Γ g->Rel Γ s a w η->c.wpIn Fence.wide 0 P (fun e=>zZ P J D0 Y0 fx nt (Q e)) a w
theorem mu.ec (hB:mu P J D0 Y0 fx nt Γ g):Γ.ec=Fence.wide:=by
 simp only[Env.ec,hB.zH];rfl
theorem dq.of {c:Code} {Q:Exit->AS Unit->Gh->Prop} (h:∀Γ:Env Unit,Γ.Ok->Γ.P=P->Γ.nt=nt->Γ.jR.length=0->dT Γ c (fun e s'=>Q e s' g) s):dq P J D0 Y0 fx nt c Q s g:=by
 intro Γ a w η hB hr;have h1:=h Γ hB.ok hB.hP hB.cW hB.h0 a w η hr;rw[hB.ec,hB.hP] at h1;exact wpIn_mono h1 fun e a' w' ⟨s',aN,h2,h3⟩=>⟨Γ,s',aN,g,hB,h2,h3⟩
def eK (P:Program) (J:JT) (D0:Cells) (Y0:Nat->Prop) (fx:World) (nt:Nat) (ops:Array Oper) (K:AS Unit->Gh->Prop) (l:List Oper) (s:AS Unit) (g:Gh):Prop:=
 ∀Γ a w η (Qc:Exit->Act->World->Prop),mu P J D0 Y0 fx nt Γ g->(∀a' w',zZ P J D0 Y0 fx nt K a' w'->Qc .normal a' w')->Rel Γ s a w η->wpListIn Fence.wide 0 P ops Qc l a w
theorem eK.nil {ops:Array Oper} {K:AS Unit->Gh->Prop} (h:K s g):eK P J D0 Y0 fx nt ops K [] s g:=
 fun Γ a w η _ hB hQ hr=>hQ a w ⟨Γ,s,η,g,hB,h,hr⟩
theorem eK.calm {ops:Array Oper} {K N:AS Unit->Gh->Prop} {o:Oper} {rest:List Oper} (hg:∀(Γ:Env Unit) a w η,Rel Γ s a w η->Region.wanted o (yielded ops a.tmps)=true)
  (h:∀Γ:Env Unit,Γ.Ok->Γ.P=P->Γ.nt=nt->Γ.jR.length=0->bD Γ o s (fun s'=>N s' g)) (hn:∀s',N s' g->eK P J D0 Y0 fx nt ops K rest s' g):eK P J D0 Y0 fx nt ops K (o::rest) s g:=by
 intro Γ a w η Qc hB hQ hr;simp only[wpListIn];rw[if_pos (hg Γ a w η hr)];have h1:=h Γ hB.ok hB.hP hB.cW hB.h0 a w η (wpListIn Fence.wide 0 P ops Qc rest) Qc (fun s' a' w' aN hN eH=>hn s' hN Γ a' w' aN Qc hB hQ eH) hr;rw[hB.ec,hB.hP] at h1;exact h1
theorem eK.skip {ops:Array Oper} {K:AS Unit->Gh->Prop} {o:Oper} {rest:List Oper} (hg:∀(Γ:Env Unit) a w η,Rel Γ s a w η->Region.wanted o (yielded ops a.tmps)=false) (hd:cR nt o.dst)
  (h:eK P J D0 Y0 fx nt ops K rest (s.put o.dst (.ae (.tuple #[]))) g):eK P J D0 Y0 fx nt ops K (o::rest) s g:=by
 intro Γ a w η Qc hB hQ hr;simp only[wpListIn];rw[if_neg (by rw[hg Γ a w η hr];simp)];exact⟨fun _ _=>trivial,h Γ _ w η Qc hB hQ (hr.put (cd (by rw[hB.cW];exact hd)) (.ae _))⟩
theorem Rel.J2 (hB:mu P J D0 Y0 fx nt Γ g) (hr:Rel Γ s a w η) {d:Option Nat} (hd:cR nt d) {x:AV} {v:Value} (hx:bm w (bk Γ w η s.hp) η s.hp x v):Rel Γ (s.put d x) (a.put d v) w η:=
 hr.put (cd (by rw[hB.cW];exact hd)) hx
theorem xw {o:Oper} {c:Call} {x:Operand} (ho:o.op=.call c) (hc:c.callee=.value x) {l:Nat} (hx:a.eval x=.func (.yield l) #[] #[]) {n:Next} (h:(Instr.yield l (c.args.map a.eval)).run P w=.ok n w):
  (execOp a.eval o).run P w=.ok n w:=by
 simp[execOp,ho,resolve,hc,hx,Deferred.ofValue,invoke,h]
theorem eK.yield (hC:Cons P yv J) {ops:Array Oper} {K:AS Unit->Gh->Prop} {o:Oper} {rest:List Oper} (hg:o.guard=none) {c:Call} {x:Operand} (ho:o.op=.call c) (hc:c.callee=.value x) (hx:s.ev x=.fn yv) (hd:cR nt o.dst)
  {more:List (List AV)} (Xp:g=some (((c.args.toList.map s.ev).map (AV.qQ 0 s.hp))::more)) (h:∀b,eK P J D0 Y0 fx nt ops K rest (s.put o.dst (.ae (.bool b))) (gT b more)):eK P J D0 Y0 fx nt ops K (o::rest) s g:=by
 intro Γ a w η Qc hB hQ hr;simp only[wpListIn];rw[if_pos (by simp[Region.wanted,hg])];have hj:=hB.now hC hr;rw[Xp] at hj;have dO:=hr.ev x;rw[hx] at dO;generalize hv:a.eval x=v at dO
 cases dO with
 |fn v h1=>
 obtain⟨l,fn,tmps,xv,body,rfl,fz,qV⟩:=hC.yield _ _ _ _ _ _ hj (fun _ _=>dZ) (fun b hb=>hb.elim (fun h=>by have:=hB.Oo b h;have:=hB.size;have:=hr.keeps.size;omega) fun h=>(mu.live hr b h).1) (hr.gL hB.ok) (mo hr _ _ (gk hr c.args.toList));refine⟨fun _ _=>trivial,?_⟩;have bu:∀c',o.op ≠ .defer c':=by intro c' h;rw[ho] at h;cases h
 have aF:(c.args.toList.map a.eval).toArray=c.args.map a.eval:=by apply amT;simp
 rw[aF] at fz;rw[Oper.semAt_eq _ _ _ bu,xw ho hc hv fz];refine⟨fun h=>(by cases h),?_⟩;refine RoundIn.mono qV fun e w' ⟨b,he,rB,hl⟩=>?_;subst he;obtain⟨hB2,mP⟩:=hB.step hC hr rB hl;exact h b _ _ _ _ Qc hB2 hQ (mP.J2 hB2 hd (.ae _))
theorem eK.call (hC:Cons P yv J) {ops:Array Oper} {K:AS Unit->Gh->Prop} {o:Oper} {rest:List Oper} (hg:o.guard=none) {c:Call} {x:Operand} (ho:o.op=.call c) (hc:c.callee=.value x) {f:FuncId} {caps:List AV} (hx:s.ev x=.aY f caps) (hd:cR nt o.dst)
  {args:AV->List AV} {L more:List (List AV)} {kind:Bool} (hF:zi P f args L kind) (aF:((c.args.toList.map s.ev++caps).map (AV.qQ 0 s.hp))=args (.fn yv)) (Xp:g=some (L++more))
  (h:∀b,eK P J D0 Y0 fx nt ops K rest (s.put o.dst (match kind with|true=>.ae (.bool b)|false=>.top)) (gT b more)):eK P J D0 Y0 fx nt ops K (o::rest) s g:=by
 intro Γ a w η Qc hB hQ hr;simp only[wpListIn];rw[if_pos (by simp[Region.wanted,hg])];have hj:=hB.now hC hr;rw[Xp] at hj;have dO:=hr.ev x;rw[hx] at dO;generalize hv:a.eval x=v at dO
 cases dO with
 |aY _ _ vs hl cX=>
 refine⟨fun _ _=>trivial,?_⟩;have bu:∀c',o.op ≠ .defer c':=by intro c' h;rw[ho] at h;cases h
 have jZ:(execOp a.eval o).run P w=.ok (.enter f (c.args.map a.eval++vs)) w:=by
  have:=fB (Γ:=Γ) (a:=a) (w:=w) ho hc (f:=f) (by rw[hB.hP];exact hF.1) hv;rw[hB.hP] at this;exact this
 rw[Oper.semAt_eq _ _ _ bu,jZ];have hav:(c.args.map a.eval++vs)=(c.args.toList.map a.eval++vs.toList).toArray:=by apply amT;simp
 have dx:bZ w (bk Γ w η s.hp) η s.hp caps vs.toList:=cF (by simpa using hl) fun j y u hy hu=>cX j y u hy (by simpa using hu);have gy:=mo hr _ _ (dI _ _ (gk hr c.args.toList) dx);rw[aF] at gy;refine⟨fun h=>(by cases h),?_⟩;rw[hav];refine CallsIn.mono (hF.2 J yv hC _ _ more w _ hj (fun _ _=>dZ) (fun b hb=>hb.elim (fun h=>by have:=hB.Oo b h;have:=hB.size;have:=hr.keeps.size;omega) fun h=>(mu.live hr b h).1) (hr.gL hB.ok) gy) fun e w' ⟨v,D',b,he,hv,rB,hl⟩=>?_;subst he;obtain⟨hB2,mP⟩:=hB.step hC hr rB hl;refine h b _ _ _ _ Qc hB2 hQ (mP.J2 hB2 hd ?_)
 cases kind with
 |true=>simp only[YR] at hv;subst hv;exact .ae _
 |false=>exact .top _
variable {Q:Exit->AS Unit->Gh->Prop}
theorem dq.region {id:Nat} {l:List Oper} (h:eK P J D0 Y0 fx nt l.toArray (Q .normal) l s g):dq P J D0 Y0 fx nt (.region id l.toArray false) Q s g:=
 fun Γ a w η hB hr=>wpIn_region_lit (h Γ a w η _ hB (fun _ _ h=>h) hr)
def Oq (N:AS Unit->Gh->Prop) (Q:Exit->AS Unit->Gh->Prop):Exit->AS Unit->Gh->Prop
 | .normal,s,g=>N s g
 |e,s,g=>Q e s g
def xx (id:Nat) (Q:Exit->AS Unit->Gh->Prop):Exit->AS Unit->Gh->Prop
 | .exit Ya,s,g=>if Ya=id then Q .normal s g else Q (.exit Ya) s g
 |e,s,g=>Q e s g
theorem dq.mono {c:Code} {Q':Exit->AS Unit->Gh->Prop} (h:dq P J D0 Y0 fx nt c Q s g) (hq:∀e s g,Q e s g->Q' e s g):dq P J D0 Y0 fx nt c Q' s g:=
 fun Γ a w η hB hr=>wpIn_mono (h Γ a w η hB hr) fun e _ _ hp=>hp.mono (hq e)
theorem dq.seq {x y:Code} (h:dq P J D0 Y0 fx nt x (Oq (dq P J D0 Y0 fx nt y Q) Q) s g):dq P J D0 Y0 fx nt (.seq x y) Q s g:=by
 intro Γ a w η hB hr;refine wpIn_seq (wpIn_mono (h Γ a w η hB hr) fun e a' w' hq=>?_)
 cases e with
 |normal=>
  obtain⟨rR,s',aN,g',h1,h2,h3⟩:=hq;exact h2 rR a' w' aN h1 h3
 |_=>exact hq
theorem dq.skip (h:Q .normal s g):dq P J D0 Y0 fx nt .skip Q s g:=fun Γ _ _ η hB hr=>wpIn_skip ⟨Γ,s,η,g,hB,h,hr⟩
theorem dq.exit {id:Nat} (h:Q (.exit id) s g):dq P J D0 Y0 fx nt (.exit id) Q s g:=fun Γ _ _ η hB hr=>wpIn_exit ⟨Γ,s,η,g,hB,h,hr⟩
theorem dq.ret (h:Q .ret s g):dq P J D0 Y0 fx nt .ret Q s g:=fun Γ _ _ η hB hr=>wpIn_ret ⟨Γ,s,η,g,hB,h,hr⟩
theorem dq.label {l:Nat} (h:Q .normal s g):dq P J D0 Y0 fx nt (.label l) Q s g:=fun Γ _ _ η hB hr=>wpIn_label ⟨Γ,s,η,g,hB,h,hr⟩
theorem dq.block {id:Nat} {c:Code} (h:dq P J D0 Y0 fx nt c (xx id Q) s g):dq P J D0 Y0 fx nt (.block id c) Q s g:=by
 intro Γ a w η hB hr;refine wpIn_block (wpIn_mono (h Γ a w η hB hr) fun e a' w' hq=>?_);obtain⟨rR,s',aN,g',h1,h2,h3⟩:=hq
 cases e with
 |exit Ya=>
  simp only[xx] at h2;simp only[Exit.inBlock];split
  ·rename_i hid;rw[if_pos hid] at h2;exact⟨rR,s',aN,g',h1,h2,h3⟩
  ·rename_i hid;rw[if_neg hid] at h2;exact⟨rR,s',aN,g',h1,h2,h3⟩
 |_=>exact⟨rR,s',aN,g',h1,h2,h3⟩
theorem dq.cond {c:Operand} {x y:Code} {b:Bool} (hb:s.ev c=.ae (.bool b)) (h1:b=true->dq P J D0 Y0 fx nt x Q s g) (h2:b=false->dq P J D0 Y0 fx nt y Q s g):dq P J D0 Y0 fx nt (.cond c x y) Q s g:=by
 intro Γ a w η hB hr;have hc:=hr.ev c;rw[hb] at hc;exact wpIn_cond_split hc.ay (fun ht=>h1 ht Γ a w η hB hr) fun ht=>h2 ht Γ a w η hB hr
def J3 (s s':AS Unit):Prop:=∀Γ:Env Unit,Γ.Ok->Γ.jR.length=0->∀a w η,Rel Γ s a w η->∃aN,Rel Γ s' a w aN
theorem dq.oE {c:Code} (hw:J3 s s') (h:dq P J D0 Y0 fx nt c Q s' g):dq P J D0 Y0 fx nt c Q s g:=
 fun Γ a w η hB hr=>let ⟨aN,eH⟩:=hw Γ hB.ok hB.h0 a w η hr;h Γ a w aN hB eH
theorem dq.loop {c:Code} {β:Type} (I:β->Prop) (st:β->AS Unit) (gh:β->Gh) (μ:β->Nat) (b0:β) (hI:I b0) (h0:J3 s (st b0)) (hg:g=gh b0)
  (round:∀b,I b->dq P J D0 Y0 fx nt c (Oq (fun s' g'=>∃b',I b'/\J3 s' (st b')/\g'=gh b'/\μ b' < μ b) Q) (st b) (gh b)):dq P J D0 Y0 fx nt (.loop c) Q s g:=by
 intro Γ a w η hB hr;obtain⟨yY,hr0⟩:=h0 Γ hB.ok hB.h0 a w η hr;subst hg;have key:∀(n:Nat) (b:β),I b->μ b=n->∀Γ a w η,mu P J D0 Y0 fx nt Γ (gh b)->Rel Γ (st b) a w η->∀(f:Frame) (k:List Item) (cs:List Frame),f.roundOf=Fence.wide.round->Fence.wide.fn f.fn->Fence.wide.room (cs.length+1+0)->
   ∃e a' w',zZ P J D0 Y0 fx nt (Q e) a' w'/\ArrivesIn (Machine.fenced P Fence.wide) P (lone (f.atR a (.code c :: .inLoop c::k)) cs w) f k cs e a' w':=by
  intro n
  induction n using Nat.strongRecOn with
  |_ n ih=>
   intro b YS hb Γ a w η hB hr f k cs qi hf eU;obtain⟨e,tT,tU,hq,gG⟩:=round b YS Γ a w η hB hr f (.inLoop c::k) cs qi hf eU
   cases e with
   |normal=>
    obtain⟨MV,s1,jP,g1,hB1,⟨b',afa,hw',Dh,ak⟩,DR⟩:=hq;obtain⟨afb,afc⟩:=hw' MV hB1.ok hB1.h0 _ _ _ DR;subst Dh;obtain⟨YT,YU,YV,Ot,BG⟩:=ih (μ b') (hb▸ak) b' afa rfl MV tT tU afb hB1 afc f k cs qi hf eU;exact⟨YT,YU,YV,Ot,.of_steps (StepsIn.trans gG (.one (fenced_calm hf eU rfl) stepR_inLoop)) BG⟩
   |exit id=>exact⟨_,tT,tU,hq,.pass (x:=.inLoop c) rfl (fun _ _=>.inl (by simp)) gG⟩
   |goto l=>exact⟨_,tT,tU,hq,.pass (x:=.inLoop c) rfl (fun _ _=>.inl (by simp)) gG⟩
   |ret=>exact⟨_,tT,tU,hq,.pass (x:=.inLoop c) rfl (fun _ _=>.inl (by simp)) gG⟩
   |panic ch=>exact⟨_,tT,tU,hq,.pass (x:=.inLoop c) rfl (fun _ _=>.inl (by simp)) gG⟩
   |outgrown=>exact⟨_,tT,tU,hq,.pass (x:=.inLoop c) rfl (fun _ _=>.inl (by simp)) gG⟩
 intro f k cs qi hf eU;obtain⟨e,a',w',hq,gG⟩:=key _ b0 hI rfl Γ a w yY hB hr0 f k cs qi hf eU;exact⟨e,a',w',hq,.of_steps (.one (fenced_calm hf eU rfl) stepR_loop) gG⟩
end walk
def J4 (kind b:Bool) (x:AV):Prop:=
 match kind with
 |true=>x=.ae (.bool b)
 |false=>True
def Ou (tab:Nat->Option TD) (rs:List ResultVar) (kind:Bool) (more:List (List AV)):Exit->AS Unit->Gh->Prop
 | .normal,s,g | .ret,s,g=>(match ee tab s rs with
  |some l=>∃b,g=gT b more/\J4 kind b (gm l)
  |none=>False)
 |_,_,_=>False
theorem Es {P:Program} {tab:Nat->Option TD} (aj:aZ P tab) {f:FuncId} {fn:Func} {c:Code} {args:AV->List AV} {L:List (List AV)} {kind:Bool} (hf:P.funcs[f]?=some fn) (hb:fn.body=some c) (fD:(fn.name == "runtime.NumGoroutine")=false)
  (hn:∀v,(args v).length<=fn.ntmps)
  (h:∀(J:JT) (yv:Value),Cons P yv J->∀D0 Y0 fx more,dq P J D0 Y0 fx fn.ntmps c (Ou tab fn.results.toList kind more) ⟨cI 0 (args (.fn yv)),[],()⟩ (some (L++more))):zi P f args L kind:=by
 refine⟨⟨fn,hf,fD,by rw[hb];rfl⟩,fun J yv hC D Y more w bb hj hD hY Tv hv=>?_⟩
 let Γ:Env Unit:={ P:=P,w0:=w,F0:=D,X:=fun _=>False,Y:=fun _=>False,Inv:=fun _ _=>True,nt:=fn.ntmps,zH:=none,m0:=fun _=>False,Z:=fun _ _=>False,yY:=[],jR:=[] }
 have ax:Γ.Ok:=⟨rfl,fun _ h=>h.elim,fun _ h=>h.elim,fun _ _ _ _ _ h=>h,fun _ _ h=>h.elim,Tv,fun _ _ h=>h.elim (fun h=>h) fun h=>h⟩;have Sw:=hv.length;have ew:∀b o,D b o->bk Γ w [] [] b o:=fun b o hb=>⟨.inl hb,hD b o hb,fun h=>h.elim (fun h=>h) fun h=>h,fun r v hr=>by simp at hr⟩;have hB:mu P J D Y w fn.ntmps Γ (some (L++more)):=by
  refine⟨ax,rfl,rfl,rfl,fun _ h=>h,fun _ _ h=>h,rfl,fun _ h=>h,?_,hD,fun _ _ _ _ h=>h,fun _ _ _ _ h=>h,fun _ _=>rfl,hY,alA _,fun _ _ h=>h,fun _ _ h=>.inl h,fun _ h=>h.elim,fun _ _=>rfl⟩;have e:(fun b=>Y b\/Γ.Y b)=Y:=by funext b;simp[Γ]
  rw[e];exact hj
 have hrel:Rel Γ ⟨cI 0 (args (.fn yv)),[],()⟩ ⟨bb.toArray++Array.replicate (fn.ntmps-bb.toArray.size) undef,[]⟩ w []:=by
  have hna:=hn (.fn yv);refine⟨by simp[Γ];omega,fun t=>?_,⟨rfl,fun r o v h=>by simp at h,fun r r' o o' v v' b _ h=>by simp at h⟩,fun r o v b h=>by simp at h,bE.refl _ w,True.intro,⟨fun d hd=>(by cases hd),List.Pairwise.nil⟩,⟨fun _ _ _ _ h=>h,fun _ _ _ _ h=>h,ew,fun _ _ h=>h,fun _ _ h=>h,fun _ _ _ h=>h⟩⟩;have:=w8 (hp:=[]) (η:=[]) (args (.fn yv)) bb 0 hv t;simp only[ans,if_false,or_false,ant] at this;show bm w _ _ _ _ ((bb.toArray++Array.replicate (fn.ntmps-bb.toArray.size) undef).getD t undef);rw[w9];exact this.bg ew
 have gR:=h J yv hC D Y w more Γ _ w _ hB hrel;refine callsIn_of_wp_marks (F:=Fence.wide) hf hb trivial (wpIn_mono (F:=Fence.wide) gR fun e a' w' ⟨rR,s',aN,g',Dj,hq,eH⟩=>?_);have fin:(∃l,ee tab s' fn.results.toList=some l/\∃b,g'=gT b more/\J4 kind b (gm l))->
   LeavesInM Fence.wide 0 P fn a'.tmps (fun e w'=>∃v D' b,e=.returned v/\YR kind b v/\J D' Y (gT b more) w'/\Left D Y w D' w') a'.defers .returning w':=by
  intro ⟨l,hl,b,Dh,hR⟩;have hd:=Dj.Er eH;obtain⟨ts,ds⟩:=a';simp only at hd;subst hd;obtain⟨v,h1,h2⟩:=kX (fn:=fn) (by rw[Dj.hP];exact aj) eH hl;rw[Dj.hP] at h1;have rB:=Dj.now hC eH;have bN:=eH.keeps.size;have hB0:=Dj.size;refine⟨v,h1,v,bk rR w' aN s'.hp,b,rfl,?_,?_,⟨by omega,fun k o u hk hc=>?_,fun k es c hk hc=>?_,fun k hk=>?_,fun k o hk=>?_,fun k o hk=>⟨?_,hk.2.1⟩,fun k hk=>(eH.keeps.block k (Dj.ok.gL.lt hk) (Dj.ok.gx k hk)).trans (Dj.gl k hk)⟩⟩
  ·cases kind with
   |true=>simp only[J4] at hR;rw[hR] at h2;exact h2.ay
   |false=>exact True.intro
  ·rw[<-Dh];refine hC.Lz _ _ _ _ _ _ _ rB ⟨bE.refl _ _,fun _ _ _ _ h=>h,fun _ _ _ _ h=>h,fun _ _ h=>h,fun k o h=>⟨.inl h,h.2.1⟩,fun k hk=>⟨.inl (.inl hk),?_⟩⟩;have:=hY k hk;omega
  ·exact eH.ext.cell k o u (Dj.d0 k o hk) (Dj.cell k o u hk hc)
  ·exact eH.ext.ir k es c (Dj.d0 k 0 hk) (Dj.ir k es c hk hc)
  ·rw[<-Dj.y0 k hk];have:=hY k hk;exact eH.keeps.block k (by omega) fun h=>h.elim (Dj.x k) fun h=>by have:=Dj.own k h;omega
  ·exact eH.ext.bg _ _ (Dj.d0 k o hk)
  ·rcases hk.1 with h|h|h
   ·exact Dj.f00 k o h
   ·exact .inr (by omega)
   ·exact .inr (Dj.own k h)
 cases e with
 |normal=>
  simp only[Ou] at hq;split at hq
  ·rename_i l hl;exact fin ⟨l,hl,hq⟩
  ·exact hq.elim
 |ret=>
  simp only[Ou] at hq;split at hq
  ·rename_i l hl;exact fin ⟨l,hl,hq⟩
  ·exact hq.elim
 |_=>exact hq.elim
end Go.Proofs.YtdcikhleahfknaaGreatDoor
