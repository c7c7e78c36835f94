/- Lemmas. -/
import Derived.RangeFuncIn
import Derived.Test.YtnkjkpmbgoehkaaGreatQ24
namespace Go.Proofs.YtnkjkpmbgoehkaaGreat
open Go
open _root_.True renaming intro->ai
set_option linter.unusedSimpArgs false
set_option linter.unusedVariables false
abbrev Cells:=Nat->Nat->Prop
abbrev Gh:=Option (List (List AV))
def gT (b:Bool) (rest:List (List AV)):Gh:=
 match b with
 |true=>some rest
 |false=>none
structure Adv (D:Cells) (Y:Nat->Prop) (w:World) (D':Cells) (Y':Nat->Prop) (w':World):Prop where
 same:cG Y w w'
 cell:∀b o v,D b o->w.cell? ⟨b,o,none⟩=some v->w'.cell? ⟨b,o,none⟩=some v
 kM:∀b es c,D b 0->w.heap[b]?=some (.map es c)->w'.heap[b]?=some (.map es c)
 bI:∀b o,D b o->D' b o
 back:∀b o,D' b o->(D b o\/Y b\/w.heap.size<=b)/\b<w'.heap.size
 aaS:∀b,Y' b->(Y b\/w.heap.size<=b)/\b<w'.heap.size
structure Left (D:Cells) (Y:Nat->Prop) (w:World) (D':Cells) (w':World):Prop where
 size:w.heap.size<=w'.heap.size
 cell:∀b o v,D b o->w.cell? ⟨b,o,none⟩=some v->w'.cell? ⟨b,o,none⟩=some v
 kM:∀b es c,D b 0->w.heap[b]?=some (.map es c)->w'.heap[b]?=some (.map es c)
 blocks:∀b,Y b->w'.heap[b]?=w.heap[b]?
 bI:∀b o,D b o->D' b o
 back:∀b o,D' b o->(D b o\/w.heap.size<=b)/\b<w'.heap.size
 gl:∀b,oS b->w'.heap[b]?=w.heap[b]?
def Sa (P:Program) (yv:Value) (bE:List Value) (w:World) (R:Ending->World->Prop):Prop:=
 ∃l fn tmps zH body,yv=.func (.yield l) #[] #[]/\(Instr.yield l bE.toArray).run P w=.ok (.round l fn tmps zH body) w/\RoundIn Fence.wide 0 P l fn tmps zH body w R
abbrev JT:=Cells->(Nat->Prop)->Gh->World->Prop
structure Cons (P:Program) (yv:Value) (J:JT):Prop where
 amH:yv.oneCell'=true
 Pc:∀D Y g w D' Y' w',J D Y g w->Adv D Y w D' Y' w'->J D' Y' g w'
 yield:∀(D:Cells) (Y:Nat->Prop) x rest w bE,J D Y (some (x::rest)) w->(∀b o,D b o->b<w.heap.size)->(∀b,Y b->b<w.heap.size)->sn w->cu w D [] [] x bE->
  Sa P yv bE w fun e w'=>∃b,e=.returned (.bool b)/\J D Y (gT b rest) w'/\Left D Y w D w'
def YR (kind:Bool) (b:Bool) (v:Value):Prop:=
 match kind with
 |true=>v=.bool b
 |false=>True
def vE (P:Program) (f:FuncId) (args:AV->List AV) (L:List (List AV)) (kind:Bool):Prop:=
 nU P f/\∀(J:JT) (yv:Value),Cons P yv J->∀(D:Cells) (Y:Nat->Prop) (rest:List (List AV)) (w:World) (bE:List Value),
  J D Y (some (L++rest)) w->(∀b o,D b o->b<w.heap.size)->(∀b,Y b->b<w.heap.size)->sn w->cu w D [] [] (args (.fn yv)) bE->
  CallsIn Fence.wide 0 P f bE.toArray w fun e w'=>∃v D' b,e=.returned v/\YR kind b v/\J D' Y (gT b rest) w'/\Left D Y w D' w'
section walk
variable {P:Program} {yv:Value} {J:JT} {D0:Cells} {Y0:Nat->Prop} {gJ:World} {nt:Nat}
structure om (P:Program) (J:JT) (D0:Cells) (Y0:Nat->Prop) (gJ:World) (nt:Nat) (Γ:Env Unit) (g:Gh):Prop where
 ok:Γ.Ok
 hP:Γ.P=P
 dS:Γ.nt=nt
 Dw:Γ.Dw=none
 x:∀b,¬Γ.X b
 z:∀b o,¬Γ.Z b o
 h0:Γ.mU.length=0
 m0:∀r,¬Γ.m0 r
 j:J Γ.F0 (fun b=>Y0 b\/Γ.Y b) g Γ.w0
 f0:∀b o,Γ.F0 b o->b<Γ.w0.heap.size
 cell:∀b o v,D0 b o->gJ.cell? ⟨b,o,none⟩=some v->Γ.w0.cell? ⟨b,o,none⟩=some v
 kM:∀b es c,D0 b 0->gJ.heap[b]?=some (.map es c)->Γ.w0.heap[b]?=some (.map es c)
 y0:∀b,Y0 b->Γ.w0.heap[b]?=gJ.heap[b]?
 Sb:∀b,Y0 b->b<gJ.heap.size
 size:gJ.heap.size<=Γ.w0.heap.size
 d0:∀b o,D0 b o->Γ.F0 b o
 f00:∀b o,Γ.F0 b o->D0 b o\/gJ.heap.size<=b
 own:∀b,Γ.Y b->gJ.heap.size<=b
 gl:∀b,oS b->Γ.w0.heap[b]?=gJ.heap[b]?
variable {Γ:Env Unit} {s s':AS Unit} {a:Act} {w w' w2:World} {η:List Value} {g g2:Gh}
theorem om.GI (hB:om P J D0 Y0 gJ nt Γ g) (hr:Rel Γ s a w η):a.defers=[]:=by
 cases hd:a.defers with
 |nil=>rfl
 |cons d l=>
  obtain⟨r,_,_,h⟩:=hr.marks.all d (by rw[hd];exact aqG);exact(hB.m0 r h).elim
theorem om.live (hr:Rel Γ s a w η):∀b,bb η s.hp b->b<w.heap.size/\(Γ.w0.heap.size<=b\/Γ.Y b):=fun b ⟨q,o,v,g1,g2,g3,g4⟩=>
 ⟨hr.heap.block g1 g2 g3 g4,(hr.cq q o v b g1 g2 g3 g4).1⟩
theorem om.now (hC:Cons P yv J) (hB:om P J D0 Y0 gJ nt Γ g) (hr:Rel Γ s a w η):J (bt Γ w η s.hp) (fun b=>Y0 b\/bb η s.hp b) g w:=by
 have cx:=hr.keeps.size;refine hC.Pc _ _ _ _ _ _ _ hB.j ⟨?_,hr.ext.cell,hr.ext.kM,hr.ext.bI,fun b o hf=>⟨?_,hf.2.1⟩,fun b hb=>?_⟩
 ·exact⟨hr.keeps.os,hr.keeps.tape,hr.keeps.output,cx,fun k hk hx=>hr.keeps.block k hk fun h=>h.elim (hB.x k) fun h=>hx (.inr h)⟩
 ·rcases hf.1 with h|h|h
  ·exact .inl h
  ·exact .inr (.inr h)
  ·exact .inr (.inl (.inr h))
 ·rcases hb with h|h
  ·exact⟨.inl (.inl h),by have:=hB.Sb b h;have:=hB.size;omega⟩
  ·obtain⟨h1,h2⟩:=om.live hr b h;rcases h2 with h2|h2
   ·exact⟨.inr h2,h1⟩
   ·exact⟨.inl (.inr h2),h1⟩
def te (Γ:Env Unit) (w2:World) (D2:Cells) (Y:Nat->Prop):Env Unit:=
 { P:=Γ.P,w0:=w2,F0:=D2,X:=fun _=>False,Y:=Y,Inv:=fun _ _=>True,nt:=Γ.nt,Dw:=none,m0:=fun _=>False,Z:=fun _ _=>False,BF:=[],mU:=[] }
theorem om.step (hC:Cons P yv J) (hB:om P J D0 Y0 gJ nt Γ g) (hr:Rel Γ s a w η) {D2:Cells} (hj:J D2 (fun b=>Y0 b\/bb η s.hp b) g2 w2) (hl:Left (bt Γ w η s.hp) (fun b=>Y0 b\/bb η s.hp b) w D2 w2):
  om P J D0 Y0 gJ nt (te Γ w2 D2 (bb η s.hp)) g2/\Rel (te Γ w2 D2 (bb η s.hp)) s a w2 η:=by
 have cx:=hr.keeps.size;have fB:=om.live hr;have Rk:(te Γ w2 D2 (bb η s.hp)).Ok:=⟨rfl,fun _ h=>h.elim,fun b hb=>aqX (fB b hb).1 hl.size,fun _ _ _ _ _ _=>ai,fun _ _ h=>h.elim,fun p hp=>by
  obtain⟨T,h1⟩:=(hr.kN hB.ok) p hp
  exact⟨T,(hl.gl p.1 ⟨p,hp,rfl⟩).trans h1⟩,fun b hb h=>h.elim (fun h=>h) (hr.gx hB.ok hb)⟩
 have qy:∀b o,D2 b o->lS η s.hp b o:=by
  intro b o hb;rcases (hl.back b o hb).1 with h|h
  ·exact h.2.2.2
  ·refine(bm b o).2 fun q u hu QJ=>?_;have hq:q<s.hp.length:=by rw[<-hr.heap.len];exact(aqr.1 hu).1
   have hg:s.hp[q]?=some s.hp[q]:=by simp[hq]
   refine⟨_,hg,?_⟩
   cases hx:s.hp[q] with
   |dead=>exact ai
   |_=>
    exfalso;rw[hx] at hg;have:=hr.heap.block hg ai hu QJ;omega
 have he:Ext w (bt Γ w η s.hp) η s.hp w2 (bt (te Γ w2 D2 (bb η s.hp)) w2 η s.hp) η s.hp:=
  ⟨hl.cell,hl.kM,fun b o hf=>⟨.inl (hl.bI b o hf),aqX hf.2.1 hl.size,fun h=>h.elim (fun h=>h) fun h=>h,hf.2.2.2⟩,fun _ _ h=>h,fun _ _ h=>h,fun _ _ _ h=>h⟩
 refine⟨⟨Rk,hB.hP,hB.dS,rfl,fun _ h=>h,fun _ _ h=>h,rfl,fun _ h=>h,hj,fun b o hb=>(hl.back b o hb).2,fun b o v hd hc=>?_,fun b es c hd hc=>?_,fun b hb=>?_,hB.Sb,?_,fun b o hd=>?_,fun b o hf=>?_,fun b hb=>?_,fun b hb=>(hl.gl b hb).trans ((hr.keeps.block b (hB.ok.kN.lt hb) (hB.ok.gx b hb)).trans (hB.gl b hb))⟩,
  ⟨hr.nt,fun t=>(hr.tmps t).ext he,⟨hr.heap.len,fun q o v h1 h2=>?_,hr.heap.sep⟩,fun q o v b h1 h2 h3 h4=>⟨.inr ⟨q,o,v,h1,h2,h3,h4⟩,fun _ h=>h.elim (fun h=>h) fun h=>h⟩,cG.refl _ _,ai,?_,?_⟩⟩
 ·exact hl.cell b o v (hr.ext.bI _ _ (hB.d0 b o hd)) (hr.ext.cell b o v (hB.d0 b o hd) (hB.cell b o v hd hc))
 ·exact hl.kM b es c (hr.ext.bI _ _ (hB.d0 b 0 hd)) (hr.ext.kM b es c (hB.d0 b 0 hd) (hB.kM b es c hd hc))
 ·show w2.heap[b]?=_;rw[hl.blocks b (.inl hb),<-hB.y0 b hb];have h1:=hB.Sb b hb;have h2:=hB.size;exact hr.keeps.block b (by omega) fun h=>h.elim (hB.x b) fun h=>by have:=hB.own b h;omega
 ·show gJ.heap.size<=w2.heap.size;have h1:=hB.size;have h2:=hl.size;omega
 ·exact hl.bI b o (hr.ext.bI _ _ (hB.d0 b o hd))
 ·have h1:=hB.size;rcases (hl.back b o hf).1 with h|h
  ·rcases h.1 with h|h|h
   ·exact hB.f00 b o h
   ·exact .inr (by omega)
   ·exact .inr (hB.own b h)
  ·exact .inr (by omega)
 ·have h1:=hB.size;rcases (fB b hb).2 with h|h
  ·omega
  ·exact hB.own b h
 ·by_cases hv:o.live
  ·exact(hr.heap.obj q o v h1 h2).ext he hl.size fun b hb _=>hl.blocks b (.inr ⟨q,o,v,h1,hv,h2,hb⟩)
  ·cases o<;>first|exact ai|exact(hv ai).elim
 ·rw[hB.GI hr];exact⟨fun d hd=>(by cases hd),List.Pairwise.nil⟩
 ·refine⟨fun _ _ _ _ h=>h,fun _ _ _ _ h=>h,fun b o hb=>⟨.inl hb,(hl.back b o hb).2,fun h=>h.elim (fun h=>h) fun h=>h,qy b o hb⟩,fun r a h=>?_,fun r a h=>?_,fun r n v h=>?_⟩
  ·simp[te] at h
  ·simp[te] at h
  ·simp[te,bl] at h
def CE (P:Program) (J:JT) (D0:Cells) (Y0:Nat->Prop) (gJ:World) (nt:Nat) (K:AS Unit->Gh->Prop) (a':Act) (w':World):Prop:=
 ∃(ue:Env Unit) (s':AS Unit) (bf:List Value) (g':Gh),om P J D0 Y0 gJ nt ue g'/\K s' g'/\Rel ue s' a' w' bf
theorem CE.mono {K K':AS Unit->Gh->Prop} (hk:∀s g,K s g->K' s g) {a':Act} (h:CE P J D0 Y0 gJ nt K a' w'):CE P J D0 Y0 gJ nt K' a' w':=
 let ⟨ue,s',bf,g',h1,h2,h3⟩:=h;⟨ue,s',bf,g',h1,hk _ _ h2,h3⟩
def dZ (P:Program) (J:JT) (D0:Cells) (Y0:Nat->Prop) (gJ:World) (nt:Nat) (c:Code) (Q:Exit->AS Unit->Gh->Prop) (s:AS Unit) (g:Gh):Prop:=
 ∀Γ a w η,om P J D0 Y0 gJ nt Γ g->Rel Γ s a w η->c.wpIn Fence.wide 0 P (fun e=>CE P J D0 Y0 gJ nt (Q e)) a w
theorem om.fj (hB:om P J D0 Y0 gJ nt Γ g):Γ.fj=Fence.wide:=by
 simp only[Env.fj,hB.Dw];rfl
theorem dZ.of {c:Code} {Q:Exit->AS Unit->Gh->Prop} (h:∀Γ:Env Unit,Γ.Ok->Γ.P=P->Γ.nt=nt->Γ.mU.length=0->eY Γ c (fun e s'=>Q e s' g) s):dZ P J D0 Y0 gJ nt c Q s g:=by
 intro Γ a w η hB hr;have h1:=h Γ hB.ok hB.hP hB.dS hB.h0 a w η hr;rw[hB.fj,hB.hP] at h1;exact wpIn_mono h1 fun e a' w' ⟨s',bf,h2,h3⟩=>⟨Γ,s',bf,g,hB,h2,h3⟩
def fR (P:Program) (J:JT) (D0:Cells) (Y0:Nat->Prop) (gJ:World) (nt:Nat) (ops:Array Oper) (K:AS Unit->Gh->Prop) (l:List Oper) (s:AS Unit) (g:Gh):Prop:=
 ∀Γ a w η (Qc:Exit->Act->World->Prop),om P J D0 Y0 gJ nt Γ g->(∀a' w',CE P J D0 Y0 gJ nt K a' w'->Qc .normal a' w')->Rel Γ s a w η->wpListIn Fence.wide 0 P ops Qc l a w
theorem fR.nil {ops:Array Oper} {K:AS Unit->Gh->Prop} (h:K s g):fR P J D0 Y0 gJ nt ops K [] s g:=
 fun Γ a w η _ hB hQ hr=>hQ a w ⟨Γ,s,η,g,hB,h,hr⟩
theorem fR.calm {ops:Array Oper} {K N:AS Unit->Gh->Prop} {o:Oper} {rest:List Oper} (hg:∀(Γ:Env Unit) a w η,Rel Γ s a w η->Region.wanted o (yielded ops a.tmps)=true)
  (h:∀Γ:Env Unit,Γ.Ok->Γ.P=P->Γ.nt=nt->Γ.mU.length=0->bO Γ o s (fun s'=>N s' g)) (hn:∀s',N s' g->fR P J D0 Y0 gJ nt ops K rest s' g):fR P J D0 Y0 gJ nt ops K (o::rest) s g:=by
 intro Γ a w η Qc hB hQ hr;simp only[wpListIn];rw[if_pos (hg Γ a w η hr)];have h1:=h Γ hB.ok hB.hP hB.dS hB.h0 a w η (wpListIn Fence.wide 0 P ops Qc rest) Qc (fun s' a' w' bf hN gy=>hn s' hN Γ a' w' bf Qc hB hQ gy) hr;rw[hB.fj,hB.hP] at h1;exact h1
theorem fR.skip {ops:Array Oper} {K:AS Unit->Gh->Prop} {o:Oper} {rest:List Oper} (hg:∀(Γ:Env Unit) a w η,Rel Γ s a w η->Region.wanted o (yielded ops a.tmps)=false) (hd:dC nt o.dst)
  (h:fR P J D0 Y0 gJ nt ops K rest (s.put o.dst (.ax (.tuple #[]))) g):fR P J D0 Y0 gJ nt ops K (o::rest) s g:=by
 intro Γ a w η Qc hB hQ hr;simp only[wpListIn];rw[if_neg (by rw[hg Γ a w η hr];simp)];exact⟨fun _ _=>trivial,h Γ _ w η Qc hB hQ (hr.put (cy (by rw[hB.dS];exact hd)) (.ax _))⟩
theorem Rel.Mw (hB:om P J D0 Y0 gJ nt Γ g) (hr:Rel Γ s a w η) {d:Option Nat} (hd:dC nt d) {x:AV} {v:Value} (hx:bB w (bt Γ w η s.hp) η s.hp x v):Rel Γ (s.put d x) (a.put d v) w η:=
 hr.put (cy (by rw[hB.dS];exact hd)) hx
theorem zI {o:Oper} {c:Call} {x:Operand} (ho:o.op=.call c) (hc:c.callee=.value x) {l:Nat} (hx:a.eval x=.func (.yield l) #[] #[]) {n:Next} (h:(Instr.yield l (c.args.map a.eval)).run P w=.ok n w):
  (execOp a.eval o).run P w=.ok n w:=by
 simp[execOp,ho,resolve,hc,hx,Deferred.ofValue,invoke,h]
theorem fR.yield (hC:Cons P yv J) {ops:Array Oper} {K:AS Unit->Gh->Prop} {o:Oper} {rest:List Oper} (hg:o.guard=none) {c:Call} {x:Operand} (ho:o.op=.call c) (hc:c.callee=.value x) (hx:s.ev x=.fn yv) (hd:dC nt o.dst)
  {more:List (List AV)} (hgh:g=some (((c.args.toList.map s.ev).map (AV.s6 0 s.hp))::more)) (h:∀b,fR P J D0 Y0 gJ nt ops K rest (s.put o.dst (.ax (.bool b))) (gT b more)):fR P J D0 Y0 gJ nt ops K (o::rest) s g:=by
 intro Γ a w η Qc hB hQ hr;simp only[wpListIn];rw[if_pos (by simp[Region.wanted,hg])];have hj:=hB.now hC hr;rw[hgh] at hj;have eP:=hr.ev x;rw[hx] at eP;generalize hv:a.eval x=v at eP
 cases eP with
 |fn v h1=>
 obtain⟨l,fn,tmps,zH,body,rfl,gX,th⟩:=hC.yield _ _ _ _ _ _ hj (fun _ _=>fh) (fun b hb=>hb.elim (fun h=>by have:=hB.Sb b h;have:=hB.size;have:=hr.keeps.size;omega) fun h=>(om.live hr b h).1) (hr.kN hB.ok) (og hr _ _ (iA hr c.args.toList));refine⟨fun _ _=>trivial,?_⟩;have cg:∀c',o.op ≠ .defer c':=by intro c' h;rw[ho] at h;cases h
 have aN:(c.args.toList.map a.eval).toArray=c.args.map a.eval:=by apply arL;simp
 rw[aN] at gX;rw[Oper.semAt_eq _ _ _ cg,zI ho hc hv gX];refine⟨fun h=>(by cases h),?_⟩;refine RoundIn.mono th fun e w' ⟨b,he,vC,hl⟩=>?_;subst he;obtain⟨hB2,rV⟩:=hB.step hC hr vC hl;exact h b _ _ _ _ Qc hB2 hQ (rV.Mw hB2 hd (.ax _))
theorem fR.call (hC:Cons P yv J) {ops:Array Oper} {K:AS Unit->Gh->Prop} {o:Oper} {rest:List Oper} (hg:o.guard=none) {c:Call} {x:Operand} (ho:o.op=.call c) (hc:c.callee=.value x) {f:FuncId} {caps:List AV} (hx:s.ev x=.bz f caps) (hd:dC nt o.dst)
  {args:AV->List AV} {L more:List (List AV)} {kind:Bool} (hF:vE P f args L kind) (aN:((c.args.toList.map s.ev++caps).map (AV.s6 0 s.hp))=args (.fn yv)) (hgh:g=some (L++more))
  (h:∀b,fR P J D0 Y0 gJ nt ops K rest (s.put o.dst (match kind with|true=>.ax (.bool b)|false=>.top)) (gT b more)):fR P J D0 Y0 gJ nt ops K (o::rest) s g:=by
 intro Γ a w η Qc hB hQ hr;simp only[wpListIn];rw[if_pos (by simp[Region.wanted,hg])];have hj:=hB.now hC hr;rw[hgh] at hj;have eP:=hr.ev x;rw[hx] at eP;generalize hv:a.eval x=v at eP
 cases eP with
 |bz _ _ vs hl eR=>
 refine⟨fun _ _=>trivial,?_⟩;have cg:∀c',o.op ≠ .defer c':=by intro c' h;rw[ho] at h;cases h
 have fP:(execOp a.eval o).run P w=.ok (.enter f (c.args.map a.eval++vs)) w:=by
  have:=gM (Γ:=Γ) (a:=a) (w:=w) ho hc (f:=f) (by rw[hB.hP];exact hF.1) hv;rw[hB.hP] at this;exact this
 rw[Oper.semAt_eq _ _ _ cg,fP];have hav:(c.args.map a.eval++vs)=(c.args.toList.map a.eval++vs.toList).toArray:=by apply arL;simp
 have dK:cu w (bt Γ w η s.hp) η s.hp caps vs.toList:=dL (by simpa using hl) fun j y u hy hu=>eR j y u hy (by simpa using hu);have iH:=og hr _ _ (eH _ _ (iA hr c.args.toList) dK);rw[aN] at iH;refine⟨fun h=>(by cases h),?_⟩;rw[hav];refine CallsIn.mono (hF.2 J yv hC _ _ more w _ hj (fun _ _=>fh) (fun b hb=>hb.elim (fun h=>by have:=hB.Sb b h;have:=hB.size;have:=hr.keeps.size;omega) fun h=>(om.live hr b h).1) (hr.kN hB.ok) iH) fun e w' ⟨v,D',b,he,hv,vC,hl⟩=>?_;subst he;obtain⟨hB2,rV⟩:=hB.step hC hr vC hl;refine h b _ _ _ _ Qc hB2 hQ (rV.Mw hB2 hd ?_)
 cases kind with
 |true=>simp only[YR] at hv;subst hv;exact .ax _
 |false=>exact .top _
variable {Q:Exit->AS Unit->Gh->Prop}
theorem dZ.region {id:Nat} {l:List Oper} (h:fR P J D0 Y0 gJ nt l.toArray (Q .normal) l s g):dZ P J D0 Y0 gJ nt (.region id l.toArray false) Q s g:=
 fun Γ a w η hB hr=>wpIn_region_lit (h Γ a w η _ hB (fun _ _ h=>h) hr)
def Sd (N:AS Unit->Gh->Prop) (Q:Exit->AS Unit->Gh->Prop):Exit->AS Unit->Gh->Prop
 | .normal,s,g=>N s g
 |e,s,g=>Q e s g
def zJ (id:Nat) (Q:Exit->AS Unit->Gh->Prop):Exit->AS Unit->Gh->Prop
 | .exit id',s,g=>if id'=id then Q .normal s g else Q (.exit id') s g
 |e,s,g=>Q e s g
theorem dZ.mono {c:Code} {Q':Exit->AS Unit->Gh->Prop} (h:dZ P J D0 Y0 gJ nt c Q s g) (hq:∀e s g,Q e s g->Q' e s g):dZ P J D0 Y0 gJ nt c Q' s g:=
 fun Γ a w η hB hr=>wpIn_mono (h Γ a w η hB hr) fun e _ _ hp=>hp.mono (hq e)
theorem dZ.seq {x y:Code} (h:dZ P J D0 Y0 gJ nt x (Sd (dZ P J D0 Y0 gJ nt y Q) Q) s g):dZ P J D0 Y0 gJ nt (.seq x y) Q s g:=by
 intro Γ a w η hB hr;refine wpIn_seq (wpIn_mono (h Γ a w η hB hr) fun e a' w' hq=>?_)
 cases e with
 |normal=>
  obtain⟨ue,s',bf,g',h1,h2,h3⟩:=hq;exact h2 ue a' w' bf h1 h3
 |_=>exact hq
theorem dZ.skip (h:Q .normal s g):dZ P J D0 Y0 gJ nt .skip Q s g:=fun Γ _ _ η hB hr=>wpIn_skip ⟨Γ,s,η,g,hB,h,hr⟩
theorem dZ.exit {id:Nat} (h:Q (.exit id) s g):dZ P J D0 Y0 gJ nt (.exit id) Q s g:=fun Γ _ _ η hB hr=>wpIn_exit ⟨Γ,s,η,g,hB,h,hr⟩
theorem dZ.ret (h:Q .ret s g):dZ P J D0 Y0 gJ nt .ret Q s g:=fun Γ _ _ η hB hr=>wpIn_ret ⟨Γ,s,η,g,hB,h,hr⟩
theorem dZ.label {l:Nat} (h:Q .normal s g):dZ P J D0 Y0 gJ nt (.label l) Q s g:=fun Γ _ _ η hB hr=>wpIn_label ⟨Γ,s,η,g,hB,h,hr⟩
theorem dZ.block {id:Nat} {c:Code} (h:dZ P J D0 Y0 gJ nt c (zJ id Q) s g):dZ P J D0 Y0 gJ nt (.block id c) Q s g:=by
 intro Γ a w η hB hr;refine wpIn_block (wpIn_mono (h Γ a w η hB hr) fun e a' w' hq=>?_);obtain⟨ue,s',bf,g',h1,h2,h3⟩:=hq
 cases e with
 |exit id'=>
  simp only[zJ] at h2;simp only[Exit.inBlock];split
  ·rename_i hid;rw[if_pos hid] at h2;exact⟨ue,s',bf,g',h1,h2,h3⟩
  ·rename_i hid;rw[if_neg hid] at h2;exact⟨ue,s',bf,g',h1,h2,h3⟩
 |_=>exact⟨ue,s',bf,g',h1,h2,h3⟩
theorem dZ.cond {c:Operand} {x y:Code} {b:Bool} (hb:s.ev c=.ax (.bool b)) (h1:b=true->dZ P J D0 Y0 gJ nt x Q s g) (h2:b=false->dZ P J D0 Y0 gJ nt y Q s g):dZ P J D0 Y0 gJ nt (.cond c x y) Q s g:=by
 intro Γ a w η hB hr;have hc:=hr.ev c;rw[hb] at hc;exact wpIn_cond_split hc.aC (fun ht=>h1 ht Γ a w η hB hr) fun ht=>h2 ht Γ a w η hB hr
def Mx (s s':AS Unit):Prop:=∀Γ:Env Unit,Γ.Ok->Γ.mU.length=0->∀a w η,Rel Γ s a w η->∃bf,Rel Γ s' a w bf
theorem dZ.ua {c:Code} (hw:Mx s s') (h:dZ P J D0 Y0 gJ nt c Q s' g):dZ P J D0 Y0 gJ nt c Q s g:=
 fun Γ a w η hB hr=>let ⟨bf,gy⟩:=hw Γ hB.ok hB.h0 a w η hr;h Γ a w bf hB gy
theorem dZ.loop {c:Code} {β:Type} (I:β->Prop) (st:β->AS Unit) (gh:β->Gh) (μ:β->Nat) (b0:β) (hI:I b0) (h0:Mx s (st b0)) (hg:g=gh b0)
  (round:∀b,I b->dZ P J D0 Y0 gJ nt c (Sd (fun s' g'=>∃b',I b'/\Mx s' (st b')/\g'=gh b'/\μ b' < μ b) Q) (st b) (gh b)):dZ P J D0 Y0 gJ nt (.loop c) Q s g:=by
 intro Γ a w η hB hr;obtain⟨BF,hr0⟩:=h0 Γ hB.ok hB.h0 a w η hr;subst hg;have key:∀(n:Nat) (b:β),I b->μ b=n->∀Γ a w η,om P J D0 Y0 gJ nt Γ (gh b)->Rel Γ (st b) a w η->∀(f:Frame) (k:List Item) (cs:List Frame),f.roundOf=Fence.wide.round->Fence.wide.fn f.fn->Fence.wide.room (cs.length+1+0)->
   ∃e a' w',CE P J D0 Y0 gJ nt (Q e) a' w'/\ArrivesIn (Machine.fenced P Fence.wide) P (lone (f.atR a (.code c :: .inLoop c::k)) cs w) f k cs e a' w':=by
  intro n
  induction n using Nat.strongRecOn with
  |_ n ih=>
   intro b hIb hb Γ a w η hB hr f k cs ss hf fi;obtain⟨e,vV,vW,hq,gY⟩:=round b hIb Γ a w η hB hr f (.inLoop c::k) cs ss hf fi
   cases e with
   |normal=>
    obtain⟨QK,s1,oR,g1,hB1,⟨b',aj8,hw',Ro,aH⟩,DP⟩:=hq;obtain⟨aj9,aka⟩:=hw' QK hB1.ok hB1.h0 _ _ _ DP;subst Ro;obtain⟨acs,acu,acv,Se,D8⟩:=ih (μ b') (hb▸aH) b' aj8 rfl QK vV vW aj9 hB1 aka f k cs ss hf fi;exact⟨acs,acu,acv,Se,.of_steps (StepsIn.trans gY (.one (fenced_calm hf fi rfl) stepR_inLoop)) D8⟩
   |exit id=>exact⟨_,vV,vW,hq,.pass (x:=.inLoop c) rfl (fun _ _=>.inl (by simp)) gY⟩
   |goto l=>exact⟨_,vV,vW,hq,.pass (x:=.inLoop c) rfl (fun _ _=>.inl (by simp)) gY⟩
   |ret=>exact⟨_,vV,vW,hq,.pass (x:=.inLoop c) rfl (fun _ _=>.inl (by simp)) gY⟩
   |panic ch=>exact⟨_,vV,vW,hq,.pass (x:=.inLoop c) rfl (fun _ _=>.inl (by simp)) gY⟩
   |outgrown=>exact⟨_,vV,vW,hq,.pass (x:=.inLoop c) rfl (fun _ _=>.inl (by simp)) gY⟩
 intro f k cs ss hf fi;obtain⟨e,a',w',hq,gY⟩:=key _ b0 hI rfl Γ a w BF hB hr0 f k cs ss hf fi;exact⟨e,a',w',hq,.of_steps (.one (fenced_calm hf fi rfl) stepR_loop) gY⟩
end walk
def My (kind b:Bool) (x:AV):Prop:=
 match kind with
 |true=>x=.ax (.bool b)
 |false=>True
def Sf (tab:Nat->Option TD) (rs:List ResultVar) (kind:Bool) (more:List (List AV)):Exit->AS Unit->Gh->Prop
 | .normal,s,g | .ret,s,g=>(match fW tab s rs with
  |some l=>∃b,g=gT b more/\My kind b (iZ l)
  |none=>False)
 |_,_,_=>False
theorem GJ {P:Program} {tab:Nat->Option TD} (aA:bc P tab) {f:FuncId} {fn:Func} {c:Code} {args:AV->List AV} {L:List (List AV)} {kind:Bool} (hf:P.funcs[f]?=some fn) (hb:fn.body=some c) (jD:(fn.name == "runtime.NumGoroutine")=false)
  (hn:∀v,(args v).length<=fn.ntmps)
  (h:∀(J:JT) (yv:Value),Cons P yv J->∀D0 Y0 gJ more,dZ P J D0 Y0 gJ fn.ntmps c (Sf tab fn.results.toList kind more) ⟨ei 0 (args (.fn yv)),[],()⟩ (some (L++more))):vE P f args L kind:=by
 refine⟨⟨fn,hf,jD,by rw[hb];rfl⟩,fun J yv hC D Y more w bE hj hD hY hgl hv=>?_⟩
 let Γ:Env Unit:={ P:=P,w0:=w,F0:=D,X:=fun _=>False,Y:=fun _=>False,Inv:=fun _ _=>True,nt:=fn.ntmps,Dw:=none,m0:=fun _=>False,Z:=fun _ _=>False,BF:=[],mU:=[] }
 have aE:Γ.Ok:=⟨rfl,fun _ h=>h.elim,fun _ h=>h.elim,fun _ _ _ _ _ h=>h,fun _ _ h=>h.elim,hgl,fun _ _ h=>h.elim (fun h=>h) fun h=>h⟩;have Xp:=hv.length;have kp:∀b o,D b o->bt Γ w [] [] b o:=fun b o hb=>⟨.inl hb,hD b o hb,fun h=>h.elim (fun h=>h) fun h=>h,fun r v hr=>by simp at hr⟩;have hB:om P J D Y w fn.ntmps Γ (some (L++more)):=by
  refine⟨aE,rfl,rfl,rfl,fun _ h=>h,fun _ _ h=>h,rfl,fun _ h=>h,?_,hD,fun _ _ _ _ h=>h,fun _ _ _ _ h=>h,fun _ _=>rfl,hY,aqw _,fun _ _ h=>h,fun _ _ h=>.inl h,fun _ h=>h.elim,fun _ _=>rfl⟩;have e:(fun b=>Y b\/Γ.Y b)=Y:=by funext b;simp[Γ]
  rw[e];exact hj
 have hrel:Rel Γ ⟨ei 0 (args (.fn yv)),[],()⟩ ⟨bE.toArray++Array.replicate (fn.ntmps-bE.toArray.size) undef,[]⟩ w []:=by
  have hna:=hn (.fn yv);refine⟨by simp[Γ];omega,fun t=>?_,⟨rfl,fun r o v h=>by simp at h,fun r r' o o' v v' b _ h=>by simp at h⟩,fun r o v b h=>by simp at h,cG.refl _ w,ai,⟨fun d hd=>(by cases hd),List.Pairwise.nil⟩,⟨fun _ _ _ _ h=>h,fun _ _ _ _ h=>h,kp,fun _ _ h=>h,fun _ _ h=>h,fun _ _ _ h=>h⟩⟩;have:=zj (hp:=[]) (η:=[]) (args (.fn yv)) bE 0 hv t;simp only[asj,if_false,or_false,asl] at this;show bB w _ _ _ _ ((bE.toArray++Array.replicate (fn.ntmps-bE.toArray.size) undef).getD t undef);rw[zk];exact this.bI kp
 have kY:=h J yv hC D Y w more Γ _ w _ hB hrel;refine callsIn_of_wp_marks (F:=Fence.wide) hf hb trivial (wpIn_mono (F:=Fence.wide) kY fun e a' w' ⟨ue,s',bf,g',Fz,hq,gy⟩=>?_);have fin:(∃l,fW tab s' fn.results.toList=some l/\∃b,g'=gT b more/\My kind b (iZ l))->
   LeavesInM Fence.wide 0 P fn a'.tmps (fun e w'=>∃v D' b,e=.returned v/\YR kind b v/\J D' Y (gT b more) w'/\Left D Y w D' w') a'.defers .returning w':=by
  intro ⟨l,hl,b,Ro,hR⟩;have hd:=Fz.GI gy;obtain⟨ts,ds⟩:=a';simp only at hd;subst hd;obtain⟨v,h1,h2⟩:=qG (fn:=fn) (by rw[Fz.hP];exact aA) gy hl;rw[Fz.hP] at h1;have vC:=Fz.now hC gy;have cx:=gy.keeps.size;have hB0:=Fz.size;refine⟨v,h1,v,bt ue w' bf s'.hp,b,rfl,?_,?_,⟨by omega,fun k o u hk hc=>?_,fun k es c hk hc=>?_,fun k hk=>?_,fun k o hk=>?_,fun k o hk=>⟨?_,hk.2.1⟩,fun k hk=>(gy.keeps.block k (Fz.ok.kN.lt hk) (Fz.ok.gx k hk)).trans (Fz.gl k hk)⟩⟩
  ·cases kind with
   |true=>simp only[My] at hR;rw[hR] at h2;exact h2.aC
   |false=>exact ai
  ·rw[<-Ro];refine hC.Pc _ _ _ _ _ _ _ vC ⟨cG.refl _ _,fun _ _ _ _ h=>h,fun _ _ _ _ h=>h,fun _ _ h=>h,fun k o h=>⟨.inl h,h.2.1⟩,fun k hk=>⟨.inl (.inl hk),?_⟩⟩;have:=hY k hk;omega
  ·exact gy.ext.cell k o u (Fz.d0 k o hk) (Fz.cell k o u hk hc)
  ·exact gy.ext.kM k es c (Fz.d0 k 0 hk) (Fz.kM k es c hk hc)
  ·rw[<-Fz.y0 k hk];have:=hY k hk;exact gy.keeps.block k (by omega) fun h=>h.elim (Fz.x k) fun h=>by have:=Fz.own k h;omega
  ·exact gy.ext.bI _ _ (Fz.d0 k o hk)
  ·rcases hk.1 with h|h|h
   ·exact Fz.f00 k o h
   ·exact .inr (by omega)
   ·exact .inr (Fz.own k h)
 cases e with
 |normal=>
  simp only[Sf] at hq;split at hq
  ·rename_i l hl;exact fin ⟨l,hl,hq⟩
  ·exact hq.elim
 |ret=>
  simp only[Sf] at hq;split at hq
  ·rename_i l hl;exact fin ⟨l,hl,hq⟩
  ·exact hq.elim
 |_=>exact hq.elim
end Go.Proofs.YtnkjkpmbgoehkaaGreat
