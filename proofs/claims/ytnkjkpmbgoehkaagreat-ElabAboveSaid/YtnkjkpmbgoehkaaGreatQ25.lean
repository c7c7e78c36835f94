/- Texts of ours laid together for a claim: FilY. -/
import Derived.RangeFuncIn
import Derived.Test.YtnkjkpmbgoehkaaGreatQ24
namespace Go.Proofs.YtnkjkpmbgoehkaaGreat
open Go
set_option linter.unusedSimpArgs false
set_option linter.unusedVariables false
abbrev Cells:=Nat->Nat->Prop
abbrev Gh:=Option (List (List AV))
def gT (b:Bool) (rest:List (List AV)):Gh:=
 match b with
 |true=>some rest
 |false=>none
structure Adv (D:Cells) (Y:Nat->Prop) (w:World) (D':Cells) (Y':Nat->Prop) (w':World):Prop where
 same:bZ Y w w'
 cell:∀b o v,D b o->w.cell? ⟨b,o,none⟩=some v->w'.cell? ⟨b,o,none⟩=some v
 jt:∀b es c,D b 0->w.heap[b]?=some (.map es c)->w'.heap[b]?=some (.map es c)
 bk:∀b o,D b o->D' b o
 back:∀b o,D' b o->(D b o\/Y b\/w.heap.size<=b)/\b<w'.heap.size
 Wq:∀b,Y' b->(Y b\/w.heap.size<=b)/\b<w'.heap.size
structure Left (D:Cells) (Y:Nat->Prop) (w:World) (D':Cells) (w':World):Prop where
 size:w.heap.size<=w'.heap.size
 cell:∀b o v,D b o->w.cell? ⟨b,o,none⟩=some v->w'.cell? ⟨b,o,none⟩=some v
 jt:∀b es c,D b 0->w.heap[b]?=some (.map es c)->w'.heap[b]?=some (.map es c)
 blocks:∀b,Y b->w'.heap[b]?=w.heap[b]?
 bk:∀b o,D b o->D' b o
 back:∀b o,D' b o->(D b o\/w.heap.size<=b)/\b<w'.heap.size
 gl:∀b,nf b->w'.heap[b]?=w.heap[b]?
def Oq (P:Program) (yv:Value) (bg:List Value) (w:World) (R:Ending->World->Prop):Prop:=
 ∃l fn tmps xw body,yv=.func (.yield l) #[] #[]/\(Instr.yield l bg.toArray).run P w=.ok (.round l fn tmps xw body) w/\RoundIn Fence.wide 0 P l fn tmps xw body w R
abbrev JT:=Cells->(Nat->Prop)->Gh->World->Prop
structure Cons (P:Program) (yv:Value) (J:JT):Prop where
 ahE:yv.oneCell'=true
 Lh:∀D Y g w D' Y' w',J D Y g w->Adv D Y w D' Y' w'->J D' Y' g w'
 yield:∀(D:Cells) (Y:Nat->Prop) x rest w bg,J D Y (some (x::rest)) w->(∀b o,D b o->b<w.heap.size)->(∀b,Y b->b<w.heap.size)->qn w->bS w D [] [] x bg->
  Oq P yv bg w fun e w'=>∃b,e=.returned (.bool b)/\J D Y (gT b rest) w'/\Left D Y w D w'
def YR (kind:Bool) (b:Bool) (v:Value):Prop:=
 match kind with
 |true=>v=.bool b
 |false=>True
def uQ (P:Program) (f:FuncId) (args:AV->List AV) (L:List (List AV)) (kind:Bool):Prop:=
 my P f/\∀(J:JT) (yv:Value),Cons P yv J->∀(D:Cells) (Y:Nat->Prop) (rest:List (List AV)) (w:World) (bg:List Value),
  J D Y (some (L++rest)) w->(∀b o,D b o->b<w.heap.size)->(∀b,Y b->b<w.heap.size)->qn w->bS w D [] [] (args (.fn yv)) bg->
  CallsIn Fence.wide 0 P f bg.toArray w fun e w'=>∃v D' b,e=.returned v/\YR kind b v/\J D' Y (gT b rest) w'/\Left D Y w D' w'
section walk
variable {P:Program} {yv:Value} {J:JT} {D0:Cells} {Y0:Nat->Prop} {fQ:World} {nt:Nat}
structure mK (P:Program) (J:JT) (D0:Cells) (Y0:Nat->Prop) (fQ:World) (nt:Nat) (Γ:Env Unit) (g:Gh):Prop where
 ok:Γ.Ok
 hP:Γ.P=P
 dj:Γ.nt=nt
 A1:Γ.A1=none
 x:∀b,¬Γ.X b
 z:∀b o,¬Γ.Z b o
 h0:Γ.lx.length=0
 m0:∀r,¬Γ.m0 r
 j:J Γ.F0 (fun b=>Y0 b\/Γ.Y b) g Γ.w0
 f0:∀b o,Γ.F0 b o->b<Γ.w0.heap.size
 cell:∀b o v,D0 b o->fQ.cell? ⟨b,o,none⟩=some v->Γ.w0.cell? ⟨b,o,none⟩=some v
 jt:∀b es c,D0 b 0->fQ.heap[b]?=some (.map es c)->Γ.w0.heap[b]?=some (.map es c)
 y0:∀b,Y0 b->Γ.w0.heap[b]?=fQ.heap[b]?
 Ot:∀b,Y0 b->b<fQ.heap.size
 size:fQ.heap.size<=Γ.w0.heap.size
 d0:∀b o,D0 b o->Γ.F0 b o
 f00:∀b o,Γ.F0 b o->D0 b o\/fQ.heap.size<=b
 own:∀b,Γ.Y b->fQ.heap.size<=b
 gl:∀b,nf b->Γ.w0.heap[b]?=fQ.heap[b]?
variable {Γ:Env Unit} {s s':AS Unit} {a:Act} {w w' w2:World} {η:List Value} {g g2:Gh}
theorem mK.DY (hB:mK P J D0 Y0 fQ nt Γ g) (hr:Rel Γ s a w η):a.defers=[]:=by
 cases hd:a.defers with
 |nil=>rfl
 |cons d l=>
  obtain⟨r,_,_,h⟩:=hr.marks.all d (by rw[hd];exact alD);exact(hB.m0 r h).elim
theorem mK.live (hr:Rel Γ s a w η):∀b,aI η s.hp b->b<w.heap.size/\(Γ.w0.heap.size<=b\/Γ.Y b):=fun b ⟨q,o,v,g1,g2,g3,g4⟩=>
 ⟨hr.heap.block g1 g2 g3 g4,(hr.bN q o v b g1 g2 g3 g4).1⟩
theorem mK.now (hC:Cons P yv J) (hB:mK P J D0 Y0 fQ nt Γ g) (hr:Rel Γ s a w η):J (aW Γ w η s.hp) (fun b=>Y0 b\/aI η s.hp b) g w:=by
 have bO:=hr.keeps.size;refine hC.Lh _ _ _ _ _ _ _ hB.j ⟨?_,hr.ext.cell,hr.ext.jt,hr.ext.bk,fun b o hf=>⟨?_,hf.2.1⟩,fun b hb=>?_⟩
 ·exact⟨hr.keeps.os,hr.keeps.tape,hr.keeps.output,bO,fun k hk hx=>hr.keeps.block k hk fun h=>h.elim (hB.x k) fun h=>hx (.inr h)⟩
 ·rcases hf.1 with h|h|h
  ·exact .inl h
  ·exact .inr (.inr h)
  ·exact .inr (.inl (.inr h))
 ·rcases hb with h|h
  ·exact⟨.inl (.inl h),by have:=hB.Ot b h;have:=hB.size;omega⟩
  ·obtain⟨h1,h2⟩:=mK.live hr b h;rcases h2 with h2|h2
   ·exact⟨.inr h2,h1⟩
   ·exact⟨.inl (.inr h2),h1⟩
def ri (Γ:Env Unit) (w2:World) (D2:Cells) (Y:Nat->Prop):Env Unit:=
 { P:=Γ.P,w0:=w2,F0:=D2,X:=fun _=>False,Y:=Y,Inv:=fun _ _=>True,nt:=Γ.nt,A1:=none,m0:=fun _=>False,Z:=fun _ _=>False,zg:=[],lx:=[] }
theorem mK.step (hC:Cons P yv J) (hB:mK P J D0 Y0 fQ nt Γ g) (hr:Rel Γ s a w η) {D2:Cells} (hj:J D2 (fun b=>Y0 b\/aI η s.hp b) g2 w2) (hl:Left (aW Γ w η s.hp) (fun b=>Y0 b\/aI η s.hp b) w D2 w2):
  mK P J D0 Y0 fQ nt (ri Γ w2 D2 (aI η s.hp)) g2/\Rel (ri Γ w2 D2 (aI η s.hp)) s a w2 η:=by
 have bO:=hr.keeps.size;have eL:=mK.live hr;have Nx:(ri Γ w2 D2 (aI η s.hp)).Ok:=⟨rfl,fun _ h=>h.elim,fun b hb=>alJ (eL b hb).1 hl.size,fun _ _ _ _ _ _=>True.intro,fun _ _ h=>h.elim,fun p hp=>by
  obtain⟨T,h1⟩:=(hr.ju hB.ok) p hp
  exact⟨T,(hl.gl p.1 ⟨p,hp,rfl⟩).trans h1⟩,fun b hb h=>h.elim (fun h=>h) (hr.gx hB.ok hb)⟩
 have oF:∀b o,D2 b o->kz η s.hp b o:=by
  intro b o hb;rcases (hl.back b o hb).1 with h|h
  ·exact h.2.2.2
  ·refine(aS b o).2 fun q u hu MK=>?_;have hq:q<s.hp.length:=by rw[<-hr.heap.len];exact(ali.1 hu).1
   have hg:s.hp[q]?=some s.hp[q]:=by simp[hq]
   refine⟨_,hg,?_⟩
   cases hx:s.hp[q] with
   |dead=>exact True.intro
   |_=>
    exfalso;rw[hx] at hg;have:=hr.heap.block hg True.intro hu MK;omega
 have he:Ext w (aW Γ w η s.hp) η s.hp w2 (aW (ri Γ w2 D2 (aI η s.hp)) w2 η s.hp) η s.hp:=
  ⟨hl.cell,hl.jt,fun b o hf=>⟨.inl (hl.bk b o hf),alJ hf.2.1 hl.size,fun h=>h.elim (fun h=>h) fun h=>h,hf.2.2.2⟩,fun _ _ h=>h,fun _ _ h=>h,fun _ _ _ h=>h⟩
 refine⟨⟨Nx,hB.hP,hB.dj,rfl,fun _ h=>h,fun _ _ h=>h,rfl,fun _ h=>h,hj,fun b o hb=>(hl.back b o hb).2,fun b o v hd hc=>?_,fun b es c hd hc=>?_,fun b hb=>?_,hB.Ot,?_,fun b o hd=>?_,fun b o hf=>?_,fun b hb=>?_,fun b hb=>(hl.gl b hb).trans ((hr.keeps.block b (hB.ok.ju.lt hb) (hB.ok.gx b hb)).trans (hB.gl b hb))⟩,
  ⟨hr.nt,fun t=>(hr.tmps t).ext he,⟨hr.heap.len,fun q o v h1 h2=>?_,hr.heap.sep⟩,fun q o v b h1 h2 h3 h4=>⟨.inr ⟨q,o,v,h1,h2,h3,h4⟩,fun _ h=>h.elim (fun h=>h) fun h=>h⟩,bZ.refl _ _,True.intro,?_,?_⟩⟩
 ·exact hl.cell b o v (hr.ext.bk _ _ (hB.d0 b o hd)) (hr.ext.cell b o v (hB.d0 b o hd) (hB.cell b o v hd hc))
 ·exact hl.jt b es c (hr.ext.bk _ _ (hB.d0 b 0 hd)) (hr.ext.jt b es c (hB.d0 b 0 hd) (hB.jt b es c hd hc))
 ·show w2.heap[b]?=_;rw[hl.blocks b (.inl hb),<-hB.y0 b hb];have h1:=hB.Ot b hb;have h2:=hB.size;exact hr.keeps.block b (by omega) fun h=>h.elim (hB.x b) fun h=>by have:=hB.own b h;omega
 ·show fQ.heap.size<=w2.heap.size;have h1:=hB.size;have h2:=hl.size;omega
 ·exact hl.bk b o (hr.ext.bk _ _ (hB.d0 b o hd))
 ·have h1:=hB.size;rcases (hl.back b o hf).1 with h|h
  ·rcases h.1 with h|h|h
   ·exact hB.f00 b o h
   ·exact .inr (by omega)
   ·exact .inr (hB.own b h)
  ·exact .inr (by omega)
 ·have h1:=hB.size;rcases (eL b hb).2 with h|h
  ·omega
  ·exact hB.own b h
 ·by_cases hv:o.live
  ·exact(hr.heap.obj q o v h1 h2).ext he hl.size fun b hb _=>hl.blocks b (.inr ⟨q,o,v,h1,hv,h2,hb⟩)
  ·cases o<;>first|exact True.intro|exact(hv True.intro).elim
 ·rw[hB.DY hr];exact⟨fun d hd=>(by cases hd),List.Pairwise.nil⟩
 ·refine⟨fun _ _ _ _ h=>h,fun _ _ _ _ h=>h,fun b o hb=>⟨.inl hb,(hl.back b o hb).2,fun h=>h.elim (fun h=>h) fun h=>h,oF b o hb⟩,fun r a h=>?_,fun r a h=>?_,fun r n v h=>?_⟩
  ·simp[ri] at h
  ·simp[ri] at h
  ·simp[ri,aR] at h
def Ak (P:Program) (J:JT) (D0:Cells) (Y0:Nat->Prop) (fQ:World) (nt:Nat) (K:AS Unit->Gh->Prop) (a':Act) (w':World):Prop:=
 ∃(r6:Env Unit) (s':AS Unit) (aO:List Value) (g':Gh),mK P J D0 Y0 fQ nt r6 g'/\K s' g'/\Rel r6 s' a' w' aO
theorem Ak.mono {K K':AS Unit->Gh->Prop} (hk:∀s g,K s g->K' s g) {a':Act} (h:Ak P J D0 Y0 fQ nt K a' w'):Ak P J D0 Y0 fQ nt K' a' w':=
 let ⟨r6,s',aO,g',h1,h2,h3⟩:=h;⟨r6,s',aO,g',h1,hk _ _ h2,h3⟩
def dv (P:Program) (J:JT) (D0:Cells) (Y0:Nat->Prop) (fQ:World) (nt:Nat) (c:Code) (Q:Exit->AS Unit->Gh->Prop) (s:AS Unit) (g:Gh):Prop:=
 ∀Γ a w η,mK P J D0 Y0 fQ nt Γ g->Rel Γ s a w η->c.wpIn Fence.wide 0 P (fun e=>Ak P J D0 Y0 fQ nt (Q e)) a w
theorem mK.eB (hB:mK P J D0 Y0 fQ nt Γ g):Γ.eB=Fence.wide:=by
 simp only[Env.eB,hB.A1];rfl
theorem dv.of {c:Code} {Q:Exit->AS Unit->Gh->Prop} (h:∀Γ:Env Unit,Γ.Ok->Γ.P=P->Γ.nt=nt->Γ.lx.length=0->ej Γ c (fun e s'=>Q e s' g) s):dv P J D0 Y0 fQ nt c Q s g:=by
 intro Γ a w η hB hr;have h1:=h Γ hB.ok hB.hP hB.dj hB.h0 a w η hr;rw[hB.eB,hB.hP] at h1;exact wpIn_mono h1 fun e a' w' ⟨s',aO,h2,h3⟩=>⟨Γ,s',aO,g,hB,h2,h3⟩
def fh (P:Program) (J:JT) (D0:Cells) (Y0:Nat->Prop) (fQ:World) (nt:Nat) (ops:Array Oper) (K:AS Unit->Gh->Prop) (l:List Oper) (s:AS Unit) (g:Gh):Prop:=
 ∀Γ a w η (Qc:Exit->Act->World->Prop),mK P J D0 Y0 fQ nt Γ g->(∀a' w',Ak P J D0 Y0 fQ nt K a' w'->Qc .normal a' w')->Rel Γ s a w η->wpListIn Fence.wide 0 P ops Qc l a w
theorem fh.nil {ops:Array Oper} {K:AS Unit->Gh->Prop} (h:K s g):fh P J D0 Y0 fQ nt ops K [] s g:=
 fun Γ a w η _ hB hQ hr=>hQ a w ⟨Γ,s,η,g,hB,h,hr⟩
theorem fh.calm {ops:Array Oper} {K N:AS Unit->Gh->Prop} {o:Oper} {rest:List Oper} (hg:∀(Γ:Env Unit) a w η,Rel Γ s a w η->Region.wanted o (yielded ops a.tmps)=true)
  (h:∀Γ:Env Unit,Γ.Ok->Γ.P=P->Γ.nt=nt->Γ.lx.length=0->bq Γ o s (fun s'=>N s' g)) (hn:∀s',N s' g->fh P J D0 Y0 fQ nt ops K rest s' g):fh P J D0 Y0 fQ nt ops K (o::rest) s g:=by
 intro Γ a w η Qc hB hQ hr;simp only[wpListIn];rw[if_pos (hg Γ a w η hr)];have h1:=h Γ hB.ok hB.hP hB.dj hB.h0 a w η (wpListIn Fence.wide 0 P ops Qc rest) Qc (fun s' a' w' aO hN fI=>hn s' hN Γ a' w' aO Qc hB hQ fI) hr;rw[hB.eB,hB.hP] at h1;exact h1
theorem fh.skip {ops:Array Oper} {K:AS Unit->Gh->Prop} {o:Oper} {rest:List Oper} (hg:∀(Γ:Env Unit) a w η,Rel Γ s a w η->Region.wanted o (yielded ops a.tmps)=false) (hd:cP nt o.dst)
  (h:fh P J D0 Y0 fQ nt ops K rest (s.put o.dst (.ae (.tuple #[]))) g):fh P J D0 Y0 fQ nt ops K (o::rest) s g:=by
 intro Γ a w η Qc hB hQ hr;simp only[wpListIn];rw[if_neg (by rw[hg Γ a w η hr];simp)];exact⟨fun _ _=>trivial,h Γ _ w η Qc hB hQ (hr.put (bT (by rw[hB.dj];exact hd)) (.ae _))⟩
theorem Rel.Jw (hB:mK P J D0 Y0 fQ nt Γ g) (hr:Rel Γ s a w η) {d:Option Nat} (hd:cP nt d) {x:AV} {v:Value} (hx:ba w (aW Γ w η s.hp) η s.hp x v):Rel Γ (s.put d x) (a.put d v) w η:=
 hr.put (bT (by rw[hB.dj];exact hd)) hx
theorem xx {o:Oper} {c:Call} {x:Operand} (ho:o.op=.call c) (hc:c.callee=.value x) {l:Nat} (hx:a.eval x=.func (.yield l) #[] #[]) {n:Next} (h:(Instr.yield l (c.args.map a.eval)).run P w=.ok n w):
  (execOp a.eval o).run P w=.ok n w:=by
 simp[execOp,ho,resolve,hc,hx,Deferred.ofValue,invoke,h]
theorem fh.yield (hC:Cons P yv J) {ops:Array Oper} {K:AS Unit->Gh->Prop} {o:Oper} {rest:List Oper} (hg:o.guard=none) {c:Call} {x:Operand} (ho:o.op=.call c) (hc:c.callee=.value x) (hx:s.ev x=.fn yv) (hd:cP nt o.dst)
  {more:List (List AV)} (Wr:g=some (((c.args.toList.map s.ev).map (AV.q9 0 s.hp))::more)) (h:∀b,fh P J D0 Y0 fQ nt ops K rest (s.put o.dst (.ae (.bool b))) (gT b more)):fh P J D0 Y0 fQ nt ops K (o::rest) s g:=by
 intro Γ a w η Qc hB hQ hr;simp only[wpListIn];rw[if_pos (by simp[Region.wanted,hg])];have hj:=hB.now hC hr;rw[Wr] at hj;have eo:=hr.ev x;rw[hx] at eo;generalize hv:a.eval x=v at eo
 cases eo with
 |fn v h1=>
 obtain⟨l,fn,tmps,xw,body,rfl,fY,rj⟩:=hC.yield _ _ _ _ _ _ hj (fun _ _=>eu) (fun b hb=>hb.elim (fun h=>by have:=hB.Ot b h;have:=hB.size;have:=hr.keeps.size;omega) fun h=>(mK.live hr b h).1) (hr.ju hB.ok) (mI hr _ _ (gn hr c.args.toList));refine⟨fun _ _=>trivial,?_⟩;have bL:∀c',o.op ≠ .defer c':=by intro c' h;rw[ho] at h;cases h
 have aw:(c.args.toList.map a.eval).toArray=c.args.map a.eval:=by apply amy;simp
 rw[aw] at fY;rw[Oper.semAt_eq _ _ _ bL,xx ho hc hv fY];refine⟨fun h=>(by cases h),?_⟩;refine RoundIn.mono rj fun e w' ⟨b,he,tA,hl⟩=>?_;subst he;obtain⟨ZM,pX⟩:=hB.step hC hr tA hl;exact h b _ _ _ _ Qc ZM hQ (pX.Jw ZM hd (.ae _))
theorem fh.call (hC:Cons P yv J) {ops:Array Oper} {K:AS Unit->Gh->Prop} {o:Oper} {rest:List Oper} (hg:o.guard=none) {c:Call} {x:Operand} (ho:o.op=.call c) (hc:c.callee=.value x) {f:FuncId} {caps:List AV} (hx:s.ev x=.bf f caps) (hd:cP nt o.dst)
  {args:AV->List AV} {L more:List (List AV)} {kind:Bool} (hF:uQ P f args L kind) (aw:((c.args.toList.map s.ev++caps).map (AV.q9 0 s.hp))=args (.fn yv)) (Wr:g=some (L++more))
  (h:∀b,fh P J D0 Y0 fQ nt ops K rest (s.put o.dst (match kind with|true=>.ae (.bool b)|false=>.top)) (gT b more)):fh P J D0 Y0 fQ nt ops K (o::rest) s g:=by
 intro Γ a w η Qc hB hQ hr;simp only[wpListIn];rw[if_pos (by simp[Region.wanted,hg])];have hj:=hB.now hC hr;rw[Wr] at hj;have eo:=hr.ev x;rw[hx] at eo;generalize hv:a.eval x=v at eo
 cases eo with
 |bf _ _ vs hl dG=>
 refine⟨fun _ _=>trivial,?_⟩;have bL:∀c',o.op ≠ .defer c':=by intro c' h;rw[ho] at h;cases h
 have ff:(execOp a.eval o).run P w=.ok (.enter f (c.args.map a.eval++vs)) w:=by
  have:=fT (Γ:=Γ) (a:=a) (w:=w) ho hc (f:=f) (by rw[hB.hP];exact hF.1) hv;rw[hB.hP] at this;exact this
 rw[Oper.semAt_eq _ _ _ bL,ff];have hav:(c.args.map a.eval++vs)=(c.args.toList.map a.eval++vs.toList).toArray:=by apply amy;simp
 have cY:bS w (aW Γ w η s.hp) η s.hp caps vs.toList:=cU (by simpa using hl) fun j y u hy hu=>dG j y u hy (by simpa using hu);have gA:=mI hr _ _ (dR _ _ (gn hr c.args.toList) cY);rw[aw] at gA;refine⟨fun h=>(by cases h),?_⟩;rw[hav];refine CallsIn.mono (hF.2 J yv hC _ _ more w _ hj (fun _ _=>eu) (fun b hb=>hb.elim (fun h=>by have:=hB.Ot b h;have:=hB.size;have:=hr.keeps.size;omega) fun h=>(mK.live hr b h).1) (hr.ju hB.ok) gA) fun e w' ⟨v,D',b,he,hv,tA,hl⟩=>?_;subst he;obtain⟨ZM,pX⟩:=hB.step hC hr tA hl;refine h b _ _ _ _ Qc ZM hQ (pX.Jw ZM hd ?_)
 cases kind with
 |true=>simp only[YR] at hv;subst hv;exact .ae _
 |false=>exact .top _
variable {Q:Exit->AS Unit->Gh->Prop}
theorem dv.region {id:Nat} {l:List Oper} (h:fh P J D0 Y0 fQ nt l.toArray (Q .normal) l s g):dv P J D0 Y0 fQ nt (.region id l.toArray false) Q s g:=
 fun Γ a w η hB hr=>wpIn_region_lit (h Γ a w η _ hB (fun _ _ h=>h) hr)
def Ou (N:AS Unit->Gh->Prop) (Q:Exit->AS Unit->Gh->Prop):Exit->AS Unit->Gh->Prop
 | .normal,s,g=>N s g
 |e,s,g=>Q e s g
def xz (id:Nat) (Q:Exit->AS Unit->Gh->Prop):Exit->AS Unit->Gh->Prop
 | .exit Xf,s,g=>if Xf=id then Q .normal s g else Q (.exit Xf) s g
 |e,s,g=>Q e s g
theorem dv.mono {c:Code} {Q':Exit->AS Unit->Gh->Prop} (h:dv P J D0 Y0 fQ nt c Q s g) (hq:∀e s g,Q e s g->Q' e s g):dv P J D0 Y0 fQ nt c Q' s g:=
 fun Γ a w η hB hr=>wpIn_mono (h Γ a w η hB hr) fun e _ _ hp=>hp.mono (hq e)
theorem dv.seq {x y:Code} (h:dv P J D0 Y0 fQ nt x (Ou (dv P J D0 Y0 fQ nt y Q) Q) s g):dv P J D0 Y0 fQ nt (.seq x y) Q s g:=by
 intro Γ a w η hB hr;refine wpIn_seq (wpIn_mono (h Γ a w η hB hr) fun e a' w' hq=>?_)
 cases e with
 |normal=>
  obtain⟨r6,s',aO,g',h1,h2,h3⟩:=hq;exact h2 r6 a' w' aO h1 h3
 |_=>exact hq
theorem dv.skip (h:Q .normal s g):dv P J D0 Y0 fQ nt .skip Q s g:=fun Γ _ _ η hB hr=>wpIn_skip ⟨Γ,s,η,g,hB,h,hr⟩
theorem dv.exit {id:Nat} (h:Q (.exit id) s g):dv P J D0 Y0 fQ nt (.exit id) Q s g:=fun Γ _ _ η hB hr=>wpIn_exit ⟨Γ,s,η,g,hB,h,hr⟩
theorem dv.ret (h:Q .ret s g):dv P J D0 Y0 fQ nt .ret Q s g:=fun Γ _ _ η hB hr=>wpIn_ret ⟨Γ,s,η,g,hB,h,hr⟩
theorem dv.label {l:Nat} (h:Q .normal s g):dv P J D0 Y0 fQ nt (.label l) Q s g:=fun Γ _ _ η hB hr=>wpIn_label ⟨Γ,s,η,g,hB,h,hr⟩
theorem dv.block {id:Nat} {c:Code} (h:dv P J D0 Y0 fQ nt c (xz id Q) s g):dv P J D0 Y0 fQ nt (.block id c) Q s g:=by
 intro Γ a w η hB hr;refine wpIn_block (wpIn_mono (h Γ a w η hB hr) fun e a' w' hq=>?_);obtain⟨r6,s',aO,g',h1,h2,h3⟩:=hq
 cases e with
 |exit Xf=>
  simp only[xz] at h2;simp only[Exit.inBlock];split
  ·rename_i hid;rw[if_pos hid] at h2;exact⟨r6,s',aO,g',h1,h2,h3⟩
  ·rename_i hid;rw[if_neg hid] at h2;exact⟨r6,s',aO,g',h1,h2,h3⟩
 |_=>exact⟨r6,s',aO,g',h1,h2,h3⟩
theorem dv.cond {c:Operand} {x y:Code} {b:Bool} (hb:s.ev c=.ae (.bool b)) (h1:b=true->dv P J D0 Y0 fQ nt x Q s g) (h2:b=false->dv P J D0 Y0 fQ nt y Q s g):dv P J D0 Y0 fQ nt (.cond c x y) Q s g:=by
 intro Γ a w η hB hr;have hc:=hr.ev c;rw[hb] at hc;exact wpIn_cond_split hc.aj (fun ht=>h1 ht Γ a w η hB hr) fun ht=>h2 ht Γ a w η hB hr
def Jx (s s':AS Unit):Prop:=∀Γ:Env Unit,Γ.Ok->Γ.lx.length=0->∀a w η,Rel Γ s a w η->∃aO,Rel Γ s' a w aO
theorem dv.rZ {c:Code} (hw:Jx s s') (h:dv P J D0 Y0 fQ nt c Q s' g):dv P J D0 Y0 fQ nt c Q s g:=
 fun Γ a w η hB hr=>let ⟨aO,fI⟩:=hw Γ hB.ok hB.h0 a w η hr;h Γ a w aO hB fI
theorem dv.loop {c:Code} {β:Type} (I:β->Prop) (st:β->AS Unit) (gh:β->Gh) (μ:β->Nat) (b0:β) (hI:I b0) (h0:Jx s (st b0)) (hg:g=gh b0)
  (round:∀b,I b->dv P J D0 Y0 fQ nt c (Ou (fun s' g'=>∃b',I b'/\Jx s' (st b')/\g'=gh b'/\μ b' < μ b) Q) (st b) (gh b)):dv P J D0 Y0 fQ nt (.loop c) Q s g:=by
 intro Γ a w η hB hr;obtain⟨zg,hr0⟩:=h0 Γ hB.ok hB.h0 a w η hr;subst hg;have key:∀(n:Nat) (b:β),I b->μ b=n->∀Γ a w η,mK P J D0 Y0 fQ nt Γ (gh b)->Rel Γ (st b) a w η->∀(f:Frame) (k:List Item) (cs:List Frame),f.roundOf=Fence.wide.round->Fence.wide.fn f.fn->Fence.wide.room (cs.length+1+0)->
   ∃e a' w',Ak P J D0 Y0 fQ nt (Q e) a' w'/\ArrivesIn (Machine.fenced P Fence.wide) P (lone (f.atR a (.code c :: .inLoop c::k)) cs w) f k cs e a' w':=by
  intro n
  induction n using Nat.strongRecOn with
  |_ n ih=>
   intro b XS hb Γ a w η hB hr f k cs qp hf eA;obtain⟨e,tU,tV,hq,fZ⟩:=round b XS Γ a w η hB hr f (.inLoop c::k) cs qp hf eA
   cases e with
   |normal=>
    obtain⟨ML,s1,nc,g1,hB1,⟨b',afe,hw',NB,aq⟩,Bi⟩:=hq;obtain⟨aff,afg⟩:=hw' ML hB1.ok hB1.h0 _ _ _ Bi;subst NB;obtain⟨XT,XU,XV,Ov,BA⟩:=ih (μ b') (hb▸aq) b' afe rfl ML tU tV aff hB1 afg f k cs qp hf eA;exact⟨XT,XU,XV,Ov,.of_steps (StepsIn.trans fZ (.one (fenced_calm hf eA rfl) stepR_inLoop)) BA⟩
   |exit id=>exact⟨_,tU,tV,hq,.pass (x:=.inLoop c) rfl (fun _ _=>.inl (by simp)) fZ⟩
   |goto l=>exact⟨_,tU,tV,hq,.pass (x:=.inLoop c) rfl (fun _ _=>.inl (by simp)) fZ⟩
   |ret=>exact⟨_,tU,tV,hq,.pass (x:=.inLoop c) rfl (fun _ _=>.inl (by simp)) fZ⟩
   |panic ch=>exact⟨_,tU,tV,hq,.pass (x:=.inLoop c) rfl (fun _ _=>.inl (by simp)) fZ⟩
   |outgrown=>exact⟨_,tU,tV,hq,.pass (x:=.inLoop c) rfl (fun _ _=>.inl (by simp)) fZ⟩
 intro f k cs qp hf eA;obtain⟨e,a',w',hq,fZ⟩:=key _ b0 hI rfl Γ a w zg hB hr0 f k cs qp hf eA;exact⟨e,a',w',hq,.of_steps (.one (fenced_calm hf eA rfl) stepR_loop) fZ⟩
end walk
def Jy (kind b:Bool) (x:AV):Prop:=
 match kind with
 |true=>x=.ae (.bool b)
 |false=>True
def Ow (tab:Nat->Option TD) (rs:List ResultVar) (kind:Bool) (more:List (List AV)):Exit->AS Unit->Gh->Prop
 | .normal,s,g | .ret,s,g=>(match ft tab s rs with
  |some l=>∃b,g=gT b more/\Jy kind b (gS l)
  |none=>False)
 |_,_,_=>False
theorem DZ {P:Program} {tab:Nat->Option TD} (ah:aL P tab) {f:FuncId} {fn:Func} {c:Code} {args:AV->List AV} {L:List (List AV)} {kind:Bool} (hf:P.funcs[f]?=some fn) (hb:fn.body=some c) (iD:(fn.name == "runtime.NumGoroutine")=false)
  (hn:∀v,(args v).length<=fn.ntmps)
  (h:∀(J:JT) (yv:Value),Cons P yv J->∀D0 Y0 fQ more,dv P J D0 Y0 fQ fn.ntmps c (Ow tab fn.results.toList kind more) ⟨dC 0 (args (.fn yv)),[],()⟩ (some (L++more))):uQ P f args L kind:=by
 refine⟨⟨fn,hf,iD,by rw[hb];rfl⟩,fun J yv hC D Y more w bg hj hD hY hgl hv=>?_⟩
 let Γ:Env Unit:={ P:=P,w0:=w,F0:=D,X:=fun _=>False,Y:=fun _=>False,Inv:=fun _ _=>True,nt:=fn.ntmps,A1:=none,m0:=fun _=>False,Z:=fun _ _=>False,zg:=[],lx:=[] }
 have al:Γ.Ok:=⟨rfl,fun _ h=>h.elim,fun _ h=>h.elim,fun _ _ _ _ _ h=>h,fun _ _ h=>h.elim,hgl,fun _ _ h=>h.elim (fun h=>h) fun h=>h⟩;have Te:=hv.length;have jc:∀b o,D b o->aW Γ w [] [] b o:=fun b o hb=>⟨.inl hb,hD b o hb,fun h=>h.elim (fun h=>h) fun h=>h,fun r v hr=>by simp at hr⟩;have hB:mK P J D Y w fn.ntmps Γ (some (L++more)):=by
  refine⟨al,rfl,rfl,rfl,fun _ h=>h,fun _ _ h=>h,rfl,fun _ h=>h,?_,hD,fun _ _ _ _ h=>h,fun _ _ _ _ h=>h,fun _ _=>rfl,hY,alp _,fun _ _ h=>h,fun _ _ h=>.inl h,fun _ h=>h.elim,fun _ _=>rfl⟩;have e:(fun b=>Y b\/Γ.Y b)=Y:=by funext b;simp[Γ]
  rw[e];exact hj
 have hrel:Rel Γ ⟨dC 0 (args (.fn yv)),[],()⟩ ⟨bg.toArray++Array.replicate (fn.ntmps-bg.toArray.size) undef,[]⟩ w []:=by
  have hna:=hn (.fn yv);refine⟨by simp[Γ];omega,fun t=>?_,⟨rfl,fun r o v h=>by simp at h,fun r r' o o' v v' b _ h=>by simp at h⟩,fun r o v b h=>by simp at h,bZ.refl _ w,True.intro,⟨fun d hd=>(by cases hd),List.Pairwise.nil⟩,⟨fun _ _ _ _ h=>h,fun _ _ _ _ h=>h,jc,fun _ _ h=>h,fun _ _ h=>h,fun _ _ _ h=>h⟩⟩;have:=w4 (hp:=[]) (η:=[]) (args (.fn yv)) bg 0 hv t;simp only[Nat.not_lt_zero,if_false,or_false,Nat.sub_zero] at this;show ba w _ _ _ _ ((bg.toArray++Array.replicate (fn.ntmps-bg.toArray.size) undef).getD t undef);rw[w5];exact this.bk jc
 have jD:=h J yv hC D Y w more Γ _ w _ hB hrel;refine callsIn_of_wp_marks (F:=Fence.wide) hf hb trivial (wpIn_mono (F:=Fence.wide) jD fun e a' w' ⟨r6,s',aO,g',CX,hq,fI⟩=>?_);have fin:(∃l,ft tab s' fn.results.toList=some l/\∃b,g'=gT b more/\Jy kind b (gS l))->
   LeavesInM Fence.wide 0 P fn a'.tmps (fun e w'=>∃v D' b,e=.returned v/\YR kind b v/\J D' Y (gT b more) w'/\Left D Y w D' w') a'.defers .returning w':=by
  intro ⟨l,hl,b,NB,hR⟩;have hd:=CX.DY fI;obtain⟨ts,ds⟩:=a';simp only at hd;subst hd;obtain⟨v,h1,h2⟩:=oO (fn:=fn) (by rw[CX.hP];exact ah) fI hl;rw[CX.hP] at h1;have tA:=CX.now hC fI;have bO:=fI.keeps.size;have hB0:=CX.size;refine⟨v,h1,v,aW r6 w' aO s'.hp,b,rfl,?_,?_,⟨by omega,fun k o u hk hc=>?_,fun k es c hk hc=>?_,fun k hk=>?_,fun k o hk=>?_,fun k o hk=>⟨?_,hk.2.1⟩,fun k hk=>(fI.keeps.block k (CX.ok.ju.lt hk) (CX.ok.gx k hk)).trans (CX.gl k hk)⟩⟩
  ·cases kind with
   |true=>simp only[Jy] at hR;rw[hR] at h2;exact h2.aj
   |false=>exact True.intro
  ·rw[<-NB];refine hC.Lh _ _ _ _ _ _ _ tA ⟨bZ.refl _ _,fun _ _ _ _ h=>h,fun _ _ _ _ h=>h,fun _ _ h=>h,fun k o h=>⟨.inl h,h.2.1⟩,fun k hk=>⟨.inl (.inl hk),?_⟩⟩;have:=hY k hk;omega
  ·exact fI.ext.cell k o u (CX.d0 k o hk) (CX.cell k o u hk hc)
  ·exact fI.ext.jt k es c (CX.d0 k 0 hk) (CX.jt k es c hk hc)
  ·rw[<-CX.y0 k hk];have:=hY k hk;exact fI.keeps.block k (by omega) fun h=>h.elim (CX.x k) fun h=>by have:=CX.own k h;omega
  ·exact fI.ext.bk _ _ (CX.d0 k o hk)
  ·rcases hk.1 with h|h|h
   ·exact CX.f00 k o h
   ·exact .inr (by omega)
   ·exact .inr (CX.own k h)
 cases e with
 |normal=>
  simp only[Ow] at hq;split at hq
  ·rename_i l hl;exact fin ⟨l,hl,hq⟩
  ·exact hq.elim
 |ret=>
  simp only[Ow] at hq;split at hq
  ·rename_i l hl;exact fin ⟨l,hl,hq⟩
  ·exact hq.elim
 |_=>exact hq.elim
end Go.Proofs.YtnkjkpmbgoehkaaGreat
