/- Texts of ours laid together for a claim: FilY. -/
import Derived.RangeFuncIn
import Derived.Test.YtdcikhleahfknaaGreatDoorQ24
namespace Go.Proofs.YtdcikhleahfknaaGreatDoor
open Go
set_option linter.unusedSimpArgs false
set_option linter.unusedVariables false
abbrev Cells:=Nat→Nat→Prop
abbrev Gh:=Option (List (List AV))
def gT (b:Bool) (rest:List (List AV)):Gh:=
 match b with
 |true=>some rest
 |false=>none
structure Adv (D:Cells) (Y:Nat→Prop) (w:World) (D':Cells) (Y':Nat→Prop) (w':World):Prop where
 same:bo Y w w'
 cell:∀b o v,D b o→w.cell? ⟨b,o,none⟩=some v→w'.cell? ⟨b,o,none⟩=some v
 gp:∀b es c,D b 0→w.heap[b]?=some (.map es c)→w'.heap[b]?=some (.map es c)
 bb:∀b o,D b o→D' b o
 back:∀b o,D' b o→(D b o∨Y b∨w.heap.size≤b)∧b<w'.heap.size
 Q1:∀b,Y' b→(Y b∨w.heap.size≤b)∧b<w'.heap.size
structure Left (D:Cells) (Y:Nat→Prop) (w:World) (D':Cells) (w':World):Prop where
 size:w.heap.size≤w'.heap.size
 cell:∀b o v,D b o→w.cell? ⟨b,o,none⟩=some v→w'.cell? ⟨b,o,none⟩=some v
 gp:∀b es c,D b 0→w.heap[b]?=some (.map es c)→w'.heap[b]?=some (.map es c)
 blocks:∀b,Y b→w'.heap[b]?=w.heap[b]?
 bb:∀b o,D b o→D' b o
 back:∀b o,D' b o→(D b o∨w.heap.size≤b)∧b<w'.heap.size
 gl:∀b,ly b→w'.heap[b]?=w.heap[b]?
def Kb (P:Program) (yv:Value) (aU:List Value) (w:World) (R:Ending→World→Prop):Prop:=
 ∃l fn tmps uU body,yv=.func (.yield l) #[] #[]∧(Instr.yield l aU.toArray).run P w=.ok (.round l fn tmps uU body) w∧RoundIn Fence.wide 0 P l fn tmps uU body w R
abbrev JT:=Cells→(Nat→Prop)→Gh→World→Prop
structure Cons (P:Program) (yv:Value) (J:JT):Prop where
 abc:yv.oneCell'=true
 Hp:∀D Y g w D' Y' w',J D Y g w→Adv D Y w D' Y' w'→J D' Y' g w'
 yield:∀(D:Cells) (Y:Nat→Prop) x rest w aU,J D Y (some (x::rest)) w→(∀b o,D b o→b<w.heap.size)→(∀b,Y b→b<w.heap.size)→mH w→bM w D [] [] x aU→
  Kb P yv aU w fun e w'=>∃b,e=.returned (.bool b)∧J D Y (gT b rest) w'∧Left D Y w D w'
def YR (kind:Bool) (b:Bool) (v:Value):Prop:=
 match kind with
 |true=>v=.bool b
 |false=>True
def wu (P:Program) (f:FuncId) (args:AV→List AV) (L:List (List AV)) (kind:Bool):Prop:=
 gU P f∧∀(J:JT) (yv:Value),Cons P yv J→∀(D:Cells) (Y:Nat→Prop) (rest:List (List AV)) (w:World) (aU:List Value),
  J D Y (some (L++rest)) w→(∀b o,D b o→b<w.heap.size)→(∀b,Y b→b<w.heap.size)→mH w→bM w D [] [] (args (.fn yv)) aU→
  CallsIn Fence.wide 0 P f aU.toArray w fun e w'=>∃v D' b,e=.returned v∧YR kind b v∧J D' Y (gT b rest) w'∧Left D Y w D' w'
section walk
variable {P:Program} {yv:Value} {J:JT} {D0:Cells} {Y0:Nat→Prop} {eS:World} {nt:Nat}
structure k8 (P:Program) (J:JT) (D0:Cells) (Y0:Nat→Prop) (eS:World) (nt:Nat) (Γ:Env Unit) (g:Gh):Prop where
 ok:Γ.Ok
 hP:Γ.P=P
 cC:Γ.nt=nt
 wP:Γ.wP=none
 x:∀b,¬Γ.X b
 z:∀b o,¬Γ.Z b o
 h0:Γ.iV.length=0
 m0:∀r,¬Γ.m0 r
 j:J Γ.F0 (fun b=>Y0 b∨Γ.Y b) g Γ.w0
 f0:∀b o,Γ.F0 b o→b<Γ.w0.heap.size
 cell:∀b o v,D0 b o→eS.cell? ⟨b,o,none⟩=some v→Γ.w0.cell? ⟨b,o,none⟩=some v
 gp:∀b es c,D0 b 0→eS.heap[b]?=some (.map es c)→Γ.w0.heap[b]?=some (.map es c)
 y0:∀b,Y0 b→Γ.w0.heap[b]?=eS.heap[b]?
 Kd:∀b,Y0 b→b<eS.heap.size
 size:eS.heap.size≤Γ.w0.heap.size
 d0:∀b o,D0 b o→Γ.F0 b o
 f00:∀b o,Γ.F0 b o→D0 b o∨eS.heap.size≤b
 own:∀b,Γ.Y b→eS.heap.size≤b
 gl:∀b,ly b→Γ.w0.heap[b]?=eS.heap[b]?
variable {Γ:Env Unit} {s s':AS Unit} {a:Act} {w w' w2:World} {η:List Value} {g g2:Gh}
theorem k8.Bx (hB:k8 P J D0 Y0 eS nt Γ g) (hr:Rel Γ s a w η):a.defers=[]:=by
 cases hd:a.defers with
 |nil=>rfl
 |cons d l=>
  obtain⟨r,_,_,h⟩:=hr.marks.all d (by rw[hd];exact List.mem_cons_self)
  exact(hB.m0 r h).elim
theorem k8.live (hr:Rel Γ s a w η):∀b,aE η s.hp b→b<w.heap.size∧(Γ.w0.heap.size≤b∨Γ.Y b):=fun b ⟨q,o,v,g1,g2,g3,g4⟩=>
 ⟨hr.heap.block g1 g2 g3 g4,(hr.bA q o v b g1 g2 g3 g4).1⟩
theorem k8.now (hC:Cons P yv J) (hB:k8 P J D0 Y0 eS nt Γ g) (hr:Rel Γ s a w η):J (aW Γ w η s.hp) (fun b=>Y0 b∨aE η s.hp b) g w:=by
 have bC:=hr.keeps.size
 refine hC.Hp _ _ _ _ _ _ _ hB.j ⟨?_,hr.ext.cell,hr.ext.gp,hr.ext.bb,fun b o hf=>⟨?_,hf.2.1⟩,fun b hb=>?_⟩
 ·exact⟨hr.keeps.os,hr.keeps.tape,hr.keeps.output,bC,fun k hk hx=>hr.keeps.block k hk fun h=>h.elim (hB.x k) fun h=>hx (.inr h)⟩
 ·rcases hf.1 with h|h|h
  ·exact .inl h
  ·exact .inr (.inr h)
  ·exact .inr (.inl (.inr h))
 ·rcases hb with h|h
  ·exact⟨.inl (.inl h),by have:=hB.Kd b h;have:=hB.size;omega⟩
  ·obtain⟨h1,h2⟩:=k8.live hr b h
   rcases h2 with h2|h2
   ·exact⟨.inr h2,h1⟩
   ·exact⟨.inl (.inr h2),h1⟩
def o8 (Γ:Env Unit) (w2:World) (D2:Cells) (Y:Nat→Prop):Env Unit:=
 { P:=Γ.P,w0:=w2,F0:=D2,X:=fun _=>False,Y:=Y,Inv:=fun _ _=>True,nt:=Γ.nt,wP:=none,m0:=fun _=>False,Z:=fun _ _=>False,vZ:=[],iV:=[] }
theorem k8.step (hC:Cons P yv J) (hB:k8 P J D0 Y0 eS nt Γ g) (hr:Rel Γ s a w η) {D2:Cells} (hj:J D2 (fun b=>Y0 b∨aE η s.hp b) g2 w2) (hl:Left (aW Γ w η s.hp) (fun b=>Y0 b∨aE η s.hp b) w D2 w2):
  k8 P J D0 Y0 eS nt (o8 Γ w2 D2 (aE η s.hp)) g2∧Rel (o8 Γ w2 D2 (aE η s.hp)) s a w2 η:=by
 have bC:=hr.keeps.size
 have dw:=k8.live hr
 have Jq:(o8 Γ w2 D2 (aE η s.hp)).Ok:=⟨rfl,fun _ h=>h.elim,fun b hb=>Nat.lt_of_lt_of_le (dw b hb).1 hl.size,fun _ _ _ _ _ _=>True.intro,fun _ _ h=>h.elim,fun p hp=>by
  obtain⟨T,h1⟩:=(hr.gz hB.ok) p hp
  exact⟨T,(hl.gl p.1 ⟨p,hp,rfl⟩).trans h1⟩,fun b hb h=>h.elim (fun h=>h) (hr.gx hB.ok hb)⟩
 have kx:∀b o,D2 b o→gO η s.hp b o:=by
  intro b o hb
  rcases (hl.back b o hb).1 with h|h
  ·exact h.2.2.2
  ·refine(aR b o).2 fun q u hu IK=>?_
   have hq:q<s.hp.length:=by rw[←hr.heap.len];exact(List.getElem?_eq_some_iff.1 hu).1
   have hg:s.hp[q]?=some s.hp[q]:=by simp[hq]
   refine⟨_,hg,?_⟩
   cases hx:s.hp[q] with
   |dead=>exact True.intro
   |_=>
    exfalso
    rw[hx] at hg
    have:=hr.heap.block hg True.intro hu IK
    omega
 have he:Ext w (aW Γ w η s.hp) η s.hp w2 (aW (o8 Γ w2 D2 (aE η s.hp)) w2 η s.hp) η s.hp:=
  ⟨hl.cell,hl.gp,fun b o hf=>⟨.inl (hl.bb b o hf),Nat.lt_of_lt_of_le hf.2.1 hl.size,fun h=>h.elim (fun h=>h) fun h=>h,hf.2.2.2⟩,fun _ _ h=>h,fun _ _ h=>h,fun _ _ _ h=>h⟩
 refine⟨⟨Jq,hB.hP,hB.cC,rfl,fun _ h=>h,fun _ _ h=>h,rfl,fun _ h=>h,hj,fun b o hb=>(hl.back b o hb).2,fun b o v hd hc=>?_,fun b es c hd hc=>?_,fun b hb=>?_,hB.Kd,?_,fun b o hd=>?_,fun b o hf=>?_,fun b hb=>?_,fun b hb=>(hl.gl b hb).trans ((hr.keeps.block b (hB.ok.gz.lt hb) (hB.ok.gx b hb)).trans (hB.gl b hb))⟩,
  ⟨hr.nt,fun t=>(hr.tmps t).ext he,⟨hr.heap.len,fun q o v h1 h2=>?_,hr.heap.sep⟩,fun q o v b h1 h2 h3 h4=>⟨.inr ⟨q,o,v,h1,h2,h3,h4⟩,fun _ h=>h.elim (fun h=>h) fun h=>h⟩,bo.refl _ _,True.intro,?_,?_⟩⟩
 ·exact hl.cell b o v (hr.ext.bb _ _ (hB.d0 b o hd)) (hr.ext.cell b o v (hB.d0 b o hd) (hB.cell b o v hd hc))
 ·exact hl.gp b es c (hr.ext.bb _ _ (hB.d0 b 0 hd)) (hr.ext.gp b es c (hB.d0 b 0 hd) (hB.gp b es c hd hc))
 ·show w2.heap[b]?=_
  rw[hl.blocks b (.inl hb),←hB.y0 b hb]
  have h1:=hB.Kd b hb
  have h2:=hB.size
  exact hr.keeps.block b (by omega) fun h=>h.elim (hB.x b) fun h=>by have:=hB.own b h;omega
 ·show eS.heap.size≤w2.heap.size
  have h1:=hB.size
  have h2:=hl.size
  omega
 ·exact hl.bb b o (hr.ext.bb _ _ (hB.d0 b o hd))
 ·have h1:=hB.size
  rcases (hl.back b o hf).1 with h|h
  ·rcases h.1 with h|h|h
   ·exact hB.f00 b o h
   ·exact .inr (by omega)
   ·exact .inr (hB.own b h)
  ·exact .inr (by omega)
 ·have h1:=hB.size
  rcases (dw b hb).2 with h|h
  ·omega
  ·exact hB.own b h
 ·by_cases hv:o.live
  ·exact(hr.heap.obj q o v h1 h2).ext he hl.size fun b hb _=>hl.blocks b (.inr ⟨q,o,v,h1,hv,h2,hb⟩)
  ·cases o<;>first|exact True.intro|exact(hv True.intro).elim
 ·rw[hB.Bx hr];exact⟨fun d hd=>(by cases hd),List.Pairwise.nil⟩
 ·refine⟨fun _ _ _ _ h=>h,fun _ _ _ _ h=>h,fun b o hb=>⟨.inl hb,(hl.back b o hb).2,fun h=>h.elim (fun h=>h) fun h=>h,kx b o hb⟩,fun r a h=>?_,fun r a h=>?_,fun r n v h=>?_⟩
  ·simp[o8] at h
  ·simp[o8] at h
  ·simp[o8,aT] at h
def xa (P:Program) (J:JT) (D0:Cells) (Y0:Nat→Prop) (eS:World) (nt:Nat) (K:AS Unit→Gh→Prop) (a':Act) (w':World):Prop:=
 ∃(pU:Env Unit) (s':AS Unit) (aH:List Value) (g':Gh),k8 P J D0 Y0 eS nt pU g'∧K s' g'∧Rel pU s' a' w' aH
theorem xa.mono {K K':AS Unit→Gh→Prop} (hk:∀s g,K s g→K' s g) {a':Act} (h:xa P J D0 Y0 eS nt K a' w'):xa P J D0 Y0 eS nt K' a' w':=
 let ⟨pU,s',aH,g',h1,h2,h3⟩:=h;⟨pU,s',aH,g',h1,hk _ _ h2,h3⟩
def cM (P:Program) (J:JT) (D0:Cells) (Y0:Nat→Prop) (eS:World) (nt:Nat) (c:Code) (Q:Exit→AS Unit→Gh→Prop) (s:AS Unit) (g:Gh):Prop:=
 ∀Γ a w η,k8 P J D0 Y0 eS nt Γ g→Rel Γ s a w η→c.wpIn Fence.wide 0 P (fun e=>xa P J D0 Y0 eS nt (Q e)) a w
theorem k8.dM (hB:k8 P J D0 Y0 eS nt Γ g):Γ.dM=Fence.wide:=by
 simp only[Env.dM,hB.wP];rfl
theorem cM.of {c:Code} {Q:Exit→AS Unit→Gh→Prop} (h:∀Γ:Env Unit,Γ.Ok→Γ.P=P→Γ.nt=nt→Γ.iV.length=0→dG Γ c (fun e s'=>Q e s' g) s):cM P J D0 Y0 eS nt c Q s g:=by
 intro Γ a w η hB hr
 have h1:=h Γ hB.ok hB.hP hB.cC hB.h0 a w η hr
 rw[hB.dM,hB.hP] at h1
 exact wpIn_mono h1 fun e a' w' ⟨s',aH,h2,h3⟩=>⟨Γ,s',aH,g,hB,h2,h3⟩
def eh (P:Program) (J:JT) (D0:Cells) (Y0:Nat→Prop) (eS:World) (nt:Nat) (ops:Array Oper) (K:AS Unit→Gh→Prop) (l:List Oper) (s:AS Unit) (g:Gh):Prop:=
 ∀Γ a w η (Qc:Exit→Act→World→Prop),k8 P J D0 Y0 eS nt Γ g→(∀a' w',xa P J D0 Y0 eS nt K a' w'→Qc .normal a' w')→Rel Γ s a w η→wpListIn Fence.wide 0 P ops Qc l a w
theorem eh.nil {ops:Array Oper} {K:AS Unit→Gh→Prop} (h:K s g):eh P J D0 Y0 eS nt ops K [] s g:=
 fun Γ a w η _ hB hQ hr=>hQ a w ⟨Γ,s,η,g,hB,h,hr⟩
theorem eh.calm {ops:Array Oper} {K N:AS Unit→Gh→Prop} {o:Oper} {rest:List Oper} (hg:∀(Γ:Env Unit) a w η,Rel Γ s a w η→Region.wanted o (yielded ops a.tmps)=true)
  (h:∀Γ:Env Unit,Γ.Ok→Γ.P=P→Γ.nt=nt→Γ.iV.length=0→bn Γ o s (fun s'=>N s' g)) (hn:∀s',N s' g→eh P J D0 Y0 eS nt ops K rest s' g):eh P J D0 Y0 eS nt ops K (o::rest) s g:=by
 intro Γ a w η Qc hB hQ hr
 simp only[wpListIn]
 rw[if_pos (hg Γ a w η hr)]
 have h1:=h Γ hB.ok hB.hP hB.cC hB.h0 a w η (wpListIn Fence.wide 0 P ops Qc rest) Qc (fun s' a' w' aH hN ec=>hn s' hN Γ a' w' aH Qc hB hQ ec) hr
 rw[hB.dM,hB.hP] at h1
 exact h1
theorem eh.skip {ops:Array Oper} {K:AS Unit→Gh→Prop} {o:Oper} {rest:List Oper} (hg:∀(Γ:Env Unit) a w η,Rel Γ s a w η→Region.wanted o (yielded ops a.tmps)=false) (hd:cx nt o.dst)
  (h:eh P J D0 Y0 eS nt ops K rest (s.put o.dst (.ae (.tuple #[]))) g):eh P J D0 Y0 eS nt ops K (o::rest) s g:=by
 intro Γ a w η Qc hB hQ hr
 simp only[wpListIn]
 rw[if_neg (by rw[hg Γ a w η hr];simp)]
 exact⟨fun _ _=>trivial,h Γ _ w η Qc hB hQ (hr.put (bN (by rw[hB.cC];exact hd)) (.ae _))⟩
theorem Rel.F8 (hB:k8 P J D0 Y0 eS nt Γ g) (hr:Rel Γ s a w η) {d:Option Nat} (hd:cx nt d) {x:AV} {v:Value} (hx:aY w (aW Γ w η s.hp) η s.hp x v):Rel Γ (s.put d x) (a.put d v) w η:=
 hr.put (bN (by rw[hB.cC];exact hd)) hx
theorem uV {o:Oper} {c:Call} {x:Operand} (ho:o.op=.call c) (hc:c.callee=.value x) {l:Nat} (hx:a.eval x=.func (.yield l) #[] #[]) {n:Next} (h:(Instr.yield l (c.args.map a.eval)).run P w=.ok n w):
  (execOp a.eval o).run P w=.ok n w:=by
 simp[execOp,ho,resolve,hc,hx,Deferred.ofValue,invoke,h]
theorem eh.yield (hC:Cons P yv J) {ops:Array Oper} {K:AS Unit→Gh→Prop} {o:Oper} {rest:List Oper} (hg:o.guard=none) {c:Call} {x:Operand} (ho:o.op=.call c) (hc:c.callee=.value x) (hx:s.ev x=.fn yv) (hd:cx nt o.dst)
  {more:List (List AV)} (Q2:g=some (((c.args.toList.map s.ev).map (AV.oZ 0 s.hp))::more)) (h:∀b,eh P J D0 Y0 eS nt ops K rest (s.put o.dst (.ae (.bool b))) (gT b more)):eh P J D0 Y0 eS nt ops K (o::rest) s g:=by
 intro Γ a w η Qc hB hQ hr
 simp only[wpListIn]
 rw[if_pos (by simp[Region.wanted,hg])]
 have hj:=hB.now hC hr
 rw[Q2] at hj
 have dC:=hr.ev x
 rw[hx] at dC
 generalize hv:a.eval x=v at dC
 cases dC with
 |fn v h1=>
 obtain⟨l,fn,tmps,uU,body,rfl,eV,o9⟩:=hC.yield _ _ _ _ _ _ hj (fun _ _=>dL) (fun b hb=>hb.elim (fun h=>by have:=hB.Kd b h;have:=hB.size;have:=hr.keeps.size;omega) fun h=>(k8.live hr b h).1) (hr.gz hB.ok) (kX hr _ _ (ft hr c.args.toList))
 refine⟨fun _ _=>trivial,?_⟩
 have bh:∀c',o.op ≠ .defer c':=by intro c' h;rw[ho] at h;cases h
 have aw:(c.args.toList.map a.eval).toArray=c.args.map a.eval:=by apply Array.ext';simp
 rw[aw] at eV
 rw[Oper.semAt_eq _ _ _ bh,uV ho hc hv eV]
 refine⟨fun h=>(by cases h),?_⟩
 refine RoundIn.mono o9 fun e w' ⟨b,he,pE,hl⟩=>?_
 subst he
 obtain⟨Uy,lr⟩:=hB.step hC hr pE hl
 exact h b _ _ _ _ Qc Uy hQ (lr.F8 Uy hd (.ae _))
theorem eh.call (hC:Cons P yv J) {ops:Array Oper} {K:AS Unit→Gh→Prop} {o:Oper} {rest:List Oper} (hg:o.guard=none) {c:Call} {x:Operand} (ho:o.op=.call c) (hc:c.callee=.value x) {f:FuncId} {caps:List AV} (hx:s.ev x=.aK f caps) (hd:cx nt o.dst)
  {args:AV→List AV} {L more:List (List AV)} {kind:Bool} (hF:wu P f args L kind) (aw:((c.args.toList.map s.ev++caps).map (AV.oZ 0 s.hp))=args (.fn yv)) (Q2:g=some (L++more))
  (h:∀b,eh P J D0 Y0 eS nt ops K rest (s.put o.dst (match kind with|true=>.ae (.bool b)|false=>.top)) (gT b more)):eh P J D0 Y0 eS nt ops K (o::rest) s g:=by
 intro Γ a w η Qc hB hQ hr
 simp only[wpListIn]
 rw[if_pos (by simp[Region.wanted,hg])]
 have hj:=hB.now hC hr
 rw[Q2] at hj
 have dC:=hr.ev x
 rw[hx] at dC
 generalize hv:a.eval x=v at dC
 cases dC with
 |aK _ _ vs hl cE=>
 refine⟨fun _ _=>trivial,?_⟩
 have bh:∀c',o.op ≠ .defer c':=by intro c' h;rw[ho] at h;cases h
 have jc:(execOp a.eval o).run P w=.ok (.enter f (c.args.map a.eval++vs)) w:=by
  have:=eX (Γ:=Γ) (a:=a) (w:=w) ho hc (f:=f) (by rw[hB.hP];exact hF.1) hv
  rw[hB.hP] at this
  exact this
 rw[Oper.semAt_eq _ _ _ bh,jc]
 have Yp:(c.args.map a.eval++vs)=(c.args.toList.map a.eval++vs.toList).toArray:=by apply Array.ext';simp
 have cS:bM w (aW Γ w η s.hp) η s.hp caps vs.toList:=cf (by simpa using hl) fun j y u hy hu=>cE j y u hy (by simpa using hu)
 have fC:=kX hr _ _ (dx _ _ (ft hr c.args.toList) cS)
 rw[aw] at fC
 refine⟨fun h=>(by cases h),?_⟩
 rw[Yp]
 refine CallsIn.mono (hF.2 J yv hC _ _ more w _ hj (fun _ _=>dL) (fun b hb=>hb.elim (fun h=>by have:=hB.Kd b h;have:=hB.size;have:=hr.keeps.size;omega) fun h=>(k8.live hr b h).1) (hr.gz hB.ok) fC) fun e w' ⟨v,D',b,he,hv,pE,hl⟩=>?_
 subst he
 obtain⟨Uy,lr⟩:=hB.step hC hr pE hl
 refine h b _ _ _ _ Qc Uy hQ (lr.F8 Uy hd ?_)
 cases kind with
 |true=>simp only[YR] at hv;subst hv;exact .ae _
 |false=>exact .top _
variable {Q:Exit→AS Unit→Gh→Prop}
theorem cM.region {id:Nat} {l:List Oper} (h:eh P J D0 Y0 eS nt l.toArray (Q .normal) l s g):cM P J D0 Y0 eS nt (.region id l.toArray false) Q s g:=
 fun Γ a w η hB hr=>wpIn_region_lit (h Γ a w η _ hB (fun _ _ h=>h) hr)
def Ke (N:AS Unit→Gh→Prop) (Q:Exit→AS Unit→Gh→Prop):Exit→AS Unit→Gh→Prop
 | .normal,s,g=>N s g
 |e,s,g=>Q e s g
def uW (id:Nat) (Q:Exit→AS Unit→Gh→Prop):Exit→AS Unit→Gh→Prop
 | .exit RK,s,g=>if RK=id then Q .normal s g else Q (.exit RK) s g
 |e,s,g=>Q e s g
theorem cM.mono {c:Code} {Q':Exit→AS Unit→Gh→Prop} (h:cM P J D0 Y0 eS nt c Q s g) (hq:∀e s g,Q e s g→Q' e s g):cM P J D0 Y0 eS nt c Q' s g:=
 fun Γ a w η hB hr=>wpIn_mono (h Γ a w η hB hr) fun e _ _ hp=>hp.mono (hq e)
theorem cM.seq {x y:Code} (h:cM P J D0 Y0 eS nt x (Ke (cM P J D0 Y0 eS nt y Q) Q) s g):cM P J D0 Y0 eS nt (.seq x y) Q s g:=by
 intro Γ a w η hB hr
 refine wpIn_seq (wpIn_mono (h Γ a w η hB hr) fun e a' w' hq=>?_)
 cases e with
 |normal=>
  obtain⟨pU,s',aH,g',h1,h2,h3⟩:=hq
  exact h2 pU a' w' aH h1 h3
 |_=>exact hq
theorem cM.skip (h:Q .normal s g):cM P J D0 Y0 eS nt .skip Q s g:=fun Γ _ _ η hB hr=>wpIn_skip ⟨Γ,s,η,g,hB,h,hr⟩
theorem cM.exit {id:Nat} (h:Q (.exit id) s g):cM P J D0 Y0 eS nt (.exit id) Q s g:=fun Γ _ _ η hB hr=>wpIn_exit ⟨Γ,s,η,g,hB,h,hr⟩
theorem cM.ret (h:Q .ret s g):cM P J D0 Y0 eS nt .ret Q s g:=fun Γ _ _ η hB hr=>wpIn_ret ⟨Γ,s,η,g,hB,h,hr⟩
theorem cM.label {l:Nat} (h:Q .normal s g):cM P J D0 Y0 eS nt (.label l) Q s g:=fun Γ _ _ η hB hr=>wpIn_label ⟨Γ,s,η,g,hB,h,hr⟩
theorem cM.block {id:Nat} {c:Code} (h:cM P J D0 Y0 eS nt c (uW id Q) s g):cM P J D0 Y0 eS nt (.block id c) Q s g:=by
 intro Γ a w η hB hr
 refine wpIn_block (wpIn_mono (h Γ a w η hB hr) fun e a' w' hq=>?_)
 obtain⟨pU,s',aH,g',h1,h2,h3⟩:=hq
 cases e with
 |exit RK=>
  simp only[uW] at h2
  simp only[Exit.inBlock]
  split
  ·rename_i hid;rw[if_pos hid] at h2;exact⟨pU,s',aH,g',h1,h2,h3⟩
  ·rename_i hid;rw[if_neg hid] at h2;exact⟨pU,s',aH,g',h1,h2,h3⟩
 |_=>exact⟨pU,s',aH,g',h1,h2,h3⟩
theorem cM.cond {c:Operand} {x y:Code} {b:Bool} (hb:s.ev c=.ae (.bool b)) (h1:b=true→cM P J D0 Y0 eS nt x Q s g) (h2:b=false→cM P J D0 Y0 eS nt y Q s g):cM P J D0 Y0 eS nt (.cond c x y) Q s g:=by
 intro Γ a w η hB hr
 have hc:=hr.ev c
 rw[hb] at hc
 exact wpIn_cond_split hc.al (fun ht=>h1 ht Γ a w η hB hr) fun ht=>h2 ht Γ a w η hB hr
def F9 (s s':AS Unit):Prop:=∀Γ:Env Unit,Γ.Ok→Γ.iV.length=0→∀a w η,Rel Γ s a w η→∃aH,Rel Γ s' a w aH
theorem cM.pS {c:Code} (hw:F9 s s') (h:cM P J D0 Y0 eS nt c Q s' g):cM P J D0 Y0 eS nt c Q s g:=
 fun Γ a w η hB hr=>let ⟨aH,ec⟩:=hw Γ hB.ok hB.h0 a w η hr;h Γ a w aH hB ec
theorem cM.loop {c:Code} {β:Type} (I:β→Prop) (st:β→AS Unit) (gh:β→Gh) (μ:β→Nat) (b0:β) (hI:I b0) (h0:F9 s (st b0)) (hg:g=gh b0)
  (round:∀b,I b→cM P J D0 Y0 eS nt c (Ke (fun s' g'=>∃b',I b'∧F9 s' (st b')∧g'=gh b'∧μ b' < μ b) Q) (st b) (gh b)):cM P J D0 Y0 eS nt (.loop c) Q s g:=by
 intro Γ a w η hB hr
 obtain⟨vZ,hr0⟩:=h0 Γ hB.ok hB.h0 a w η hr
 subst hg
 have key:∀(n:Nat) (b:β),I b→μ b=n→∀Γ a w η,k8 P J D0 Y0 eS nt Γ (gh b)→Rel Γ (st b) a w η→∀(f:Frame) (k:List Item) (cs:List Frame),f.roundOf=Fence.wide.round→Fence.wide.fn f.fn→Fence.wide.room (cs.length+1+0)→
   ∃e a' w',xa P J D0 Y0 eS nt (Q e) a' w'∧ArrivesIn (Machine.fenced P Fence.wide) P (lone (f.atR a (.code c :: .inLoop c::k)) cs w) f k cs e a' w':=by
  intro n
  induction n using Nat.strongRecOn with
  |_ n ih=>
   intro b St hb Γ a w η hB hr f k cs ox hf eB
   obtain⟨e,rq,rr,hq,gA⟩:=round b St Γ a w η hB hr f (.inLoop c::k) cs ox hf eB
   cases e with
   |normal=>
    obtain⟨IL,s1,iU,g1,Yq,⟨b',Yr,X0,An,ak⟩,DC⟩:=hq
    obtain⟨Ys,Yt⟩:=X0 IL Yq.ok Yq.h0 _ _ _ DC
    subst An
    obtain⟨Su,Sv,Sw,Kf,yy⟩:=ih (μ b') (hb▸ak) b' Yr rfl IL rq rr Ys Yq Yt f k cs ox hf eB
    exact⟨Su,Sv,Sw,Kf,.of_steps (StepsIn.trans gA (.one (fenced_calm hf eB rfl) stepR_inLoop)) yy⟩
   |exit id=>exact⟨_,rq,rr,hq,.pass (x:=.inLoop c) rfl (fun _ _=>.inl (by simp)) gA⟩
   |goto l=>exact⟨_,rq,rr,hq,.pass (x:=.inLoop c) rfl (fun _ _=>.inl (by simp)) gA⟩
   |ret=>exact⟨_,rq,rr,hq,.pass (x:=.inLoop c) rfl (fun _ _=>.inl (by simp)) gA⟩
   |panic ch=>exact⟨_,rq,rr,hq,.pass (x:=.inLoop c) rfl (fun _ _=>.inl (by simp)) gA⟩
   |outgrown=>exact⟨_,rq,rr,hq,.pass (x:=.inLoop c) rfl (fun _ _=>.inl (by simp)) gA⟩
 intro f k cs ox hf eB
 obtain⟨e,a',w',hq,gA⟩:=key _ b0 hI rfl Γ a w vZ hB hr0 f k cs ox hf eB
 exact⟨e,a',w',hq,.of_steps (.one (fenced_calm hf eB rfl) stepR_loop) gA⟩
end walk
def Ga (kind b:Bool) (x:AV):Prop:=
 match kind with
 |true=>x=.ae (.bool b)
 |false=>True
def Kg (tab:Nat→Option TD) (rs:List ResultVar) (kind:Bool) (more:List (List AV)):Exit→AS Unit→Gh→Prop
 | .normal,s,g | .ret,s,g=>(match dN tab s rs with
  |some l=>∃b,g=gT b more∧Ga kind b (fw l)
  |none=>False)
 |_,_,_=>False
theorem By {P:Program} {tab:Nat→Option TD} (ah:aQ P tab) {f:FuncId} {fn:Func} {c:Code} {args:AV→List AV} {L:List (List AV)} {kind:Bool} (hf:P.funcs[f]?=some fn) (hb:fn.body=some c) (eZ:(fn.name == "runtime.NumGoroutine")=false)
  (hn:∀v,(args v).length≤fn.ntmps)
  (h:∀(J:JT) (yv:Value),Cons P yv J→∀D0 Y0 eS more,cM P J D0 Y0 eS fn.ntmps c (Kg tab fn.results.toList kind more) ⟨ck 0 (args (.fn yv)),[],()⟩ (some (L++more))):wu P f args L kind:=by
 refine⟨⟨fn,hf,eZ,by rw[hb];rfl⟩,fun J yv hC D Y more w aU hj hD hY N0 hv=>?_⟩
 let Γ:Env Unit:={ P:=P,w0:=w,F0:=D,X:=fun _=>False,Y:=fun _=>False,Inv:=fun _ _=>True,nt:=fn.ntmps,wP:=none,m0:=fun _=>False,Z:=fun _ _=>False,vZ:=[],iV:=[] }
 have ao:Γ.Ok:=⟨rfl,fun _ h=>h.elim,fun _ h=>h.elim,fun _ _ _ _ _ h=>h,fun _ _ h=>h.elim,N0,fun _ _ h=>h.elim (fun h=>h) fun h=>h⟩
 have MZ:=hv.length
 have dT:∀b o,D b o→aW Γ w [] [] b o:=fun b o hb=>⟨.inl hb,hD b o hb,fun h=>h.elim (fun h=>h) fun h=>h,fun r v hr=>by simp at hr⟩
 have hB:k8 P J D Y w fn.ntmps Γ (some (L++more)):=by
  refine⟨ao,rfl,rfl,rfl,fun _ h=>h,fun _ _ h=>h,rfl,fun _ h=>h,?_,hD,fun _ _ _ _ h=>h,fun _ _ _ _ h=>h,fun _ _=>rfl,hY,Nat.le_refl _,fun _ _ h=>h,fun _ _ h=>.inl h,fun _ h=>h.elim,fun _ _=>rfl⟩
  have e:(fun b=>Y b∨Γ.Y b)=Y:=by funext b;simp[Γ]
  rw[e];exact hj
 have hrel:Rel Γ ⟨ck 0 (args (.fn yv)),[],()⟩ ⟨aU.toArray++Array.replicate (fn.ntmps-aU.toArray.size) undef,[]⟩ w []:=by
  have hna:=hn (.fn yv)
  refine⟨by simp[Γ];omega,fun t=>?_,⟨rfl,fun r o v h=>by simp at h,fun r r' o o' v v' b _ h=>by simp at h⟩,fun r o v b h=>by simp at h,bo.refl _ w,True.intro,⟨fun d hd=>(by cases hd),List.Pairwise.nil⟩,⟨fun _ _ _ _ h=>h,fun _ _ _ _ h=>h,dT,fun _ _ h=>h,fun _ _ h=>h,fun _ _ _ h=>h⟩⟩
  have:=uz (hp:=[]) (η:=[]) (args (.fn yv)) aU 0 hv t
  simp only[Nat.not_lt_zero,if_false,or_false,Nat.sub_zero] at this
  show aY w _ _ _ _ ((aU.toArray++Array.replicate (fn.ntmps-aU.toArray.size) undef).getD t undef)
  rw[uA]
  exact this.bb dT
 have fa:=h J yv hC D Y w more Γ _ w _ hB hrel
 refine callsIn_of_wp_marks (F:=Fence.wide) hf hb trivial (wpIn_mono (F:=Fence.wide) fa fun e a' w' ⟨pU,s',aH,g',Ao,hq,ec⟩=>?_)
 have fin:(∃l,dN tab s' fn.results.toList=some l∧∃b,g'=gT b more∧Ga kind b (fw l))→
   LeavesInM Fence.wide 0 P fn a'.tmps (fun e w'=>∃v D' b,e=.returned v∧YR kind b v∧J D' Y (gT b more) w'∧Left D Y w D' w') a'.defers .returning w':=by
  intro ⟨l,hl,b,An,hR⟩
  have hd:=Ao.Bx ec
  obtain⟨ts,ds⟩:=a'
  simp only at hd
  subst hd
  obtain⟨v,h1,h2⟩:=jL (fn:=fn) (by rw[Ao.hP];exact ah) ec hl
  rw[Ao.hP] at h1
  have pE:=Ao.now hC ec
  have bC:=ec.keeps.size
  have hB0:=Ao.size
  refine⟨v,h1,v,aW pU w' aH s'.hp,b,rfl,?_,?_,⟨by omega,fun k o u hk hc=>?_,fun k es c hk hc=>?_,fun k hk=>?_,fun k o hk=>?_,fun k o hk=>⟨?_,hk.2.1⟩,fun k hk=>(ec.keeps.block k (Ao.ok.gz.lt hk) (Ao.ok.gx k hk)).trans (Ao.gl k hk)⟩⟩
  ·cases kind with
   |true=>simp only[Ga] at hR;rw[hR] at h2;exact h2.al
   |false=>exact True.intro
  ·rw[←An]
   refine hC.Hp _ _ _ _ _ _ _ pE ⟨bo.refl _ _,fun _ _ _ _ h=>h,fun _ _ _ _ h=>h,fun _ _ h=>h,fun k o h=>⟨.inl h,h.2.1⟩,fun k hk=>⟨.inl (.inl hk),?_⟩⟩
   have:=hY k hk;omega
  ·exact ec.ext.cell k o u (Ao.d0 k o hk) (Ao.cell k o u hk hc)
  ·exact ec.ext.gp k es c (Ao.d0 k 0 hk) (Ao.gp k es c hk hc)
  ·rw[←Ao.y0 k hk]
   have:=hY k hk
   exact ec.keeps.block k (by omega) fun h=>h.elim (Ao.x k) fun h=>by have:=Ao.own k h;omega
  ·exact ec.ext.bb _ _ (Ao.d0 k o hk)
  ·rcases hk.1 with h|h|h
   ·exact Ao.f00 k o h
   ·exact .inr (by omega)
   ·exact .inr (Ao.own k h)
 cases e with
 |normal=>
  simp only[Kg] at hq
  split at hq
  ·rename_i l hl;exact fin ⟨l,hl,hq⟩
  ·exact hq.elim
 |ret=>
  simp only[Kg] at hq
  split at hq
  ·rename_i l hl;exact fin ⟨l,hl,hq⟩
  ·exact hq.elim
 |_=>exact hq.elim
end Go.Proofs.YtdcikhleahfknaaGreatDoor
