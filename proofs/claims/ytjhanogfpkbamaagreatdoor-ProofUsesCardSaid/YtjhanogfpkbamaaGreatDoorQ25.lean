/- Texts of ours laid together for a claim: FilY. -/
import Derived.RangeFuncIn
import Derived.Test.YtjhanogfpkbamaaGreatDoorQ24
namespace Go.Proofs.YtjhanogfpkbamaaGreatDoor
open Go
set_option linter.unusedSimpArgs false
set_option linter.unusedVariables false
abbrev Cells:=Nat→Nat→Prop
abbrev Gh:=Option (List (List AV))
def gT (b:Bool) (rest:List (List AV)):Gh:=
 match b with
 |true=>some rest
 |false=>none
structure Adv (D:Cells) (Y:Nat→Prop) (w:World) (D':Cells) (Y':Nat→Prop) (w':World):Prop where
 same:cD Y w w'
 cell:∀b o v,D b o→w.cell? ⟨b,o,none⟩=some v→w'.cell? ⟨b,o,none⟩=some v
 kJ:∀b es c,D b 0→w.heap[b]?=some (.map es c)→w'.heap[b]?=some (.map es c)
 bD:∀b o,D b o→D' b o
 back:∀b o,D' b o→(D b o∨Y b∨w.heap.size≤b)∧b<w'.heap.size
 Ve:∀b,Y' b→(Y b∨w.heap.size≤b)∧b<w'.heap.size
structure Left (D:Cells) (Y:Nat→Prop) (w:World) (D':Cells) (w':World):Prop where
 size:w.heap.size≤w'.heap.size
 cell:∀b o v,D b o→w.cell? ⟨b,o,none⟩=some v→w'.cell? ⟨b,o,none⟩=some v
 kJ:∀b es c,D b 0→w.heap[b]?=some (.map es c)→w'.heap[b]?=some (.map es c)
 blocks:∀b,Y b→w'.heap[b]?=w.heap[b]?
 bD:∀b o,D b o→D' b o
 back:∀b o,D' b o→(D b o∨w.heap.size≤b)∧b<w'.heap.size
 gl:∀b,nJ b→w'.heap[b]?=w.heap[b]?
def NN (P:Program) (yv:Value) (bB:List Value) (w:World) (R:Ending→World→Prop):Prop:=
 ∃l fn tmps yY body,yv=.func (.yield l) #[] #[]∧(Instr.yield l bB.toArray).run P w=.ok (.round l fn tmps yY body) w∧RoundIn Fence.wide 0 P l fn tmps yY body w R
abbrev JT:=Cells→(Nat→Prop)→Gh→World→Prop
structure Cons (P:Program) (yv:Value) (J:JT):Prop where
 aeT:yv.oneCell'=true
 Lb:∀D Y g w D' Y' w',J D Y g w→Adv D Y w D' Y' w'→J D' Y' g w'
 yield:∀(D:Cells) (Y:Nat→Prop) x rest w bB,J D Y (some (x::rest)) w→(∀b o,D b o→b<w.heap.size)→(∀b,Y b→b<w.heap.size)→pF w→cH w D [] [] x bB→
  NN P yv bB w fun e w'=>∃b,e=.returned (.bool b)∧J D Y (gT b rest) w'∧Left D Y w D w'
def YR (kind:Bool) (b:Bool) (v:Value):Prop:=
 match kind with
 |true=>v=.bool b
 |false=>True
def NP (P:Program) (f:FuncId) (args:AV→List AV) (L:List (List AV)) (kind:Bool):Prop:=
 mQ P f∧∀(J:JT) (yv:Value),Cons P yv J→∀(D:Cells) (Y:Nat→Prop) (rest:List (List AV)) (w:World) (bB:List Value),
  J D Y (some (L++rest)) w→(∀b o,D b o→b<w.heap.size)→(∀b,Y b→b<w.heap.size)→pF w→cH w D [] [] (args (.fn yv)) bB→
  CallsIn Fence.wide 0 P f bB.toArray w fun e w'=>∃v D' b,e=.returned v∧YR kind b v∧J D' Y (gT b rest) w'∧Left D Y w D' w'
section walk
variable {P:Program} {yv:Value} {J:JT} {D0:Cells} {Y0:Nat→Prop} {gB:World} {nt:Nat}
structure nk (P:Program) (J:JT) (D0:Cells) (Y0:Nat→Prop) (gB:World) (nt:Nat) (Γ:Env Unit) (g:Gh):Prop where
 ok:Γ.Ok
 hP:Γ.P=P
 dI:Γ.nt=nt
 Bw:Γ.Bw=none
 x:∀b,¬Γ.X b
 z:∀b o,¬Γ.Z b o
 h0:Γ.oQ.length=0
 m0:∀r,¬Γ.m0 r
 j:J Γ.F0 (fun b=>Y0 b∨Γ.Y b) g Γ.w0
 f0:∀b o,Γ.F0 b o→b<Γ.w0.heap.size
 cell:∀b o v,D0 b o→gB.cell? ⟨b,o,none⟩=some v→Γ.w0.cell? ⟨b,o,none⟩=some v
 kJ:∀b es c,D0 b 0→gB.heap[b]?=some (.map es c)→Γ.w0.heap[b]?=some (.map es c)
 y0:∀b,Y0 b→Γ.w0.heap[b]?=gB.heap[b]?
 NQ:∀b,Y0 b→b<gB.heap.size
 size:gB.heap.size≤Γ.w0.heap.size
 d0:∀b o,D0 b o→Γ.F0 b o
 f00:∀b o,Γ.F0 b o→D0 b o∨gB.heap.size≤b
 own:∀b,Γ.Y b→gB.heap.size≤b
 gl:∀b,nJ b→Γ.w0.heap[b]?=gB.heap[b]?
variable {Γ:Env Unit} {s s':AS Unit} {a:Act} {w w' w2:World} {η:List Value} {g g2:Gh}
theorem nk.EL (hB:nk P J D0 Y0 gB nt Γ g) (hr:Rel Γ s a w η):a.defers=[]:=by
 cases hd:a.defers with
 |nil=>rfl
 |cons d l=>
  obtain⟨r,_,_,h⟩:=hr.marks.all d (by rw[hd];exact aia)
  exact(hB.m0 r h).elim
theorem nk.live (hr:Rel Γ s a w η):∀b,aQ η s.hp b→b<w.heap.size∧(Γ.w0.heap.size≤b∨Γ.Y b):=fun b ⟨q,o,v,g1,g2,g3,g4⟩=>
 ⟨hr.heap.block g1 g2 g3 g4,(hr.cE q o v b g1 g2 g3 g4).1⟩
theorem nk.now (hC:Cons P yv J) (hB:nk P J D0 Y0 gB nt Γ g) (hr:Rel Γ s a w η):J (bn Γ w η s.hp) (fun b=>Y0 b∨aQ η s.hp b) g w:=by
 have cJ:=hr.keeps.size
 refine hC.Lb _ _ _ _ _ _ _ hB.j ⟨?_,hr.ext.cell,hr.ext.kJ,hr.ext.bD,fun b o hf=>⟨?_,hf.2.1⟩,fun b hb=>?_⟩
 ·exact⟨hr.keeps.os,hr.keeps.tape,hr.keeps.output,cJ,fun k hk hx=>hr.keeps.block k hk fun h=>h.elim (hB.x k) fun h=>hx (.inr h)⟩
 ·rcases hf.1 with h|h|h
  ·exact .inl h
  ·exact .inr (.inr h)
  ·exact .inr (.inl (.inr h))
 ·rcases hb with h|h
  ·exact⟨.inl (.inl h),by have:=hB.NQ b h;have:=hB.size;omega⟩
  ·obtain⟨h1,h2⟩:=nk.live hr b h
   rcases h2 with h2|h2
   ·exact⟨.inr h2,h1⟩
   ·exact⟨.inl (.inr h2),h1⟩
def sy (Γ:Env Unit) (w2:World) (D2:Cells) (Y:Nat→Prop):Env Unit:=
 { P:=Γ.P,w0:=w2,F0:=D2,X:=fun _=>False,Y:=Y,Inv:=fun _ _=>True,nt:=Γ.nt,Bw:=none,m0:=fun _=>False,Z:=fun _ _=>False,zY:=[],oQ:=[] }
theorem nk.step (hC:Cons P yv J) (hB:nk P J D0 Y0 gB nt Γ g) (hr:Rel Γ s a w η) {D2:Cells} (hj:J D2 (fun b=>Y0 b∨aQ η s.hp b) g2 w2) (hl:Left (bn Γ w η s.hp) (fun b=>Y0 b∨aQ η s.hp b) w D2 w2):
  nk P J D0 Y0 gB nt (sy Γ w2 D2 (aQ η s.hp)) g2∧Rel (sy Γ w2 D2 (aQ η s.hp)) s a w2 η:=by
 have cJ:=hr.keeps.size
 have fo:=nk.live hr
 have uW:(sy Γ w2 D2 (aQ η s.hp)).Ok:=⟨rfl,fun _ h=>h.elim,fun b hb=>aiD (fo b hb).1 hl.size,fun _ _ _ _ _ _=>True.intro,fun _ _ h=>h.elim,fun p hp=>by
  obtain⟨T,h1⟩:=(hr.kg hB.ok) p hp
  exact⟨T,(hl.gl p.1 ⟨p,hp,rfl⟩).trans h1⟩,fun b hb h=>h.elim (fun h=>h) (hr.gx hB.ok hb)⟩
 have pR:∀b o,D2 b o→mB η s.hp b o:=by
  intro b o hb
  rcases (hl.back b o hb).1 with h|h
  ·exact h.2.2.2
  ·refine(aZ b o).2 fun q u hu Mg=>?_
   have hq:q<s.hp.length:=by rw[←hr.heap.len];exact(ahY.1 hu).1
   have hg:s.hp[q]?=some s.hp[q]:=by simp[hq]
   refine⟨_,hg,?_⟩
   cases hx:s.hp[q] with
   |dead=>exact True.intro
   |_=>
    exfalso
    rw[hx] at hg
    have:=hr.heap.block hg True.intro hu Mg
    omega
 have he:Ext w (bn Γ w η s.hp) η s.hp w2 (bn (sy Γ w2 D2 (aQ η s.hp)) w2 η s.hp) η s.hp:=
  ⟨hl.cell,hl.kJ,fun b o hf=>⟨.inl (hl.bD b o hf),aiD hf.2.1 hl.size,fun h=>h.elim (fun h=>h) fun h=>h,hf.2.2.2⟩,fun _ _ h=>h,fun _ _ h=>h,fun _ _ _ h=>h⟩
 refine⟨⟨uW,hB.hP,hB.dI,rfl,fun _ h=>h,fun _ _ h=>h,rfl,fun _ h=>h,hj,fun b o hb=>(hl.back b o hb).2,fun b o v hd hc=>?_,fun b es c hd hc=>?_,fun b hb=>?_,hB.NQ,?_,fun b o hd=>?_,fun b o hf=>?_,fun b hb=>?_,fun b hb=>(hl.gl b hb).trans ((hr.keeps.block b (hB.ok.kg.lt hb) (hB.ok.gx b hb)).trans (hB.gl b hb))⟩,
  ⟨hr.nt,fun t=>(hr.tmps t).ext he,⟨hr.heap.len,fun q o v h1 h2=>?_,hr.heap.sep⟩,fun q o v b h1 h2 h3 h4=>⟨.inr ⟨q,o,v,h1,h2,h3,h4⟩,fun _ h=>h.elim (fun h=>h) fun h=>h⟩,cD.refl _ _,True.intro,?_,?_⟩⟩
 ·exact hl.cell b o v (hr.ext.bD _ _ (hB.d0 b o hd)) (hr.ext.cell b o v (hB.d0 b o hd) (hB.cell b o v hd hc))
 ·exact hl.kJ b es c (hr.ext.bD _ _ (hB.d0 b 0 hd)) (hr.ext.kJ b es c (hB.d0 b 0 hd) (hB.kJ b es c hd hc))
 ·show w2.heap[b]?=_
  rw[hl.blocks b (.inl hb),←hB.y0 b hb]
  have h1:=hB.NQ b hb
  have h2:=hB.size
  exact hr.keeps.block b (by omega) fun h=>h.elim (hB.x b) fun h=>by have:=hB.own b h;omega
 ·show gB.heap.size≤w2.heap.size
  have h1:=hB.size
  have h2:=hl.size
  omega
 ·exact hl.bD b o (hr.ext.bD _ _ (hB.d0 b o hd))
 ·have h1:=hB.size
  rcases (hl.back b o hf).1 with h|h
  ·rcases h.1 with h|h|h
   ·exact hB.f00 b o h
   ·exact .inr (by omega)
   ·exact .inr (hB.own b h)
  ·exact .inr (by omega)
 ·have h1:=hB.size
  rcases (fo b hb).2 with h|h
  ·omega
  ·exact hB.own b h
 ·by_cases hv:o.live
  ·exact(hr.heap.obj q o v h1 h2).ext he hl.size fun b hb _=>hl.blocks b (.inr ⟨q,o,v,h1,hv,h2,hb⟩)
  ·cases o<;>first|exact True.intro|exact(hv True.intro).elim
 ·rw[hB.EL hr];exact⟨fun d hd=>(by cases hd),List.Pairwise.nil⟩
 ·refine⟨fun _ _ _ _ h=>h,fun _ _ _ _ h=>h,fun b o hb=>⟨.inl hb,(hl.back b o hb).2,fun h=>h.elim (fun h=>h) fun h=>h,pR b o hb⟩,fun r a h=>?_,fun r a h=>?_,fun r n v h=>?_⟩
  ·simp[sy] at h
  ·simp[sy] at h
  ·simp[sy,aY] at h
def AP (P:Program) (J:JT) (D0:Cells) (Y0:Nat→Prop) (gB:World) (nt:Nat) (K:AS Unit→Gh→Prop) (a':Act) (w':World):Prop:=
 ∃(tr:Env Unit) (s':AS Unit) (aU:List Value) (g':Gh),nk P J D0 Y0 gB nt tr g'∧K s' g'∧Rel tr s' a' w' aU
theorem AP.mono {K K':AS Unit→Gh→Prop} (hk:∀s g,K s g→K' s g) {a':Act} (h:AP P J D0 Y0 gB nt K a' w'):AP P J D0 Y0 gB nt K' a' w':=
 let ⟨tr,s',aU,g',h1,h2,h3⟩:=h;⟨tr,s',aU,g',h1,hk _ _ h2,h3⟩
def dM (P:Program) (J:JT) (D0:Cells) (Y0:Nat→Prop) (gB:World) (nt:Nat) (c:Code) (Q:Exit→AS Unit→Gh→Prop) (s:AS Unit) (g:Gh):Prop:=
 ∀Γ a w η,nk P J D0 Y0 gB nt Γ g→Rel Γ s a w η→c.wpIn Fence.wide 0 P (fun e=>AP P J D0 Y0 gB nt (Q e)) a w
theorem nk.eV (hB:nk P J D0 Y0 gB nt Γ g):Γ.eV=Fence.wide:=by
 simp only[Env.eV,hB.Bw];rfl
theorem dM.of {c:Code} {Q:Exit→AS Unit→Gh→Prop} (h:∀Γ:Env Unit,Γ.Ok→Γ.P=P→Γ.nt=nt→Γ.oQ.length=0→eM Γ c (fun e s'=>Q e s' g) s):dM P J D0 Y0 gB nt c Q s g:=by
 intro Γ a w η hB hr
 have h1:=h Γ hB.ok hB.hP hB.dI hB.h0 a w η hr
 rw[hB.eV,hB.hP] at h1
 exact wpIn_mono h1 fun e a' w' ⟨s',aU,h2,h3⟩=>⟨Γ,s',aU,g,hB,h2,h3⟩
def fL (P:Program) (J:JT) (D0:Cells) (Y0:Nat→Prop) (gB:World) (nt:Nat) (ops:Array Oper) (K:AS Unit→Gh→Prop) (l:List Oper) (s:AS Unit) (g:Gh):Prop:=
 ∀Γ a w η (Qc:Exit→Act→World→Prop),nk P J D0 Y0 gB nt Γ g→(∀a' w',AP P J D0 Y0 gB nt K a' w'→Qc .normal a' w')→Rel Γ s a w η→wpListIn Fence.wide 0 P ops Qc l a w
theorem fL.nil {ops:Array Oper} {K:AS Unit→Gh→Prop} (h:K s g):fL P J D0 Y0 gB nt ops K [] s g:=
 fun Γ a w η _ hB hQ hr=>hQ a w ⟨Γ,s,η,g,hB,h,hr⟩
theorem fL.calm {ops:Array Oper} {K N:AS Unit→Gh→Prop} {o:Oper} {rest:List Oper} (hg:∀(Γ:Env Unit) a w η,Rel Γ s a w η→Region.wanted o (yielded ops a.tmps)=true)
  (h:∀Γ:Env Unit,Γ.Ok→Γ.P=P→Γ.nt=nt→Γ.oQ.length=0→bR Γ o s (fun s'=>N s' g)) (hn:∀s',N s' g→fL P J D0 Y0 gB nt ops K rest s' g):fL P J D0 Y0 gB nt ops K (o::rest) s g:=by
 intro Γ a w η Qc hB hQ hr
 simp only[wpListIn]
 rw[if_pos (hg Γ a w η hr)]
 have h1:=h Γ hB.ok hB.hP hB.dI hB.h0 a w η (wpListIn Fence.wide 0 P ops Qc rest) Qc (fun s' a' w' aU hN fZ=>hn s' hN Γ a' w' aU Qc hB hQ fZ) hr
 rw[hB.eV,hB.hP] at h1
 exact h1
theorem fL.skip {ops:Array Oper} {K:AS Unit→Gh→Prop} {o:Oper} {rest:List Oper} (hg:∀(Γ:Env Unit) a w η,Rel Γ s a w η→Region.wanted o (yielded ops a.tmps)=false) (hd:dB nt o.dst)
  (h:fL P J D0 Y0 gB nt ops K rest (s.put o.dst (.ah (.tuple #[]))) g):fL P J D0 Y0 gB nt ops K (o::rest) s g:=by
 intro Γ a w η Qc hB hQ hr
 simp only[wpListIn]
 rw[if_neg (by rw[hg Γ a w η hr];simp)]
 exact⟨fun _ _=>trivial,h Γ _ w η Qc hB hQ (hr.put (cA (by rw[hB.dI];exact hd)) (.ah _))⟩
theorem Rel.Jp (hB:nk P J D0 Y0 gB nt Γ g) (hr:Rel Γ s a w η) {d:Option Nat} (hd:dB nt d) {x:AV} {v:Value} (hx:bw w (bn Γ w η s.hp) η s.hp x v):Rel Γ (s.put d x) (a.put d v) w η:=
 hr.put (cA (by rw[hB.dI];exact hd)) hx
theorem yZ {o:Oper} {c:Call} {x:Operand} (ho:o.op=.call c) (hc:c.callee=.value x) {l:Nat} (hx:a.eval x=.func (.yield l) #[] #[]) {n:Next} (h:(Instr.yield l (c.args.map a.eval)).run P w=.ok n w):
  (execOp a.eval o).run P w=.ok n w:=by
 simp[execOp,ho,resolve,hc,hx,Deferred.ofValue,invoke,h]
theorem fL.yield (hC:Cons P yv J) {ops:Array Oper} {K:AS Unit→Gh→Prop} {o:Oper} {rest:List Oper} (hg:o.guard=none) {c:Call} {x:Operand} (ho:o.op=.call c) (hc:c.callee=.value x) (hx:s.ev x=.fn yv) (hd:dB nt o.dst)
  {more:List (List AV)} (Vf:g=some (((c.args.toList.map s.ev).map (AV.sn 0 s.hp))::more)) (h:∀b,fL P J D0 Y0 gB nt ops K rest (s.put o.dst (.ah (.bool b))) (gT b more)):fL P J D0 Y0 gB nt ops K (o::rest) s g:=by
 intro Γ a w η Qc hB hQ hr
 simp only[wpListIn]
 rw[if_pos (by simp[Region.wanted,hg])]
 have hj:=hB.now hC hr
 rw[Vf] at hj
 have eU:=hr.ev x
 rw[hx] at eU
 generalize hv:a.eval x=v at eU
 cases eU with
 |fn v h1=>
 obtain⟨l,fn,tmps,yY,body,rfl,gM,sA⟩:=hC.yield _ _ _ _ _ _ hj (fun _ _=>fz) (fun b hb=>hb.elim (fun h=>by have:=hB.NQ b h;have:=hB.size;have:=hr.keeps.size;omega) fun h=>(nk.live hr b h).1) (hr.kg hB.ok) (nh hr _ _ (hO hr c.args.toList))
 refine⟨fun _ _=>trivial,?_⟩
 have bK:∀c',o.op ≠ .defer c':=by intro c' h;rw[ho] at h;cases h
 have aI:(c.args.toList.map a.eval).toArray=c.args.map a.eval:=by apply ajm;simp
 rw[aI] at gM
 rw[Oper.semAt_eq _ _ _ bK,yZ ho hc hv gM]
 refine⟨fun h=>(by cases h),?_⟩
 refine RoundIn.mono sA fun e w' ⟨b,he,vD,hl⟩=>?_
 subst he
 obtain⟨Yk,nH⟩:=hB.step hC hr vD hl
 exact h b _ _ _ _ Qc Yk hQ (nH.Jp Yk hd (.ah _))
theorem fL.call (hC:Cons P yv J) {ops:Array Oper} {K:AS Unit→Gh→Prop} {o:Oper} {rest:List Oper} (hg:o.guard=none) {c:Call} {x:Operand} (ho:o.op=.call c) (hc:c.callee=.value x) {f:FuncId} {caps:List AV} (hx:s.ev x=.ck f caps) (hd:dB nt o.dst)
  {args:AV→List AV} {L more:List (List AV)} {kind:Bool} (hF:NP P f args L kind) (aI:((c.args.toList.map s.ev++caps).map (AV.sn 0 s.hp))=args (.fn yv)) (Vf:g=some (L++more))
  (h:∀b,fL P J D0 Y0 gB nt ops K rest (s.put o.dst (match kind with|true=>.ah (.bool b)|false=>.top)) (gT b more)):fL P J D0 Y0 gB nt ops K (o::rest) s g:=by
 intro Γ a w η Qc hB hQ hr
 simp only[wpListIn]
 rw[if_pos (by simp[Region.wanted,hg])]
 have hj:=hB.now hC hr
 rw[Vf] at hj
 have eU:=hr.ev x
 rw[hx] at eU
 generalize hv:a.eval x=v at eU
 cases eU with
 |ck _ _ vs hl ec=>
 refine⟨fun _ _=>trivial,?_⟩
 have bK:∀c',o.op ≠ .defer c':=by intro c' h;rw[ho] at h;cases h
 have mR:(execOp a.eval o).run P w=.ok (.enter f (c.args.map a.eval++vs)) w:=by
  have:=gC (Γ:=Γ) (a:=a) (w:=w) ho hc (f:=f) (by rw[hB.hP];exact hF.1) hv
  rw[hB.hP] at this
  exact this
 rw[Oper.semAt_eq _ _ _ bK,mR]
 have hav:(c.args.map a.eval++vs)=(c.args.toList.map a.eval++vs.toList).toArray:=by apply ajm;simp
 have eu:cH w (bn Γ w η s.hp) η s.hp caps vs.toList:=dF (by simpa using hl) fun j y u hy hu=>ec j y u hy (by simpa using hu)
 have iC:=nh hr _ _ (eD _ _ (hO hr c.args.toList) eu)
 rw[aI] at iC
 refine⟨fun h=>(by cases h),?_⟩
 rw[hav]
 refine CallsIn.mono (hF.2 J yv hC _ _ more w _ hj (fun _ _=>fz) (fun b hb=>hb.elim (fun h=>by have:=hB.NQ b h;have:=hB.size;have:=hr.keeps.size;omega) fun h=>(nk.live hr b h).1) (hr.kg hB.ok) iC) fun e w' ⟨v,D',b,he,hv,vD,hl⟩=>?_
 subst he
 obtain⟨Yk,nH⟩:=hB.step hC hr vD hl
 refine h b _ _ _ _ Qc Yk hQ (nH.Jp Yk hd ?_)
 cases kind with
 |true=>simp only[YR] at hv;subst hv;exact .ah _
 |false=>exact .top _
variable {Q:Exit→AS Unit→Gh→Prop}
theorem dM.region {id:Nat} {l:List Oper} (h:fL P J D0 Y0 gB nt l.toArray (Q .normal) l s g):dM P J D0 Y0 gB nt (.region id l.toArray false) Q s g:=
 fun Γ a w η hB hr=>wpIn_region_lit (h Γ a w η _ hB (fun _ _ h=>h) hr)
def NR (N:AS Unit→Gh→Prop) (Q:Exit→AS Unit→Gh→Prop):Exit→AS Unit→Gh→Prop
 | .normal,s,g=>N s g
 |e,s,g=>Q e s g
def y5 (id:Nat) (Q:Exit→AS Unit→Gh→Prop):Exit→AS Unit→Gh→Prop
 | .exit VO,s,g=>if VO=id then Q .normal s g else Q (.exit VO) s g
 |e,s,g=>Q e s g
theorem dM.mono {c:Code} {Q':Exit→AS Unit→Gh→Prop} (h:dM P J D0 Y0 gB nt c Q s g) (hq:∀e s g,Q e s g→Q' e s g):dM P J D0 Y0 gB nt c Q' s g:=
 fun Γ a w η hB hr=>wpIn_mono (h Γ a w η hB hr) fun e _ _ hp=>hp.mono (hq e)
theorem dM.seq {x y:Code} (h:dM P J D0 Y0 gB nt x (NR (dM P J D0 Y0 gB nt y Q) Q) s g):dM P J D0 Y0 gB nt (.seq x y) Q s g:=by
 intro Γ a w η hB hr
 refine wpIn_seq (wpIn_mono (h Γ a w η hB hr) fun e a' w' hq=>?_)
 cases e with
 |normal=>
  obtain⟨tr,s',aU,g',h1,h2,h3⟩:=hq
  exact h2 tr a' w' aU h1 h3
 |_=>exact hq
theorem dM.skip (h:Q .normal s g):dM P J D0 Y0 gB nt .skip Q s g:=fun Γ _ _ η hB hr=>wpIn_skip ⟨Γ,s,η,g,hB,h,hr⟩
theorem dM.exit {id:Nat} (h:Q (.exit id) s g):dM P J D0 Y0 gB nt (.exit id) Q s g:=fun Γ _ _ η hB hr=>wpIn_exit ⟨Γ,s,η,g,hB,h,hr⟩
theorem dM.ret (h:Q .ret s g):dM P J D0 Y0 gB nt .ret Q s g:=fun Γ _ _ η hB hr=>wpIn_ret ⟨Γ,s,η,g,hB,h,hr⟩
theorem dM.label {l:Nat} (h:Q .normal s g):dM P J D0 Y0 gB nt (.label l) Q s g:=fun Γ _ _ η hB hr=>wpIn_label ⟨Γ,s,η,g,hB,h,hr⟩
theorem dM.block {id:Nat} {c:Code} (h:dM P J D0 Y0 gB nt c (y5 id Q) s g):dM P J D0 Y0 gB nt (.block id c) Q s g:=by
 intro Γ a w η hB hr
 refine wpIn_block (wpIn_mono (h Γ a w η hB hr) fun e a' w' hq=>?_)
 obtain⟨tr,s',aU,g',h1,h2,h3⟩:=hq
 cases e with
 |exit VO=>
  simp only[y5] at h2
  simp only[Exit.inBlock]
  split
  ·rename_i hid;rw[if_pos hid] at h2;exact⟨tr,s',aU,g',h1,h2,h3⟩
  ·rename_i hid;rw[if_neg hid] at h2;exact⟨tr,s',aU,g',h1,h2,h3⟩
 |_=>exact⟨tr,s',aU,g',h1,h2,h3⟩
theorem dM.cond {c:Operand} {x y:Code} {b:Bool} (hb:s.ev c=.ah (.bool b)) (h1:b=true→dM P J D0 Y0 gB nt x Q s g) (h2:b=false→dM P J D0 Y0 gB nt y Q s g):dM P J D0 Y0 gB nt (.cond c x y) Q s g:=by
 intro Γ a w η hB hr
 have hc:=hr.ev c
 rw[hb] at hc
 exact wpIn_cond_split hc.aE (fun ht=>h1 ht Γ a w η hB hr) fun ht=>h2 ht Γ a w η hB hr
def Jq (s s':AS Unit):Prop:=∀Γ:Env Unit,Γ.Ok→Γ.oQ.length=0→∀a w η,Rel Γ s a w η→∃aU,Rel Γ s' a w aU
theorem dM.tj {c:Code} (hw:Jq s s') (h:dM P J D0 Y0 gB nt c Q s' g):dM P J D0 Y0 gB nt c Q s g:=
 fun Γ a w η hB hr=>let ⟨aU,fZ⟩:=hw Γ hB.ok hB.h0 a w η hr;h Γ a w aU hB fZ
theorem dM.loop {c:Code} {β:Type} (I:β→Prop) (st:β→AS Unit) (gh:β→Gh) (μ:β→Nat) (b0:β) (hI:I b0) (h0:Jq s (st b0)) (hg:g=gh b0)
  (round:∀b,I b→dM P J D0 Y0 gB nt c (NR (fun s' g'=>∃b',I b'∧Jq s' (st b')∧g'=gh b'∧μ b' < μ b) Q) (st b) (gh b)):dM P J D0 Y0 gB nt (.loop c) Q s g:=by
 intro Γ a w η hB hr
 obtain⟨zY,hr0⟩:=h0 Γ hB.ok hB.h0 a w η hr
 subst hg
 have key:∀(n:Nat) (b:β),I b→μ b=n→∀Γ a w η,nk P J D0 Y0 gB nt Γ (gh b)→Rel Γ (st b) a w η→∀(f:Frame) (k:List Item) (cs:List Frame),f.roundOf=Fence.wide.round→Fence.wide.fn f.fn→Fence.wide.room (cs.length+1+0)→
   ∃e a' w',AP P J D0 Y0 gB nt (Q e) a' w'∧ArrivesIn (Machine.fenced P Fence.wide) P (lone (f.atR a (.code c :: .inLoop c::k)) cs w) f k cs e a' w':=by
  intro n
  induction n using Nat.strongRecOn with
  |_ n ih=>
   intro b Wo hb Γ a w η hB hr f k cs ry hf fR
   obtain⟨e,u7,va,hq,k6⟩:=round b Wo Γ a w η hB hr f (.inLoop c::k) cs ry hf fR
   cases e with
   |normal=>
    obtain⟨Mh,s1,pL,g1,hB1,⟨b',ab3,hw',DF,ay⟩,GY⟩:=hq
    obtain⟨ab4,ab5⟩:=hw' Mh hB1.ok hB1.h0 _ _ _ GY
    subst DF
    obtain⟨Wp,Wq,Ws,NS,Cb⟩:=ih (μ b') (hb▸ay) b' ab3 rfl Mh u7 va ab4 hB1 ab5 f k cs ry hf fR
    exact⟨Wp,Wq,Ws,NS,.of_steps (StepsIn.trans k6 (.one (fenced_calm hf fR rfl) stepR_inLoop)) Cb⟩
   |exit id=>exact⟨_,u7,va,hq,.pass (x:=.inLoop c) rfl (fun _ _=>.inl (by simp)) k6⟩
   |goto l=>exact⟨_,u7,va,hq,.pass (x:=.inLoop c) rfl (fun _ _=>.inl (by simp)) k6⟩
   |ret=>exact⟨_,u7,va,hq,.pass (x:=.inLoop c) rfl (fun _ _=>.inl (by simp)) k6⟩
   |panic ch=>exact⟨_,u7,va,hq,.pass (x:=.inLoop c) rfl (fun _ _=>.inl (by simp)) k6⟩
   |outgrown=>exact⟨_,u7,va,hq,.pass (x:=.inLoop c) rfl (fun _ _=>.inl (by simp)) k6⟩
 intro f k cs ry hf fR
 obtain⟨e,a',w',hq,k6⟩:=key _ b0 hI rfl Γ a w zY hB hr0 f k cs ry hf fR
 exact⟨e,a',w',hq,.of_steps (.one (fenced_calm hf fR rfl) stepR_loop) k6⟩
end walk
def Jr (kind b:Bool) (x:AV):Prop:=
 match kind with
 |true=>x=.ah (.bool b)
 |false=>True
def NT (az:Nat→Option TD) (rs:List ResultVar) (kind:Bool) (more:List (List AV)):Exit→AS Unit→Gh→Prop
 | .normal,s,g | .ret,s,g=>(match eW az s rs with
  |some l=>∃b,g=gT b more∧Jr kind b (ij l)
  |none=>False)
 |_,_,_=>False
theorem EM {P:Program} {az:Nat→Option TD} (au:aT P az) {f:FuncId} {fn:Func} {c:Code} {args:AV→List AV} {L:List (List AV)} {kind:Bool} (hf:P.funcs[f]?=some fn) (hb:fn.body=some c) (gI:(fn.name == "runtime.NumGoroutine")=false)
  (hn:∀v,(args v).length≤fn.ntmps)
  (h:∀(J:JT) (yv:Value),Cons P yv J→∀D0 Y0 gB more,dM P J D0 Y0 gB fn.ntmps c (NT az fn.results.toList kind more) ⟨cV 0 (args (.fn yv)),[],()⟩ (some (L++more))):NP P f args L kind:=by
 refine⟨⟨fn,hf,gI,by rw[hb];rfl⟩,fun J yv hC D Y more w bB hj hD hY Wt hv=>?_⟩
 let Γ:Env Unit:={ P:=P,w0:=w,F0:=D,X:=fun _=>False,Y:=fun _=>False,Inv:=fun _ _=>True,nt:=fn.ntmps,Bw:=none,m0:=fun _=>False,Z:=fun _ _=>False,zY:=[],oQ:=[] }
 have aD:Γ.Ok:=⟨rfl,fun _ h=>h.elim,fun _ h=>h.elim,fun _ _ _ _ _ h=>h,fun _ _ h=>h.elim,Wt,fun _ _ h=>h.elim (fun h=>h) fun h=>h⟩
 have Qw:=hv.length
 have jQ:∀b o,D b o→bn Γ w [] [] b o:=fun b o hb=>⟨.inl hb,hD b o hb,fun h=>h.elim (fun h=>h) fun h=>h,fun r v hr=>by simp at hr⟩
 have hB:nk P J D Y w fn.ntmps Γ (some (L++more)):=by
  refine⟨aD,rfl,rfl,rfl,fun _ h=>h,fun _ _ h=>h,rfl,fun _ h=>h,?_,hD,fun _ _ _ _ h=>h,fun _ _ _ _ h=>h,fun _ _=>rfl,hY,ah5 _,fun _ _ h=>h,fun _ _ h=>.inl h,fun _ h=>h.elim,fun _ _=>rfl⟩
  have e:(fun b=>Y b∨Γ.Y b)=Y:=by funext b;simp[Γ]
  rw[e];exact hj
 have fQ:Rel Γ ⟨cV 0 (args (.fn yv)),[],()⟩ ⟨bB.toArray++Array.replicate (fn.ntmps-bB.toArray.size) undef,[]⟩ w []:=by
  have hna:=hn (.fn yv)
  refine⟨by simp[Γ];omega,fun t=>?_,⟨rfl,fun r o v h=>by simp at h,fun r r' o o' v v' b _ h=>by simp at h⟩,fun r o v b h=>by simp at h,cD.refl _ w,True.intro,⟨fun d hd=>(by cases hd),List.Pairwise.nil⟩,⟨fun _ _ _ _ h=>h,fun _ _ _ _ h=>h,jQ,fun _ _ h=>h,fun _ _ h=>h,fun _ _ _ h=>h⟩⟩
  have:=yD (hp:=[]) (η:=[]) (args (.fn yv)) bB 0 hv t
  simp only[ajX,if_false,or_false,Nat.sub_zero] at this
  show bw w _ _ _ _ ((bB.toArray++Array.replicate (fn.ntmps-bB.toArray.size) undef).getD t undef)
  rw[yE]
  exact this.bD jQ
 have kD:=h J yv hC D Y w more Γ _ w _ hB fQ
 refine callsIn_of_wp_marks (F:=Fence.wide) hf hb trivial (wpIn_mono (F:=Fence.wide) kD fun e a' w' ⟨tr,s',aU,g',DG,hq,fZ⟩=>?_)
 have fin:(∃l,eW az s' fn.results.toList=some l∧∃b,g'=gT b more∧Jr kind b (ij l))→
   LeavesInM Fence.wide 0 P fn a'.tmps (fun e w'=>∃v D' b,e=.returned v∧YR kind b v∧J D' Y (gT b more) w'∧Left D Y w D' w') a'.defers .returning w':=by
  intro ⟨l,hl,b,DF,hR⟩
  have hd:=DG.EL fZ
  obtain⟨ts,ds⟩:=a'
  simp only at hd
  subst hd
  obtain⟨v,h1,h2⟩:=lZ (fn:=fn) (by rw[DG.hP];exact au) fZ hl
  rw[DG.hP] at h1
  have vD:=DG.now hC fZ
  have cJ:=fZ.keeps.size
  have hB0:=DG.size
  refine⟨v,h1,v,bn tr w' aU s'.hp,b,rfl,?_,?_,⟨by omega,fun k o u hk hc=>?_,fun k es c hk hc=>?_,fun k hk=>?_,fun k o hk=>?_,fun k o hk=>⟨?_,hk.2.1⟩,fun k hk=>(fZ.keeps.block k (DG.ok.kg.lt hk) (DG.ok.gx k hk)).trans (DG.gl k hk)⟩⟩
  ·cases kind with
   |true=>simp only[Jr] at hR;rw[hR] at h2;exact h2.aE
   |false=>exact True.intro
  ·rw[←DF]
   refine hC.Lb _ _ _ _ _ _ _ vD ⟨cD.refl _ _,fun _ _ _ _ h=>h,fun _ _ _ _ h=>h,fun _ _ h=>h,fun k o h=>⟨.inl h,h.2.1⟩,fun k hk=>⟨.inl (.inl hk),?_⟩⟩
   have:=hY k hk;omega
  ·exact fZ.ext.cell k o u (DG.d0 k o hk) (DG.cell k o u hk hc)
  ·exact fZ.ext.kJ k es c (DG.d0 k 0 hk) (DG.kJ k es c hk hc)
  ·rw[←DG.y0 k hk]
   have:=hY k hk
   exact fZ.keeps.block k (by omega) fun h=>h.elim (DG.x k) fun h=>by have:=DG.own k h;omega
  ·exact fZ.ext.bD _ _ (DG.d0 k o hk)
  ·rcases hk.1 with h|h|h
   ·exact DG.f00 k o h
   ·exact .inr (by omega)
   ·exact .inr (DG.own k h)
 cases e with
 |normal=>
  simp only[NT] at hq
  split at hq
  ·rename_i l hl;exact fin ⟨l,hl,hq⟩
  ·exact hq.elim
 |ret=>
  simp only[NT] at hq
  split at hq
  ·rename_i l hl;exact fin ⟨l,hl,hq⟩
  ·exact hq.elim
 |_=>exact hq.elim
end Go.Proofs.YtjhanogfpkbamaaGreatDoor
