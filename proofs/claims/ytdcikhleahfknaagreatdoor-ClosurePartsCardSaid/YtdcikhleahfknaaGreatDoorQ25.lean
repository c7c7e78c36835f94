/- Texts of ours laid together for a claim: FilY. -/
import Derived.RangeFuncIn
import Derived.Test.YtdcikhleahfknaaGreatDoorQ24
namespace Go.Proofs.YtdcikhleahfknaaGreatDoor
open Go
set_option linter.unusedSimpArgs false
set_option linter.unusedVariables false
abbrev Cells:=Nat→Nat→Prop
abbrev Gh:=Option (List (List AV))
def gT (b:Bool) (rest:List (List AV)):Gh:=
 match b with
 |true=>some rest
 |false=>none
structure Zs (D:Cells) (Y:Nat→Prop) (w:World) (D':Cells) (Y':Nat→Prop) (w':World):Prop where
 same:bo Y w w'
 cell:∀b o v,D b o→w.cell? ⟨b,o,none⟩=some v→w'.cell? ⟨b,o,none⟩=some v
 fQ:∀b es c,D b 0→w.heap[b]?=some (.map es c)→w'.heap[b]?=some (.map es c)
 aY:∀b o,D b o→D' b o
 back:∀b o,D' b o→(D b o∨Y b∨w.heap.size≤b)∧b<w'.heap.size
 Pq:∀b,Y' b→(Y b∨w.heap.size≤b)∧b<w'.heap.size
structure Left (D:Cells) (Y:Nat→Prop) (w:World) (D':Cells) (w':World):Prop where
 size:w.heap.size≤w'.heap.size
 cell:∀b o v,D b o→w.cell? ⟨b,o,none⟩=some v→w'.cell? ⟨b,o,none⟩=some v
 fQ:∀b es c,D b 0→w.heap[b]?=some (.map es c)→w'.heap[b]?=some (.map es c)
 blocks:∀b,Y b→w'.heap[b]?=w.heap[b]?
 aY:∀b o,D b o→D' b o
 back:∀b o,D' b o→(D b o∨w.heap.size≤b)∧b<w'.heap.size
 gl:∀b,kQ b→w'.heap[b]?=w.heap[b]?
def IG (P:Program) (yv:Value) (aR:List Value) (w:World) (R:Ending→World→Prop):Prop:=
 ∃l fn tmps ue body,yv=.func (.yield l) #[] #[]∧(Instr.yield l aR.toArray).run P w=.ok (.round l fn tmps ue body) w∧RoundIn Fence.wide 0 P l fn tmps ue body w R
abbrev JT:=Cells→(Nat→Prop)→Gh→World→Prop
structure Cons (P:Program) (yv:Value) (J:JT):Prop where
 Zt:yv.oneCell'=true
 Ga:∀D Y g w D' Y' w',J D Y g w→Zs D Y w D' Y' w'→J D' Y' g w'
 yield:∀(D:Cells) (Y:Nat→Prop) x rest w aR,J D Y (some (x::rest)) w→(∀b o,D b o→b<w.heap.size)→(∀b,Y b→b<w.heap.size)→lZ w→bF w D [] [] x aR→
  IG P yv aR w fun e w'=>∃b,e=.returned (.bool b)∧J D Y (gT b rest) w'∧Left D Y w D w'
def YR (kind:Bool) (b:Bool) (v:Value):Prop:=
 match kind with
 |true=>v=.bool b
 |false=>True
def vz (P:Program) (f:FuncId) (args:AV→List AV) (L:List (List AV)) (kind:Bool):Prop:=
 gB P f∧∀(J:JT) (yv:Value),Cons P yv J→∀(D:Cells) (Y:Nat→Prop) (rest:List (List AV)) (w:World) (aR:List Value),
  J D Y (some (L++rest)) w→(∀b o,D b o→b<w.heap.size)→(∀b,Y b→b<w.heap.size)→lZ w→bF w D [] [] (args (.fn yv)) aR→
  CallsIn Fence.wide 0 P f aR.toArray w fun e w'=>∃v D' b,e=.returned v∧YR kind b v∧J D' Y (gT b rest) w'∧Left D Y w D' w'
section walk
variable {P:Program} {yv:Value} {J:JT} {D0:Cells} {Y0:Nat→Prop} {er:World} {nt:Nat}
structure kC (P:Program) (J:JT) (D0:Cells) (Y0:Nat→Prop) (er:World) (nt:Nat) (Γ:Env Unit) (g:Gh):Prop where
 ok:Γ.Ok
 hP:Γ.P=P
 cC:Γ.nt=nt
 vQ:Γ.vQ=none
 x:∀b,¬Γ.X b
 z:∀b o,¬Γ.Z b o
 h0:Γ.ir.length=0
 m0:∀r,¬Γ.m0 r
 j:J Γ.F0 (fun b=>Y0 b∨Γ.Y b) g Γ.w0
 f0:∀b o,Γ.F0 b o→b<Γ.w0.heap.size
 cell:∀b o v,D0 b o→er.cell? ⟨b,o,none⟩=some v→Γ.w0.cell? ⟨b,o,none⟩=some v
 fQ:∀b es c,D0 b 0→er.heap[b]?=some (.map es c)→Γ.w0.heap[b]?=some (.map es c)
 y0:∀b,Y0 b→Γ.w0.heap[b]?=er.heap[b]?
 IH:∀b,Y0 b→b<er.heap.size
 size:er.heap.size≤Γ.w0.heap.size
 d0:∀b o,D0 b o→Γ.F0 b o
 Zu:∀b o,Γ.F0 b o→D0 b o∨er.heap.size≤b
 own:∀b,Γ.Y b→er.heap.size≤b
 gl:∀b,kQ b→Γ.w0.heap[b]?=er.heap[b]?
variable {Γ:Env Unit} {s s':AS Unit} {a:Act} {w w' w2:World} {η:List Value} {g g2:Gh}
theorem kC.Am (hB:kC P J D0 Y0 er nt Γ g) (hr:Rel Γ s a w η):a.defers=[]:=by
 cases hd:a.defers with
 |nil=>rfl
 |cons d l=>
  obtain⟨r,_,_,h⟩:=hr.marks.all d (by rw[hd];exact List.mem_cons_self)
  exact(hB.m0 r h).elim
theorem kC.live (hr:Rel Γ s a w η):∀b,aC η s.hp b→b<w.heap.size∧(Γ.w0.heap.size≤b∨Γ.Y b):=fun b ⟨q,o,v,g1,g2,g3,g4⟩=>
 ⟨hr.heap.block g1 g2 g3 g4,(hr.bA q o v b g1 g2 g3 g4).1⟩
theorem kC.now (hC:Cons P yv J) (hB:kC P J D0 Y0 er nt Γ g) (hr:Rel Γ s a w η):J (aU Γ w η s.hp) (fun b=>Y0 b∨aC η s.hp b) g w:=by
 have bE:=hr.keeps.size
 refine hC.Ga _ _ _ _ _ _ _ hB.j ⟨?_,hr.ext.cell,hr.ext.fQ,hr.ext.aY,fun b o hf=>⟨?_,hf.2.1⟩,fun b hb=>?_⟩
 ·exact⟨hr.keeps.os,hr.keeps.tape,hr.keeps.output,bE,fun k hk hx=>hr.keeps.block k hk fun h=>h.elim (hB.x k) fun h=>hx (.inr h)⟩
 ·rcases hf.1 with h|h|h
  ·exact .inl h
  ·exact .inr (.inr h)
  ·exact .inr (.inl (.inr h))
 ·rcases hb with h|h
  ·exact⟨.inl (.inl h),by have:=hB.IH b h;have:=hB.size;omega⟩
  ·obtain⟨h1,h2⟩:=kC.live hr b h
   rcases h2 with h2|h2
   ·exact⟨.inr h2,h1⟩
   ·exact⟨.inl (.inr h2),h1⟩
def oJ (Γ:Env Unit) (w2:World) (D2:Cells) (Y:Nat→Prop):Env Unit:=
 { P:=Γ.P,w0:=w2,F0:=D2,X:=fun _=>False,Y:=Y,Inv:=fun _ _=>True,nt:=Γ.nt,vQ:=none,m0:=fun _=>False,Z:=fun _ _=>False,vh:=[],ir:=[] }
theorem kC.step (hC:Cons P yv J) (hB:kC P J D0 Y0 er nt Γ g) (hr:Rel Γ s a w η) {D2:Cells} (hj:J D2 (fun b=>Y0 b∨aC η s.hp b) g2 w2) (hl:Left (aU Γ w η s.hp) (fun b=>Y0 b∨aC η s.hp b) w D2 w2):
  kC P J D0 Y0 er nt (oJ Γ w2 D2 (aC η s.hp)) g2∧Rel (oJ Γ w2 D2 (aC η s.hp)) s a w2 η:=by
 have bE:=hr.keeps.size
 have cX:=kC.live hr
 have HO:(oJ Γ w2 D2 (aC η s.hp)).Ok:=⟨rfl,fun _ h=>h.elim,fun b hb=>Nat.lt_of_lt_of_le (cX b hb).1 hl.size,fun _ _ _ _ _ _=>True.intro,fun _ _ h=>h.elim,fun p hp=>by
  obtain⟨T,h1⟩:=(hr.fX hB.ok) p hp
  exact⟨T,(hl.gl p.1 ⟨p,hp,rfl⟩).trans h1⟩,fun b hb h=>h.elim (fun h=>h) (hr.gx hB.ok hb)⟩
 have jR:∀b o,D2 b o→gW η s.hp b o:=by
  intro b o hb
  rcases (hl.back b o hb).1 with h|h
  ·exact h.2.2.2
  ·refine(aN b o).2 fun q u hu Hh=>?_
   have hq:q<s.hp.length:=by rw[←hr.heap.len];exact(List.getElem?_eq_some_iff.1 hu).1
   have hg:s.hp[q]?=some s.hp[q]:=by simp[hq]
   refine⟨_,hg,?_⟩
   cases hx:s.hp[q] with
   |dead=>exact True.intro
   |_=>
    exfalso
    rw[hx] at hg
    have:=hr.heap.block hg True.intro hu Hh
    omega
 have he:Ext w (aU Γ w η s.hp) η s.hp w2 (aU (oJ Γ w2 D2 (aC η s.hp)) w2 η s.hp) η s.hp:=
  ⟨hl.cell,hl.fQ,fun b o hf=>⟨.inl (hl.aY b o hf),Nat.lt_of_lt_of_le hf.2.1 hl.size,fun h=>h.elim (fun h=>h) fun h=>h,hf.2.2.2⟩,fun _ _ h=>h,fun _ _ h=>h,fun _ _ _ h=>h⟩
 refine⟨⟨HO,hB.hP,hB.cC,rfl,fun _ h=>h,fun _ _ h=>h,rfl,fun _ h=>h,hj,fun b o hb=>(hl.back b o hb).2,fun b o v hd hc=>?_,fun b es c hd hc=>?_,fun b hb=>?_,hB.IH,?_,fun b o hd=>?_,fun b o hf=>?_,fun b hb=>?_,fun b hb=>(hl.gl b hb).trans ((hr.keeps.block b (hB.ok.fX.lt hb) (hB.ok.gx b hb)).trans (hB.gl b hb))⟩,
  ⟨hr.nt,fun t=>(hr.tmps t).ext he,⟨hr.heap.len,fun q o v h1 h2=>?_,hr.heap.sep⟩,fun q o v b h1 h2 h3 h4=>⟨.inr ⟨q,o,v,h1,h2,h3,h4⟩,fun _ h=>h.elim (fun h=>h) fun h=>h⟩,bo.refl _ _,True.intro,?_,?_⟩⟩
 ·exact hl.cell b o v (hr.ext.aY _ _ (hB.d0 b o hd)) (hr.ext.cell b o v (hB.d0 b o hd) (hB.cell b o v hd hc))
 ·exact hl.fQ b es c (hr.ext.aY _ _ (hB.d0 b 0 hd)) (hr.ext.fQ b es c (hB.d0 b 0 hd) (hB.fQ b es c hd hc))
 ·show w2.heap[b]?=_
  rw[hl.blocks b (.inl hb),←hB.y0 b hb]
  have h1:=hB.IH b hb
  have h2:=hB.size
  exact hr.keeps.block b (by omega) fun h=>h.elim (hB.x b) fun h=>by have:=hB.own b h;omega
 ·show er.heap.size≤w2.heap.size
  have h1:=hB.size
  have h2:=hl.size
  omega
 ·exact hl.aY b o (hr.ext.aY _ _ (hB.d0 b o hd))
 ·have h1:=hB.size
  rcases (hl.back b o hf).1 with h|h
  ·rcases h.1 with h|h|h
   ·exact hB.Zu b o h
   ·exact .inr (by omega)
   ·exact .inr (hB.own b h)
  ·exact .inr (by omega)
 ·have h1:=hB.size
  rcases (cX b hb).2 with h|h
  ·omega
  ·exact hB.own b h
 ·by_cases hv:o.live
  ·exact(hr.heap.obj q o v h1 h2).ext he hl.size fun b hb _=>hl.blocks b (.inr ⟨q,o,v,h1,hv,h2,hb⟩)
  ·cases o<;>first|exact True.intro|exact(hv True.intro).elim
 ·rw[hB.Am hr];exact⟨fun d hd=>(by cases hd),List.Pairwise.nil⟩
 ·refine⟨fun _ _ _ _ h=>h,fun _ _ _ _ h=>h,fun b o hb=>⟨.inl hb,(hl.back b o hb).2,fun h=>h.elim (fun h=>h) fun h=>h,jR b o hb⟩,fun r a h=>?_,fun r a h=>?_,fun r n v h=>?_⟩
  ·simp[oJ] at h
  ·simp[oJ] at h
  ·simp[oJ,aQ] at h
def wj (P:Program) (J:JT) (D0:Cells) (Y0:Nat→Prop) (er:World) (nt:Nat) (K:AS Unit→Gh→Prop) (a':Act) (w':World):Prop:=
 ∃(pq:Env Unit) (s':AS Unit) (aM:List Value) (g':Gh),kC P J D0 Y0 er nt pq g'∧K s' g'∧Rel pq s' a' w' aM
theorem wj.mono {K K':AS Unit→Gh→Prop} (hk:∀s g,K s g→K' s g) {a':Act} (h:wj P J D0 Y0 er nt K a' w'):wj P J D0 Y0 er nt K' a' w':=
 let ⟨pq,s',aM,g',h1,h2,h3⟩:=h;⟨pq,s',aM,g',h1,hk _ _ h2,h3⟩
def cJ (P:Program) (J:JT) (D0:Cells) (Y0:Nat→Prop) (er:World) (nt:Nat) (c:Code) (Q:Exit→AS Unit→Gh→Prop) (s:AS Unit) (g:Gh):Prop:=
 ∀Γ a w η,kC P J D0 Y0 er nt Γ g→Rel Γ s a w η→c.wpIn Fence.wide 0 P (fun e=>wj P J D0 Y0 er nt (Q e)) a w
theorem kC.dA (hB:kC P J D0 Y0 er nt Γ g):Γ.dA=Fence.wide:=by
 simp only[Env.dA,hB.vQ];rfl
theorem cJ.of {c:Code} {Q:Exit→AS Unit→Gh→Prop} (h:∀Γ:Env Unit,Γ.Ok→Γ.P=P→Γ.nt=nt→Γ.ir.length=0→dq Γ c (fun e s'=>Q e s' g) s):cJ P J D0 Y0 er nt c Q s g:=by
 intro Γ a w η hB hr
 have h1:=h Γ hB.ok hB.hP hB.cC hB.h0 a w η hr
 rw[hB.dA,hB.hP] at h1
 exact wpIn_mono h1 fun e a' w' ⟨s',aM,h2,h3⟩=>⟨Γ,s',aM,g,hB,h2,h3⟩
def dP (P:Program) (J:JT) (D0:Cells) (Y0:Nat→Prop) (er:World) (nt:Nat) (ops:Array Oper) (K:AS Unit→Gh→Prop) (l:List Oper) (s:AS Unit) (g:Gh):Prop:=
 ∀Γ a w η (Qc:Exit→Act→World→Prop),kC P J D0 Y0 er nt Γ g→(∀a' w',wj P J D0 Y0 er nt K a' w'→Qc .normal a' w')→Rel Γ s a w η→wpListIn Fence.wide 0 P ops Qc l a w
theorem dP.nil {ops:Array Oper} {K:AS Unit→Gh→Prop} (h:K s g):dP P J D0 Y0 er nt ops K [] s g:=
 fun Γ a w η _ hB hQ hr=>hQ a w ⟨Γ,s,η,g,hB,h,hr⟩
theorem dP.calm {ops:Array Oper} {K N:AS Unit→Gh→Prop} {o:Oper} {rest:List Oper} (hg:∀(Γ:Env Unit) a w η,Rel Γ s a w η→Region.wanted o (yielded ops a.tmps)=true)
  (h:∀Γ:Env Unit,Γ.Ok→Γ.P=P→Γ.nt=nt→Γ.ir.length=0→bn Γ o s (fun s'=>N s' g)) (hn:∀s',N s' g→dP P J D0 Y0 er nt ops K rest s' g):dP P J D0 Y0 er nt ops K (o::rest) s g:=by
 intro Γ a w η Qc hB hQ hr
 simp only[wpListIn]
 rw[if_pos (hg Γ a w η hr)]
 have h1:=h Γ hB.ok hB.hP hB.cC hB.h0 a w η (wpListIn Fence.wide 0 P ops Qc rest) Qc (fun s' a' w' aM hN dM=>hn s' hN Γ a' w' aM Qc hB hQ dM) hr
 rw[hB.dA,hB.hP] at h1
 exact h1
theorem dP.skip {ops:Array Oper} {K:AS Unit→Gh→Prop} {o:Oper} {rest:List Oper} (hg:∀(Γ:Env Unit) a w η,Rel Γ s a w η→Region.wanted o (yielded ops a.tmps)=false) (hd:cw nt o.dst)
  (h:dP P J D0 Y0 er nt ops K rest (s.put o.dst (.ae (.tuple #[]))) g):dP P J D0 Y0 er nt ops K (o::rest) s g:=by
 intro Γ a w η Qc hB hQ hr
 simp only[wpListIn]
 rw[if_neg (by rw[hg Γ a w η hr];simp)]
 exact⟨fun _ _=>trivial,h Γ _ w η Qc hB hQ (hr.put (bG (by rw[hB.cC];exact hd)) (.ae _))⟩
theorem Rel.EP (hB:kC P J D0 Y0 er nt Γ g) (hr:Rel Γ s a w η) {d:Option Nat} (hd:cw nt d) {x:AV} {v:Value} (hx:aV w (aU Γ w η s.hp) η s.hp x v):Rel Γ (s.put d x) (a.put d v) w η:=
 hr.put (bG (by rw[hB.cC];exact hd)) hx
theorem uf {o:Oper} {c:Call} {x:Operand} (ho:o.op=.call c) (hc:c.callee=.value x) {l:Nat} (hx:a.eval x=.func (.yield l) #[] #[]) {n:Next} (h:(Instr.yield l (c.args.map a.eval)).run P w=.ok n w):
  (execOp a.eval o).run P w=.ok n w:=by
 simp[execOp,ho,resolve,hc,hx,Deferred.ofValue,invoke,h]
theorem dP.yield (hC:Cons P yv J) {ops:Array Oper} {K:AS Unit→Gh→Prop} {o:Oper} {rest:List Oper} (hg:o.guard=none) {c:Call} {x:Operand} (ho:o.op=.call c) (hc:c.callee=.value x) (hx:s.ev x=.fn yv) (hd:cw nt o.dst)
  {more:List (List AV)} (Pr:g=some (((c.args.toList.map s.ev).map (AV.oF 0 s.hp))::more)) (h:∀b,dP P J D0 Y0 er nt ops K rest (s.put o.dst (.ae (.bool b))) (gT b more)):dP P J D0 Y0 er nt ops K (o::rest) s g:=by
 intro Γ a w η Qc hB hQ hr
 simp only[wpListIn]
 rw[if_pos (by simp[Region.wanted,hg])]
 have hj:=hB.now hC hr
 rw[Pr] at hj
 have di:=hr.ev x
 rw[hx] at di
 generalize hv:a.eval x=v at di
 cases di with
 |fn v h1=>
 obtain⟨l,fn,tmps,ue,body,rfl,ew,oK⟩:=hC.yield _ _ _ _ _ _ hj (fun _ _=>dy) (fun b hb=>hb.elim (fun h=>by have:=hB.IH b h;have:=hB.size;have:=hr.keeps.size;omega) fun h=>(kC.live hr b h).1) (hr.fX hB.ok) (ky hr _ _ (eU hr c.args.toList))
 refine⟨fun _ _=>trivial,?_⟩
 have bj:∀c',o.op ≠ .defer c':=by intro c' h;rw[ho] at h;cases h
 have ax:(c.args.toList.map a.eval).toArray=c.args.map a.eval:=by apply Array.ext';simp
 rw[ax] at ew
 rw[Oper.semAt_eq _ _ _ bj,uf ho hc hv ew]
 refine⟨fun h=>(by cases h),?_⟩
 refine RoundIn.mono oK fun e w' ⟨b,he,o5,hl⟩=>?_
 subst he
 obtain⟨SP,kO⟩:=hB.step hC hr o5 hl
 exact h b _ _ _ _ Qc SP hQ (kO.EP SP hd (.ae _))
theorem dP.call (hC:Cons P yv J) {ops:Array Oper} {K:AS Unit→Gh→Prop} {o:Oper} {rest:List Oper} (hg:o.guard=none) {c:Call} {x:Operand} (ho:o.op=.call c) (hc:c.callee=.value x) {f:FuncId} {caps:List AV} (hx:s.ev x=.aS f caps) (hd:cw nt o.dst)
  {args:AV→List AV} {L more:List (List AV)} {kind:Bool} (hF:vz P f args L kind) (ax:((c.args.toList.map s.ev++caps).map (AV.oF 0 s.hp))=args (.fn yv)) (Pr:g=some (L++more))
  (h:∀b,dP P J D0 Y0 er nt ops K rest (s.put o.dst (match kind with|true=>.ae (.bool b)|false=>.top)) (gT b more)):dP P J D0 Y0 er nt ops K (o::rest) s g:=by
 intro Γ a w η Qc hB hQ hr
 simp only[wpListIn]
 rw[if_pos (by simp[Region.wanted,hg])]
 have hj:=hB.now hC hr
 rw[Pr] at hj
 have di:=hr.ev x
 rw[hx] at di
 generalize hv:a.eval x=v at di
 cases di with
 |aS _ _ vs hl cD=>
 refine⟨fun _ _=>trivial,?_⟩
 have bj:∀c',o.op ≠ .defer c':=by intro c' h;rw[ho] at h;cases h
 have iB:(execOp a.eval o).run P w=.ok (.enter f (c.args.map a.eval++vs)) w:=by
  have:=eB (Γ:=Γ) (a:=a) (w:=w) ho hc (f:=f) (by rw[hB.hP];exact hF.1) hv
  rw[hB.hP] at this
  exact this
 rw[Oper.semAt_eq _ _ _ bj,iB]
 have WM:(c.args.map a.eval++vs)=(c.args.toList.map a.eval++vs.toList).toArray:=by apply Array.ext';simp
 have cS:bF w (aU Γ w η s.hp) η s.hp caps vs.toList:=cd (by simpa using hl) fun j y u hy hu=>cD j y u hy (by simpa using hu)
 have eZ:=ky hr _ _ (cY _ _ (eU hr c.args.toList) cS)
 rw[ax] at eZ
 refine⟨fun h=>(by cases h),?_⟩
 rw[WM]
 refine CallsIn.mono (hF.2 J yv hC _ _ more w _ hj (fun _ _=>dy) (fun b hb=>hb.elim (fun h=>by have:=hB.IH b h;have:=hB.size;have:=hr.keeps.size;omega) fun h=>(kC.live hr b h).1) (hr.fX hB.ok) eZ) fun e w' ⟨v,D',b,he,hv,o5,hl⟩=>?_
 subst he
 obtain⟨SP,kO⟩:=hB.step hC hr o5 hl
 refine h b _ _ _ _ Qc SP hQ (kO.EP SP hd ?_)
 cases kind with
 |true=>simp only[YR] at hv;subst hv;exact .ae _
 |false=>exact .top _
variable {Q:Exit→AS Unit→Gh→Prop}
theorem cJ.region {id:Nat} {l:List Oper} (h:dP P J D0 Y0 er nt l.toArray (Q .normal) l s g):cJ P J D0 Y0 er nt (.region id l.toArray false) Q s g:=
 fun Γ a w η hB hr=>wpIn_region_lit (h Γ a w η _ hB (fun _ _ h=>h) hr)
def II (N:AS Unit→Gh→Prop) (Q:Exit→AS Unit→Gh→Prop):Exit→AS Unit→Gh→Prop
 | .normal,s,g=>N s g
 |e,s,g=>Q e s g
def ug (id:Nat) (Q:Exit→AS Unit→Gh→Prop):Exit→AS Unit→Gh→Prop
 | .exit P3,s,g=>if P3=id then Q .normal s g else Q (.exit P3) s g
 |e,s,g=>Q e s g
theorem cJ.mono {c:Code} {Q':Exit→AS Unit→Gh→Prop} (h:cJ P J D0 Y0 er nt c Q s g) (hq:∀e s g,Q e s g→Q' e s g):cJ P J D0 Y0 er nt c Q' s g:=
 fun Γ a w η hB hr=>wpIn_mono (h Γ a w η hB hr) fun e _ _ hp=>hp.mono (hq e)
theorem cJ.seq {x y:Code} (h:cJ P J D0 Y0 er nt x (II (cJ P J D0 Y0 er nt y Q) Q) s g):cJ P J D0 Y0 er nt (.seq x y) Q s g:=by
 intro Γ a w η hB hr
 refine wpIn_seq (wpIn_mono (h Γ a w η hB hr) fun e a' w' hq=>?_)
 cases e with
 |normal=>
  obtain⟨pq,s',aM,g',h1,h2,h3⟩:=hq
  exact h2 pq a' w' aM h1 h3
 |_=>exact hq
theorem cJ.skip (h:Q .normal s g):cJ P J D0 Y0 er nt .skip Q s g:=fun Γ _ _ η hB hr=>wpIn_skip ⟨Γ,s,η,g,hB,h,hr⟩
theorem cJ.exit {id:Nat} (h:Q (.exit id) s g):cJ P J D0 Y0 er nt (.exit id) Q s g:=fun Γ _ _ η hB hr=>wpIn_exit ⟨Γ,s,η,g,hB,h,hr⟩
theorem cJ.ret (h:Q .ret s g):cJ P J D0 Y0 er nt .ret Q s g:=fun Γ _ _ η hB hr=>wpIn_ret ⟨Γ,s,η,g,hB,h,hr⟩
theorem cJ.label {l:Nat} (h:Q .normal s g):cJ P J D0 Y0 er nt (.label l) Q s g:=fun Γ _ _ η hB hr=>wpIn_label ⟨Γ,s,η,g,hB,h,hr⟩
theorem cJ.block {id:Nat} {c:Code} (h:cJ P J D0 Y0 er nt c (ug id Q) s g):cJ P J D0 Y0 er nt (.block id c) Q s g:=by
 intro Γ a w η hB hr
 refine wpIn_block (wpIn_mono (h Γ a w η hB hr) fun e a' w' hq=>?_)
 obtain⟨pq,s',aM,g',h1,h2,h3⟩:=hq
 cases e with
 |exit P3=>
  simp only[ug] at h2
  simp only[Exit.inBlock]
  split
  ·rename_i hid;rw[if_pos hid] at h2;exact⟨pq,s',aM,g',h1,h2,h3⟩
  ·rename_i hid;rw[if_neg hid] at h2;exact⟨pq,s',aM,g',h1,h2,h3⟩
 |_=>exact⟨pq,s',aM,g',h1,h2,h3⟩
theorem cJ.cond {c:Operand} {x y:Code} {b:Bool} (hb:s.ev c=.ae (.bool b)) (h1:b=true→cJ P J D0 Y0 er nt x Q s g) (h2:b=false→cJ P J D0 Y0 er nt y Q s g):cJ P J D0 Y0 er nt (.cond c x y) Q s g:=by
 intro Γ a w η hB hr
 have hc:=hr.ev c
 rw[hb] at hc
 exact wpIn_cond_split hc.ao (fun ht=>h1 ht Γ a w η hB hr) fun ht=>h2 ht Γ a w η hB hr
def ER (s s':AS Unit):Prop:=∀Γ:Env Unit,Γ.Ok→Γ.ir.length=0→∀a w η,Rel Γ s a w η→∃aM,Rel Γ s' a w aM
theorem cJ.pn {c:Code} (hw:ER s s') (h:cJ P J D0 Y0 er nt c Q s' g):cJ P J D0 Y0 er nt c Q s g:=
 fun Γ a w η hB hr=>let ⟨aM,dM⟩:=hw Γ hB.ok hB.h0 a w η hr;h Γ a w aM hB dM
theorem cJ.loop {c:Code} {β:Type} (I:β→Prop) (st:β→AS Unit) (gh:β→Gh) (μ:β→Nat) (b0:β) (hI:I b0) (h0:ER s (st b0)) (hg:g=gh b0)
  (round:∀b,I b→cJ P J D0 Y0 er nt c (II (fun s' g'=>∃b',I b'∧ER s' (st b')∧g'=gh b'∧μ b' < μ b) Q) (st b) (gh b)):cJ P J D0 Y0 er nt (.loop c) Q s g:=by
 intro Γ a w η hB hr
 obtain⟨vh,Zv⟩:=h0 Γ hB.ok hB.h0 a w η hr
 subst hg
 have key:∀(n:Nat) (b:β),I b→μ b=n→∀Γ a w η,kC P J D0 Y0 er nt Γ (gh b)→Rel Γ (st b) a w η→∀(f:Frame) (k:List Item) (cs:List Frame),f.roundOf=Fence.wide.round→Fence.wide.fn f.fn→Fence.wide.room (cs.length+1+0)→
   ∃e a' w',wj P J D0 Y0 er nt (Q e) a' w'∧ArrivesIn (Machine.fenced P Fence.wide) P (lone (f.atR a (.code c :: .inLoop c::k)) cs w) f k cs e a' w':=by
  intro n
  induction n using Nat.strongRecOn with
  |_ n ih=>
   intro b QJ hb Γ a w η hB hr f k cs nQ hf dU
   obtain⟨e,qN,qO,hq,fj⟩:=round b QJ Γ a w η hB hr f (.inLoop c::k) cs nQ hf dU
   cases e with
   |normal=>
    obtain⟨Hi,s1,iq,g1,WN,⟨b',WO,Wm,za,al⟩,Cj⟩:=hq
    obtain⟨WQ,WR⟩:=Wm Hi WN.ok WN.h0 _ _ _ Cj
    subst za
    obtain⟨QK,QL,QM,IJ,xL⟩:=ih (μ b') (hb▸al) b' WO rfl Hi qN qO WQ WN WR f k cs nQ hf dU
    exact⟨QK,QL,QM,IJ,.of_steps (StepsIn.trans fj (.one (fenced_calm hf dU rfl) stepR_inLoop)) xL⟩
   |exit id=>exact⟨_,qN,qO,hq,.pass (x:=.inLoop c) rfl (fun _ _=>.inl (by simp)) fj⟩
   |goto l=>exact⟨_,qN,qO,hq,.pass (x:=.inLoop c) rfl (fun _ _=>.inl (by simp)) fj⟩
   |ret=>exact⟨_,qN,qO,hq,.pass (x:=.inLoop c) rfl (fun _ _=>.inl (by simp)) fj⟩
   |panic ch=>exact⟨_,qN,qO,hq,.pass (x:=.inLoop c) rfl (fun _ _=>.inl (by simp)) fj⟩
   |outgrown=>exact⟨_,qN,qO,hq,.pass (x:=.inLoop c) rfl (fun _ _=>.inl (by simp)) fj⟩
 intro f k cs nQ hf dU
 obtain⟨e,a',w',hq,fj⟩:=key _ b0 hI rfl Γ a w vh hB Zv f k cs nQ hf dU
 exact⟨e,a',w',hq,.of_steps (.one (fenced_calm hf dU rfl) stepR_loop) fj⟩
end walk
def ES (kind b:Bool) (x:AV):Prop:=
 match kind with
 |true=>x=.ae (.bool b)
 |false=>True
def IK (tab:Nat→Option TD) (rs:List ResultVar) (kind:Bool) (more:List (List AV)):Exit→AS Unit→Gh→Prop
 | .normal,s,g | .ret,s,g=>(match dB tab s rs with
  |some l=>∃b,g=gT b more∧ES kind b (eW l)
  |none=>False)
 |_,_,_=>False
theorem An {P:Program} {tab:Nat→Option TD} (ah:aL P tab) {f:FuncId} {fn:Func} {c:Code} {args:AV→List AV} {L:List (List AV)} {kind:Bool} (hf:P.funcs[f]?=some fn) (hb:fn.body=some c) (eC:(fn.name == "runtime.NumGoroutine")=false)
  (hn:∀v,(args v).length≤fn.ntmps)
  (h:∀(J:JT) (yv:Value),Cons P yv J→∀D0 Y0 er more,cJ P J D0 Y0 er fn.ntmps c (IK tab fn.results.toList kind more) ⟨cj 0 (args (.fn yv)),[],()⟩ (some (L++more))):vz P f args L kind:=by
 refine⟨⟨fn,hf,eC,by rw[hb];rfl⟩,fun J yv hC D Y more w aR hj hD hY Mp hv=>?_⟩
 let Γ:Env Unit:={ P:=P,w0:=w,F0:=D,X:=fun _=>False,Y:=fun _=>False,Inv:=fun _ _=>True,nt:=fn.ntmps,vQ:=none,m0:=fun _=>False,Z:=fun _ _=>False,vh:=[],ir:=[] }
 have aq:Γ.Ok:=⟨rfl,fun _ h=>h.elim,fun _ h=>h.elim,fun _ _ _ _ _ h=>h,fun _ _ h=>h.elim,Mp,fun _ _ h=>h.elim (fun h=>h) fun h=>h⟩
 have Lu:=hv.length
 have dF:∀b o,D b o→aU Γ w [] [] b o:=fun b o hb=>⟨.inl hb,hD b o hb,fun h=>h.elim (fun h=>h) fun h=>h,fun r v hr=>by simp at hr⟩
 have hB:kC P J D Y w fn.ntmps Γ (some (L++more)):=by
  refine⟨aq,rfl,rfl,rfl,fun _ h=>h,fun _ _ h=>h,rfl,fun _ h=>h,?_,hD,fun _ _ _ _ h=>h,fun _ _ _ _ h=>h,fun _ _=>rfl,hY,Nat.le_refl _,fun _ _ h=>h,fun _ _ h=>.inl h,fun _ h=>h.elim,fun _ _=>rfl⟩
  have e:(fun b=>Y b∨Γ.Y b)=Y:=by funext b;simp[Γ]
  rw[e];exact hj
 have hrel:Rel Γ ⟨cj 0 (args (.fn yv)),[],()⟩ ⟨aR.toArray++Array.replicate (fn.ntmps-aR.toArray.size) undef,[]⟩ w []:=by
  have hna:=hn (.fn yv)
  refine⟨by simp[Γ];omega,fun t=>?_,⟨rfl,fun r o v h=>by simp at h,fun r r' o o' v v' b _ h=>by simp at h⟩,fun r o v b h=>by simp at h,bo.refl _ w,True.intro,⟨fun d hd=>(by cases hd),List.Pairwise.nil⟩,⟨fun _ _ _ _ h=>h,fun _ _ _ _ h=>h,dF,fun _ _ h=>h,fun _ _ h=>h,fun _ _ _ h=>h⟩⟩
  have:=tJ (hp:=[]) (η:=[]) (args (.fn yv)) aR 0 hv t
  simp only[Nat.not_lt_zero,if_false,or_false,Nat.sub_zero] at this
  show aV w _ _ _ _ ((aR.toArray++Array.replicate (fn.ntmps-aR.toArray.size) undef).getD t undef)
  rw[tK]
  exact this.aY dF
 have fx:=h J yv hC D Y w more Γ _ w _ hB hrel
 refine callsIn_of_wp_marks (F:=Fence.wide) hf hb trivial (wpIn_mono (F:=Fence.wide) fx fun e a' w' ⟨pq,s',aM,g',zb,hq,dM⟩=>?_)
 have fin:(∃l,dB tab s' fn.results.toList=some l∧∃b,g'=gT b more∧ES kind b (eW l))→
   LeavesInM Fence.wide 0 P fn a'.tmps (fun e w'=>∃v D' b,e=.returned v∧YR kind b v∧J D' Y (gT b more) w'∧Left D Y w D' w') a'.defers .returning w':=by
  intro ⟨l,hl,b,za,hR⟩
  have hd:=zb.Am dM
  obtain⟨ts,ds⟩:=a'
  simp only at hd
  subst hd
  obtain⟨v,h1,h2⟩:=jk (fn:=fn) (by rw[zb.hP];exact ah) dM hl
  rw[zb.hP] at h1
  have o5:=zb.now hC dM
  have bE:=dM.keeps.size
  have hB0:=zb.size
  refine⟨v,h1,v,aU pq w' aM s'.hp,b,rfl,?_,?_,⟨by omega,fun k o u hk hc=>?_,fun k es c hk hc=>?_,fun k hk=>?_,fun k o hk=>?_,fun k o hk=>⟨?_,hk.2.1⟩,fun k hk=>(dM.keeps.block k (zb.ok.fX.lt hk) (zb.ok.gx k hk)).trans (zb.gl k hk)⟩⟩
  ·cases kind with
   |true=>simp only[ES] at hR;rw[hR] at h2;exact h2.ao
   |false=>exact True.intro
  ·rw[←za]
   refine hC.Ga _ _ _ _ _ _ _ o5 ⟨bo.refl _ _,fun _ _ _ _ h=>h,fun _ _ _ _ h=>h,fun _ _ h=>h,fun k o h=>⟨.inl h,h.2.1⟩,fun k hk=>⟨.inl (.inl hk),?_⟩⟩
   have:=hY k hk;omega
  ·exact dM.ext.cell k o u (zb.d0 k o hk) (zb.cell k o u hk hc)
  ·exact dM.ext.fQ k es c (zb.d0 k 0 hk) (zb.fQ k es c hk hc)
  ·rw[←zb.y0 k hk]
   have:=hY k hk
   exact dM.keeps.block k (by omega) fun h=>h.elim (zb.x k) fun h=>by have:=zb.own k h;omega
  ·exact dM.ext.aY _ _ (zb.d0 k o hk)
  ·rcases hk.1 with h|h|h
   ·exact zb.Zu k o h
   ·exact .inr (by omega)
   ·exact .inr (zb.own k h)
 cases e with
 |normal=>
  simp only[IK] at hq
  split at hq
  ·rename_i l hl;exact fin ⟨l,hl,hq⟩
  ·exact hq.elim
 |ret=>
  simp only[IK] at hq
  split at hq
  ·rename_i l hl;exact fin ⟨l,hl,hq⟩
  ·exact hq.elim
 |_=>exact hq.elim
end Go.Proofs.YtdcikhleahfknaaGreatDoor
