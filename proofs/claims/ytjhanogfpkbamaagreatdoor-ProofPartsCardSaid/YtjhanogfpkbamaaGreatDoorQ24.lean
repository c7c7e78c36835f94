/- Texts of ours laid together for a claim: FilY. -/
import Derived.RangeFuncIn
import Derived.Test.YtjhanogfpkbamaaGreatDoorQ23
namespace Go.Proofs.YtjhanogfpkbamaaGreatDoor
open Go
set_option linter.unusedSimpArgs false
set_option linter.unusedVariables false
abbrev Cells:=Nat→Nat→Prop
abbrev Gh:=Option (List (List AV))
def gT (b:Bool) (rest:List (List AV)):Gh:=
 match b with
 |true=>some rest
 |false=>none
structure Adv (D:Cells) (Y:Nat→Prop) (w:World) (D':Cells) (Y':Nat→Prop) (w':World):Prop where
 same:Keeps Y w w'
 cell:∀b o v,D b o→w.cell? ⟨b,o,none⟩=some v→w'.cell? ⟨b,o,none⟩=some v
 mapb:∀b es c,D b 0→w.heap[b]?=some (.map es c)→w'.heap[b]?=some (.map es c)
 foot:∀b o,D b o→D' b o
 back:∀b o,D' b o→(D b o∨Y b∨w.heap.size≤b)∧b<w'.heap.size
 yback:∀b,Y' b→(Y b∨w.heap.size≤b)∧b<w'.heap.size
structure Left (D:Cells) (Y:Nat→Prop) (w:World) (D':Cells) (w':World):Prop where
 size:w.heap.size≤w'.heap.size
 cell:∀b o v,D b o→w.cell? ⟨b,o,none⟩=some v→w'.cell? ⟨b,o,none⟩=some v
 mapb:∀b es c,D b 0→w.heap[b]?=some (.map es c)→w'.heap[b]?=some (.map es c)
 blocks:∀b,Y b→w'.heap[b]?=w.heap[b]?
 foot:∀b o,D b o→D' b o
 back:∀b o,D' b o→(D b o∨w.heap.size≤b)∧b<w'.heap.size
 gl:∀b,IsGlob b→w'.heap[b]?=w.heap[b]?
def VCalls (P:Program) (yv:Value) (vals:List Value) (w:World) (R:Ending→World→Prop):Prop:=
 ∃l fn tmps asg body,yv=.func (.yield l) #[] #[]∧(Instr.yield l vals.toArray).run P w=.ok (.round l fn tmps asg body) w∧RoundIn Fence.wide 0 P l fn tmps asg body w R
abbrev JT:=Cells→(Nat→Prop)→Gh→World→Prop
structure Cons (P:Program) (yv:Value) (J:JT):Prop where
 cell1:yv.oneCell'=true
 stab:∀D Y g w D' Y' w',J D Y g w→Adv D Y w D' Y' w'→J D' Y' g w'
 yield:∀(D:Cells) (Y:Nat→Prop) x rest w vals,J D Y (some (x::rest)) w→(∀b o,D b o→b<w.heap.size)→(∀b,Y b→b<w.heap.size)→Glob w→RepL w D [] [] x vals→
  VCalls P yv vals w fun e w'=>∃b,e=.returned (.bool b)∧J D Y (gT b rest) w'∧Left D Y w D w'
def YR (kind:Bool) (b:Bool) (v:Value):Prop:=
 match kind with
 |true=>v=.bool b
 |false=>True
def YFn (P:Program) (f:FuncId) (args:AV→List AV) (L:List (List AV)) (kind:Bool):Prop:=
 Callable P f∧∀(J:JT) (yv:Value),Cons P yv J→∀(D:Cells) (Y:Nat→Prop) (rest:List (List AV)) (w:World) (vals:List Value),
  J D Y (some (L++rest)) w→(∀b o,D b o→b<w.heap.size)→(∀b,Y b→b<w.heap.size)→Glob w→RepL w D [] [] (args (.fn yv)) vals→
  CallsIn Fence.wide 0 P f vals.toArray w fun e w'=>∃v D' b,e=.returned v∧YR kind b v∧J D' Y (gT b rest) w'∧Left D Y w D' w'
section walk
variable {P:Program} {yv:Value} {J:JT} {D0:Cells} {Y0:Nat→Prop} {w00:World} {nt:Nat}
structure Base (P:Program) (J:JT) (D0:Cells) (Y0:Nat→Prop) (w00:World) (nt:Nat) (Γ:Env Unit) (g:Gh):Prop where
 ok:Γ.Ok
 hP:Γ.P=P
 hnt:Γ.nt=nt
 rnd:Γ.rnd=none
 x:∀b,¬Γ.X b
 z:∀b o,¬Γ.Z b o
 h0:Γ.hp0.length=0
 m0:∀r,¬Γ.m0 r
 j:J Γ.F0 (fun b=>Y0 b∨Γ.Y b) g Γ.w0
 f0:∀b o,Γ.F0 b o→b<Γ.w0.heap.size
 cell:∀b o v,D0 b o→w00.cell? ⟨b,o,none⟩=some v→Γ.w0.cell? ⟨b,o,none⟩=some v
 mapb:∀b es c,D0 b 0→w00.heap[b]?=some (.map es c)→Γ.w0.heap[b]?=some (.map es c)
 y0:∀b,Y0 b→Γ.w0.heap[b]?=w00.heap[b]?
 y0lt:∀b,Y0 b→b<w00.heap.size
 size:w00.heap.size≤Γ.w0.heap.size
 d0:∀b o,D0 b o→Γ.F0 b o
 f00:∀b o,Γ.F0 b o→D0 b o∨w00.heap.size≤b
 own:∀b,Γ.Y b→w00.heap.size≤b
 gl:∀b,IsGlob b→Γ.w0.heap[b]?=w00.heap[b]?
variable {Γ:Env Unit} {s s':AS Unit} {a:Act} {w w' w2:World} {η:List Value} {g g2:Gh}
theorem Base.noDefers (hB:Base P J D0 Y0 w00 nt Γ g) (hr:Rel Γ s a w η):a.defers=[]:=by
 cases hd:a.defers with
 |nil=>rfl
 |cons d l=>
  obtain⟨r,_,_,h⟩:=hr.marks.all d (by rw[hd];exact List.mem_cons_self)
  exact(hB.m0 r h).elim
theorem Base.live (hr:Rel Γ s a w η):∀b,LiveBlk η s.hp b→b<w.heap.size∧(Γ.w0.heap.size≤b∨Γ.Y b):=fun b ⟨q,o,v,g1,g2,g3,g4⟩=>
 ⟨hr.heap.block g1 g2 g3 g4,(hr.mine q o v b g1 g2 g3 g4).1⟩
theorem Base.now (hC:Cons P yv J) (hB:Base P J D0 Y0 w00 nt Γ g) (hr:Rel Γ s a w η):J (Fok Γ w η s.hp) (fun b=>Y0 b∨LiveBlk η s.hp b) g w:=by
 have hsz:=hr.keeps.size
 refine hC.stab _ _ _ _ _ _ _ hB.j ⟨?_,hr.ext.cell,hr.ext.mapb,hr.ext.foot,fun b o hf=>⟨?_,hf.2.1⟩,fun b hb=>?_⟩
 ·exact⟨hr.keeps.os,hr.keeps.tape,hr.keeps.output,hsz,fun k hk hx=>hr.keeps.block k hk fun h=>h.elim (hB.x k) fun h=>hx (.inr h)⟩
 ·rcases hf.1 with h|h|h
  ·exact .inl h
  ·exact .inr (.inr h)
  ·exact .inr (.inl (.inr h))
 ·rcases hb with h|h
  ·exact⟨.inl (.inl h),by have:=hB.y0lt b h;have:=hB.size;omega⟩
  ·obtain⟨h1,h2⟩:=Base.live hr b h
   rcases h2 with h2|h2
   ·exact⟨.inr h2,h1⟩
   ·exact⟨.inl (.inr h2),h1⟩
def rebase (Γ:Env Unit) (w2:World) (D2:Cells) (Y:Nat→Prop):Env Unit:=
 { P:=Γ.P,w0:=w2,F0:=D2,X:=fun _=>False,Y:=Y,Inv:=fun _ _=>True,nt:=Γ.nt,rnd:=none,m0:=fun _=>False,Z:=fun _ _=>False,η0:=[],hp0:=[] }
theorem Base.step (hC:Cons P yv J) (hB:Base P J D0 Y0 w00 nt Γ g) (hr:Rel Γ s a w η) {D2:Cells} (hj:J D2 (fun b=>Y0 b∨LiveBlk η s.hp b) g2 w2) (hl:Left (Fok Γ w η s.hp) (fun b=>Y0 b∨LiveBlk η s.hp b) w D2 w2):
  Base P J D0 Y0 w00 nt (rebase Γ w2 D2 (LiveBlk η s.hp)) g2∧Rel (rebase Γ w2 D2 (LiveBlk η s.hp)) s a w2 η:=by
 have hsz:=hr.keeps.size
 have hlive:=Base.live hr
 have hok2:(rebase Γ w2 D2 (LiveBlk η s.hp)).Ok:=⟨rfl,fun _ h=>h.elim,fun b hb=>Nat.lt_of_lt_of_le (hlive b hb).1 hl.size,fun _ _ _ _ _ _=>True.intro,fun _ _ h=>h.elim,fun p hp=>by
  obtain⟨T,h1⟩:=(hr.glob hB.ok) p hp
  exact⟨T,(hl.gl p.1 ⟨p,hp,rfl⟩).trans h1⟩,fun b hb h=>h.elim (fun h=>h) (hr.gx hB.ok hb)⟩
 have hobj:∀b o,D2 b o→ObjF η s.hp b o:=by
  intro b o hb
  rcases (hl.back b o hb).1 with h|h
  ·exact h.2.2.2
  ·refine(objF_iff b o).2 fun q u hu hbu=>?_
   have hq:q<s.hp.length:=by rw[←hr.heap.len];exact(List.getElem?_eq_some_iff.1 hu).1
   have hg:s.hp[q]?=some s.hp[q]:=by simp[hq]
   refine⟨_,hg,?_⟩
   cases hx:s.hp[q] with
   |dead=>exact True.intro
   |_=>
    exfalso
    rw[hx] at hg
    have:=hr.heap.block hg True.intro hu hbu
    omega
 have he:Ext w (Fok Γ w η s.hp) η s.hp w2 (Fok (rebase Γ w2 D2 (LiveBlk η s.hp)) w2 η s.hp) η s.hp:=
  ⟨hl.cell,hl.mapb,fun b o hf=>⟨.inl (hl.foot b o hf),Nat.lt_of_lt_of_le hf.2.1 hl.size,fun h=>h.elim (fun h=>h) fun h=>h,hf.2.2.2⟩,fun _ _ h=>h,fun _ _ h=>h,fun _ _ _ h=>h⟩
 refine⟨⟨hok2,hB.hP,hB.hnt,rfl,fun _ h=>h,fun _ _ h=>h,rfl,fun _ h=>h,hj,fun b o hb=>(hl.back b o hb).2,fun b o v hd hc=>?_,fun b es c hd hc=>?_,fun b hb=>?_,hB.y0lt,?_,fun b o hd=>?_,fun b o hf=>?_,fun b hb=>?_,fun b hb=>(hl.gl b hb).trans ((hr.keeps.block b (hB.ok.glob.lt hb) (hB.ok.gx b hb)).trans (hB.gl b hb))⟩,
  ⟨hr.nt,fun t=>(hr.tmps t).ext he,⟨hr.heap.len,fun q o v h1 h2=>?_,hr.heap.sep⟩,fun q o v b h1 h2 h3 h4=>⟨.inr ⟨q,o,v,h1,h2,h3,h4⟩,fun _ h=>h.elim (fun h=>h) fun h=>h⟩,Keeps.refl _ _,True.intro,?_,?_⟩⟩
 ·exact hl.cell b o v (hr.ext.foot _ _ (hB.d0 b o hd)) (hr.ext.cell b o v (hB.d0 b o hd) (hB.cell b o v hd hc))
 ·exact hl.mapb b es c (hr.ext.foot _ _ (hB.d0 b 0 hd)) (hr.ext.mapb b es c (hB.d0 b 0 hd) (hB.mapb b es c hd hc))
 ·show w2.heap[b]?=_
  rw[hl.blocks b (.inl hb),←hB.y0 b hb]
  have h1:=hB.y0lt b hb
  have h2:=hB.size
  exact hr.keeps.block b (by omega) fun h=>h.elim (hB.x b) fun h=>by have:=hB.own b h;omega
 ·show w00.heap.size≤w2.heap.size
  have h1:=hB.size
  have h2:=hl.size
  omega
 ·exact hl.foot b o (hr.ext.foot _ _ (hB.d0 b o hd))
 ·have h1:=hB.size
  rcases (hl.back b o hf).1 with h|h
  ·rcases h.1 with h|h|h
   ·exact hB.f00 b o h
   ·exact .inr (by omega)
   ·exact .inr (hB.own b h)
  ·exact .inr (by omega)
 ·have h1:=hB.size
  rcases (hlive b hb).2 with h|h
  ·omega
  ·exact hB.own b h
 ·by_cases hv:o.live
  ·exact(hr.heap.obj q o v h1 h2).ext he hl.size fun b hb _=>hl.blocks b (.inr ⟨q,o,v,h1,hv,h2,hb⟩)
  ·cases o<;>first|exact True.intro|exact(hv True.intro).elim
 ·rw[hB.noDefers hr];exact⟨fun d hd=>(by cases hd),List.Pairwise.nil⟩
 ·refine⟨fun _ _ _ _ h=>h,fun _ _ _ _ h=>h,fun b o hb=>⟨.inl hb,(hl.back b o hb).2,fun h=>h.elim (fun h=>h) fun h=>h,hobj b o hb⟩,fun r a h=>?_,fun r a h=>?_,fun r n v h=>?_⟩
  ·simp[rebase] at h
  ·simp[rebase] at h
  ·simp[rebase,OwnOk] at h
def KPost (P:Program) (J:JT) (D0:Cells) (Y0:Nat→Prop) (w00:World) (nt:Nat) (K:AS Unit→Gh→Prop) (a':Act) (w':World):Prop:=
 ∃(Γ':Env Unit) (s':AS Unit) (η':List Value) (g':Gh),Base P J D0 Y0 w00 nt Γ' g'∧K s' g'∧Rel Γ' s' a' w' η'
theorem KPost.mono {K K':AS Unit→Gh→Prop} (hk:∀s g,K s g→K' s g) {a':Act} (h:KPost P J D0 Y0 w00 nt K a' w'):KPost P J D0 Y0 w00 nt K' a' w':=
 let ⟨Γ',s',η',g',h1,h2,h3⟩:=h;⟨Γ',s',η',g',h1,hk _ _ h2,h3⟩
def AWpY (P:Program) (J:JT) (D0:Cells) (Y0:Nat→Prop) (w00:World) (nt:Nat) (c:Code) (Q:Exit→AS Unit→Gh→Prop) (s:AS Unit) (g:Gh):Prop:=
 ∀Γ a w η,Base P J D0 Y0 w00 nt Γ g→Rel Γ s a w η→c.wpIn Fence.wide 0 P (fun e=>KPost P J D0 Y0 w00 nt (Q e)) a w
theorem Base.fence (hB:Base P J D0 Y0 w00 nt Γ g):Γ.fence=Fence.wide:=by
 simp only[Env.fence,hB.rnd];rfl
theorem AWpY.of {c:Code} {Q:Exit→AS Unit→Gh→Prop} (h:∀Γ:Env Unit,Γ.Ok→Γ.P=P→Γ.nt=nt→Γ.hp0.length=0→AWp Γ c (fun e s'=>Q e s' g) s):AWpY P J D0 Y0 w00 nt c Q s g:=by
 intro Γ a w η hB hr
 have h1:=h Γ hB.ok hB.hP hB.hnt hB.h0 a w η hr
 rw[hB.fence,hB.hP] at h1
 exact wpIn_mono h1 fun e a' w' ⟨s',η',h2,h3⟩=>⟨Γ,s',η',g,hB,h2,h3⟩
def ListY (P:Program) (J:JT) (D0:Cells) (Y0:Nat→Prop) (w00:World) (nt:Nat) (ops:Array Oper) (K:AS Unit→Gh→Prop) (l:List Oper) (s:AS Unit) (g:Gh):Prop:=
 ∀Γ a w η (Qc:Exit→Act→World→Prop),Base P J D0 Y0 w00 nt Γ g→(∀a' w',KPost P J D0 Y0 w00 nt K a' w'→Qc .normal a' w')→Rel Γ s a w η→wpListIn Fence.wide 0 P ops Qc l a w
theorem ListY.nil {ops:Array Oper} {K:AS Unit→Gh→Prop} (h:K s g):ListY P J D0 Y0 w00 nt ops K [] s g:=
 fun Γ a w η _ hB hQ hr=>hQ a w ⟨Γ,s,η,g,hB,h,hr⟩
theorem ListY.calm {ops:Array Oper} {K N:AS Unit→Gh→Prop} {o:Oper} {rest:List Oper} (hg:∀(Γ:Env Unit) a w η,Rel Γ s a w η→Region.wanted o (yielded ops a.tmps)=true)
  (h:∀Γ:Env Unit,Γ.Ok→Γ.P=P→Γ.nt=nt→Γ.hp0.length=0→ACall Γ o s (fun s'=>N s' g)) (hn:∀s',N s' g→ListY P J D0 Y0 w00 nt ops K rest s' g):ListY P J D0 Y0 w00 nt ops K (o::rest) s g:=by
 intro Γ a w η Qc hB hQ hr
 simp only[wpListIn]
 rw[if_pos (hg Γ a w η hr)]
 have h1:=h Γ hB.ok hB.hP hB.hnt hB.h0 a w η (wpListIn Fence.wide 0 P ops Qc rest) Qc (fun s' a' w' η' hN hr'=>hn s' hN Γ a' w' η' Qc hB hQ hr') hr
 rw[hB.fence,hB.hP] at h1
 exact h1
theorem ListY.skip {ops:Array Oper} {K:AS Unit→Gh→Prop} {o:Oper} {rest:List Oper} (hg:∀(Γ:Env Unit) a w η,Rel Γ s a w η→Region.wanted o (yielded ops a.tmps)=false) (hd:dstOk nt o.dst)
  (h:ListY P J D0 Y0 w00 nt ops K rest (s.put o.dst (.prim (.tuple #[]))) g):ListY P J D0 Y0 w00 nt ops K (o::rest) s g:=by
 intro Γ a w η Qc hB hQ hr
 simp only[wpListIn]
 rw[if_neg (by rw[hg Γ a w η hr];simp)]
 exact⟨fun _ _=>trivial,h Γ _ w η Qc hB hQ (hr.put (dstOk_spec (by rw[hB.hnt];exact hd)) (.prim _))⟩
theorem Rel.putSlot (hB:Base P J D0 Y0 w00 nt Γ g) (hr:Rel Γ s a w η) {d:Option Nat} (hd:dstOk nt d) {x:AV} {v:Value} (hx:Rep w (Fok Γ w η s.hp) η s.hp x v):Rel Γ (s.put d x) (a.put d v) w η:=
 hr.put (dstOk_spec (by rw[hB.hnt];exact hd)) hx
theorem run_call_yield {o:Oper} {c:Call} {x:Operand} (ho:o.op=.call c) (hc:c.callee=.value x) {l:Nat} (hx:a.eval x=.func (.yield l) #[] #[]) {n:Next} (h:(Instr.yield l (c.args.map a.eval)).run P w=.ok n w):
  (execOp a.eval o).run P w=.ok n w:=by
 simp[execOp,ho,resolve,hc,hx,Deferred.ofValue,invoke,h]
theorem ListY.yield (hC:Cons P yv J) {ops:Array Oper} {K:AS Unit→Gh→Prop} {o:Oper} {rest:List Oper} (hg:o.guard=none) {c:Call} {x:Operand} (ho:o.op=.call c) (hc:c.callee=.value x) (hx:s.ev x=.fn yv) (hd:dstOk nt o.dst)
  {more:List (List AV)} (hgh:g=some (((c.args.toList.map s.ev).map (AV.argN 0 s.hp))::more)) (h:∀b,ListY P J D0 Y0 w00 nt ops K rest (s.put o.dst (.prim (.bool b))) (gT b more)):ListY P J D0 Y0 w00 nt ops K (o::rest) s g:=by
 intro Γ a w η Qc hB hQ hr
 simp only[wpListIn]
 rw[if_pos (by simp[Region.wanted,hg])]
 have hj:=hB.now hC hr
 rw[hgh] at hj
 have hxr:=hr.ev x
 rw[hx] at hxr
 generalize hv:a.eval x=v at hxr
 cases hxr with
 |fn v h1=>
 obtain⟨l,fn,tmps,asg,body,rfl,hrun,hround⟩:=hC.yield _ _ _ _ _ _ hj (fun _ _=>fok_lt) (fun b hb=>hb.elim (fun h=>by have:=hB.y0lt b h;have:=hB.size;have:=hr.keeps.size;omega) fun h=>(Base.live hr b h).1) (hr.glob hB.ok) (argN0_rep hr _ _ (repArgs hr c.args.toList))
 refine⟨fun _ _=>trivial,?_⟩
 have hne:∀c',o.op ≠ .defer c':=by intro c' h;rw[ho] at h;cases h
 have hargs:(c.args.toList.map a.eval).toArray=c.args.map a.eval:=by apply Array.ext';simp
 rw[hargs] at hrun
 rw[Oper.semAt_eq _ _ _ hne,run_call_yield ho hc hv hrun]
 refine⟨fun h=>(by cases h),?_⟩
 refine RoundIn.mono hround fun e w' ⟨b,he,hj',hl⟩=>?_
 subst he
 obtain⟨hB2,hr2⟩:=hB.step hC hr hj' hl
 exact h b _ _ _ _ Qc hB2 hQ (hr2.putSlot hB2 hd (.prim _))
theorem ListY.call (hC:Cons P yv J) {ops:Array Oper} {K:AS Unit→Gh→Prop} {o:Oper} {rest:List Oper} (hg:o.guard=none) {c:Call} {x:Operand} (ho:o.op=.call c) (hc:c.callee=.value x) {f:FuncId} {caps:List AV} (hx:s.ev x=.clo f caps) (hd:dstOk nt o.dst)
  {args:AV→List AV} {L more:List (List AV)} {kind:Bool} (hF:YFn P f args L kind) (hargs:((c.args.toList.map s.ev++caps).map (AV.argN 0 s.hp))=args (.fn yv)) (hgh:g=some (L++more))
  (h:∀b,ListY P J D0 Y0 w00 nt ops K rest (s.put o.dst (match kind with|true=>.prim (.bool b)|false=>.top)) (gT b more)):ListY P J D0 Y0 w00 nt ops K (o::rest) s g:=by
 intro Γ a w η Qc hB hQ hr
 simp only[wpListIn]
 rw[if_pos (by simp[Region.wanted,hg])]
 have hj:=hB.now hC hr
 rw[hgh] at hj
 have hxr:=hr.ev x
 rw[hx] at hxr
 generalize hv:a.eval x=v at hxr
 cases hxr with
 |clo _ _ vs hl hrep=>
 refine⟨fun _ _=>trivial,?_⟩
 have hne:∀c',o.op ≠ .defer c':=by intro c' h;rw[ho] at h;cases h
 have hcall:(execOp a.eval o).run P w=.ok (.enter f (c.args.map a.eval++vs)) w:=by
  have:=run_call_clo (Γ:=Γ) (a:=a) (w:=w) ho hc (f:=f) (by rw[hB.hP];exact hF.1) hv
  rw[hB.hP] at this
  exact this
 rw[Oper.semAt_eq _ _ _ hne,hcall]
 have hav:(c.args.map a.eval++vs)=(c.args.toList.map a.eval++vs.toList).toArray:=by apply Array.ext';simp
 have hcl:RepL w (Fok Γ w η s.hp) η s.hp caps vs.toList:=repL_of_get (by simpa using hl) fun j y u hy hu=>hrep j y u hy (by simpa using hu)
 have hreps:=argN0_rep hr _ _ (repL_append _ _ (repArgs hr c.args.toList) hcl)
 rw[hargs] at hreps
 refine⟨fun h=>(by cases h),?_⟩
 rw[hav]
 refine CallsIn.mono (hF.2 J yv hC _ _ more w _ hj (fun _ _=>fok_lt) (fun b hb=>hb.elim (fun h=>by have:=hB.y0lt b h;have:=hB.size;have:=hr.keeps.size;omega) fun h=>(Base.live hr b h).1) (hr.glob hB.ok) hreps) fun e w' ⟨v,D',b,he,hv,hj',hl⟩=>?_
 subst he
 obtain⟨hB2,hr2⟩:=hB.step hC hr hj' hl
 refine h b _ _ _ _ Qc hB2 hQ (hr2.putSlot hB2 hd ?_)
 cases kind with
 |true=>simp only[YR] at hv;subst hv;exact .prim _
 |false=>exact .top _
variable {Q:Exit→AS Unit→Gh→Prop}
theorem AWpY.region {id:Nat} {l:List Oper} (h:ListY P J D0 Y0 w00 nt l.toArray (Q .normal) l s g):AWpY P J D0 Y0 w00 nt (.region id l.toArray false) Q s g:=
 fun Γ a w η hB hr=>wpIn_region_lit (h Γ a w η _ hB (fun _ _ h=>h) hr)
def thenY (N:AS Unit→Gh→Prop) (Q:Exit→AS Unit→Gh→Prop):Exit→AS Unit→Gh→Prop
 | .normal,s,g=>N s g
 |e,s,g=>Q e s g
def inBlockY (id:Nat) (Q:Exit→AS Unit→Gh→Prop):Exit→AS Unit→Gh→Prop
 | .exit id',s,g=>if id'=id then Q .normal s g else Q (.exit id') s g
 |e,s,g=>Q e s g
theorem AWpY.mono {c:Code} {Q':Exit→AS Unit→Gh→Prop} (h:AWpY P J D0 Y0 w00 nt c Q s g) (hq:∀e s g,Q e s g→Q' e s g):AWpY P J D0 Y0 w00 nt c Q' s g:=
 fun Γ a w η hB hr=>wpIn_mono (h Γ a w η hB hr) fun e _ _ hp=>hp.mono (hq e)
theorem AWpY.seq {x y:Code} (h:AWpY P J D0 Y0 w00 nt x (thenY (AWpY P J D0 Y0 w00 nt y Q) Q) s g):AWpY P J D0 Y0 w00 nt (.seq x y) Q s g:=by
 intro Γ a w η hB hr
 refine wpIn_seq (wpIn_mono (h Γ a w η hB hr) fun e a' w' hq=>?_)
 cases e with
 |normal=>
  obtain⟨Γ',s',η',g',h1,h2,h3⟩:=hq
  exact h2 Γ' a' w' η' h1 h3
 |_=>exact hq
theorem AWpY.skip (h:Q .normal s g):AWpY P J D0 Y0 w00 nt .skip Q s g:=fun Γ _ _ η hB hr=>wpIn_skip ⟨Γ,s,η,g,hB,h,hr⟩
theorem AWpY.exit {id:Nat} (h:Q (.exit id) s g):AWpY P J D0 Y0 w00 nt (.exit id) Q s g:=fun Γ _ _ η hB hr=>wpIn_exit ⟨Γ,s,η,g,hB,h,hr⟩
theorem AWpY.ret (h:Q .ret s g):AWpY P J D0 Y0 w00 nt .ret Q s g:=fun Γ _ _ η hB hr=>wpIn_ret ⟨Γ,s,η,g,hB,h,hr⟩
theorem AWpY.label {l:Nat} (h:Q .normal s g):AWpY P J D0 Y0 w00 nt (.label l) Q s g:=fun Γ _ _ η hB hr=>wpIn_label ⟨Γ,s,η,g,hB,h,hr⟩
theorem AWpY.block {id:Nat} {c:Code} (h:AWpY P J D0 Y0 w00 nt c (inBlockY id Q) s g):AWpY P J D0 Y0 w00 nt (.block id c) Q s g:=by
 intro Γ a w η hB hr
 refine wpIn_block (wpIn_mono (h Γ a w η hB hr) fun e a' w' hq=>?_)
 obtain⟨Γ',s',η',g',h1,h2,h3⟩:=hq
 cases e with
 |exit id'=>
  simp only[inBlockY] at h2
  simp only[Exit.inBlock]
  split
  ·rename_i hid;rw[if_pos hid] at h2;exact⟨Γ',s',η',g',h1,h2,h3⟩
  ·rename_i hid;rw[if_neg hid] at h2;exact⟨Γ',s',η',g',h1,h2,h3⟩
 |_=>exact⟨Γ',s',η',g',h1,h2,h3⟩
theorem AWpY.cond {c:Operand} {x y:Code} {b:Bool} (hb:s.ev c=.prim (.bool b)) (h1:b=true→AWpY P J D0 Y0 w00 nt x Q s g) (h2:b=false→AWpY P J D0 Y0 w00 nt y Q s g):AWpY P J D0 Y0 w00 nt (.cond c x y) Q s g:=by
 intro Γ a w η hB hr
 have hc:=hr.ev c
 rw[hb] at hc
 exact wpIn_cond_split hc.prim_inv (fun ht=>h1 ht Γ a w η hB hr) fun ht=>h2 ht Γ a w η hB hr
def WeakY (s s':AS Unit):Prop:=∀Γ:Env Unit,Γ.Ok→Γ.hp0.length=0→∀a w η,Rel Γ s a w η→∃η',Rel Γ s' a w η'
theorem AWpY.weak {c:Code} (hw:WeakY s s') (h:AWpY P J D0 Y0 w00 nt c Q s' g):AWpY P J D0 Y0 w00 nt c Q s g:=
 fun Γ a w η hB hr=>let ⟨η',hr'⟩:=hw Γ hB.ok hB.h0 a w η hr;h Γ a w η' hB hr'
theorem AWpY.loop {c:Code} {β:Type} (I:β→Prop) (st:β→AS Unit) (gh:β→Gh) (μ:β→Nat) (b0:β) (hI:I b0) (h0:WeakY s (st b0)) (hg:g=gh b0)
  (round:∀b,I b→AWpY P J D0 Y0 w00 nt c (thenY (fun s' g'=>∃b',I b'∧WeakY s' (st b')∧g'=gh b'∧μ b' < μ b) Q) (st b) (gh b)):AWpY P J D0 Y0 w00 nt (.loop c) Q s g:=by
 intro Γ a w η hB hr
 obtain⟨η0,hr0⟩:=h0 Γ hB.ok hB.h0 a w η hr
 subst hg
 have key:∀(n:Nat) (b:β),I b→μ b=n→∀Γ a w η,Base P J D0 Y0 w00 nt Γ (gh b)→Rel Γ (st b) a w η→∀(f:Frame) (k:List Item) (cs:List Frame),f.roundOf=Fence.wide.round→Fence.wide.fn f.fn→Fence.wide.room (cs.length+1+0)→
   ∃e a' w',KPost P J D0 Y0 w00 nt (Q e) a' w'∧ArrivesIn (Machine.fenced P Fence.wide) P (lone (f.atR a (.code c :: .inLoop c::k)) cs w) f k cs e a' w':=by
  intro n
  induction n using Nat.strongRecOn with
  |_ n ih=>
   intro b hIb hb Γ a w η hB hr f k cs hro hf hroom
   obtain⟨e,a₁,w₁,hq,harr⟩:=round b hIb Γ a w η hB hr f (.inLoop c::k) cs hro hf hroom
   cases e with
   |normal=>
    obtain⟨Γ1,s1,η1,g1,hB1,⟨b',hIb',hw',hg',hlt⟩,hr1⟩:=hq
    obtain⟨η'',hr''⟩:=hw' Γ1 hB1.ok hB1.h0 _ _ _ hr1
    subst hg'
    obtain⟨e₂,a₂,w₂,hq₂,harr₂⟩:=ih (μ b') (hb▸hlt) b' hIb' rfl Γ1 a₁ w₁ η'' hB1 hr'' f k cs hro hf hroom
    exact⟨e₂,a₂,w₂,hq₂,.of_steps (StepsIn.trans harr (.one (fenced_calm hf hroom rfl) stepR_inLoop)) harr₂⟩
   |exit id=>exact⟨_,a₁,w₁,hq,.pass (x:=.inLoop c) rfl (fun _ _=>.inl (by simp)) harr⟩
   |goto l=>exact⟨_,a₁,w₁,hq,.pass (x:=.inLoop c) rfl (fun _ _=>.inl (by simp)) harr⟩
   |ret=>exact⟨_,a₁,w₁,hq,.pass (x:=.inLoop c) rfl (fun _ _=>.inl (by simp)) harr⟩
   |panic ch=>exact⟨_,a₁,w₁,hq,.pass (x:=.inLoop c) rfl (fun _ _=>.inl (by simp)) harr⟩
   |outgrown=>exact⟨_,a₁,w₁,hq,.pass (x:=.inLoop c) rfl (fun _ _=>.inl (by simp)) harr⟩
 intro f k cs hro hf hroom
 obtain⟨e,a',w',hq,harr⟩:=key _ b0 hI rfl Γ a w η0 hB hr0 f k cs hro hf hroom
 exact⟨e,a',w',hq,.of_steps (.one (fenced_calm hf hroom rfl) stepR_loop) harr⟩
end walk
def kindP (kind b:Bool) (x:AV):Prop:=
 match kind with
 |true=>x=.prim (.bool b)
 |false=>True
def retY (tab:Nat→Option TD) (rs:List ResultVar) (kind:Bool) (more:List (List AV)):Exit→AS Unit→Gh→Prop
 | .normal,s,g | .ret,s,g=>(match resAll tab s rs with
  |some l=>∃b,g=gT b more∧kindP kind b (resTup l)
  |none=>False)
 |_,_,_=>False
theorem yfn_of_body {P:Program} {tab:Nat→Option TD} (htab:TabOk P tab) {f:FuncId} {fn:Func} {c:Code} {args:AV→List AV} {L:List (List AV)} {kind:Bool} (hf:P.funcs[f]?=some fn) (hb:fn.body=some c) (hname:(fn.name == "runtime.NumGoroutine")=false)
  (hn:∀v,(args v).length≤fn.ntmps)
  (h:∀(J:JT) (yv:Value),Cons P yv J→∀D0 Y0 w00 more,AWpY P J D0 Y0 w00 fn.ntmps c (retY tab fn.results.toList kind more) ⟨startT 0 (args (.fn yv)),[],()⟩ (some (L++more))):YFn P f args L kind:=by
 refine⟨⟨fn,hf,hname,by rw[hb];rfl⟩,fun J yv hC D Y more w vals hj hD hY hgl hv=>?_⟩
 let Γ:Env Unit:={ P:=P,w0:=w,F0:=D,X:=fun _=>False,Y:=fun _=>False,Inv:=fun _ _=>True,nt:=fn.ntmps,rnd:=none,m0:=fun _=>False,Z:=fun _ _=>False,η0:=[],hp0:=[] }
 have hok:Γ.Ok:=⟨rfl,fun _ h=>h.elim,fun _ h=>h.elim,fun _ _ _ _ _ h=>h,fun _ _ h=>h.elim,hgl,fun _ _ h=>h.elim (fun h=>h) fun h=>h⟩
 have hvl:=hv.length
 have hfoot:∀b o,D b o→Fok Γ w [] [] b o:=fun b o hb=>⟨.inl hb,hD b o hb,fun h=>h.elim (fun h=>h) fun h=>h,fun r v hr=>by simp at hr⟩
 have hB:Base P J D Y w fn.ntmps Γ (some (L++more)):=by
  refine⟨hok,rfl,rfl,rfl,fun _ h=>h,fun _ _ h=>h,rfl,fun _ h=>h,?_,hD,fun _ _ _ _ h=>h,fun _ _ _ _ h=>h,fun _ _=>rfl,hY,Nat.le_refl _,fun _ _ h=>h,fun _ _ h=>.inl h,fun _ h=>h.elim,fun _ _=>rfl⟩
  have e:(fun b=>Y b∨Γ.Y b)=Y:=by funext b;simp[Γ]
  rw[e];exact hj
 have hrel:Rel Γ ⟨startT 0 (args (.fn yv)),[],()⟩ ⟨vals.toArray++Array.replicate (fn.ntmps-vals.toArray.size) undef,[]⟩ w []:=by
  have hna:=hn (.fn yv)
  refine⟨by simp[Γ];omega,fun t=>?_,⟨rfl,fun r o v h=>by simp at h,fun r r' o o' v v' b _ h=>by simp at h⟩,fun r o v b h=>by simp at h,Keeps.refl _ w,True.intro,⟨fun d hd=>(by cases hd),List.Pairwise.nil⟩,⟨fun _ _ _ _ h=>h,fun _ _ _ _ h=>h,hfoot,fun _ _ h=>h,fun _ _ h=>h,fun _ _ _ h=>h⟩⟩
  have:=startT_rep (hp:=[]) (η:=[]) (args (.fn yv)) vals 0 hv t
  simp only[Nat.not_lt_zero,if_false,or_false,Nat.sub_zero] at this
  show Rep w _ _ _ _ ((vals.toArray++Array.replicate (fn.ntmps-vals.toArray.size) undef).getD t undef)
  rw[start_slot]
  exact this.foot hfoot
 have hbody:=h J yv hC D Y w more Γ _ w _ hB hrel
 refine callsIn_of_wp_marks (F:=Fence.wide) hf hb trivial (wpIn_mono (F:=Fence.wide) hbody fun e a' w' ⟨Γ',s',η',g',hB',hq,hr'⟩=>?_)
 have fin:(∃l,resAll tab s' fn.results.toList=some l∧∃b,g'=gT b more∧kindP kind b (resTup l))→
   LeavesInM Fence.wide 0 P fn a'.tmps (fun e w'=>∃v D' b,e=.returned v∧YR kind b v∧J D' Y (gT b more) w'∧Left D Y w D' w') a'.defers .returning w':=by
  intro ⟨l,hl,b,hg',hR⟩
  have hd:=hB'.noDefers hr'
  obtain⟨ts,ds⟩:=a'
  simp only at hd
  subst hd
  obtain⟨v,h1,h2⟩:=run_results (fn:=fn) (by rw[hB'.hP];exact htab) hr' hl
  rw[hB'.hP] at h1
  have hj':=hB'.now hC hr'
  have hsz:=hr'.keeps.size
  have hB0:=hB'.size
  refine⟨v,h1,v,Fok Γ' w' η' s'.hp,b,rfl,?_,?_,⟨by omega,fun k o u hk hc=>?_,fun k es c hk hc=>?_,fun k hk=>?_,fun k o hk=>?_,fun k o hk=>⟨?_,hk.2.1⟩,fun k hk=>(hr'.keeps.block k (hB'.ok.glob.lt hk) (hB'.ok.gx k hk)).trans (hB'.gl k hk)⟩⟩
  ·cases kind with
   |true=>simp only[kindP] at hR;rw[hR] at h2;exact h2.prim_inv
   |false=>exact True.intro
  ·rw[←hg']
   refine hC.stab _ _ _ _ _ _ _ hj' ⟨Keeps.refl _ _,fun _ _ _ _ h=>h,fun _ _ _ _ h=>h,fun _ _ h=>h,fun k o h=>⟨.inl h,h.2.1⟩,fun k hk=>⟨.inl (.inl hk),?_⟩⟩
   have:=hY k hk;omega
  ·exact hr'.ext.cell k o u (hB'.d0 k o hk) (hB'.cell k o u hk hc)
  ·exact hr'.ext.mapb k es c (hB'.d0 k 0 hk) (hB'.mapb k es c hk hc)
  ·rw[←hB'.y0 k hk]
   have:=hY k hk
   exact hr'.keeps.block k (by omega) fun h=>h.elim (hB'.x k) fun h=>by have:=hB'.own k h;omega
  ·exact hr'.ext.foot _ _ (hB'.d0 k o hk)
  ·rcases hk.1 with h|h|h
   ·exact hB'.f00 k o h
   ·exact .inr (by omega)
   ·exact .inr (hB'.own k h)
 cases e with
 |normal=>
  simp only[retY] at hq
  split at hq
  ·rename_i l hl;exact fin ⟨l,hl,hq⟩
  ·exact hq.elim
 |ret=>
  simp only[retY] at hq
  split at hq
  ·rename_i l hl;exact fin ⟨l,hl,hq⟩
  ·exact hq.elim
 |_=>exact hq.elim
end Go.Proofs.YtjhanogfpkbamaaGreatDoor
