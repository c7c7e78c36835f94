/- Texts of ours laid together for a claim: VcJ. -/
import Derived.Test.YtjhanogfpkbamaaGreatDoorQ28
namespace Go.Proofs.YtjhanogfpkbamaaGreatDoor
open Go
set_option linter.unusedSimpArgs false
set_option linter.unusedVariables false
variable {P:Program} {yv:Value} {J:JT} {D0:Cells} {Y0:Nat→Prop} {w00:World} {s:AS Unit} {g:Gh}
def KYOp (C:VCfg) (yv:Value) (o:Oper) (s:AS Unit) (g:Gh) (next:AS Unit→Gh→Prop):Option Prop:=
 match o.guard,o.op with
 |none,.call c=>(match c.callee with
  | .value x=>(match s.ev x with
   | .fn v=>some (v=yv∧conj (mapD (AV.argN' 0 s.hp) (c.args.toList.map s.ev)).1 (∃more:List (List AV),g=some ((mapD (AV.argN' 0 s.hp) (c.args.toList.map s.ev)).2::more)∧∀b:Bool,next (s.put o.dst (.prim (.bool b))) (gT b more)))
   | .clo f caps=>(match C.sig f o.type with
    | .y kind=>some (conj (mapD (AV.argN' 0 s.hp) (c.args.toList.map s.ev++caps)).1 (∃(A:AV→List AV) (L more:List (List AV)),(mapD (AV.argN' 0 s.hp) (c.args.toList.map s.ev++caps)).2=A (.fn yv)∧YFn C.P f A L kind∧g=some (L++more)∧
      ∀b:Bool,next (s.put o.dst (match kind with|true=>.prim (.bool b)|false=>.top)) (gT b more)))
    |_=>none)
   |_=>none)
  |_=>none)
 |_,_=>none
theorem KYOp.sound {C:VCfg} (hC:Cons C.P yv J) {ops:Array Oper} {K N:AS Unit→Gh→Prop} {o:Oper} {rest:List Oper} {p:Prop} (h:KYOp C yv o s g N=some p) (hp:p) (hd:dstOk C.nt o.dst) (hn:∀s g,N s g→ListY C.P J D0 Y0 w00 C.nt ops K rest s g):
  ListY C.P J D0 Y0 w00 C.nt ops K (o::rest) s g:=by
 unfold KYOp at h
 split at h
 ·rename_i c hg ho
  split at h
  ·rename_i x hx
   split at h
   ·rename_i v hv
    obtain rfl:=Option.some.inj h
    obtain⟨rfl,hp⟩:=hp
    rw[conj_iff] at hp
    obtain⟨hcs,more,hgh,hnx⟩:=hp
    rw[←mapD_ok (g:=AV.argN 0 s.hp) (fun x=>argN'_ok) _ hcs] at hgh
    exact ListY.yield hC hg ho hx hv hd hgh fun b=>hn _ _ (hnx b)
   ·rename_i f caps hcl
    split at h
    ·rename_i kind hsig
     obtain rfl:=Option.some.inj h
     rw[conj_iff] at hp
     obtain⟨hcs,A,L,more,hA,hF,hgh,hnx⟩:=hp
     rw[←mapD_ok (g:=AV.argN 0 s.hp) (fun x=>argN'_ok) _ hcs] at hA
     exact ListY.call hC hg ho hx hcl hd hF hA hgh fun b=>hn _ _ (hnx b)
    ·cases h
   ·cases h
  ·cases h
 ·cases h
def KYRun (C:VCfg) (yv:Value) (l0:List Oper) (K:AS Unit→Gh→Prop):List Oper→AS Unit→Gh→Prop
 | [],s,g=>K s g
 |o::rest,s,g=>(match KYOp C yv o s g (KYRun C yv l0 K rest) with
  |some p=>okB (dstB C.nt o.dst) p
  |none=>KG l0 o s (fun s=>KStep C o s (fun s'=>KYRun C yv l0 K rest s' g)) (fun s=>okB (dstB C.nt o.dst) (KYRun C yv l0 K rest (s.put o.dst (.prim (.tuple #[]))) g)))
theorem KYRun.sound {C:VCfg} (htab:TabOk C.P C.tab) (hC:Cons C.P yv J) {l0:List Oper} {K:AS Unit→Gh→Prop}:∀(l:List Oper) (s:AS Unit) (g:Gh),KYRun C yv l0 K l s g→ListY C.P J D0 Y0 w00 C.nt l0.toArray K l s g:=by
 intro l
 induction l with
 |nil=>intro s g h;exact ListY.nil h
 |cons o rest ih=>
  intro s g h
  simp only[KYRun] at h
  split at h
  ·rename_i p hp
   obtain⟨hd,h⟩:=okB_ok h
   exact KYOp.sound hC hp h (dstB_ok hd) ih
  ·have run:KStep C o s (fun s'=>KYRun C yv l0 K rest s' g)→∀Γ:Env Unit,Γ.Ok→Γ.P=C.P→Γ.nt=C.nt→Γ.hp0.length=0→ACall Γ o s (fun s'=>KYRun C yv l0 K rest s' g):=
    fun h Γ hok hP hnt _=>KStep.sound hok hP.symm (by rw[hP];exact htab) hnt.symm h fun _ h=>h
   rcases KG.cases h with⟨hg,h⟩|⟨j,want,b,hg,hb,⟨hbw,h⟩|⟨hbw,h⟩⟩|⟨j,want,hg,hb,h⟩
   ·exact ListY.calm (N:=KYRun C yv l0 K rest) (fun Γ a w η _=>by simp[Region.wanted,hg]) (run h) fun s' h=>ih s' g h
   ·exact ListY.calm (N:=KYRun C yv l0 K rest) (fun Γ a w η hr=>by simp[Region.wanted,hg,gslot_yielded hr hb,hbw]) (run h) fun s' h=>ih s' g h
   ·obtain⟨hd,h⟩:=okB_ok h
    exact ListY.skip (fun Γ a w η hr=>by simp[Region.wanted,hg,gslot_yielded hr hb,hbw]) (dstB_ok hd) (ih _ _ h)
   ·obtain⟨hd,h⟩:=okB_ok h
    exact ListY.skip (fun Γ a w η hr=>by simp[Region.wanted,hg,gslot_yielded hr hb]) (dstB_ok hd) (ih _ _ h)
def KYAgain (slots:List Nat) (shs:List Sh) (osh:List OSh) (again:(TS shs×TO osh)×Gh→Prop) (Q:Exit→AS Unit→Gh→Prop):Exit→AS Unit→Gh→Prop
 | .normal,s,g=>(match KDec slots shs osh s with
  |some (p,z)=>conj p (again (z,g))
  |none=>False)
 |e,s,g=>Q e s g
def KYLoop2 (slots:List Nat) (shs:List Sh) (osh:List OSh) (body:(Exit→AS Unit→Gh→Prop)→AS Unit→Gh→Prop) (Q:Exit→AS Unit→Gh→Prop) (s:AS Unit) (g:Gh):Prop:=
 match clSl osh.length shs&&clOL osh.length osh with
 |false=>False
 |true=>(match KDec slots shs osh s with
  |some (p,z)=>conj p (LoopP ((TS shs×TO osh)×Gh) (z,g) fun z again=>body (KYAgain slots shs osh again Q) (stAt slots shs osh z.1) z.2)
  |none=>False)
def KYLoop (tab:Nat→Option TD) (A:LAnn) (body:(Exit→AS Unit→Gh→Prop)→AS Unit→Gh→Prop) (Q:Exit→AS Unit→Gh→Prop) (s:AS Unit) (g:Gh):Prop:=
 match rowsAt tab A.rows s with
 |none=>False
 |some s1=>(match browsAt tab A.brows s1 with
  |none=>False
  |some s2=>KYLoop2 (slotsOf A.live) (shsOf s2 A.live) (overO A.osh (ofOL s2.hp)) body Q s2 g)
theorem KYLoop2.sound {nt:Nat} {slots:List Nat} {shs:List Sh} {osh:List OSh} {c:Code} {body:(Exit→AS Unit→Gh→Prop)→AS Unit→Gh→Prop} {Q:Exit→AS Unit→Gh→Prop}
  (hb:∀Q s g,body Q s g→AWpY P J D0 Y0 w00 nt c Q s g) (h:KYLoop2 slots shs osh body Q s g):AWpY P J D0 Y0 w00 nt (.loop c) Q s g:=by
 unfold KYLoop2 at h
 split at h
 ·exact h.elim
 rename_i hch
 split at h
 ·rename_i p z hz
  rw[conj_iff] at h
  obtain⟨hp,β,E,I,μ,b0,hz0,hI,hr⟩:=h
  have weak:∀{s:AS Unit} {p:List Prop} {z:TS shs×TO osh},KDec slots shs osh s=some (p,z)→allP p→WeakY s (stAt slots shs osh z):=
   fun hz hp Γ hok h0=>KDec_ok hok hz hp (by rw[h0];exact Nat.zero_le _) hch
  refine AWpY.loop I (fun b=>stAt slots shs osh (E b).1) (fun b=>(E b).2) μ b0 hI (by rw[←hz0];exact weak hz hp) (by rw[←hz0]) fun b hIb=>?_
  refine(hb _ _ _ (hr b hIb)).mono fun e s1 g1 h1=>?_
  cases e with
  |normal=>
   simp only[KYAgain] at h1
   split at h1
   ·rename_i p1 z1 hz1
    rw[conj_iff] at h1
    obtain⟨hp1,b',hb',hI',hlt⟩:=h1
    exact⟨b',hI',by rw[←hb'];exact weak hz1 hp1,by rw[←hb'],hlt⟩
   ·exact h1.elim
  |_=>exact h1
 ·exact h.elim
theorem KYLoop.sound {nt:Nat} {tab:Nat→Option TD} {A:LAnn} {c:Code} {body:(Exit→AS Unit→Gh→Prop)→AS Unit→Gh→Prop} {Q:Exit→AS Unit→Gh→Prop}
  (hb:∀Q s g,body Q s g→AWpY P J D0 Y0 w00 nt c Q s g) (h:KYLoop tab A body Q s g):AWpY P J D0 Y0 w00 nt (.loop c) Q s g:=by
 unfold KYLoop at h
 split at h
 ·exact h.elim
 ·rename_i s1 h1
  split at h
  ·exact h.elim
  ·rename_i s2 h2
   exact AWpY.weak (fun Γ hok _ a w η hr=>((rowsAt_ok hok h1).trans (browsAt_ok hok h2)) a w η hr) (KYLoop2.sound hb h)
def KYCode (C:VCfg) (L:List LAnn) (yv:Value):Code→(Exit→AS Unit→Gh→Prop)→AS Unit→Gh→Prop
 | .skip,Q,s,g=>Q .normal s g
 | .region id ops draw,Q,s,g=>(match draw with
  |false=>KYRun C yv ops.toList (Q .normal) ops.toList s g
  |true=>KCode C L (.region id ops true) 0 false (fun e s'=>Q e s' g) s)
 | .seq x y,Q,s,g=>KYCode C L yv x (thenY (KYCode C L yv y Q) Q) s g
 | .cond c x y,Q,s,g=>(match s.ev c with
  | .prim (.bool b)=>ITE b (KYCode C L yv x Q s g) (KYCode C L yv y Q s g)
  |_=>False)
 | .block id c,Q,s,g=>KYCode C L yv c (inBlockY id Q) s g
 | .loop c,Q,s,g=>(match firstR c with
  |some k=>(match annOf L k with
   |some A=>KYLoop C.tab A (KYCode C L yv c) Q s g
   |none=>False)
  |none=>False)
 | .exit id,Q,s,g=>Q (.exit id) s g
 | .label _,Q,s,g=>Q .normal s g
 | .ret,Q,s,g=>Q .ret s g
 |_,_,_,_=>False
theorem KYCode.sound {C:VCfg} (hm:C.P.follows .mixedOrders=true) (htab:TabOk C.P C.tab) (hC:Cons C.P yv J) {L:List LAnn}:∀(c:Code) (Q:Exit→AS Unit→Gh→Prop) (s:AS Unit) (g:Gh),KYCode C L yv c Q s g→AWpY C.P J D0 Y0 w00 C.nt c Q s g:=by
 intro c
 induction c with
 |skip=>intro Q s g h;exact AWpY.skip h
 |region id ops draw=>
  intro Q s g h
  have e:ops=ops.toList.toArray:=by simp
  simp only[KYCode] at h
  split at h
  ·rw[e]
   exact AWpY.region (KYRun.sound htab hC _ s g h)
  ·exact AWpY.of fun Γ hok hP hnt h0=>KCode.sound hm _ Γ hok hP.symm (by rw[hP];exact htab) hnt.symm 0 h0 false (fun h=>by cases h) _ s h
 |seq x y ihx ihy=>
  intro Q s g h
  refine AWpY.seq ((ihx _ s g h).mono fun e s' g' hq=>?_)
  cases e with
  |normal=>exact ihy _ s' g' hq
  |_=>exact hq
 |cond c x y ihx ihy=>
  intro Q s g h
  simp only[KYCode] at h
  split at h
  ·rename_i b hb
   exact AWpY.cond hb (fun ht=>ihx _ s g (h.elim.1 ht)) fun ht=>ihy _ s g (h.elim.2 ht)
  ·exact h.elim
 |block id c ih=>intro Q s g h;exact AWpY.block (ih _ s g h)
 |loop c ih=>
  intro Q s g h
  simp only[KYCode] at h
  split at h
  ·split at h
   ·exact KYLoop.sound ih h
   ·exact h.elim
  ·exact h.elim
 |exit id=>intro Q s g h;exact AWpY.exit h
 |label l=>intro Q s g h;exact AWpY.label h
 |ret=>intro Q s g h;exact AWpY.ret h
 |_=>intro Q s g h;exact h.elim
def RY (kind:Bool) (more:List (List AV)):Bool→Gh→Prop:=
 match kind with
 |true=>fun b g=>g=gT b more
 |false=>fun _ g=>∃b,g=gT b more
def KYRet (tab:Nat→Option TD) (rs:List ResultVar) (kind:Bool) (R:Bool→Gh→Prop) (s:AS Unit) (g:Gh):Prop:=
 match kind with
 |true=>(match resAll tab s rs with
  |some [.prim (.bool b)]=>R b g
  |_=>False)
 |false=>(match resAll tab s rs with
  |some _=>R true g
  |none=>False)
def KYEnd (tab:Nat→Option TD) (rs:List ResultVar) (kind:Bool) (R:Bool→Gh→Prop):Exit→AS Unit→Gh→Prop
 | .normal,s,g=>KYRet tab rs kind R s g
 | .ret,s,g=>KYRet tab rs kind R s g
 |_,_,_=>False
theorem KYRet.sound {tab:Nat→Option TD} {rs:List ResultVar} {kind:Bool} {more:List (List AV)} (h:KYRet tab rs kind (RY kind more) s g):∃l,resAll tab s rs=some l∧∃b,g=gT b more∧kindP kind b (resTup l):=by
 cases kind with
 |true=>
  simp only[KYRet] at h
  split at h
  ·rename_i b hb;exact⟨_,hb,b,h,rfl⟩
  ·exact h.elim
 |false=>
  simp only[KYRet] at h
  split at h
  ·rename_i l hl;obtain⟨b,hb⟩:=h;exact⟨_,hl,b,hb,True.intro⟩
  ·exact h.elim
theorem yfn_of_code {C:VCfg} (htab:TabOk C.P C.tab) (hm:C.P.follows .mixedOrders=true) {L:List LAnn} {f:FuncId} {fn:Func} {c:Code} {args:AV→List AV} {Ls:List (List AV)} {kind:Bool} (hf:C.P.funcs[f]?=some fn) (hb:fn.body=some c)
  (hname:(fn.name == "runtime.NumGoroutine")=false) (hn:∀v,Nat.ble (args v).length fn.ntmps=true) (hnt:C.nt=fn.ntmps)
  (h:∀(yv:Value) (more:List (List AV)),KYCode C L yv c (KYEnd C.tab fn.results.toList kind (RY kind more)) ⟨startT 0 (args (.fn yv)),[],()⟩ (some (Ls++more))):YFn C.P f args Ls kind:=by
 refine yfn_of_body htab hf hb hname (fun v=>Nat.le_of_ble_eq_true (hn v)) fun J yv hC D0 Y0 w00 more=>?_
 rw[←hnt]
 refine(KYCode.sound hm htab hC c _ _ _ (h yv more)).mono fun e s' g' hq=>?_
 cases e with
 |normal=>obtain⟨l,h1,h2⟩:=KYRet.sound hq;simp only[retY,h1];exact h2
 |ret=>obtain⟨l,h1,h2⟩:=KYRet.sound hq;simp only[retY,h1];exact h2
 |_=>exact hq.elim
end Go.Proofs.YtjhanogfpkbamaaGreatDoor
