/- Texts of ours laid together for a claim: VcJ. -/
import Derived.Test.YtdcikhleahfknaaGreatDoorQ30
namespace Go.Proofs.YtdcikhleahfknaaGreatDoor
open Go
set_option linter.unusedSimpArgs false
set_option linter.unusedVariables false
variable {P:Program} {yv:Value} {J:JT} {D0:Cells} {Y0:Nat→Prop} {eS:World} {s:AS Unit} {g:Gh}
def Ky (C:cm) (yv:Value) (o:Oper) (s:AS Unit) (g:Gh) (next:AS Unit→Gh→Prop):Option Prop:=
 match o.guard,o.op with
 |none,.call c=>(match c.callee with
  | .value x=>(match s.ev x with
   | .fn v=>some (v=yv∧fg (cd (AV.ji 0 s.hp) (c.args.toList.map s.ev)).1 (∃more:List (List AV),g=some ((cd (AV.ji 0 s.hp) (c.args.toList.map s.ev)).2::more)∧∀b:Bool,next (s.put o.dst (.ae (.bool b))) (gT b more)))
   | .aK f caps=>(match C.sig f o.type with
    | .y kind=>some (fg (cd (AV.ji 0 s.hp) (c.args.toList.map s.ev++caps)).1 (∃(A:AV→List AV) (L more:List (List AV)),(cd (AV.ji 0 s.hp) (c.args.toList.map s.ev++caps)).2=A (.fn yv)∧wu C.P f A L kind∧g=some (L++more)∧
      ∀b:Bool,next (s.put o.dst (match kind with|true=>.ae (.bool b)|false=>.top)) (gT b more)))
    |_=>none)
   |_=>none)
  |_=>none)
 |_,_=>none
theorem Ky.sound {C:cm} (hC:Cons C.P yv J) {ops:Array Oper} {K N:AS Unit→Gh→Prop} {o:Oper} {rest:List Oper} {p:Prop} (h:Ky C yv o s g N=some p) (hp:p) (hd:cx C.nt o.dst) (hn:∀s g,N s g→eh C.P J D0 Y0 eS C.nt ops K rest s g):
  eh C.P J D0 Y0 eS C.nt ops K (o::rest) s g:=by
 unfold Ky at h
 split at h
 ·rename_i c hg ho
  split at h
  ·rename_i x hx
   split at h
   ·rename_i v hv
    obtain rfl:=Option.some.inj h
    obtain⟨rfl,hp⟩:=hp
    rw[bf] at hp
    obtain⟨fq,more,Q2,uQ⟩:=hp
    rw[←bO (g:=AV.oZ 0 s.hp) (fun x=>ni) _ fq] at Q2
    exact eh.yield hC hg ho hx hv hd Q2 fun b=>hn _ _ (uQ b)
   ·rename_i f caps cS
    split at h
    ·rename_i kind Uq
     obtain rfl:=Option.some.inj h
     rw[bf] at hp
     obtain⟨fq,A,L,more,hA,hF,Q2,uQ⟩:=hp
     rw[←bO (g:=AV.oZ 0 s.hp) (fun x=>ni) _ fq] at hA
     exact eh.call hC hg ho hx cS hd hF hA Q2 fun b=>hn _ _ (uQ b)
    ·cases h
   ·cases h
  ·cases h
 ·cases h
def mz (C:cm) (yv:Value) (l0:List Oper) (K:AS Unit→Gh→Prop):List Oper→AS Unit→Gh→Prop
 | [],s,g=>K s g
 |o::rest,s,g=>(match Ky C yv o s g (mz C yv l0 K rest) with
  |some p=>okB (tk C.nt o.dst) p
  |none=>KG l0 o s (fun s=>gu C o s (fun s'=>mz C yv l0 K rest s' g)) (fun s=>okB (tk C.nt o.dst) (mz C yv l0 K rest (s.put o.dst (.ae (.tuple #[]))) g)))
theorem mz.sound {C:cm} (ah:aQ C.P C.tab) (hC:Cons C.P yv J) {l0:List Oper} {K:AS Unit→Gh→Prop}:∀(l:List Oper) (s:AS Unit) (g:Gh),mz C yv l0 K l s g→eh C.P J D0 Y0 eS C.nt l0.toArray K l s g:=by
 intro l
 induction l with
 |nil=>intro s g h;exact eh.nil h
 |cons o rest ih=>
  intro s g h
  simp only[mz] at h
  split at h
  ·rename_i p hp
   obtain⟨hd,h⟩:=bE h
   exact Ky.sound hC hp h (fX hd) ih
  ·have run:gu C o s (fun s'=>mz C yv l0 K rest s' g)→∀Γ:Env Unit,Γ.Ok→Γ.P=C.P→Γ.nt=C.nt→Γ.iV.length=0→bn Γ o s (fun s'=>mz C yv l0 K rest s' g):=
    fun h Γ ao hP cC _=>gu.sound ao hP.symm (by rw[hP];exact ah) cC.symm h fun _ h=>h
   rcases KG.cases h with⟨hg,h⟩|⟨j,want,b,hg,hb,⟨gM,h⟩|⟨gM,h⟩⟩|⟨j,want,hg,hb,h⟩
   ·exact eh.calm (N:=mz C yv l0 K rest) (fun Γ a w η _=>by simp[Region.wanted,hg]) (run h) fun s' h=>ih s' g h
   ·exact eh.calm (N:=mz C yv l0 K rest) (fun Γ a w η hr=>by simp[Region.wanted,hg,dD hr hb,gM]) (run h) fun s' h=>ih s' g h
   ·obtain⟨hd,h⟩:=bE h
    exact eh.skip (fun Γ a w η hr=>by simp[Region.wanted,hg,dD hr hb,gM]) (fX hd) (ih _ _ h)
   ·obtain⟨hd,h⟩:=bE h
    exact eh.skip (fun Γ a w η hr=>by simp[Region.wanted,hg,dD hr hb]) (fX hd) (ih _ _ h)
def Gl (dA:List Nat) (my:List Sh) (cn:List jh) (again:(TS my×TO cn)×Gh→Prop) (Q:Exit→AS Unit→Gh→Prop):Exit→AS Unit→Gh→Prop
 | .normal,s,g=>(match Ev dA my cn s with
  |some (p,z)=>fg p (again (z,g))
  |none=>False)
 |e,s,g=>Q e s g
def qp (dA:List Nat) (my:List Sh) (cn:List jh) (body:(Exit→AS Unit→Gh→Prop)→AS Unit→Gh→Prop) (Q:Exit→AS Unit→Gh→Prop) (s:AS Unit) (g:Gh):Prop:=
 match Hu cn.length my&&Eu cn.length cn with
 |false=>False
 |true=>(match Ev dA my cn s with
  |some (p,z)=>fg p (ax ((TS my×TO cn)×Gh) (z,g) fun z again=>body (Gl dA my cn again Q) (Hv dA my cn z.1) z.2)
  |none=>False)
def va (tab:Nat→Option TD) (A:gZ) (body:(Exit→AS Unit→Gh→Prop)→AS Unit→Gh→Prop) (Q:Exit→AS Unit→Gh→Prop) (s:AS Unit) (g:Gh):Prop:=
 match pf tab A.rows s with
 |none=>False
 |some s1=>(match lP A.mb tab A.qm s1 with
  |none=>False
  |some s2=>qp (slotsOf A.live) (Gi s2 A.live) (xj A.cn (Hw s2.hp)) body Q s2 g)
theorem qp.sound {nt:Nat} {dA:List Nat} {my:List Sh} {cn:List jh} {c:Code} {body:(Exit→AS Unit→Gh→Prop)→AS Unit→Gh→Prop} {Q:Exit→AS Unit→Gh→Prop}
  (hb:∀Q s g,body Q s g→cM P J D0 Y0 eS nt c Q s g) (h:qp dA my cn body Q s g):cM P J D0 Y0 eS nt (.loop c) Q s g:=by
 unfold qp at h
 split at h
 ·exact h.elim
 rename_i Bv
 split at h
 ·rename_i p z hz
  rw[bf] at h
  obtain⟨hp,β,E,I,μ,b0,IG,hI,hr⟩:=h
  have pS:∀{s:AS Unit} {p:List Prop} {z:TS my×TO cn},Ev dA my cn s=some (p,z)→dI p→F9 s (Hv dA my cn z):=
   fun hz hp Γ ao h0=>yG ao hz hp (by rw[h0];exact Nat.zero_le _) Bv
  refine cM.loop I (fun b=>Hv dA my cn (E b).1) (fun b=>(E b).2) μ b0 hI (by rw[←IG];exact pS hz hp) (by rw[←IG]) fun b St=>?_
  refine(hb _ _ _ (hr b St)).mono fun e s1 g1 h1=>?_
  cases e with
  |normal=>
   simp only[Gl] at h1
   split at h1
   ·rename_i p1 z1 JO
    rw[bf] at h1
    obtain⟨ff,b',er,N5,ak⟩:=h1
    exact⟨b',N5,by rw[←er];exact pS JO ff,by rw[←er],ak⟩
   ·exact h1.elim
  |_=>exact h1
 ·exact h.elim
theorem va.sound {nt:Nat} {tab:Nat→Option TD} {A:gZ} {c:Code} {body:(Exit→AS Unit→Gh→Prop)→AS Unit→Gh→Prop} {Q:Exit→AS Unit→Gh→Prop}
  (hb:∀Q s g,body Q s g→cM P J D0 Y0 eS nt c Q s g) (h:va tab A body Q s g):cM P J D0 Y0 eS nt (.loop c) Q s g:=by
 unfold va at h
 split at h
 ·exact h.elim
 ·rename_i s1 h1
  split at h
  ·exact h.elim
  ·rename_i s2 h2
   exact cM.pS (fun Γ ao _ a w η hr=>((nZ ao h1).trans (lR ao h2)) a w η hr) (qp.sound hb h)
def fx (C:cm) (L:List gZ) (yv:Value):Code→(Exit→AS Unit→Gh→Prop)→AS Unit→Gh→Prop
 | .skip,Q,s,g=>Q .normal s g
 | .region id ops draw,Q,s,g=>(match draw with
  |false=>mz C yv ops.toList (Q .normal) ops.toList s g
  |true=>cU C L (.region id ops true) 0 false (fun e s'=>Q e s' g) s)
 | .seq x y,Q,s,g=>fx C L yv x (Ke (fx C L yv y Q) Q) s g
 | .cond c x y,Q,s,g=>(match s.ev c with
  | .ae (.bool b)=>ai b (fx C L yv x Q s g) (fx C L yv y Q s g)
  |_=>False)
 | .block id c,Q,s,g=>fx C L yv c (uW id Q) s g
 | .loop c,Q,s,g=>(match jl c with
  |some k=>(match Gj L k with
   |some A=>va C.tab A (fx C L yv c) Q s g
   |none=>False)
  |none=>False)
 | .exit id,Q,s,g=>Q (.exit id) s g
 | .label _,Q,s,g=>Q .normal s g
 | .ret,Q,s,g=>Q .ret s g
 |_,_,_,_=>False
theorem fx.sound {C:cm} (hm:C.P.follows .mixedOrders=true) (ah:aQ C.P C.tab) (hC:Cons C.P yv J) {L:List gZ}:∀(c:Code) (Q:Exit→AS Unit→Gh→Prop) (s:AS Unit) (g:Gh),fx C L yv c Q s g→cM C.P J D0 Y0 eS C.nt c Q s g:=by
 intro c
 induction c with
 |skip=>intro Q s g h;exact cM.skip h
 |region id ops draw=>
  intro Q s g h
  have e:ops=ops.toList.toArray:=by simp
  simp only[fx] at h
  split at h
  ·rw[e]
   exact cM.region (mz.sound ah hC _ s g h)
  ·exact cM.of fun Γ ao hP cC h0=>cU.sound hm _ Γ ao hP.symm (by rw[hP];exact ah) cC.symm 0 h0 false (fun h=>by cases h) _ s h
 |seq x y SE SF=>
  intro Q s g h
  refine cM.seq ((SE _ s g h).mono fun e s' g' hq=>?_)
  cases e with
  |normal=>exact SF _ s' g' hq
  |_=>exact hq
 |cond c x y SE SF=>
  intro Q s g h
  simp only[fx] at h
  split at h
  ·rename_i b hb
   exact cM.cond hb (fun ht=>SE _ s g (h.elim.1 ht)) fun ht=>SF _ s g (h.elim.2 ht)
  ·exact h.elim
 |block id c ih=>intro Q s g h;exact cM.block (ih _ s g h)
 |loop c ih=>
  intro Q s g h
  simp only[fx] at h
  split at h
  ·split at h
   ·exact va.sound ih h
   ·exact h.elim
  ·exact h.elim
 |exit id=>intro Q s g h;exact cM.exit h
 |label l=>intro Q s g h;exact cM.label h
 |ret=>intro Q s g h;exact cM.ret h
 |_=>intro Q s g h;exact h.elim
def RY (kind:Bool) (more:List (List AV)):Bool→Gh→Prop:=
 match kind with
 |true=>fun b g=>g=gT b more
 |false=>fun _ g=>∃b,g=gT b more
def sc (tab:Nat→Option TD) (rs:List ResultVar) (kind:Bool) (R:Bool→Gh→Prop) (s:AS Unit) (g:Gh):Prop:=
 match kind with
 |true=>(match dN tab s rs with
  |some [.ae (.bool b)]=>R b g
  |_=>False)
 |false=>(match dN tab s rs with
  |some _=>R true g
  |none=>False)
def Kz (tab:Nat→Option TD) (rs:List ResultVar) (kind:Bool) (R:Bool→Gh→Prop):Exit→AS Unit→Gh→Prop
 | .normal,s,g=>sc tab rs kind R s g
 | .ret,s,g=>sc tab rs kind R s g
 |_,_,_=>False
theorem sc.sound {tab:Nat→Option TD} {rs:List ResultVar} {kind:Bool} {more:List (List AV)} (h:sc tab rs kind (RY kind more) s g):∃l,dN tab s rs=some l∧∃b,g=gT b more∧Ga kind b (fw l):=by
 cases kind with
 |true=>
  simp only[sc] at h
  split at h
  ·rename_i b hb;exact⟨_,hb,b,h,rfl⟩
  ·exact h.elim
 |false=>
  simp only[sc] at h
  split at h
  ·rename_i l hl;obtain⟨b,hb⟩:=h;exact⟨_,hl,b,hb,True.intro⟩
  ·exact h.elim
theorem BN {C:cm} (ah:aQ C.P C.tab) (hm:C.P.follows .mixedOrders=true) {L:List gZ} {f:FuncId} {fn:Func} {c:Code} {args:AV→List AV} {Ls:List (List AV)} {kind:Bool} (hf:C.P.funcs[f]?=some fn) (hb:fn.body=some c)
  (eZ:(fn.name == "runtime.NumGoroutine")=false) (hn:∀v,Nat.ble (args v).length fn.ntmps=true) (cC:C.nt=fn.ntmps)
  (h:∀(yv:Value) (more:List (List AV)),fx C L yv c (Kz C.tab fn.results.toList kind (RY kind more)) ⟨ck 0 (args (.fn yv)),[],()⟩ (some (Ls++more))):wu C.P f args Ls kind:=by
 refine By ah hf hb eZ (fun v=>Nat.le_of_ble_eq_true (hn v)) fun J yv hC D0 Y0 eS more=>?_
 rw[←cC]
 refine(fx.sound hm ah hC c _ _ _ (h yv more)).mono fun e s' g' hq=>?_
 cases e with
 |normal=>obtain⟨l,h1,h2⟩:=sc.sound hq;simp only[Kg,h1];exact h2
 |ret=>obtain⟨l,h1,h2⟩:=sc.sound hq;simp only[Kg,h1];exact h2
 |_=>exact hq.elim
end Go.Proofs.YtdcikhleahfknaaGreatDoor
