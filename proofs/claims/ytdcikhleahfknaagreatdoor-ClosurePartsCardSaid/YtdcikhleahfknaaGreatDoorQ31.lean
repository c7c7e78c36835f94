/- Texts of ours laid together for a claim: VcJ. -/
import Derived.Test.YtdcikhleahfknaaGreatDoorQ30
namespace Go.Proofs.YtdcikhleahfknaaGreatDoor
open Go
set_option linter.unusedSimpArgs false
set_option linter.unusedVariables false
variable {P:Program} {yv:Value} {J:JT} {D0:Cells} {Y0:Nat→Prop} {er:World} {s:AS Unit} {g:Gh}
def I9 (C:ck) (yv:Value) (o:Oper) (s:AS Unit) (g:Gh) (next:AS Unit→Gh→Prop):Option Prop:=
 match o.guard,o.op with
 |none,.call c=>(match c.callee with
  | .value x=>(match s.ev x with
   | .fn v=>some (v=yv∧eH (bZ (AV.iH 0 s.hp) (c.args.toList.map s.ev)).1 (∃more:List (List AV),g=some ((bZ (AV.iH 0 s.hp) (c.args.toList.map s.ev)).2::more)∧∀b:Bool,next (s.put o.dst (.ae (.bool b))) (gT b more)))
   | .aS f caps=>(match C.sig f o.type with
    | .y kind=>some (eH (bZ (AV.iH 0 s.hp) (c.args.toList.map s.ev++caps)).1 (∃(A:AV→List AV) (L more:List (List AV)),(bZ (AV.iH 0 s.hp) (c.args.toList.map s.ev++caps)).2=A (.fn yv)∧vz C.P f A L kind∧g=some (L++more)∧
      ∀b:Bool,next (s.put o.dst (match kind with|true=>.ae (.bool b)|false=>.top)) (gT b more)))
    |_=>none)
   |_=>none)
  |_=>none)
 |_,_=>none
theorem I9.sound {C:ck} (hC:Cons C.P yv J) {ops:Array Oper} {K N:AS Unit→Gh→Prop} {o:Oper} {rest:List Oper} {p:Prop} (h:I9 C yv o s g N=some p) (hp:p) (hd:cw C.nt o.dst) (hn:∀s g,N s g→dP C.P J D0 Y0 er C.nt ops K rest s g):
  dP C.P J D0 Y0 er C.nt ops K (o::rest) s g:=by
 unfold I9 at h
 split at h
 ·rename_i c hg ho
  split at h
  ·rename_i x hx
   split at h
   ·rename_i v hv
    obtain rfl:=Option.some.inj h
    obtain⟨rfl,hp⟩:=hp
    rw[bg] at hp
    obtain⟨eS,more,Pr,ua⟩:=hp
    rw[←bI (g:=AV.oF 0 s.hp) (fun x=>mC) _ eS] at Pr
    exact dP.yield hC hg ho hx hv hd Pr fun b=>hn _ _ (ua b)
   ·rename_i f caps cS
    split at h
    ·rename_i kind SH
     obtain rfl:=Option.some.inj h
     rw[bg] at hp
     obtain⟨eS,A,L,more,hA,hF,Pr,ua⟩:=hp
     rw[←bI (g:=AV.oF 0 s.hp) (fun x=>mC) _ eS] at hA
     exact dP.call hC hg ho hx cS hd hF hA Pr fun b=>hn _ _ (ua b)
    ·cases h
   ·cases h
  ·cases h
 ·cases h
def lS (C:ck) (yv:Value) (l0:List Oper) (K:AS Unit→Gh→Prop):List Oper→AS Unit→Gh→Prop
 | [],s,g=>K s g
 |o::rest,s,g=>(match I9 C yv o s g (lS C yv l0 K rest) with
  |some p=>okB (sx C.nt o.dst) p
  |none=>KG l0 o s (fun s=>fV C o s (fun s'=>lS C yv l0 K rest s' g)) (fun s=>okB (sx C.nt o.dst) (lS C yv l0 K rest (s.put o.dst (.ae (.tuple #[]))) g)))
theorem lS.sound {C:ck} (ah:aL C.P C.tab) (hC:Cons C.P yv J) {l0:List Oper} {K:AS Unit→Gh→Prop}:∀(l:List Oper) (s:AS Unit) (g:Gh),lS C yv l0 K l s g→dP C.P J D0 Y0 er C.nt l0.toArray K l s g:=by
 intro l
 induction l with
 |nil=>intro s g h;exact dP.nil h
 |cons o rest ih=>
  intro s g h
  simp only[lS] at h
  split at h
  ·rename_i p hp
   obtain⟨hd,h⟩:=bD h
   exact I9.sound hC hp h (fF hd) ih
  ·have run:fV C o s (fun s'=>lS C yv l0 K rest s' g)→∀Γ:Env Unit,Γ.Ok→Γ.P=C.P→Γ.nt=C.nt→Γ.ir.length=0→bn Γ o s (fun s'=>lS C yv l0 K rest s' g):=
    fun h Γ aq hP cC _=>fV.sound aq hP.symm (by rw[hP];exact ah) cC.symm h fun _ h=>h
   rcases KG.cases h with⟨hg,h⟩|⟨j,want,b,hg,hb,⟨gq,h⟩|⟨gq,h⟩⟩|⟨j,want,hg,hb,h⟩
   ·exact dP.calm (N:=lS C yv l0 K rest) (fun Γ a w η _=>by simp[Region.wanted,hg]) (run h) fun s' h=>ih s' g h
   ·exact dP.calm (N:=lS C yv l0 K rest) (fun Γ a w η hr=>by simp[Region.wanted,hg,dj hr hb,gq]) (run h) fun s' h=>ih s' g h
   ·obtain⟨hd,h⟩:=bD h
    exact dP.skip (fun Γ a w η hr=>by simp[Region.wanted,hg,dj hr hb,gq]) (fF hd) (ih _ _ h)
   ·obtain⟨hd,h⟩:=bD h
    exact dP.skip (fun Γ a w η hr=>by simp[Region.wanted,hg,dj hr hb]) (fF hd) (ih _ _ h)
def E2 (da:List Nat) (lP:List Sh) (cn:List iG) (again:(TS lP×TO cn)×Gh→Prop) (Q:Exit→AS Unit→Gh→Prop):Exit→AS Unit→Gh→Prop
 | .normal,s,g=>(match Db da lP cn s with
  |some (p,z)=>eH p (again (z,g))
  |none=>False)
 |e,s,g=>Q e s g
def pU (da:List Nat) (lP:List Sh) (cn:List iG) (body:(Exit→AS Unit→Gh→Prop)→AS Unit→Gh→Prop) (Q:Exit→AS Unit→Gh→Prop) (s:AS Unit) (g:Gh):Prop:=
 match Ge cn.length lP&&Da cn.length cn with
 |false=>False
 |true=>(match Db da lP cn s with
  |some (p,z)=>eH p (au ((TS lP×TO cn)×Gh) (z,g) fun z again=>body (E2 da lP cn again Q) (Gf da lP cn z.1) z.2)
  |none=>False)
def uq (tab:Nat→Option TD) (A:gG) (body:(Exit→AS Unit→Gh→Prop)→AS Unit→Gh→Prop) (Q:Exit→AS Unit→Gh→Prop) (s:AS Unit) (g:Gh):Prop:=
 match oN tab A.rows s with
 |none=>False
 |some s1=>(match lk A.mb tab A.lR s1 with
  |none=>False
  |some s2=>pU (slotsOf A.live) (EZ s2 A.live) (wz A.cn (Gg s2.hp)) body Q s2 g)
theorem pU.sound {nt:Nat} {da:List Nat} {lP:List Sh} {cn:List iG} {c:Code} {body:(Exit→AS Unit→Gh→Prop)→AS Unit→Gh→Prop} {Q:Exit→AS Unit→Gh→Prop}
  (hb:∀Q s g,body Q s g→cJ P J D0 Y0 er nt c Q s g) (h:pU da lP cn body Q s g):cJ P J D0 Y0 er nt (.loop c) Q s g:=by
 unfold pU at h
 split at h
 ·exact h.elim
 rename_i Ak
 split at h
 ·rename_i p z hz
  rw[bg] at h
  obtain⟨hp,β,E,I,μ,b0,Hc,hI,hr⟩:=h
  have pn:∀{s:AS Unit} {p:List Prop} {z:TS lP×TO cn},Db da lP cn s=some (p,z)→dw p→ER s (Gf da lP cn z):=
   fun hz hp Γ aq h0=>xT aq hz hp (by rw[h0];exact Nat.zero_le _) Ak
  refine cJ.loop I (fun b=>Gf da lP cn (E b).1) (fun b=>(E b).2) μ b0 hI (by rw[←Hc];exact pn hz hp) (by rw[←Hc]) fun b QJ=>?_
  refine(hb _ _ _ (hr b QJ)).mono fun e s1 g1 h1=>?_
  cases e with
  |normal=>
   simp only[E2] at h1
   split at h1
   ·rename_i p1 z1 Ij
    rw[bg] at h1
    obtain⟨eG,b',ec,Mu,al⟩:=h1
    exact⟨b',Mu,by rw[←ec];exact pn Ij eG,by rw[←ec],al⟩
   ·exact h1.elim
  |_=>exact h1
 ·exact h.elim
theorem uq.sound {nt:Nat} {tab:Nat→Option TD} {A:gG} {c:Code} {body:(Exit→AS Unit→Gh→Prop)→AS Unit→Gh→Prop} {Q:Exit→AS Unit→Gh→Prop}
  (hb:∀Q s g,body Q s g→cJ P J D0 Y0 er nt c Q s g) (h:uq tab A body Q s g):cJ P J D0 Y0 er nt (.loop c) Q s g:=by
 unfold uq at h
 split at h
 ·exact h.elim
 ·rename_i s1 h1
  split at h
  ·exact h.elim
  ·rename_i s2 h2
   exact cJ.pn (fun Γ aq _ a w η hr=>((nA aq h1).trans (ln aq h2)) a w η hr) (pU.sound hb h)
def eX (C:ck) (L:List gG) (yv:Value):Code→(Exit→AS Unit→Gh→Prop)→AS Unit→Gh→Prop
 | .skip,Q,s,g=>Q .normal s g
 | .region id ops draw,Q,s,g=>(match draw with
  |false=>lS C yv ops.toList (Q .normal) ops.toList s g
  |true=>cP C L (.region id ops true) 0 false (fun e s'=>Q e s' g) s)
 | .seq x y,Q,s,g=>eX C L yv x (II (eX C L yv y Q) Q) s g
 | .cond c x y,Q,s,g=>(match s.ev c with
  | .ae (.bool b)=>ak b (eX C L yv x Q s g) (eX C L yv y Q s g)
  |_=>False)
 | .block id c,Q,s,g=>eX C L yv c (ug id Q) s g
 | .loop c,Q,s,g=>(match iK c with
  |some k=>(match E0 L k with
   |some A=>uq C.tab A (eX C L yv c) Q s g
   |none=>False)
  |none=>False)
 | .exit id,Q,s,g=>Q (.exit id) s g
 | .label _,Q,s,g=>Q .normal s g
 | .ret,Q,s,g=>Q .ret s g
 |_,_,_,_=>False
theorem eX.sound {C:ck} (hm:C.P.follows .mixedOrders=true) (ah:aL C.P C.tab) (hC:Cons C.P yv J) {L:List gG}:∀(c:Code) (Q:Exit→AS Unit→Gh→Prop) (s:AS Unit) (g:Gh),eX C L yv c Q s g→cJ C.P J D0 Y0 er C.nt c Q s g:=by
 intro c
 induction c with
 |skip=>intro Q s g h;exact cJ.skip h
 |region id ops draw=>
  intro Q s g h
  have e:ops=ops.toList.toArray:=by simp
  simp only[eX] at h
  split at h
  ·rw[e]
   exact cJ.region (lS.sound ah hC _ s g h)
  ·exact cJ.of fun Γ aq hP cC h0=>cP.sound hm _ Γ aq hP.symm (by rw[hP];exact ah) cC.symm 0 h0 false (fun h=>by cases h) _ s h
 |seq x y QT QU=>
  intro Q s g h
  refine cJ.seq ((QT _ s g h).mono fun e s' g' hq=>?_)
  cases e with
  |normal=>exact QU _ s' g' hq
  |_=>exact hq
 |cond c x y QT QU=>
  intro Q s g h
  simp only[eX] at h
  split at h
  ·rename_i b hb
   exact cJ.cond hb (fun ht=>QT _ s g (h.elim.1 ht)) fun ht=>QU _ s g (h.elim.2 ht)
  ·exact h.elim
 |block id c ih=>intro Q s g h;exact cJ.block (ih _ s g h)
 |loop c ih=>
  intro Q s g h
  simp only[eX] at h
  split at h
  ·split at h
   ·exact uq.sound ih h
   ·exact h.elim
  ·exact h.elim
 |exit id=>intro Q s g h;exact cJ.exit h
 |label l=>intro Q s g h;exact cJ.label h
 |ret=>intro Q s g h;exact cJ.ret h
 |_=>intro Q s g h;exact h.elim
def RY (kind:Bool) (more:List (List AV)):Bool→Gh→Prop:=
 match kind with
 |true=>fun b g=>g=gT b more
 |false=>fun _ g=>∃b,g=gT b more
def rG (tab:Nat→Option TD) (rs:List ResultVar) (kind:Bool) (R:Bool→Gh→Prop) (s:AS Unit) (g:Gh):Prop:=
 match kind with
 |true=>(match dB tab s rs with
  |some [.ae (.bool b)]=>R b g
  |_=>False)
 |false=>(match dB tab s rs with
  |some _=>R true g
  |none=>False)
def Ja (tab:Nat→Option TD) (rs:List ResultVar) (kind:Bool) (R:Bool→Gh→Prop):Exit→AS Unit→Gh→Prop
 | .normal,s,g=>rG tab rs kind R s g
 | .ret,s,g=>rG tab rs kind R s g
 |_,_,_=>False
theorem rG.sound {tab:Nat→Option TD} {rs:List ResultVar} {kind:Bool} {more:List (List AV)} (h:rG tab rs kind (RY kind more) s g):∃l,dB tab s rs=some l∧∃b,g=gT b more∧ES kind b (eW l):=by
 cases kind with
 |true=>
  simp only[rG] at h
  split at h
  ·rename_i b hb;exact⟨_,hb,b,h,rfl⟩
  ·exact h.elim
 |false=>
  simp only[rG] at h
  split at h
  ·rename_i l hl;obtain⟨b,hb⟩:=h;exact⟨_,hl,b,hb,True.intro⟩
  ·exact h.elim
theorem AE {C:ck} (ah:aL C.P C.tab) (hm:C.P.follows .mixedOrders=true) {L:List gG} {f:FuncId} {fn:Func} {c:Code} {args:AV→List AV} {Ls:List (List AV)} {kind:Bool} (hf:C.P.funcs[f]?=some fn) (hb:fn.body=some c)
  (eC:(fn.name == "runtime.NumGoroutine")=false) (hn:∀v,Nat.ble (args v).length fn.ntmps=true) (cC:C.nt=fn.ntmps)
  (h:∀(yv:Value) (more:List (List AV)),eX C L yv c (Ja C.tab fn.results.toList kind (RY kind more)) ⟨cj 0 (args (.fn yv)),[],()⟩ (some (Ls++more))):vz C.P f args Ls kind:=by
 refine An ah hf hb eC (fun v=>Nat.le_of_ble_eq_true (hn v)) fun J yv hC D0 Y0 er more=>?_
 rw[←cC]
 refine(eX.sound hm ah hC c _ _ _ (h yv more)).mono fun e s' g' hq=>?_
 cases e with
 |normal=>obtain⟨l,h1,h2⟩:=rG.sound hq;simp only[IK,h1];exact h2
 |ret=>obtain⟨l,h1,h2⟩:=rG.sound hq;simp only[IK,h1];exact h2
 |_=>exact hq.elim
end Go.Proofs.YtdcikhleahfknaaGreatDoor
