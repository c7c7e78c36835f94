/- Texts of ours laid together for a claim: VcJ. -/
import Derived.Test.YtjhanogfpkbamaaGreatDoorQ29
namespace Go.Proofs.YtjhanogfpkbamaaGreatDoor
open Go
set_option linter.unusedSimpArgs false
set_option linter.unusedVariables false
variable {P:Program} {yv:Value} {J:JT} {D0:Cells} {Y0:Nat→Prop} {gB:World} {s:AS Unit} {g:Gh}
def Ob (C:cW) (yv:Value) (o:Oper) (s:AS Unit) (g:Gh) (next:AS Unit→Gh→Prop):Option Prop:=
 match o.guard,o.op with
 |none,.call c=>(match c.callee with
  | .value x=>(match s.ev x with
   | .fn v=>some (v=yv∧gU (dw (AV.lg 0 s.hp) (c.args.toList.map s.ev)).1 (∃more:List (List AV),g=some ((dw (AV.lg 0 s.hp) (c.args.toList.map s.ev)).2::more)∧∀b:Bool,next (s.put o.dst (.ah (.bool b))) (gT b more)))
   | .ck f caps=>(match C.sig f o.type with
    | .y kind=>some (gU (dw (AV.lg 0 s.hp) (c.args.toList.map s.ev++caps)).1 (∃(A:AV→List AV) (L more:List (List AV)),(dw (AV.lg 0 s.hp) (c.args.toList.map s.ev++caps)).2=A (.fn yv)∧NP C.P f A L kind∧g=some (L++more)∧
      ∀b:Bool,next (s.put o.dst (match kind with|true=>.ah (.bool b)|false=>.top)) (gT b more)))
    |_=>none)
   |_=>none)
  |_=>none)
 |_,_=>none
theorem Ob.sound {C:cW} (hC:Cons C.P yv J) {ops:Array Oper} {K N:AS Unit→Gh→Prop} {o:Oper} {rest:List Oper} {p:Prop} (h:Ob C yv o s g N=some p) (hp:p) (hd:dB C.nt o.dst) (hn:∀s g,N s g→fL C.P J D0 Y0 gB C.nt ops K rest s g):
  fL C.P J D0 Y0 gB C.nt ops K (o::rest) s g:=by
 unfold Ob at h
 split at h
 ·rename_i c hg ho
  split at h
  ·rename_i x hx
   split at h
   ·rename_i v hv
    obtain rfl:=Option.some.inj h
    obtain⟨rfl,hp⟩:=hp
    rw[bG] at hp
    obtain⟨iK,more,Vf,vP⟩:=hp
    rw[←cI (g:=AV.sn 0 s.hp) (fun x=>qg) _ iK] at Vf
    exact fL.yield hC hg ho hx hv hd Vf fun b=>hn _ _ (vP b)
   ·rename_i f caps eu
    split at h
    ·rename_i kind Yd
     obtain rfl:=Option.some.inj h
     rw[bG] at hp
     obtain⟨iK,A,L,more,hA,hF,Vf,vP⟩:=hp
     rw[←cI (g:=AV.sn 0 s.hp) (fun x=>qg) _ iK] at hA
     exact fL.call hC hg ho hx eu hd hF hA Vf fun b=>hn _ _ (vP b)
    ·cases h
   ·cases h
  ·cases h
 ·cases h
def o7 (C:cW) (yv:Value) (l0:List Oper) (K:AS Unit→Gh→Prop):List Oper→AS Unit→Gh→Prop
 | [],s,g=>K s g
 |o::rest,s,g=>(match Ob C yv o s g (o7 C yv l0 K rest) with
  |some p=>okB (wU C.nt o.dst) p
  |none=>KG l0 o s (fun s=>jw C o s (fun s'=>o7 C yv l0 K rest s' g)) (fun s=>okB (wU C.nt o.dst) (o7 C yv l0 K rest (s.put o.dst (.ah (.tuple #[]))) g)))
theorem o7.sound {C:cW} (au:aT C.P C.az) (hC:Cons C.P yv J) {l0:List Oper} {K:AS Unit→Gh→Prop}:∀(l:List Oper) (s:AS Unit) (g:Gh),o7 C yv l0 K l s g→fL C.P J D0 Y0 gB C.nt l0.toArray K l s g:=by
 intro l
 induction l with
 |nil=>intro s g h;exact fL.nil h
 |cons o rest ih=>
  intro s g h
  simp only[o7] at h
  split at h
  ·rename_i p hp
   obtain⟨hd,h⟩:=cu h
   exact Ob.sound hC hp h (iW hd) ih
  ·have run:jw C o s (fun s'=>o7 C yv l0 K rest s' g)→∀Γ:Env Unit,Γ.Ok→Γ.P=C.P→Γ.nt=C.nt→Γ.oQ.length=0→bR Γ o s (fun s'=>o7 C yv l0 K rest s' g):=
    fun h Γ aD hP dI _=>jw.sound aD hP.symm (by rw[hP];exact au) dI.symm h fun _ h=>h
   rcases KG.cases h with⟨hg,h⟩|⟨j,want,b,hg,hb,⟨jX,h⟩|⟨jX,h⟩⟩|⟨j,want,hg,hb,h⟩
   ·exact fL.calm (N:=o7 C yv l0 K rest) (fun Γ a w η _=>by simp[Region.wanted,hg]) (run h) fun s' h=>ih s' g h
   ·exact fL.calm (N:=o7 C yv l0 K rest) (fun Γ a w η hr=>by simp[Region.wanted,hg,eJ hr hb,jX]) (run h) fun s' h=>ih s' g h
   ·obtain⟨hd,h⟩:=cu h
    exact fL.skip (fun Γ a w η hr=>by simp[Region.wanted,hg,eJ hr hb,jX]) (iW hd) (ih _ _ h)
   ·obtain⟨hd,h⟩:=cu h
    exact fL.skip (fun Γ a w η hr=>by simp[Region.wanted,hg,eJ hr hb]) (iW hd) (ih _ _ h)
def Jy (eF:List Nat) (oZ:List Sh) (dc:List lf) (again:(TS oZ×TO dc)×Gh→Prop) (Q:Exit→AS Unit→Gh→Prop):Exit→AS Unit→Gh→Prop
 | .normal,s,g=>(match HT eF oZ dc s with
  |some (p,z)=>gU p (again (z,g))
  |none=>False)
 |e,s,g=>Q e s g
def tQ (eF:List Nat) (oZ:List Sh) (dc:List lf) (body:(Exit→AS Unit→Gh→Prop)→AS Unit→Gh→Prop) (Q:Exit→AS Unit→Gh→Prop) (s:AS Unit) (g:Gh):Prop:=
 match Le dc.length oZ&&HS dc.length dc with
 |false=>False
 |true=>(match HT eF oZ dc s with
  |some (p,z)=>gU p (aB ((TS oZ×TO dc)×Gh) (z,g) fun z again=>body (Jy eF oZ dc again Q) (Lf eF oZ dc z.1) z.2)
  |none=>False)
def zf (az:Nat→Option TD) (A:j4) (body:(Exit→AS Unit→Gh→Prop)→AS Unit→Gh→Prop) (Q:Exit→AS Unit→Gh→Prop) (s:AS Unit) (g:Gh):Prop:=
 match sD az A.rows s with
 |none=>False
 |some s1=>(match n5 az A.kH s1 with
  |none=>False
  |some s2=>tQ (slotsOf A.live) (Jv s2 A.live) (A3 A.dc (Lg s2.hp)) body Q s2 g)
theorem tQ.sound {nt:Nat} {eF:List Nat} {oZ:List Sh} {dc:List lf} {c:Code} {body:(Exit→AS Unit→Gh→Prop)→AS Unit→Gh→Prop} {Q:Exit→AS Unit→Gh→Prop}
  (hb:∀Q s g,body Q s g→dM P J D0 Y0 gB nt c Q s g) (h:tQ eF oZ dc body Q s g):dM P J D0 Y0 gB nt (.loop c) Q s g:=by
 unfold tQ at h
 split at h
 ·exact h.elim
 rename_i HO
 split at h
 ·rename_i p z hz
  rw[bG] at h
  obtain⟨hp,β,E,I,μ,b0,Mc,hI,hr⟩:=h
  have tj:∀{s:AS Unit} {p:List Prop} {z:TS oZ×TO dc},HT eF oZ dc s=some (p,z)→eY p→Jq s (Lf eF oZ dc z):=
   fun hz hp Γ aD h0=>Cg aD hz hp (by rw[h0];exact ah3 _) HO
  refine dM.loop I (fun b=>Lf eF oZ dc (E b).1) (fun b=>(E b).2) μ b0 hI (by rw[←Mc];exact tj hz hp) (by rw[←Mc]) fun b Wo=>?_
  refine(hb _ _ _ (hr b Wo)).mono fun e s1 g1 h1=>?_
  cases e with
  |normal=>
   simp only[Jy] at h1
   split at h1
   ·rename_i p1 z1 Rd
    rw[bG] at h1
    obtain⟨iM,b',gb,Rv,ay⟩:=h1
    exact⟨b',Rv,by rw[←gb];exact tj Rd iM,by rw[←gb],ay⟩
   ·exact h1.elim
  |_=>exact h1
 ·exact h.elim
theorem zf.sound {nt:Nat} {az:Nat→Option TD} {A:j4} {c:Code} {body:(Exit→AS Unit→Gh→Prop)→AS Unit→Gh→Prop} {Q:Exit→AS Unit→Gh→Prop}
  (hb:∀Q s g,body Q s g→dM P J D0 Y0 gB nt c Q s g) (h:zf az A body Q s g):dM P J D0 Y0 gB nt (.loop c) Q s g:=by
 unfold zf at h
 split at h
 ·exact h.elim
 ·rename_i s1 h1
  split at h
  ·exact h.elim
  ·rename_i s2 h2
   exact dM.tj (fun Γ aD _ a w η hr=>((qS aD h1).trans (n6 aD h2)) a w η hr) (tQ.sound hb h)
def iq (C:cW) (L:List j4) (yv:Value):Code→(Exit→AS Unit→Gh→Prop)→AS Unit→Gh→Prop
 | .skip,Q,s,g=>Q .normal s g
 | .region id ops draw,Q,s,g=>(match draw with
  |false=>o7 C yv ops.toList (Q .normal) ops.toList s g
  |true=>dX C L (.region id ops true) 0 false (fun e s'=>Q e s' g) s)
 | .seq x y,Q,s,g=>iq C L yv x (NR (iq C L yv y Q) Q) s g
 | .cond c x y,Q,s,g=>(match s.ev c with
  | .ah (.bool b)=>ak b (iq C L yv x Q s g) (iq C L yv y Q s g)
  |_=>False)
 | .block id c,Q,s,g=>iq C L yv c (y5 id Q) s g
 | .loop c,Q,s,g=>(match lu c with
  |some k=>(match Jw L k with
   |some A=>zf C.az A (iq C L yv c) Q s g
   |none=>False)
  |none=>False)
 | .exit id,Q,s,g=>Q (.exit id) s g
 | .label _,Q,s,g=>Q .normal s g
 | .ret,Q,s,g=>Q .ret s g
 |_,_,_,_=>False
theorem iq.sound {C:cW} (hm:C.P.follows .mixedOrders=true) (au:aT C.P C.az) (hC:Cons C.P yv J) {L:List j4}:∀(c:Code) (Q:Exit→AS Unit→Gh→Prop) (s:AS Unit) (g:Gh),iq C L yv c Q s g→dM C.P J D0 Y0 gB C.nt c Q s g:=by
 intro c
 induction c with
 |skip=>intro Q s g h;exact dM.skip h
 |region id ops draw=>
  intro Q s g h
  have e:ops=ops.toList.toArray:=by simp
  simp only[iq] at h
  split at h
  ·rw[e]
   exact dM.region (o7.sound au hC _ s g h)
  ·exact dM.of fun Γ aD hP dI h0=>dX.sound hm _ Γ aD hP.symm (by rw[hP];exact au) dI.symm 0 h0 false (fun h=>by cases h) _ s h
 |seq x y Wz WA=>
  intro Q s g h
  refine dM.seq ((Wz _ s g h).mono fun e s' g' hq=>?_)
  cases e with
  |normal=>exact WA _ s' g' hq
  |_=>exact hq
 |cond c x y Wz WA=>
  intro Q s g h
  simp only[iq] at h
  split at h
  ·rename_i b hb
   exact dM.cond hb (fun ht=>Wz _ s g (h.elim.1 ht)) fun ht=>WA _ s g (h.elim.2 ht)
  ·exact h.elim
 |block id c ih=>intro Q s g h;exact dM.block (ih _ s g h)
 |loop c ih=>
  intro Q s g h
  simp only[iq] at h
  split at h
  ·split at h
   ·exact zf.sound ih h
   ·exact h.elim
  ·exact h.elim
 |exit id=>intro Q s g h;exact dM.exit h
 |label l=>intro Q s g h;exact dM.label h
 |ret=>intro Q s g h;exact dM.ret h
 |_=>intro Q s g h;exact h.elim
def RY (kind:Bool) (more:List (List AV)):Bool→Gh→Prop:=
 match kind with
 |true=>fun b g=>g=gT b more
 |false=>fun _ g=>∃b,g=gT b more
def vS (az:Nat→Option TD) (rs:List ResultVar) (kind:Bool) (R:Bool→Gh→Prop) (s:AS Unit) (g:Gh):Prop:=
 match kind with
 |true=>(match eW az s rs with
  |some [.ah (.bool b)]=>R b g
  |_=>False)
 |false=>(match eW az s rs with
  |some _=>R true g
  |none=>False)
def Oc (az:Nat→Option TD) (rs:List ResultVar) (kind:Bool) (R:Bool→Gh→Prop):Exit→AS Unit→Gh→Prop
 | .normal,s,g=>vS az rs kind R s g
 | .ret,s,g=>vS az rs kind R s g
 |_,_,_=>False
theorem vS.sound {az:Nat→Option TD} {rs:List ResultVar} {kind:Bool} {more:List (List AV)} (h:vS az rs kind (RY kind more) s g):∃l,eW az s rs=some l∧∃b,g=gT b more∧Jr kind b (ij l):=by
 cases kind with
 |true=>
  simp only[vS] at h
  split at h
  ·rename_i b hb;exact⟨_,hb,b,h,rfl⟩
  ·exact h.elim
 |false=>
  simp only[vS] at h
  split at h
  ·rename_i l hl;obtain⟨b,hb⟩:=h;exact⟨_,hl,b,hb,True.intro⟩
  ·exact h.elim
theorem E2 {C:cW} (au:aT C.P C.az) (hm:C.P.follows .mixedOrders=true) {L:List j4} {f:FuncId} {fn:Func} {c:Code} {args:AV→List AV} {Ls:List (List AV)} {kind:Bool} (hf:C.P.funcs[f]?=some fn) (hb:fn.body=some c)
  (gI:(fn.name == "runtime.NumGoroutine")=false) (hn:∀v,Nat.ble (args v).length fn.ntmps=true) (dI:C.nt=fn.ntmps)
  (h:∀(yv:Value) (more:List (List AV)),iq C L yv c (Oc C.az fn.results.toList kind (RY kind more)) ⟨cV 0 (args (.fn yv)),[],()⟩ (some (Ls++more))):NP C.P f args Ls kind:=by
 refine EM au hf hb gI (fun v=>ait (hn v)) fun J yv hC D0 Y0 gB more=>?_
 rw[←dI]
 refine(iq.sound hm au hC c _ _ _ (h yv more)).mono fun e s' g' hq=>?_
 cases e with
 |normal=>obtain⟨l,h1,h2⟩:=vS.sound hq;simp only[NT,h1];exact h2
 |ret=>obtain⟨l,h1,h2⟩:=vS.sound hq;simp only[NT,h1];exact h2
 |_=>exact hq.elim
end Go.Proofs.YtjhanogfpkbamaaGreatDoor
