/- Texts of ours laid together for a claim: VcJ. -/
import Derived.Test.YtdcikhleahfknaaGreatDoorQ30
namespace Go.Proofs.YtdcikhleahfknaaGreatDoor
open Go
set_option linter.unusedSimpArgs false
set_option linter.unusedVariables false
variable {P:Program} {yv:Value} {J:JT} {D0:Cells} {Y0:Nat->Prop} {fx:World} {s:AS Unit} {g:Gh}
def OM (C:cJ) (yv:Value) (o:Oper) (s:AS Unit) (g:Gh) (next:AS Unit->Gh->Prop):Option Prop:=
 match o.guard,o.op with
 |none,.call c=>(match c.callee with
  | .value x=>(match s.ev x with
   | .fn v=>some (v=yv/\fC (cE (AV.kg 0 s.hp) (c.args.toList.map s.ev)).1 (∃more:List (List AV),g=some ((cE (AV.kg 0 s.hp) (c.args.toList.map s.ev)).2::more)/\∀b:Bool,next (s.put o.dst (.ae (.bool b))) (gT b more)))
   | .aY f caps=>(match C.sig f o.type with
    | .y kind=>some (fC (cE (AV.kg 0 s.hp) (c.args.toList.map s.ev++caps)).1 (∃(A:AV->List AV) (L more:List (List AV)),(cE (AV.kg 0 s.hp) (c.args.toList.map s.ev++caps)).2=A (.fn yv)/\zi C.P f A L kind/\g=some (L++more)/\
      ∀b:Bool,next (s.put o.dst (match kind with|true=>.ae (.bool b)|false=>.top)) (gT b more)))
    |_=>none)
   |_=>none)
  |_=>none)
 |_,_=>none
theorem OM.sound {C:cJ} (hC:Cons C.P yv J) {ops:Array Oper} {K N:AS Unit->Gh->Prop} {o:Oper} {rest:List Oper} {p:Prop} (h:OM C yv o s g N=some p) (hp:p) (hd:cR C.nt o.dst) (hn:∀s g,N s g->eK C.P J D0 Y0 fx C.nt ops K rest s g):
  eK C.P J D0 Y0 fx C.nt ops K (o::rest) s g:=by
 unfold OM at h;split at h
 ·rename_i c hg ho;split at h
  ·rename_i x hx;split at h
   ·rename_i v hv;obtain rfl:=alw h;obtain⟨rfl,hp⟩:=hp;rw[bt] at hp;obtain⟨fO,more,Xp,xq⟩:=hp;rw[<-cf (g:=AV.qQ 0 s.hp) (fun x=>oS) _ fO] at Xp;exact eK.yield hC hg ho hx hv hd Xp fun b=>hn _ _ (xq b)
   ·rename_i f caps dx;split at h
    ·rename_i kind aaI;obtain rfl:=alw h;rw[bt] at hp;obtain⟨fO,A,L,more,hA,hF,Xp,xq⟩:=hp;rw[<-cf (g:=AV.qQ 0 s.hp) (fun x=>oS) _ fO] at hA;exact eK.call hC hg ho hx dx hd hF hA Xp fun b=>hn _ _ (xq b)
    ·cases h
   ·cases h
  ·cases h
 ·cases h
def nY (C:cJ) (yv:Value) (l0:List Oper) (K:AS Unit->Gh->Prop):List Oper->AS Unit->Gh->Prop
 | [],s,g=>K s g
 |o::rest,s,g=>(match OM C yv o s g (nY C yv l0 K rest) with
  |some p=>okB (vP C.nt o.dst) p
  |none=>KG l0 o s (fun s=>iz C o s (fun s'=>nY C yv l0 K rest s' g)) (fun s=>okB (vP C.nt o.dst) (nY C yv l0 K rest (s.put o.dst (.ae (.tuple #[]))) g)))
theorem nY.sound {C:cJ} (aj:aZ C.P C.tab) (hC:Cons C.P yv J) {l0:List Oper} {K:AS Unit->Gh->Prop}:∀(l:List Oper) (s:AS Unit) (g:Gh),nY C yv l0 K l s g->eK C.P J D0 Y0 fx C.nt l0.toArray K l s g:=by
 intro l
 induction l with
 |nil=>intro s g h;exact eK.nil h
 |cons o rest ih=>
  intro s g h;simp only[nY] at h;split at h
  ·rename_i p hp;obtain⟨hd,h⟩:=bT h;exact OM.sound hC hp h (gZ hd) ih
  ·have run:iz C o s (fun s'=>nY C yv l0 K rest s' g)->∀Γ:Env Unit,Γ.Ok->Γ.P=C.P->Γ.nt=C.nt->Γ.jR.length=0->bD Γ o s (fun s'=>nY C yv l0 K rest s' g):=
    fun h Γ ax hP cW _=>iz.sound ax hP.symm (by rw[hP];exact aj) cW.symm h fun _ h=>h
   rcases KG.cases h with⟨hg,h⟩|⟨j,want,b,hg,hb,⟨iN,h⟩|⟨iN,h⟩⟩|⟨j,want,hg,hb,h⟩
   ·exact eK.calm (N:=nY C yv l0 K rest) (fun Γ a w η _=>by simp[Region.wanted,hg]) (run h) fun s' h=>ih s' g h
   ·exact eK.calm (N:=nY C yv l0 K rest) (fun Γ a w η hr=>by simp[Region.wanted,hg,dP hr hb,iN]) (run h) fun s' h=>ih s' g h
   ·obtain⟨hd,h⟩:=bT h;exact eK.skip (fun Γ a w η hr=>by simp[Region.wanted,hg,dP hr hb,iN]) (gZ hd) (ih _ _ h)
   ·obtain⟨hd,h⟩:=bT h;exact eK.skip (fun Γ a w η hr=>by simp[Region.wanted,hg,dP hr hb]) (gZ hd) (ih _ _ h)
def Kg (dL:List Nat) (nX:List Sh) (cL:List kf) (again:(TS nX×TO cL)×Gh->Prop) (Q:Exit->AS Unit->Gh->Prop):Exit->AS Unit->Gh->Prop
 | .normal,s,g=>(match HR dL nX cL s with
  |some (p,z)=>fC p (again (z,g))
  |none=>False)
 |e,s,g=>Q e s g
def sr (dL:List Nat) (nX:List Sh) (cL:List kf) (body:(Exit->AS Unit->Gh->Prop)->AS Unit->Gh->Prop) (Q:Exit->AS Unit->Gh->Prop) (s:AS Unit) (g:Gh):Prop:=
 match LD cL.length nX&&HQ cL.length cL with
 |false=>False
 |true=>(match HR dL nX cL s with
  |some (p,z)=>fC p (av ((TS nX×TO cL)×Gh) (z,g) fun z again=>body (Kg dL nX cL again Q) (LF dL nX cL z.1) z.2)
  |none=>False)
def xF (tab:Nat->Option TD) (A:jb) (body:(Exit->AS Unit->Gh->Prop)->AS Unit->Gh->Prop) (Q:Exit->AS Unit->Gh->Prop) (s:AS Unit) (g:Gh):Prop:=
 match qY tab A.rows s with
 |none=>False
 |some s1=>(match nk A.mb tab A.kl s1 with
  |none=>False
  |some s2=>sr (slotsOf A.live) (Kd s2 A.live) (Ae A.cL (LG s2.hp)) body Q s2 g)
theorem sr.sound {nt:Nat} {dL:List Nat} {nX:List Sh} {cL:List kf} {c:Code} {body:(Exit->AS Unit->Gh->Prop)->AS Unit->Gh->Prop} {Q:Exit->AS Unit->Gh->Prop}
  (hb:∀Q s g,body Q s g->dq P J D0 Y0 fx nt c Q s g) (h:sr dL nX cL body Q s g):dq P J D0 Y0 fx nt (.loop c) Q s g:=by
 unfold sr at h;split at h
 ·exact h.elim
 rename_i Eo;split at h
 ·rename_i p z hz;rw[bt] at h;obtain⟨hp,β,E,I,μ,b0,MQ,hI,hr⟩:=h;have oE:∀{s:AS Unit} {p:List Prop} {z:TS nX×TO cL},HR dL nX cL s=some (p,z)->dQ p->J3 s (LF dL nX cL z):=
   fun hz hp Γ ax h0=>BO ax hz hp (by rw[h0];exact alE _) Eo
  refine dq.loop I (fun b=>LF dL nX cL (E b).1) (fun b=>(E b).2) μ b0 hI (by rw[<-MQ];exact oE hz hp) (by rw[<-MQ]) fun b YS=>?_;refine(hb _ _ _ (hr b YS)).mono fun e s1 g1 h1=>?_
  cases e with
  |normal=>
   simp only[Kg] at h1;split at h1
   ·rename_i p1 z1 N0;rw[bt] at h1;obtain⟨fG,b',eF,TB,ak⟩:=h1;exact⟨b',TB,by rw[<-eF];exact oE N0 fG,by rw[<-eF],ak⟩
   ·exact h1.elim
  |_=>exact h1
 ·exact h.elim
theorem xF.sound {nt:Nat} {tab:Nat->Option TD} {A:jb} {c:Code} {body:(Exit->AS Unit->Gh->Prop)->AS Unit->Gh->Prop} {Q:Exit->AS Unit->Gh->Prop}
  (hb:∀Q s g,body Q s g->dq P J D0 Y0 fx nt c Q s g) (h:xF tab A body Q s g):dq P J D0 Y0 fx nt (.loop c) Q s g:=by
 unfold xF at h;split at h
 ·exact h.elim
 ·rename_i s1 h1;split at h
  ·exact h.elim
  ·rename_i s2 h2;exact dq.oE (fun Γ ax _ a w η hr=>((pO ax h1).trans (nm ax h2)) a w η hr) (sr.sound hb h)
def gn (C:cJ) (L:List jb) (yv:Value):Code->(Exit->AS Unit->Gh->Prop)->AS Unit->Gh->Prop
 | .skip,Q,s,g=>Q .normal s g
 | .region id ops draw,Q,s,g=>(match draw with
  |false=>nY C yv ops.toList (Q .normal) ops.toList s g
  |true=>dA C L (.region id ops true) 0 false (fun e s'=>Q e s' g) s)
 | .seq x y,Q,s,g=>gn C L yv x (Oq (gn C L yv y Q) Q) s g
 | .cond c x y,Q,s,g=>(match s.ev c with
  | .ae (.bool b)=>ah b (gn C L yv x Q s g) (gn C L yv y Q s g)
  |_=>False)
 | .block id c,Q,s,g=>gn C L yv c (xx id Q) s g
 | .loop c,Q,s,g=>(match ko c with
  |some k=>(match Ke L k with
   |some A=>xF C.tab A (gn C L yv c) Q s g
   |none=>False)
  |none=>False)
 | .exit id,Q,s,g=>Q (.exit id) s g
 | .label _,Q,s,g=>Q .normal s g
 | .ret,Q,s,g=>Q .ret s g
 |_,_,_,_=>False
theorem gn.sound {C:cJ} (hm:C.P.follows .mixedOrders=true) (aj:aZ C.P C.tab) (hC:Cons C.P yv J) {L:List jb}:∀(c:Code) (Q:Exit->AS Unit->Gh->Prop) (s:AS Unit) (g:Gh),gn C L yv c Q s g->dq C.P J D0 Y0 fx C.nt c Q s g:=by
 intro c
 induction c with
 |skip=>intro Q s g h;exact dq.skip h
 |region id ops draw=>
  intro Q s g h;have e:ops=ops.toList.toArray:=by simp
  simp only[gn] at h;split at h
  ·rw[e];exact dq.region (nY.sound aj hC _ s g h)
  ·exact dq.of fun Γ ax hP cW h0=>dA.sound hm _ Γ ax hP.symm (by rw[hP];exact aj) cW.symm 0 h0 false (fun h=>by cases h) _ s h
 |seq x y Y5 Y6=>
  intro Q s g h;refine dq.seq ((Y5 _ s g h).mono fun e s' g' hq=>?_)
  cases e with
  |normal=>exact Y6 _ s' g' hq
  |_=>exact hq
 |cond c x y Y5 Y6=>
  intro Q s g h;simp only[gn] at h;split at h
  ·rename_i b hb;exact dq.cond hb (fun ht=>Y5 _ s g (h.elim.1 ht)) fun ht=>Y6 _ s g (h.elim.2 ht)
  ·exact h.elim
 |block id c ih=>intro Q s g h;exact dq.block (ih _ s g h)
 |loop c ih=>
  intro Q s g h;simp only[gn] at h;split at h
  ·split at h
   ·exact xF.sound ih h
   ·exact h.elim
  ·exact h.elim
 |exit id=>intro Q s g h;exact dq.exit h
 |label l=>intro Q s g h;exact dq.label h
 |ret=>intro Q s g h;exact dq.ret h
 |_=>intro Q s g h;exact h.elim
def RY (kind:Bool) (more:List (List AV)):Bool->Gh->Prop:=
 match kind with
 |true=>fun b g=>g=gT b more
 |false=>fun _ g=>∃b,g=gT b more
def uR (tab:Nat->Option TD) (rs:List ResultVar) (kind:Bool) (R:Bool->Gh->Prop) (s:AS Unit) (g:Gh):Prop:=
 match kind with
 |true=>(match ee tab s rs with
  |some [.ae (.bool b)]=>R b g
  |_=>False)
 |false=>(match ee tab s rs with
  |some _=>R true g
  |none=>False)
def OO (tab:Nat->Option TD) (rs:List ResultVar) (kind:Bool) (R:Bool->Gh->Prop):Exit->AS Unit->Gh->Prop
 | .normal,s,g=>uR tab rs kind R s g
 | .ret,s,g=>uR tab rs kind R s g
 |_,_,_=>False
theorem uR.sound {tab:Nat->Option TD} {rs:List ResultVar} {kind:Bool} {more:List (List AV)} (h:uR tab rs kind (RY kind more) s g):∃l,ee tab s rs=some l/\∃b,g=gT b more/\J4 kind b (gm l):=by
 cases kind with
 |true=>
  simp only[uR] at h;split at h
  ·rename_i b hb;exact⟨_,hb,b,h,rfl⟩
  ·exact h.elim
 |false=>
  simp only[uR] at h;split at h
  ·rename_i l hl;obtain⟨b,hb⟩:=h;exact⟨_,hl,b,hb,True.intro⟩
  ·exact h.elim
theorem EH {C:cJ} (aj:aZ C.P C.tab) (hm:C.P.follows .mixedOrders=true) {L:List jb} {f:FuncId} {fn:Func} {c:Code} {args:AV->List AV} {Ls:List (List AV)} {kind:Bool} (hf:C.P.funcs[f]?=some fn) (hb:fn.body=some c)
  (fD:(fn.name == "runtime.NumGoroutine")=false) (hn:∀v,Nat.ble (args v).length fn.ntmps=true) (cW:C.nt=fn.ntmps)
  (h:∀(yv:Value) (more:List (List AV)),gn C L yv c (OO C.tab fn.results.toList kind (RY kind more)) ⟨cI 0 (args (.fn yv)),[],()⟩ (some (Ls++more))):zi C.P f args Ls kind:=by
 refine Es aj hf hb fD (fun v=>alZ (hn v)) fun J yv hC D0 Y0 fx more=>?_;rw[<-cW];refine(gn.sound hm aj hC c _ _ _ (h yv more)).mono fun e s' g' hq=>?_
 cases e with
 |normal=>obtain⟨l,h1,h2⟩:=uR.sound hq;simp only[Ou,h1];exact h2
 |ret=>obtain⟨l,h1,h2⟩:=uR.sound hq;simp only[Ou,h1];exact h2
 |_=>exact hq.elim
end Go.Proofs.YtdcikhleahfknaaGreatDoor
