/- Texts of ours laid together for a claim: VcJ. -/
import Derived.Test.YtnkjkpmbgoehkaaGreatQ30
namespace Go.Proofs.YtnkjkpmbgoehkaaGreat
open Go
set_option linter.unusedSimpArgs false
set_option linter.unusedVariables false
variable {P:Program} {yv:Value} {J:JT} {D0:Cells} {Y0:Nat->Prop} {fQ:World} {s:AS Unit} {g:Gh}
def OL (C:cD) (yv:Value) (o:Oper) (s:AS Unit) (g:Gh) (next:AS Unit->Gh->Prop):Option Prop:=
 match o.guard,o.op with
 |none,.call c=>(match c.callee with
  | .value x=>(match s.ev x with
   | .fn v=>some (v=yv/\fU (ct (AV.kM 0 s.hp) (c.args.toList.map s.ev)).1 (∃more:List (List AV),g=some ((ct (AV.kM 0 s.hp) (c.args.toList.map s.ev)).2::more)/\∀b:Bool,next (s.put o.dst (.ae (.bool b))) (gT b more)))
   | .bf f caps=>(match C.sig f o.type with
    | .y kind=>some (fU (ct (AV.kM 0 s.hp) (c.args.toList.map s.ev++caps)).1 (∃(A:AV->List AV) (L more:List (List AV)),(ct (AV.kM 0 s.hp) (c.args.toList.map s.ev++caps)).2=A (.fn yv)/\uQ C.P f A L kind/\g=some (L++more)/\
      ∀b:Bool,next (s.put o.dst (match kind with|true=>.ae (.bool b)|false=>.top)) (gT b more)))
    |_=>none)
   |_=>none)
  |_=>none)
 |_,_=>none
theorem OL.sound {C:cD} (hC:Cons C.P yv J) {ops:Array Oper} {K N:AS Unit->Gh->Prop} {o:Oper} {rest:List Oper} {p:Prop} (h:OL C yv o s g N=some p) (hp:p) (hd:cP C.nt o.dst) (hn:∀s g,N s g->fh C.P J D0 Y0 fQ C.nt ops K rest s g):
  fh C.P J D0 Y0 fQ C.nt ops K (o::rest) s g:=by
 unfold OL at h;split at h
 ·rename_i c hg ho;split at h
  ·rename_i x hx;split at h
   ·rename_i v hv;obtain rfl:=alj h;obtain⟨rfl,hp⟩:=hp;rw[bh] at hp;obtain⟨gO,more,Wr,Ai⟩:=hp;rw[<-bP (g:=AV.q9 0 s.hp) (fun x=>pb) _ gO] at Wr;exact fh.yield hC hg ho hx hv hd Wr fun b=>hn _ _ (Ai b)
   ·rename_i f caps cY;split at h
    ·rename_i kind ZF;obtain rfl:=alj h;rw[bh] at hp;obtain⟨gO,A,L,more,hA,hF,Wr,Ai⟩:=hp;rw[<-bP (g:=AV.q9 0 s.hp) (fun x=>pb) _ gO] at hA;exact fh.call hC hg ho hx cY hd hF hA Wr fun b=>hn _ _ (Ai b)
    ·cases h
   ·cases h
  ·cases h
 ·cases h
def ov (C:cD) (yv:Value) (l0:List Oper) (K:AS Unit->Gh->Prop):List Oper->AS Unit->Gh->Prop
 | [],s,g=>K s g
 |o::rest,s,g=>(match OL C yv o s g (ov C yv l0 K rest) with
  |some p=>okB (vK C.nt o.dst) p
  |none=>KG l0 o s (fun s=>iG C o s (fun s'=>ov C yv l0 K rest s' g)) (fun s=>okB (vK C.nt o.dst) (ov C yv l0 K rest (s.put o.dst (.ae (.tuple #[]))) g)))
theorem ov.sound {C:cD} (ah:aL C.P C.tab) (hC:Cons C.P yv J) {l0:List Oper} {K:AS Unit->Gh->Prop}:∀(l:List Oper) (s:AS Unit) (g:Gh),ov C yv l0 K l s g->fh C.P J D0 Y0 fQ C.nt l0.toArray K l s g:=by
 intro l
 induction l with
 |nil=>intro s g h;exact fh.nil h
 |cons o rest ih=>
  intro s g h;simp only[ov] at h;split at h
  ·rename_i p hp;obtain⟨hd,h⟩:=bM h;exact OL.sound hC hp h (hO hd) ih
  ·have run:iG C o s (fun s'=>ov C yv l0 K rest s' g)->∀Γ:Env Unit,Γ.Ok->Γ.P=C.P->Γ.nt=C.nt->Γ.lx.length=0->bq Γ o s (fun s'=>ov C yv l0 K rest s' g):=
    fun h Γ al hP dj _=>iG.sound al hP.symm (by rw[hP];exact ah) dj.symm h fun _ h=>h
   rcases KG.cases h with⟨hg,h⟩|⟨j,want,b,hg,hb,⟨iW,h⟩|⟨iW,h⟩⟩|⟨j,want,hg,hb,h⟩
   ·exact fh.calm (N:=ov C yv l0 K rest) (fun Γ a w η _=>by simp[Region.wanted,hg]) (run h) fun s' h=>ih s' g h
   ·exact fh.calm (N:=ov C yv l0 K rest) (fun Γ a w η hr=>by simp[Region.wanted,hg,ef hr hb,iW]) (run h) fun s' h=>ih s' g h
   ·obtain⟨hd,h⟩:=bM h;exact fh.skip (fun Γ a w η hr=>by simp[Region.wanted,hg,ef hr hb,iW]) (hO hd) (ih _ _ h)
   ·obtain⟨hd,h⟩:=bM h;exact fh.skip (fun Γ a w η hr=>by simp[Region.wanted,hg,ef hr hb]) (hO hd) (ih _ _ h)
def JJ (dT:List Nat) (ot:List Sh) (cE:List kL) (again:(TS ot×TO cE)×Gh->Prop) (Q:Exit->AS Unit->Gh->Prop):Exit->AS Unit->Gh->Prop
 | .normal,s,g=>(match HB dT ot cE s with
  |some (p,z)=>fU p (again (z,g))
  |none=>False)
 |e,s,g=>Q e s g
def sE (dT:List Nat) (ot:List Sh) (cE:List kL) (body:(Exit->AS Unit->Gh->Prop)->AS Unit->Gh->Prop) (Q:Exit->AS Unit->Gh->Prop) (s:AS Unit) (g:Gh):Prop:=
 match Lk cE.length ot&&HA cE.length cE with
 |false=>False
 |true=>(match HB dT ot cE s with
  |some (p,z)=>fU p (ay ((TS ot×TO cE)×Gh) (z,g) fun z again=>body (JJ dT ot cE again Q) (Ll dT ot cE z.1) z.2)
  |none=>False)
def xG (tab:Nat->Option TD) (A:jy) (body:(Exit->AS Unit->Gh->Prop)->AS Unit->Gh->Prop) (Q:Exit->AS Unit->Gh->Prop) (s:AS Unit) (g:Gh):Prop:=
 match rp tab A.rows s with
 |none=>False
 |some s1=>(match nC A.mb tab A.lG s1 with
  |none=>False
  |some s2=>sE (slotsOf A.live) (JF s2 A.live) (As A.cE (Lm s2.hp)) body Q s2 g)
theorem sE.sound {nt:Nat} {dT:List Nat} {ot:List Sh} {cE:List kL} {c:Code} {body:(Exit->AS Unit->Gh->Prop)->AS Unit->Gh->Prop} {Q:Exit->AS Unit->Gh->Prop}
  (hb:∀Q s g,body Q s g->dv P J D0 Y0 fQ nt c Q s g) (h:sE dT ot cE body Q s g):dv P J D0 Y0 fQ nt (.loop c) Q s g:=by
 unfold sE at h;split at h
 ·exact h.elim
 rename_i DW;split at h
 ·rename_i p z hz;rw[bh] at h;obtain⟨hp,β,E,I,μ,b0,V3,hI,hr⟩:=h;have rZ:∀{s:AS Unit} {p:List Prop} {z:TS ot×TO cE},HB dT ot cE s=some (p,z)->dK p->Jx s (Ll dT ot cE z):=
   fun hz hp Γ al h0=>BI al hz hp (by rw[h0];exact aly _) DW
  refine dv.loop I (fun b=>Ll dT ot cE (E b).1) (fun b=>(E b).2) μ b0 hI (by rw[<-V3];exact rZ hz hp) (by rw[<-V3]) fun b XS=>?_;refine(hb _ _ _ (hr b XS)).mono fun e s1 g1 h1=>?_
  cases e with
  |normal=>
   simp only[JJ] at h1;split at h1
   ·rename_i p1 z1 Zu;rw[bh] at h1;obtain⟨iC,b',fJ,T6,aq⟩:=h1;exact⟨b',T6,by rw[<-fJ];exact rZ Zu iC,by rw[<-fJ],aq⟩
   ·exact h1.elim
  |_=>exact h1
 ·exact h.elim
theorem xG.sound {nt:Nat} {tab:Nat->Option TD} {A:jy} {c:Code} {body:(Exit->AS Unit->Gh->Prop)->AS Unit->Gh->Prop} {Q:Exit->AS Unit->Gh->Prop}
  (hb:∀Q s g,body Q s g->dv P J D0 Y0 fQ nt c Q s g) (h:xG tab A body Q s g):dv P J D0 Y0 fQ nt (.loop c) Q s g:=by
 unfold xG at h;split at h
 ·exact h.elim
 ·rename_i s1 h1;split at h
  ·exact h.elim
  ·rename_i s2 h2;exact dv.rZ (fun Γ al _ a w η hr=>((p8 al h1).trans (nD al h2)) a w η hr) (sE.sound hb h)
def ga (C:cD) (L:List jy) (yv:Value):Code->(Exit->AS Unit->Gh->Prop)->AS Unit->Gh->Prop
 | .skip,Q,s,g=>Q .normal s g
 | .region id ops draw,Q,s,g=>(match draw with
  |false=>ov C yv ops.toList (Q .normal) ops.toList s g
  |true=>eh C L (.region id ops true) 0 false (fun e s'=>Q e s' g) s)
 | .seq x y,Q,s,g=>ga C L yv x (Ou (ga C L yv y Q) Q) s g
 | .cond c x y,Q,s,g=>(match s.ev c with
  | .ae (.bool b)=>ag b (ga C L yv x Q s g) (ga C L yv y Q s g)
  |_=>False)
 | .block id c,Q,s,g=>ga C L yv c (xz id Q) s g
 | .loop c,Q,s,g=>(match kQ c with
  |some k=>(match JG L k with
   |some A=>xG C.tab A (ga C L yv c) Q s g
   |none=>False)
  |none=>False)
 | .exit id,Q,s,g=>Q (.exit id) s g
 | .label _,Q,s,g=>Q .normal s g
 | .ret,Q,s,g=>Q .ret s g
 |_,_,_,_=>False
theorem ga.sound {C:cD} (hm:C.P.follows .mixedOrders=true) (ah:aL C.P C.tab) (hC:Cons C.P yv J) {L:List jy}:∀(c:Code) (Q:Exit->AS Unit->Gh->Prop) (s:AS Unit) (g:Gh),ga C L yv c Q s g->dv C.P J D0 Y0 fQ C.nt c Q s g:=by
 intro c
 induction c with
 |skip=>intro Q s g h;exact dv.skip h
 |region id ops draw=>
  intro Q s g h;have e:ops=ops.toList.toArray:=by simp
  simp only[ga] at h;split at h
  ·rw[e];exact dv.region (ov.sound ah hC _ s g h)
  ·exact dv.of fun Γ al hP dj h0=>eh.sound hm _ Γ al hP.symm (by rw[hP];exact ah) dj.symm 0 h0 false (fun h=>by cases h) _ s h
 |seq x y X2 X3=>
  intro Q s g h;refine dv.seq ((X2 _ s g h).mono fun e s' g' hq=>?_)
  cases e with
  |normal=>exact X3 _ s' g' hq
  |_=>exact hq
 |cond c x y X2 X3=>
  intro Q s g h;simp only[ga] at h;split at h
  ·rename_i b hb;exact dv.cond hb (fun ht=>X2 _ s g (h.elim.1 ht)) fun ht=>X3 _ s g (h.elim.2 ht)
  ·exact h.elim
 |block id c ih=>intro Q s g h;exact dv.block (ih _ s g h)
 |loop c ih=>
  intro Q s g h;simp only[ga] at h;split at h
  ·split at h
   ·exact xG.sound ih h
   ·exact h.elim
  ·exact h.elim
 |exit id=>intro Q s g h;exact dv.exit h
 |label l=>intro Q s g h;exact dv.label h
 |ret=>intro Q s g h;exact dv.ret h
 |_=>intro Q s g h;exact h.elim
def RY (kind:Bool) (more:List (List AV)):Bool->Gh->Prop:=
 match kind with
 |true=>fun b g=>g=gT b more
 |false=>fun _ g=>∃b,g=gT b more
def uT (tab:Nat->Option TD) (rs:List ResultVar) (kind:Bool) (R:Bool->Gh->Prop) (s:AS Unit) (g:Gh):Prop:=
 match kind with
 |true=>(match ft tab s rs with
  |some [.ae (.bool b)]=>R b g
  |_=>False)
 |false=>(match ft tab s rs with
  |some _=>R true g
  |none=>False)
def JK (tab:Nat->Option TD) (rs:List ResultVar) (kind:Bool) (R:Bool->Gh->Prop):Exit->AS Unit->Gh->Prop
 | .normal,s,g=>uT tab rs kind R s g
 | .ret,s,g=>uT tab rs kind R s g
 |_,_,_=>False
theorem uT.sound {tab:Nat->Option TD} {rs:List ResultVar} {kind:Bool} {more:List (List AV)} (h:uT tab rs kind (RY kind more) s g):∃l,ft tab s rs=some l/\∃b,g=gT b more/\Jy kind b (gS l):=by
 cases kind with
 |true=>
  simp only[uT] at h;split at h
  ·rename_i b hb;exact⟨_,hb,b,h,rfl⟩
  ·exact h.elim
 |false=>
  simp only[uT] at h;split at h
  ·rename_i l hl;obtain⟨b,hb⟩:=h;exact⟨_,hl,b,hb,True.intro⟩
  ·exact h.elim
theorem Ef {C:cD} (ah:aL C.P C.tab) (hm:C.P.follows .mixedOrders=true) {L:List jy} {f:FuncId} {fn:Func} {c:Code} {args:AV->List AV} {Ls:List (List AV)} {kind:Bool} (hf:C.P.funcs[f]?=some fn) (hb:fn.body=some c)
  (iD:(fn.name == "runtime.NumGoroutine")=false) (hn:∀v,Nat.ble (args v).length fn.ntmps=true) (dj:C.nt=fn.ntmps)
  (h:∀(yv:Value) (more:List (List AV)),ga C L yv c (JK C.tab fn.results.toList kind (RY kind more)) ⟨dC 0 (args (.fn yv)),[],()⟩ (some (Ls++more))):uQ C.P f args Ls kind:=by
 refine DZ ah hf hb iD (fun v=>alF (hn v)) fun J yv hC D0 Y0 fQ more=>?_;rw[<-dj];refine(ga.sound hm ah hC c _ _ _ (h yv more)).mono fun e s' g' hq=>?_
 cases e with
 |normal=>obtain⟨l,h1,h2⟩:=uT.sound hq;simp only[Ow,h1];exact h2
 |ret=>obtain⟨l,h1,h2⟩:=uT.sound hq;simp only[Ow,h1];exact h2
 |_=>exact hq.elim
end Go.Proofs.YtnkjkpmbgoehkaaGreat
