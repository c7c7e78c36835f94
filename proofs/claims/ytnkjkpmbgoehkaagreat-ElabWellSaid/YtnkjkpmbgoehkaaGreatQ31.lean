/- Lemmas. -/
import Derived.Test.YtnkjkpmbgoehkaaGreatQ30
namespace Go.Proofs.YtnkjkpmbgoehkaaGreat
open Go
set_option linter.unusedSimpArgs false
set_option linter.unusedVariables false
variable {P:Program} {yv:Value} {J:JT} {D0:Cells} {Y0:Nat->Prop} {gJ:World} {s:AS Unit} {g:Gh}
def Sv (C:dp) (yv:Value) (o:Oper) (s:AS Unit) (g:Gh) (next:AS Unit->Gh->Prop):Option Prop:=
 match o.guard,o.op with
 |none,.call c=>(match c.callee with
  | .value x=>(match s.ev x with
   | .fn v=>some (v=yv/\gN (cZ (AV.mh 0 s.hp) (c.args.toList.map s.ev)).1 (∃more:List (List AV),g=some ((cZ (AV.mh 0 s.hp) (c.args.toList.map s.ev)).2::more)/\∀b:Bool,next (s.put o.dst (.ax (.bool b))) (gT b more)))
   | .bz f caps=>(match C.sig f o.type with
    | .y kind=>some (gN (cZ (AV.mh 0 s.hp) (c.args.toList.map s.ev++caps)).1 (∃(A:AV->List AV) (L more:List (List AV)),(cZ (AV.mh 0 s.hp) (c.args.toList.map s.ev++caps)).2=A (.fn yv)/\vE C.P f A L kind/\g=some (L++more)/\
      ∀b:Bool,next (s.put o.dst (match kind with|true=>.ax (.bool b)|false=>.top)) (gT b more)))
    |_=>none)
   |_=>none)
  |_=>none)
 |_,_=>none
theorem Sv.sound {C:dp} (hC:Cons C.P yv J) {ops:Array Oper} {K N:AS Unit->Gh->Prop} {o:Oper} {rest:List Oper} {p:Prop} (h:Sv C yv o s g N=some p) (hp:p) (hd:dC C.nt o.dst) (hn:∀s g,N s g->fR C.P J D0 Y0 gJ C.nt ops K rest s g):
  fR C.P J D0 Y0 gJ C.nt ops K (o::rest) s g:=by
 unfold Sv at h;split at h
 ·rename_i c hg ho;split at h
  ·rename_i x hx;split at h
   ·rename_i v hv;obtain rfl:=aqs h;obtain⟨rfl,hp⟩:=hp;rw[bF] at hp;obtain⟨iV,more,hgh,CC⟩:=hp;rw[<-cr (g:=AV.s6 0 s.hp) (fun x=>qT) _ iV] at hgh;exact fR.yield hC hg ho hx hv hd hgh fun b=>hn _ _ (CC b)
   ·rename_i f caps dK;split at h
    ·rename_i kind aew;obtain rfl:=aqs h;rw[bF] at hp;obtain⟨iV,A,L,more,hA,hF,hgh,CC⟩:=hp;rw[<-cr (g:=AV.s6 0 s.hp) (fun x=>qT) _ iV] at hA;exact fR.call hC hg ho hx dK hd hF hA hgh fun b=>hn _ _ (CC b)
    ·cases h
   ·cases h
  ·cases h
 ·cases h
def qh (C:dp) (yv:Value) (l0:List Oper) (K:AS Unit->Gh->Prop):List Oper->AS Unit->Gh->Prop
 | [],s,g=>K s g
 |o::rest,s,g=>(match Sv C yv o s g (qh C yv l0 K rest) with
  |some p=>okB (xZ C.nt o.dst) p
  |none=>KG l0 o s (fun s=>jG C o s (fun s'=>qh C yv l0 K rest s' g)) (fun s=>okB (xZ C.nt o.dst) (qh C yv l0 K rest (s.put o.dst (.ax (.tuple #[]))) g)))
theorem qh.sound {C:dp} (aA:bc C.P C.tab) (hC:Cons C.P yv J) {l0:List Oper} {K:AS Unit->Gh->Prop}:∀(l:List Oper) (s:AS Unit) (g:Gh),qh C yv l0 K l s g->fR C.P J D0 Y0 gJ C.nt l0.toArray K l s g:=by
 intro l
 induction l with
 |nil=>intro s g h;exact fR.nil h
 |cons o rest ih=>
  intro s g h;simp only[qh] at h;split at h
  ·rename_i p hp;obtain⟨hd,h⟩:=cp h;exact Sv.sound hC hp h (jg hd) ih
  ·have run:jG C o s (fun s'=>qh C yv l0 K rest s' g)->∀Γ:Env Unit,Γ.Ok->Γ.P=C.P->Γ.nt=C.nt->Γ.mU.length=0->bO Γ o s (fun s'=>qh C yv l0 K rest s' g):=
    fun h Γ aE hP dS _=>jG.sound aE hP.symm (by rw[hP];exact aA) dS.symm h fun _ h=>h
   rcases KG.cases h with⟨hg,h⟩|⟨j,want,b,hg,hb,⟨kh,h⟩|⟨kh,h⟩⟩|⟨j,want,hg,hb,h⟩
   ·exact fR.calm (N:=qh C yv l0 K rest) (fun Γ a w η _=>by simp[Region.wanted,hg]) (run h) fun s' h=>ih s' g h
   ·exact fR.calm (N:=qh C yv l0 K rest) (fun Γ a w η hr=>by simp[Region.wanted,hg,eS hr hb,kh]) (run h) fun s' h=>ih s' g h
   ·obtain⟨hd,h⟩:=cp h;exact fR.skip (fun Γ a w η hr=>by simp[Region.wanted,hg,eS hr hb,kh]) (jg hd) (ih _ _ h)
   ·obtain⟨hd,h⟩:=cp h;exact fR.skip (fun Γ a w η hr=>by simp[Region.wanted,hg,eS hr hb]) (jg hd) (ih _ _ h)
def MN (eJ:List Nat) (qg:List Sh) (dq:List mg) (again:(TS qg×TO dq)×Gh->Prop) (Q:Exit->AS Unit->Gh->Prop):Exit->AS Unit->Gh->Prop
 | .normal,s,g=>(match Ky eJ qg dq s with
  |some (p,z)=>gN p (again (z,g))
  |none=>False)
 |e,s,g=>Q e s g
def uG (eJ:List Nat) (qg:List Sh) (dq:List mg) (body:(Exit->AS Unit->Gh->Prop)->AS Unit->Gh->Prop) (Q:Exit->AS Unit->Gh->Prop) (s:AS Unit) (g:Gh):Prop:=
 match Pf dq.length qg&&Kx dq.length dq with
 |false=>False
 |true=>(match Ky eJ qg dq s with
  |some (p,z)=>gN p (aI ((TS qg×TO dq)×Gh) (z,g) fun z again=>body (MN eJ qg dq again Q) (Pg eJ qg dq z.1) z.2)
  |none=>False)
def zQ (tab:Nat->Option TD) (A:kR) (body:(Exit->AS Unit->Gh->Prop)->AS Unit->Gh->Prop) (Q:Exit->AS Unit->Gh->Prop) (s:AS Unit) (g:Gh):Prop:=
 match tl tab A.rows s with
 |none=>False
 |some s1=>(match pw A.mb tab A.mq s1 with
  |none=>False
  |some s2=>uG (slotsOf A.live) (MG s2 A.live) (CM A.dq (Ph s2.hp)) body Q s2 g)
theorem uG.sound {nt:Nat} {eJ:List Nat} {qg:List Sh} {dq:List mg} {c:Code} {body:(Exit->AS Unit->Gh->Prop)->AS Unit->Gh->Prop} {Q:Exit->AS Unit->Gh->Prop}
  (hb:∀Q s g,body Q s g->dZ P J D0 Y0 gJ nt c Q s g) (h:uG eJ qg dq body Q s g):dZ P J D0 Y0 gJ nt (.loop c) Q s g:=by
 unfold uG at h;split at h
 ·exact h.elim
 rename_i GG;split at h
 ·rename_i p z hz;rw[bF] at h;obtain⟨hp,β,E,I,μ,b0,hz0,hI,hr⟩:=h;have ua:∀{s:AS Unit} {p:List Prop} {z:TS qg×TO dq},Ky eJ qg dq s=some (p,z)->eA p->Mx s (Pg eJ qg dq z):=
   fun hz hp Γ aE h0=>Eg aE hz hp (by rw[h0];exact aqC _) GG
  refine dZ.loop I (fun b=>Pg eJ qg dq (E b).1) (fun b=>(E b).2) μ b0 hI (by rw[<-hz0];exact ua hz hp) (by rw[<-hz0]) fun b hIb=>?_;refine(hb _ _ _ (hr b hIb)).mono fun e s1 g1 h1=>?_
  cases e with
  |normal=>
   simp only[MN] at h1;split at h1
   ·rename_i p1 z1 hz1;rw[bF] at h1;obtain⟨jC,b',gz,X4,aH⟩:=h1;exact⟨b',X4,by rw[<-gz];exact ua hz1 jC,by rw[<-gz],aH⟩
   ·exact h1.elim
  |_=>exact h1
 ·exact h.elim
theorem zQ.sound {nt:Nat} {tab:Nat->Option TD} {A:kR} {c:Code} {body:(Exit->AS Unit->Gh->Prop)->AS Unit->Gh->Prop} {Q:Exit->AS Unit->Gh->Prop}
  (hb:∀Q s g,body Q s g->dZ P J D0 Y0 gJ nt c Q s g) (h:zQ tab A body Q s g):dZ P J D0 Y0 gJ nt (.loop c) Q s g:=by
 unfold zQ at h;split at h
 ·exact h.elim
 ·rename_i s1 h1;split at h
  ·exact h.elim
  ·rename_i s2 h2;exact dZ.ua (fun Γ aE _ a w η hr=>((r3 aE h1).trans (px aE h2)) a w η hr) (uG.sound hb h)
def gZ (C:dp) (L:List kR) (yv:Value):Code->(Exit->AS Unit->Gh->Prop)->AS Unit->Gh->Prop
 | .skip,Q,s,g=>Q .normal s g
 | .region id ops draw,Q,s,g=>(match draw with
  |false=>qh C yv ops.toList (Q .normal) ops.toList s g
  |true=>eW C L (.region id ops true) 0 false (fun e s'=>Q e s' g) s)
 | .seq x y,Q,s,g=>gZ C L yv x (Sd (gZ C L yv y Q) Q) s g
 | .cond c x y,Q,s,g=>(match s.ev c with
  | .ax (.bool b)=>az b (gZ C L yv x Q s g) (gZ C L yv y Q s g)
  |_=>False)
 | .block id c,Q,s,g=>gZ C L yv c (zJ id Q) s g
 | .loop c,Q,s,g=>(match mr c with
  |some k=>(match MH L k with
   |some A=>zQ C.tab A (gZ C L yv c) Q s g
   |none=>False)
  |none=>False)
 | .exit id,Q,s,g=>Q (.exit id) s g
 | .label _,Q,s,g=>Q .normal s g
 | .ret,Q,s,g=>Q .ret s g
 |_,_,_,_=>False
theorem gZ.sound {C:dp} (hm:C.P.follows .mixedOrders=true) (aA:bc C.P C.tab) (hC:Cons C.P yv J) {L:List kR}:∀(c:Code) (Q:Exit->AS Unit->Gh->Prop) (s:AS Unit) (g:Gh),gZ C L yv c Q s g->dZ C.P J D0 Y0 gJ C.nt c Q s g:=by
 intro c
 induction c with
 |skip=>intro Q s g h;exact dZ.skip h
 |region id ops draw=>
  intro Q s g h;have e:ops=ops.toList.toArray:=by simp
  simp only[gZ] at h;split at h
  ·rw[e];exact dZ.region (qh.sound aA hC _ s g h)
  ·exact dZ.of fun Γ aE hP dS h0=>eW.sound hm _ Γ aE hP.symm (by rw[hP];exact aA) dS.symm 0 h0 false (fun h=>by cases h) _ s h
 |seq x y ihx ihy=>
  intro Q s g h;refine dZ.seq ((ihx _ s g h).mono fun e s' g' hq=>?_)
  cases e with
  |normal=>exact ihy _ s' g' hq
  |_=>exact hq
 |cond c x y ihx ihy=>
  intro Q s g h;simp only[gZ] at h;split at h
  ·rename_i b hb;exact dZ.cond hb (fun ht=>ihx _ s g (h.elim.1 ht)) fun ht=>ihy _ s g (h.elim.2 ht)
  ·exact h.elim
 |block id c ih=>intro Q s g h;exact dZ.block (ih _ s g h)
 |loop c ih=>
  intro Q s g h;simp only[gZ] at h;split at h
  ·split at h
   ·exact zQ.sound ih h
   ·exact h.elim
  ·exact h.elim
 |exit id=>intro Q s g h;exact dZ.exit h
 |label l=>intro Q s g h;exact dZ.label h
 |ret=>intro Q s g h;exact dZ.ret h
 |_=>intro Q s g h;exact h.elim
def RY (kind:Bool) (more:List (List AV)):Bool->Gh->Prop:=
 match kind with
 |true=>fun b g=>g=gT b more
 |false=>fun _ g=>∃b,g=gT b more
def wZ (tab:Nat->Option TD) (rs:List ResultVar) (kind:Bool) (R:Bool->Gh->Prop) (s:AS Unit) (g:Gh):Prop:=
 match kind with
 |true=>(match fW tab s rs with
  |some [.ax (.bool b)]=>R b g
  |_=>False)
 |false=>(match fW tab s rs with
  |some _=>R true g
  |none=>False)
def MQ (tab:Nat->Option TD) (rs:List ResultVar) (kind:Bool) (R:Bool->Gh->Prop):Exit->AS Unit->Gh->Prop
 | .normal,s,g=>wZ tab rs kind R s g
 | .ret,s,g=>wZ tab rs kind R s g
 |_,_,_=>False
theorem wZ.sound {tab:Nat->Option TD} {rs:List ResultVar} {kind:Bool} {more:List (List AV)} (h:wZ tab rs kind (RY kind more) s g):∃l,fW tab s rs=some l/\∃b,g=gT b more/\My kind b (iZ l):=by
 cases kind with
 |true=>
  simp only[wZ] at h;split at h
  ·rename_i b hb;exact⟨_,hb,b,h,rfl⟩
  ·exact h.elim
 |false=>
  simp only[wZ] at h;split at h
  ·rename_i l hl;obtain⟨b,hb⟩:=h;exact⟨_,hl,b,hb,True.intro⟩
  ·exact h.elim
theorem G1 {C:dp} (aA:bc C.P C.tab) (hm:C.P.follows .mixedOrders=true) {L:List kR} {f:FuncId} {fn:Func} {c:Code} {args:AV->List AV} {Ls:List (List AV)} {kind:Bool} (hf:C.P.funcs[f]?=some fn) (hb:fn.body=some c)
  (jD:(fn.name == "runtime.NumGoroutine")=false) (hn:∀v,Nat.ble (args v).length fn.ntmps=true) (dS:C.nt=fn.ntmps)
  (h:∀(yv:Value) (more:List (List AV)),gZ C L yv c (MQ C.tab fn.results.toList kind (RY kind more)) ⟨ei 0 (args (.fn yv)),[],()⟩ (some (Ls++more))):vE C.P f args Ls kind:=by
 refine GJ aA hf hb jD (fun v=>aqQ (hn v)) fun J yv hC D0 Y0 gJ more=>?_;rw[<-dS];refine(gZ.sound hm aA hC c _ _ _ (h yv more)).mono fun e s' g' hq=>?_
 cases e with
 |normal=>obtain⟨l,h1,h2⟩:=wZ.sound hq;simp only[Sf,h1];exact h2
 |ret=>obtain⟨l,h1,h2⟩:=wZ.sound hq;simp only[Sf,h1];exact h2
 |_=>exact hq.elim
end Go.Proofs.YtnkjkpmbgoehkaaGreat
