/- Texts of ours laid together for a claim: VcE. -/
import Derived.Test.YtjhanogfpkbamaaGreatDoorQ27
namespace Go.Proofs.YtjhanogfpkbamaaGreatDoor
open Go
set_option linter.unusedSimpArgs false
set_option linter.unusedVariables false
variable {Γ:Env Unit} {s s':AS Unit} {a:Act} {w w':World} {η:List Value} {hp hp':List af}
theorem cT.eF {f f':Nat→AV} {g:Unit} (h:∀t,ef (f t) (f' t)):cT Γ ⟨f,hp,g⟩ ⟨f',hp,g⟩:=
 fun _ _ η hr=>⟨η,hr.nt,fun t=>h t _ _ _ _ _ (hr.tmps t),hr.heap,hr.cE,hr.keeps,hr.inv,hr.marks,hr.ext⟩
theorem La.own {o o':af} (h:La o o'):(∃cs iP,o=.box cs∧o'=.box iP∧fK cs iP)∨o=o':=by
 cases o with
 |box cs=>
  cases o' with
  |box iP=>exact .inl ⟨cs,iP,rfl,rfl,h⟩
  |_=>cases h
 |_=>cases o'<;>first|exact .inr h|cases h
theorem e8.ach (h:e8 hp hp') {b o:Nat} (hf:mB η hp b o):mB η hp' b o:=by
 intro r v hr hb
 have:=hf r v hr hb
 rcases h.get r with⟨h1,h2⟩|⟨o1,o2,h1,h2,h3⟩
 ·rw[h1] at this;exact this.elim
 ·rw[h1] at this
  rw[h2]
  rcases h3.own with⟨cs,iP,rfl,rfl,_⟩|rfl
  ·exact this
  ·exact this
theorem e8.Yt (h:e8 hp hp') {r n:Nat} {v:Value} (hf:aY η hp r n v):aY η hp' r n v:=by
 unfold aY at hf ⊢
 rcases h.get r with⟨h1,h2⟩|⟨o1,o2,h1,h2,h3⟩
 ·rw[h1] at hf;exact hf.elim
 ·rw[h1] at hf
  rw[h2]
  rcases h3.own with⟨cs,iP,rfl,rfl,_⟩|rfl
  ·exact hf
  ·exact hf
theorem cT.Wu {f:Nat→AV} {g:Unit} (h:e8 hp hp'):cT Γ ⟨f,hp,g⟩ ⟨f,hp',g⟩:=by
 intro a w η hr
 have he:Ext w (bn Γ w η hp) η hp w (bn Γ w η hp') η hp':=
  ⟨fun _ _ _ _ h=>h,fun _ _ _ _ h=>h,fun b o hf=>⟨hf.1,hf.2.1,hf.2.2.1,h.ach hf.2.2.2⟩,fun _ _ h=>h,fun _ _ h=>h,fun _ _ _ ho=>h.Yt ho⟩
 have back:∀{r:Nat} {o':af},hp'[r]?=some o'→∃o,hp[r]?=some o∧La o o'∧(o'.live→o.live):=by
  intro r o' ho
  rcases h.get r with⟨h1,h2⟩|⟨o1,o2,h1,h2,h3⟩
  ·rw[h2] at ho;cases ho
  ·rw[h2] at ho
   obtain rfl:=Option.some.inj ho
   refine⟨o1,h1,h3,fun hl=>?_⟩
   rcases h3.own with⟨cs,iP,rfl,rfl,_⟩|rfl
   ·exact True.intro
   ·exact hl
 refine⟨η,hr.nt,fun t=>(hr.tmps t).ext he,⟨by rw[hr.heap.len];exact h.length,fun r o' v h1 h2=>?_,fun r r' o o' v v' b bK h1 h2 l1 l2 e1 e2 hb=>?_⟩,fun r o v b h1 hl h2 hb=>?_,hr.keeps,hr.inv,hr.marks,hr.ext.trans he⟩
 ·obtain⟨o,g1,g2,_⟩:=back h1
  have eP:=hr.heap.obj r o v g1 h2
  rcases g2.own with⟨cs,iP,rfl,rfl,hw⟩|rfl
  ·obtain⟨b,vs,T,e1,e2,e3,e4⟩:=eP
   refine⟨b,vs,T,e1,e2,by rw[e3,hw.length],fun j x u hx hu=>?_⟩
   obtain⟨y,hy,hyx⟩:=hw.get j x hx
   have:=e4 j y u hy hu
   exact⟨hyx _ _ _ _ _ (this.1.ext he),this.2⟩
  ·exact eP.ext he (ah5 _) fun _ _ _=>rfl
 ·obtain⟨o1,g1,_,g3⟩:=back h1
  obtain⟨o2,g4,_,g6⟩:=back h2
  exact hr.heap.sep r r' o1 o2 v v' b bK g1 g4 (g3 l1) (g6 l2) e1 e2 hb
 ·obtain⟨o1,g1,_,g3⟩:=back h1
  exact hr.cE r o1 v b g1 (g3 hl) h2 hb
def wT.cl (n:Nat):wT→Bool
 | .o r=>Nat.blt r n
 | .k x=>x.aR n
 | .q x=>x.aR n
 |_=>true
def NZ (n:Nat):List wT→Bool
 | []=>true
 |sh::l=>sh.cl n&&NZ n l
def tD.cl (n:Nat):tD→Bool
 | .c x=>x.cl n
 | .a l=>NZ n l
def Ld (n:Nat):List tD→Bool
 | []=>true
 |sh::l=>sh.cl n&&Ld n l
def Sh.cl (n:Nat):Sh→Bool
 | .v x=>x.cl n
 | .t l=>Ld n l
 | .f _ l=>Ld n l
 | .m _ l=>Ld n l
def Le (n:Nat):List Sh→Bool
 | []=>true
 |sh::l=>sh.cl n&&Le n l
def lf.cl (n:Nat):lf→Bool
 | .box l=>NZ n l
 | .dD r=>Nat.blt r n
 |_=>true
def HS (n:Nat):List lf→Bool
 | []=>true
 |sh::l=>sh.cl n&&HS n l
theorem Cd {n:Nat} {x:AV} (h:x.aR n=true):x.dZ n=true:=by
 cases x<;>first|exact h|(simp[AV.aR] at h;done)
theorem ET {n:Nat} {x:AV} (h:x.dZ n=true):x.closed n=true:=by
 cases x<;>first|exact h|(simp[AV.dZ,AV.aR] at h;done)
theorem N0 {n:Nat} {lens:List Nat} {sh:wT} {t:sh.T} (h:sh.cl n=true):(Yg lens sh t).aR n=true:=by
 cases sh with
 |k x=>exact h
 |q x=>exact h
 |o r=>
  have:r<n:=ait (show Nat.ble (r+1) n=true from h)
  simp[Yg,AV.aR,this]
 |_=>rfl
theorem Ce {n:Nat} {lens:List Nat}:∀{l:List wT} {t:Wm l},NZ n l=true→(K6 lens l t).all (AV.aR n)=true
 | [],_,_=>rfl
 |sh::l,t,h=>by
  simp only[NZ,ahZ] at h
  simp only[K6,ai5,ahZ]
  exact⟨N0 h.1,Ce h.2⟩
theorem N1 {n:Nat} {lens:List Nat} {sh:tD} {t:sh.T} (h:sh.cl n=true):(mkV lens sh t).dZ n=true:=by
 cases sh with
 |c x=>exact Cd (N0 h)
 |a l=>exact Ce h
theorem xD {n:Nat} {lens:List Nat}:∀{l:List tD} {t:Vd l},Ld n l=true→(HP lens l t).all (AV.dZ n)=true
 | [],_,_=>rfl
 |sh::l,t,h=>by
  simp only[Ld,ahZ] at h
  simp only[HP,ai5,ahZ]
  exact⟨N1 h.1,xD h.2⟩
theorem Wv {n:Nat} {lens:List Nat} {sh:Sh} {t:sh.T} (h:sh.cl n=true):(mkS lens sh t).closed n=true:=by
 cases sh with
 |v x=>exact ET (N1 h)
 |t l=>exact xD h
 |f fn l=>exact xD h
 |m fn l=>exact xD h
theorem Ju {n:Nat} {lens:List Nat}:∀{l:List Sh} {t:TS l},Le n l=true→∀x∈wV lens l t,x.closed n=true
 | [],_,_,x,hx=>by cases hx
 |sh::l,t,h,x,hx=>by
  simp only[Le,ahZ] at h
  rcases aiC.1 hx with rfl|hx
  ·exact Wv h.1
  ·exact Ju h.2 x hx
theorem Cf {n:Nat} {lens:List Nat}:∀{l:List lf} {t:TO l},HS n l=true→∀o∈n3 lens l t,af.closed n o=true
 | [],_,_,x,hx=>by cases hx
 |sh::l,t,h,x,hx=>by
  simp only[HS,ahZ] at h
  rcases aiC.1 hx with rfl|hx
  ·cases sh with
   |box l=>exact Ce h.1
   |dD r=>exact decide_eq_true (ait (show Nat.ble (r+1) n=true from h.1))
   |_=>rfl
  ·exact Cf h.2 x hx
theorem tO {lens:List Nat}:∀{l:List lf} {t:TO l},(n3 lens l t).length=l.length
 | [],_=>rfl
 |_::l,t=>by simp[n3,tO (l:=l)]
def ve:List Nat→List AV→Nat→AV
 |t::ts,x::xs=>Bx (ve ts xs) t x
 |_,_=>fun _=>.top
theorem EU {f:Nat→AV}:∀{ts:List Nat} {ys:List AV},fK (ts.map f) ys→∀t,ef (f t) (ve ts ys t)
 | [],[],_,t=>fun _ _ _ _ v _=>.top v
 |t0::ts,y::ys,h,t=>by
  simp only[ve,gL]
  split
  ·rename_i ht;subst ht;exact h.1
  ·exact EU h.2 t
theorem A2 {n:Nat}:∀{ts:List Nat} {ys:List AV},(∀x∈ys,x.closed n=true)→oW n (ve ts ys)
 | [],_,_=>fun _=>rfl
 |_::_,[],_=>fun _=>rfl
 |t0::ts,y::ys,h=>oW.Bx (h y aia) (A2 fun x hx=>h x (aip _ hx))
def Lf (eF:List Nat) (oZ:List Sh) (dc:List lf) (z:TS oZ×TO dc):AS Unit:=
 ⟨ve eF (wV (gW dc z.2) oZ z.1),n3 (gW dc z.2) dc z.2,()⟩
def HT (eF:List Nat) (oZ:List Sh) (dc:List lf) (s:AS Unit):Option (List Prop×(TS oZ×TO dc)):=
 match vQ (sx (s.hp.take dc.length)) dc (s.hp.take dc.length) with
 |some (p,y)=>(match AO (sx (s.hp.take dc.length)) oZ (eF.map s.tmps) with
  |some (q,x)=>some (p++q,(x,y))
  |none=>none)
 |none=>none
theorem Cg (aD:Γ.Ok) {eF:List Nat} {oZ:List Sh} {dc:List lf} {s:AS Unit} {cs:List Prop} {z:TS oZ×TO dc} (h:HT eF oZ dc s=some (cs,z)) (hc:eY cs)
  (h0:Γ.oQ.length≤dc.length) (eu:(Le dc.length oZ&&HS dc.length dc)=true):cT Γ s (Lf eF oZ dc z):=by
 unfold HT at h
 split at h
 ·rename_i p y h1
  split at h
  ·rename_i q x h2
   simp only[Option.some.injEq,Prod.mk.injEq] at h
   obtain⟨rfl,rfl⟩:=h
   rw[bT] at hc
   obtain⟨h3,h4⟩:=tL (lens':=[]) h1 hc.1
   have h5:=EK h2 hc.2
   rw[←h4] at h3 h5
   rw[ahZ] at eu
   obtain⟨f,hp,g⟩:=s
   have w1:cT Γ ⟨f,hp,g⟩ ⟨ve eF (wV (gW dc y) oZ x),hp,g⟩:=cT.eF (EU h5)
   have h6:e8 hp (n3 (gW dc y) dc y++hp.drop dc.length):=by
    have:=e8.append h3 (e8.refl (hp.drop dc.length))
    rwa [aiq] at this
   have w2:=w1.trans (cT.Wu h6)
   refine w2.trans (cT.cut aD dc.length h0 (fun t=>.inr rfl) (A2 (Ju eu.1)) ?_ (Cf eu.2))
   have:=tO (lens:=gW dc y) (l:=dc) (t:=y)
   rw[←this,ajD]
  ·cases h
 ·cases h
def aB (τ:Type) (x0:τ) (body:τ→(τ→Prop)→Prop):Prop:=
 ∃(β:Type) (E:β→τ) (I:β→Prop) (μ:β→Nat) (b0:β),x0=E b0∧I b0∧∀b,I b→body (E b) (fun y=>∃b',y=E b'∧I b'∧μ b' < μ b)
theorem aB.intro {τ:Type} {x0:τ} {body:τ→(τ→Prop)→Prop} {β:Type} (E:β→τ) (I:β→Prop) (μ:β→Nat) (b0:β) (h0:x0=E b0) (hI:I b0)
  (h:∀b,I b→∀again:τ→Prop,(∀b',I b'→μ b' < μ b→again (E b'))→body (E b) again):aB τ x0 body:=
 ⟨β,E,I,μ,b0,h0,hI,fun b hb=>h b hb _ fun b' h1 h2=>⟨b',rfl,h1,h2⟩⟩
def gk (Γ:Env Unit) (c:Code) (Q:Exit→AS Unit→Prop) (s:AS Unit):Prop:=
 ∀a w η,Rel Γ s a w η→∀(f:Frame) (k:List Item) (cs:List Frame),f.roundOf=Γ.eV.round→Γ.eV.fn f.fn→Γ.eV.room (cs.length+1+0)→
  ∃e a' w',(∃s' aU,Q e s'∧Rel Γ s' a' w' aU)∧ArrivesIn (Machine.fenced Γ.P Γ.eV) Γ.P (lone (f.atR a (.code c :: .inLoop c::k)) cs w) f k cs e a' w'
theorem gk.N2 {c:Code} {Q:Exit→AS Unit→Prop} (h:eM Γ c (rN (gk Γ c Q) Q) s):gk Γ c Q s:=by
 intro a w η hr f k cs ry hf fR
 obtain⟨e,u7,va,⟨s',aU,hq,fZ⟩,k6⟩:=h a w η hr f (.inLoop c::k) cs ry hf fR
 cases e with
 |normal=>
  obtain⟨Wp,Wq,Ws,NS,Cb⟩:=hq u7 va aU fZ f k cs ry hf fR
  exact⟨Wp,Wq,Ws,NS,.of_steps (StepsIn.trans k6 (.one (fenced_calm hf fR rfl) stepR_inLoop)) Cb⟩
 |exit id=>exact⟨_,u7,va,⟨s',aU,hq,fZ⟩,.pass (x:=.inLoop c) rfl (fun _ _=>.inl (by simp)) k6⟩
 |goto l=>exact⟨_,u7,va,⟨s',aU,hq,fZ⟩,.pass (x:=.inLoop c) rfl (fun _ _=>.inl (by simp)) k6⟩
 |ret=>exact⟨_,u7,va,⟨s',aU,hq,fZ⟩,.pass (x:=.inLoop c) rfl (fun _ _=>.inl (by simp)) k6⟩
 |panic ch=>exact⟨_,u7,va,⟨s',aU,hq,fZ⟩,.pass (x:=.inLoop c) rfl (fun _ _=>.inl (by simp)) k6⟩
 |outgrown=>exact⟨_,u7,va,⟨s',aU,hq,fZ⟩,.pass (x:=.inLoop c) rfl (fun _ _=>.inl (by simp)) k6⟩
theorem gk.tj {c:Code} {Q:Exit→AS Unit→Prop} (hw:cT Γ s s') (h:gk Γ c Q s'):gk Γ c Q s:=fun a w η hr=>let ⟨aU,fZ⟩:=hw a w η hr;h a w aU fZ
theorem gk.loop {c:Code} {Q:Exit→AS Unit→Prop} {β:Type} (I:β→Prop) (st:β→AS Unit) (μ:β→Nat)
  (round:∀b,I b→eM Γ c (rN (fun s'=>∃b',I b'∧cT Γ s' (st b')∧μ b' < μ b) Q) (st b)):∀(n:Nat) (b:β),I b→μ b=n→gk Γ c Q (st b):=by
 intro n
 induction n using Nat.strongRecOn with
 |_ n ih=>
  intro b Wo hb
  refine gk.N2 ((round b Wo).mono fun e s' h=>?_)
  cases e with
  |normal=>
   obtain⟨b',Rv,hw,ay⟩:=h
   exact gk.tj hw (ih (μ b') (hb▸ay) b' Rv rfl)
  |_=>exact h
theorem eM.EV {c:Code} {Q:Exit→AS Unit→Prop} (h:gk Γ c Q s):eM Γ (.loop c) Q s:=by
 intro a w η hr f k cs ry hf fR
 obtain⟨e,a',w',hq,k6⟩:=h a w η hr f k cs ry hf fR
 exact⟨e,a',w',hq,.of_steps (.one (fenced_calm hf fR rfl) stepR_loop) k6⟩
def ofC:AV→wT
 | .ah (.int k _)=>.i k
 | .ah (.bool _)=>.b
 | .ah (.string _)=>.s
 | .ah (.slice none 0 0)=>.l
 | .sl _=>.l
 | .clip _=>.c
 | .fH (.i _)=>.m
 | .fH (.s _)=>.ms
 | .own r _=>.o r
 | .ptr r o=>.k (.ptr r o)
 | .mp r=>.k (.mp r)
 | .fn _=>.fn
 |_=>.k .top
def Yu:List AV→List wT
 | []=>[]
 |x::l=>ofC x::Yu l
def ofV:AV→tD
 | .agg cs=>.a (Yu cs)
 |x=>.c (ofC x)
def Ww:List AV→List tD
 | []=>[]
 |x::l=>ofV x::Ww l
def ofS:AV→Sh
 | .aX vs=>.t (Ww vs)
 | .ck f vs=>.f f (Ww vs)
 |x=>.v (ofV x)
def acj:AV→wT
 | .ah (.slice none 0 0)=>.k (.ah (.slice none 0 0))
 |x=>ofC x
def Vj:List AV→List wT
 | []=>[]
 |x::l=>acj x::Vj l
def ofO:af→lf
 | .dead=>.dead
 | .box cs=>.box (Vj cs)
 | .row e size _=>.row e size
 | .bM e size _=>.bM e size
 | .cQ (.i _)=>.cQ
 | .cQ (.s _)=>.vN
 | .dD r _=>.dD r
 | .eH e _ _=>.eH e
def Lg:List af→List lf
 | []=>[]
 |o::l=>ofO o::Lg l
def rT:List Nat→AS Unit→AS Unit
 | [],s=>s
 |r::l,s=>(match s.hp[r]? with
  |some (.cQ es)=>rT l ⟨fun t=>Ni r es (s.tmps t),s.hp.set r .dead,s.g⟩
  |some (.bM e size els)=>rT l ⟨s.tmps,s.hp.set r (.row e size els),s.g⟩
  |_=>rT l s)
theorem cT.Lh (aD:Γ.Ok) {f:Nat→AV} {g:Unit} {r e size:Nat} {els:List AV} (hr:hp[r]?=some (.bM e size els)):cT Γ ⟨f,hp,g⟩ ⟨f,hp.set r (.row e size els),g⟩:=by
 intro a w η h
 have ay:r<η.length:=by have:=h.heap.len;simp only at this;rw[this];exact(ahY.1 hr).1
 have hv:η[r]?=some η[r]:=by simp[ay]
 obtain⟨hz,xs,eo,eC⟩:=h.heap.obj r _ _ hr hv
 have eS:η.set r η[r]=η:=by
  apply aiO
  intro i
  by_cases hi:r=i
  ·subst hi;rw[aA hv,hv]
  ·rw[getElem?_set_ne hi]
 have hd:=Rel.change (w':=w) (o':=.row e size els) (v':=η[r]) aD h hr True.intro hv (cD.refl _ w) (fun b hb=>.inl hb) (fun k hk=>hk.elim) (fun _ _ _ _ hk _=>hk.elim) (fun _ _ _ _ hk _=>hk.elim)
  (fun n u ho=>by
   unfold aY at ho ⊢
   simp only[hr] at ho
   rw[eS]
   simp only[aA hr]
   exact ho) (fun _ _=>rfl) (fun _ _=>rfl) (fun b' d gb hd=>by obtain⟨cur,h5⟩:=eo.lt gb;rw[h5] at hd;cases hd)
  (fun he=>⟨hz,xs,eo.more (ah3 _),fun i el hi=>⟨(eC i el hi).1,fun j x hj=>let ⟨u,q1,q2,q3⟩:=(eC i el hi).2 j x hj;⟨u,q1,q2.ext he.pN.ext,q3⟩⟩⟩)
 rw[eS] at hd
 exact⟨η,hd⟩
theorem j3 (aD:Γ.Ok):∀(l:List Nat) (s:AS Unit),cT Γ s (rT l s)
 | [],s=>.refl s
 |r::l,s=>by
  simp only[rT]
  split
  ·rename_i es hr
   exact(cT.frz aD hr).trans (j3 aD l _)
  ·rename_i e size els hr
   exact(cT.Lh aD hr).trans (j3 aD l _)
  ·exact j3 aD l s
structure j4 where
 key:Nat
 live:List (Nat×Option Sh)
 rows:List (Nat×Nat):=[]
 Vk:List (Nat×Nat):=[]
 kH:List (Nat×Nat×Nat):=[]
 dc:List (Nat×lf):=[]
 ack:Bool:=false
 Lh:List Nat:=[]
 Ch:List Sh:=[]
def Jv (s:AS Unit):List (Nat×Option Sh)→List Sh
 | []=>[]
 |(_,some sh)::l=>sh::Jv s l
 |(t,none)::l=>ofS (s.tmps t)::Jv s l
def slotsOf:List (Nat×Option Sh)→List Nat
 | []=>[]
 |(t,_)::l=>t::slotsOf l
def A3:List (Nat×lf)→List lf→List lf
 | [],l=>l
 |(r,o)::m,l=>A3 m (l.set r o)
def sD (az:Nat→Option TD):List (Nat×Nat)→AS Unit→Option (AS Unit)
 | [],s=>some s
 |(t,e)::l,s=>(match s.tmps t,az e with
  | .ah (.slice none 0 0),some d=>(match Nat.blt 0 d.size with
   |true=>sD az l ⟨Bx s.tmps t (.own s.hp.length 0),s.hp++[.row e d.size []],s.g⟩
   |false=>none)
  | .own _ _,some _=>sD az l s
  |_,_=>none)
theorem qS (aD:Γ.Ok) {az:Nat→Option TD}:∀{l:List (Nat×Nat)} {s s':AS Unit},sD az l s=some s'→cT Γ s s'
 | [],s,s',h=>by simp only[sD,Option.some.injEq] at h;subst h;exact .refl _
 |(t,e)::l,s,s',h=>by
  simp only[sD] at h
  split at h
  ·rename_i d ht hd
   split at h
   ·rename_i cJ
    exact(cT.row aD t e d.size (ait (show Nat.ble (0+1) d.size=true from cJ)) ht).trans (qS aD h)
   ·cases h
  ·exact qS aD h
  ·cases h
def qT (az:Nat→Option TD):List (Nat×Nat)→AS Unit→Option (AS Unit)
 | [],s=>some s
 |(t,e)::l,s=>(match s.tmps t,az e with
  | .ah (.slice none 0 0),some d=>(match Nat.blt 0 d.size with
   |true=>qT az l ⟨Bx s.tmps t (.own s.hp.length 0),s.hp++[.bM e d.size []],s.g⟩
   |false=>none)
  | .own _ _,some _=>qT az l s
  |_,_=>none)
theorem sE (aD:Γ.Ok) {az:Nat→Option TD}:∀{l:List (Nat×Nat)} {s s':AS Unit},qT az l s=some s'→cT Γ s s'
 | [],s,s',h=>by simp only[qT,Option.some.injEq] at h;subst h;exact .refl _
 |(t,e)::l,s,s',h=>by
  simp only[qT] at h
  split at h
  ·rename_i d ht hd
   split at h
   ·rename_i cJ
    exact(cT.MV (M:=true) aD t e d.size (ait (show Nat.ble (0+1) d.size=true from cJ)) ht).trans (sE aD h)
   ·cases h
  ·exact sE aD h
  ·cases h
def n5 (az:Nat→Option TD):List (Nat×Nat×Nat)→AS Unit→Option (AS Unit)
 | [],s=>some s
 |(r,k,e)::l,s=>(match s.hp[r]?,az e with
  |some (.box cs),some d=>(match cs[k]? with
   |some (.ah (.slice none 0 0))=>(match Nat.blt 0 d.size with
    |true=>n5 az l ⟨s.tmps,s.hp.set r (.box (cs.set k (.own s.hp.length 0)))++[.row e d.size []],s.g⟩
    |false=>none)
   |_=>none)
  |_,_=>none)
theorem n6 (aD:Γ.Ok) {az:Nat→Option TD}:∀{l:List (Nat×Nat×Nat)} {s s':AS Unit},n5 az l s=some s'→cT Γ s s'
 | [],s,s',h=>by simp only[n5,Option.some.injEq] at h;subst h;exact .refl _
 |(r,k,e)::l,s,s',h=>by
  simp only[n5] at h
  split at h
  ·rename_i cs d hb hd
   split at h
   ·rename_i hk
    split at h
    ·rename_i cJ
     exact(cT.VS aD r k e d.size (ait (show Nat.ble (0+1) d.size=true from cJ)) hb hk).trans (n6 aD h)
    ·cases h
   ·cases h
  ·cases h
def N3 (eF:List Nat) (oZ:List Sh) (dc:List lf) (again:TS oZ×TO dc→Prop) (Q:Exit→AS Unit→Prop):Exit→AS Unit→Prop
 | .normal,s=>(match HT eF oZ dc s with
  |some (p,z)=>gU p (again z)
  |none=>False)
 |e,s=>Q e s
def y8 (n0:Nat) (eF:List Nat) (oZ:List Sh) (dc:List lf) (body:(Exit→AS Unit→Prop)→AS Unit→Prop) (Q:Exit→AS Unit→Prop) (s:AS Unit):Prop:=
 match Nat.ble n0 dc.length&&(Le dc.length oZ&&HS dc.length dc) with
 |false=>False
 |true=>(match HT eF oZ dc s with
  |some (p,z)=>gU p (aB (TS oZ×TO dc) z fun z again=>body (N3 eF oZ dc again Q) (Lf eF oZ dc z))
  |none=>False)
def N4 (l:List Nat) (Q:Exit→AS Unit→Prop) (e:Exit) (s:AS Unit):Prop:=
 match l with
 | []=>Q e s
 |_=>Q e (rT l s)
theorem gk.qU {c:Code} {Q Q':Exit→AS Unit→Prop} (h:gk Γ c Q s) (hq:∀e s,Q e s→∃s2,cT Γ s s2∧Q' e s2):gk Γ c Q' s:=
 fun a w η hr f k cs h1 h2 h3=>by
  obtain⟨e,a',w',⟨s',aU,q1,q2⟩,q3⟩:=h a w η hr f k cs h1 h2 h3
  obtain⟨s2,hw,q4⟩:=hq e s' q1
  obtain⟨DI,q5⟩:=hw _ _ _ q2
  exact⟨e,a',w',⟨s2,DI,q4,q5⟩,q3⟩
theorem gk.Lh (aD:Γ.Ok) {c:Code} {l:List Nat} {Q:Exit→AS Unit→Prop} (h:gk Γ c (N4 l Q) s):gk Γ c Q s:=
 h.qU fun e s' hq=>by
  unfold N4 at hq
  split at hq
  ·exact⟨_,.refl _,hq⟩
  ·exact⟨_,j3 aD _ _,hq⟩
def y9 (az:Nat→Option TD) (n0:Nat) (A:j4) (body:(Exit→AS Unit→Prop)→AS Unit→Prop) (Q:Exit→AS Unit→Prop) (s:AS Unit):Prop:=
 match sD az A.rows s with
 |none=>False
 |some s0=>(match qT az A.Vk s0 with
  |none=>False
  |some s1=>(match n5 az A.kH s1 with
   |none=>False
   |some s2=>y8 n0 (slotsOf A.live) (Jv s2 A.live) (A3 A.dc (Lg s2.hp)) body (N4 A.Lh Q) s2))
theorem y8.sound (aD:Γ.Ok) {n0:Nat} (qL:Γ.oQ.length=n0) {eF:List Nat} {oZ:List Sh} {dc:List lf} {c:Code} {body:(Exit→AS Unit→Prop)→AS Unit→Prop} {Q:Exit→AS Unit→Prop} {s:AS Unit}
  (hb:∀Q s,body Q s→eM Γ c Q s) (h:y8 n0 eF oZ dc body Q s):gk Γ c Q s:=by
 unfold y8 at h
 split at h
 ·exact h.elim
 rename_i HO
 rw[ahZ] at HO
 have hn:Γ.oQ.length≤dc.length:=by rw[qL];exact ait HO.1
 split at h
 ·rename_i p z hz
  rw[bG] at h
  obtain⟨hp,β,E,I,μ,b0,Mc,hI,hr⟩:=h
  have hw:=Cg aD hz hp hn HO.2
  rw[Mc] at hw
  refine gk.tj hw (gk.loop I (fun b=>Lf eF oZ dc (E b)) μ (fun b Wo=>?_) _ b0 hI rfl)
  refine(hb _ _ (hr b Wo)).mono fun e s1 h1=>?_
  cases e with
  |normal=>
   simp only[N3] at h1
   split at h1
   ·rename_i p1 z1 Rd
    rw[bG] at h1
    obtain⟨iM,b',gb,Rv,ay⟩:=h1
    have Xq:=Cg aD Rd iM hn HO.2
    rw[gb] at Xq
    exact⟨b',Rv,Xq,ay⟩
   ·exact h1.elim
  |_=>exact h1
 ·exact h.elim
theorem y9.sound (aD:Γ.Ok) {az:Nat→Option TD} {n0:Nat} (qL:Γ.oQ.length=n0) {A:j4} {c:Code} {body:(Exit→AS Unit→Prop)→AS Unit→Prop} {Q:Exit→AS Unit→Prop} {s:AS Unit}
  (hb:∀Q s,body Q s→eM Γ c Q s) (h:y9 az n0 A body Q s):gk Γ c Q s:=by
 unfold y9 at h
 split at h
 ·exact h.elim
 ·rename_i s0 h0
  split at h
  ·exact h.elim
  ·rename_i s1 h1
   split at h
   ·exact h.elim
   ·rename_i s2 h2
    exact gk.tj (((qS aD h0).trans (sE aD h1)).trans (n6 aD h2)) ((y8.sound aD qL hb h).Lh aD)
def lu:Code→Option Nat
 | .region id _ _=>some id
 | .seq x y=>(match lu x with|some k=>some k|none=>lu y)
 | .cond _ x y=>(match lu x with|some k=>some k|none=>lu y)
 | .block _ x=>lu x
 | .loop x=>lu x
 | .rangeFunc _ _ x y=>(match lu x with|some k=>some k|none=>lu y)
 |_=>none
def Jw:List j4→Nat→Option j4
 | [],_=>none
 |A::l,k=>(match Nat.beq A.key k with|true=>some A|false=>Jw l k)
def za (τ α:Type) (y0:τ) (S:List α→Prop) (round:α→τ→(τ→Prop)→Prop) (after:τ→Prop):Prop:=
 ∃(Ls:List α) (I:List α→τ→Prop),S Ls∧I Ls y0∧(∀e rest y,I (e::rest) y→round e y (I rest))∧∀y,I [] y→after y
def EW (P:Program) (gf:Nat) (caps:List AV) (Ch:List Sh) (Ls:List (TS Ch)):Prop:=
 NP P gf (fun v=>v::caps) (Ls.map fun e=>wV [] Ch e) false
def Ci (dc:List lf) (again:TO dc→Prop) (Q:Exit→AS Unit→Prop) (f:Nat→AV):Exit→AS Unit→Prop
 | .normal,s=>(match vQ (sx (s.hp.take dc.length)) dc (s.hp.take dc.length) with
  |some (p,y)=>gU p (again y)
  |none=>False)
 | .ret,s=>Q .ret ⟨f,s.hp,()⟩
 | .exit id,s=>Q (.exit id) ⟨f,s.hp,()⟩
 |_,_=>False
def psB (nt:Nat):List Nat→Bool
 | []=>true
 |p::l=>Nat.blt p nt&&psB nt l
theorem N5 {nt:Nat}:∀{l:List Nat},psB nt l=true→∀p∈l,p<nt
 | [],_,p,hp=>by cases hp
 |q::l,h,p,hp=>by
  simp only[psB,ahZ] at h
  rcases aiC.1 hp with rfl|hp
  ·exact ait (show Nat.ble (p+1) nt=true from h.1)
  ·exact N5 h.2 p hp
def tP (C:cW) (n0:Nat) (dc:List lf) (Ch:List Sh) (g:Operand) (ps:Array Tmp) (yY body:(Exit→AS Unit→Prop)→AS Unit→Prop) (Q:Exit→AS Unit→Prop) (s:AS Unit):Prop:=
 match s.ev g with
 | .ck gf caps=>(match psB C.nt ps.toList&&(Nat.beq ps.toList.length Ch.length&&(Nat.ble n0 dc.length&&(Nat.beq dc.length s.hp.length&&HS dc.length dc))) with
  |false=>False
  |true=>(match vQ (sx s.hp) dc s.hp with
   |some (p,y)=>gU p (gU (dw (AV.lg 0 (n3 (gW dc y) dc y)) caps).1 (za (TO dc) (TS Ch) y (fun Ls=>EW C.P gf (dw (AV.lg 0 (n3 (gW dc y) dc y)) caps).2 Ch Ls)
     (fun e y again=>yY (rN (body (Ci dc again Q s.tmps)) noQ) ⟨tM ps.toList (wV [] Ch e) s.tmps,n3 (gW dc y) dc y,()⟩)
     (fun y=>Q .normal ⟨s.tmps,n3 (gW dc y) dc y,()⟩)))
   |none=>False))
 |_=>False
def zb (C:cW) (A:j4) (n0:Nat) (g:Operand) (ps:Array Tmp) (yY body:Nat→(Exit→AS Unit→Prop)→AS Unit→Prop) (Q:Exit→AS Unit→Prop) (s:AS Unit):Prop:=
 match n5 C.az A.kH s with
 |none=>False
 |some s1=>tP C n0 (A3 A.dc (Lg s1.hp)) A.Ch g ps (yY (A3 A.dc (Lg s1.hp)).length) (body (A3 A.dc (Lg s1.hp)).length) Q s1
theorem EX:∀{l:List Sh} {t:TS l},(wV [] l t).length=l.length
 | [],_=>rfl
 |_::l,t=>by simp[wV,EX (l:=l)]
theorem tP.sound (aD:Γ.Ok) (cU:Γ.DK) {C:cW} (hP:C.P=Γ.P) (dI:C.nt=Γ.nt) {n0:Nat} (qL:Γ.oQ.length=n0) {dc:List lf} {Ch:List Sh} {g:Operand} {ps:Array Tmp} {ca cb:Code} {yY body:(Exit→AS Unit→Prop)→AS Unit→Prop} {Q:Exit→AS Unit→Prop} {s:AS Unit}
  (ha:∀lQ,iX Γ dc.length lQ→∀Q s,yY Q s→eM lQ ca Q s) (hb:∀lQ,iX Γ dc.length lQ→∀Q s,body Q s→eM lQ cb Q s) (h:tP C n0 dc Ch g ps yY body Q s):eM Γ (.rangeFunc g ps ca cb) Q s:=by
 unfold tP at h
 split at h
 ·rename_i gf caps hg
  split at h
  ·exact h.elim
  rename_i HO
  simp only[ahZ] at HO
  obtain⟨Vh,Mf,hle,hln,eu⟩:=HO
  have age:=ain hln
  split at h
  ·rename_i p y hy
   rw[bG,bG] at h
   obtain⟨hp,Yv,Ls,I,hS,hI,sA,Wx⟩:=h
   obtain⟨f,acm,gg⟩:=s
   obtain⟨h3,h4⟩:=tL (lens':=[]) hy hp
   rw[←h4] at h3
   have hw:cT Γ ⟨f,acm,gg⟩ ⟨f,n3 (gW dc y) dc y,()⟩:=cT.Wu h3
   refine eM.tj hw ?_
   have Wy:caps.map (AV.sn 0 (n3 (gW dc y) dc y))=(dw (AV.lg 0 (n3 (gW dc y) dc y)) caps).2:=cI (fun x=>qg) _ Yv
   refine eM.range (s:=⟨f,n3 (gW dc y) dc y,()⟩) aD cU (gf:=gf) (caps:=caps) (L:=Ls.map fun e=>wV [] Ch e) hg (by rw[Wy,←hP];exact hS) (fun x hx=>?_) (fun q hq=>by rw[←dI];exact N5 Vh q hq)
    (fun rest hp=>∃N6 y,rest=N6.map (fun e=>wV [] Ch e)∧I N6 y∧hp=n3 (gW dc y) dc y) ⟨Ls,y,rfl,hI,rfl⟩ (fun x rest hp ⟨N6,y',he,Rv,BP⟩=>?_) fun hp ⟨N6,y',he,Rv,BP⟩=>?_
   ·obtain⟨e,_,rfl⟩:=aiQ.1 hx
    rw[EX,←ain Mf];simp
   ·cases N6 with
    |nil=>cases he
    |cons e N6=>
     simp only[ais,List.cons.injEq] at he
     obtain⟨rfl,rfl⟩:=he
     subst BP
     have DA:(n3 (gW dc y') dc y').length=dc.length:=tO
     refine⟨fun s1=>body (Ci dc (I N6) Q f) s1,fun lQ HU=>?_,fun s1 MO lQ HU=>?_⟩
     ·rw[DA] at HU
      exact ha lQ HU _ _ (sA e N6 y' Rv)
     ·rw[DA] at HU
      refine(hb lQ HU _ _ MO).mono fun e s2 hq=>?_
      cases e with
      |normal=>
       simp only[Ci] at hq
       split at hq
       ·rename_i p2 y2 Yw
        rw[bG] at hq
        obtain⟨k3,k4⟩:=tL (lens':=[]) Yw hq.1
        rw[←k4] at k3
        refine⟨n3 (gW dc y2) dc y2,?_,N6,y2,rfl,hq.2,rfl⟩
        obtain⟨f2,qI,g2⟩:=s2
        have h6:e8 qI (n3 (gW dc y2) dc y2++qI.drop dc.length):=by
         have:=e8.append k3 (e8.refl (qI.drop dc.length))
         rwa [aiq] at this
        refine(cT.Wu (Γ:=lQ) (f:=f2) (g:=g2) h6).trans (cT.cut HU.ok dc.length (by rw[HU.h0];exact ah5 _) Sub.nil oW.nil ?_ (Cf eu))
        have:=tO (lens:=gW dc y2) (l:=dc) (t:=y2)
        rw[←this,ajD]
       ·exact hq.elim
      |ret=>exact hq
      |exit id=>exact hq
      |_=>exact hq.elim
   ·cases N6 with
    |nil=>subst BP;exact Wx y' Rv
    |cons e N6=>cases he
  ·exact h.elim
 ·exact h.elim
theorem zb.sound (aD:Γ.Ok) (cU:Γ.DK) {C:cW} (hP:C.P=Γ.P) (dI:C.nt=Γ.nt) {A:j4} {n0:Nat} (qL:Γ.oQ.length=n0) {g:Operand} {ps:Array Tmp} {ca cb:Code} {yY body:Nat→(Exit→AS Unit→Prop)→AS Unit→Prop} {Q:Exit→AS Unit→Prop} {s:AS Unit}
  (ha:∀n lQ,iX Γ n lQ→∀Q s,yY n Q s→eM lQ ca Q s) (hb:∀n lQ,iX Γ n lQ→∀Q s,body n Q s→eM lQ cb Q s) (h:zb C A n0 g ps yY body Q s):eM Γ (.rangeFunc g ps ca cb) Q s:=by
 unfold zb at h
 split at h
 ·exact h.elim
 ·rename_i s1 h1
  exact eM.tj (n6 aD h1) (tP.sound aD cU hP dI qL (fun lQ hr=>ha _ lQ hr) (fun lQ hr=>hb _ lQ hr) h)
def Yx:List (Nat×ni)→Nat→Option ni
 | [],_=>none
 |p::l,k=>(match Nat.beq p.1 k with|true=>some p.2|false=>Yx l k)
def hcD (l:List (Nat×List Nat)) (id:Nat):List Nat:=
 match Ro l id with
 |some p=>p
 |none=>[]
def drD (l:List (Nat×List (Option (List Nat))×List (Option (List Nat)))) (id:Nat):List (Option (List Nat))×List (Option (List Nat)):=
 match Wl l id with
 |some p=>p
 |none=>([],[])
def dX (C:cW) (L:List j4):Code→Nat→Bool→(Exit→AS Unit→Prop)→AS Unit→Prop
 | .skip,n0,fr,Q,s=>Q .normal s
 | .region id ops draw,n0,fr,Q,s=>(match draw with
  |false=>EI C id ops.toList (Q .normal) s
  |true=>(match Yx C.br id with
  |some pl=>okB (Nat.ble pl.depth ops.toList.length) (iZ C (hcD C.hc id) ops.toList (mS ops.toList []) (drD C.dr id).1 (drD C.dr id).2 (Q .normal) pl (sC ops.toList) s)
  |none=>match Wl C.dr id with
   |some p=>(match Ro C.hc id with
    |some hs=>okB (xx (bf hs) p.1 p.2 ops.toList) (rS C hs ops.toList p.1 p.2 (Q .normal) 0 ops.toList s)
    |none=>okB (xu p.1 p.2 ops.toList) (tI C ops.toList p.1 p.2 (Q .normal) 0 ops.toList s))
   |none=>(match Ro C.hc id with
    |some hs=>okB (xw (bf hs) ops.toList) (rR C hs ops.toList (Q .normal) ops.toList s)
    |none=>okB (yz ops.toList) (tH C ops.toList (Q .normal) ops.toList s))))
 | .seq x y,n0,fr,Q,s=>dX C L x n0 fr (rN (dX C L y n0 fr Q) Q) s
 | .cond c x y,n0,fr,Q,s=>(match s.ev c with
  | .ah (.bool b)=>ak b (dX C L x n0 fr Q s) (dX C L y n0 fr Q s)
  |_=>False)
 | .block id c,n0,fr,Q,s=>dX C L c n0 fr (yw id Q) s
 | .loop c,n0,fr,Q,s=>(match lu c with
  |some k=>(match Jw L k with
   |some A=>(match A.ack with
    |false=>y9 C.az n0 A (dX C L c n0 fr) Q s
    |true=>dX C L c n0 fr (rN (y9 C.az n0 A (dX C L c n0 fr) Q) Q) s)
   |none=>False)
  |none=>False)
 | .rangeFunc g ps yY body,n0,fr,Q,s=>(match fr with
  |true=>(match lu body with
   |some k=>(match Jw L k with
    |some A=>zb C A n0 g ps (fun n=>dX C L yY n false) (fun n=>dX C L body n false) Q s
    |none=>False)
   |none=>False)
  |false=>False)
 | .exit id,n0,fr,Q,s=>Q (.exit id) s
 | .label _,n0,fr,Q,s=>Q .normal s
 | .ret,n0,fr,Q,s=>Q .ret s
 |_,_,_,_,_=>False
theorem HV {N N':AS Unit→Prop} {Q:Exit→AS Unit→Prop} (h:∀s,N s→N' s) (e:Exit) (s:AS Unit) (hq:rN N Q e s):rN N' Q e s:=by
 cases e with
 |normal=>exact h s hq
 |_=>exact hq
theorem dX.sound {C:cW} (hm:C.P.follows .mixedOrders=true) {L:List j4}:∀(c:Code) (Γ:Env Unit) (_:Γ.Ok) (_:C.P=Γ.P) (_:aT Γ.P C.az) (_:C.nt=Γ.nt) (n0:Nat) (_:Γ.oQ.length=n0) (fr:Bool) (_:fr=true→Γ.DK) (Q:Exit→AS Unit→Prop) (s:AS Unit),dX C L c n0 fr Q s→eM Γ c Q s:=by
 intro c
 induction c with
 |skip=>intro Γ aD hP au dI n0 qL fr qR Q s h;exact eM.skip h
 |region id ops draw=>
  intro Γ aD hP au dI n0 qL fr qR Q s h
  have e:ops=ops.toList.toArray:=by simp
  simp only[dX] at h
  rw[e]
  split at h
  ·intro a w η hr
   exact wpIn_region_lit (EI.sound aD hP au dI h a w η _ (fun s' a' w' aU h1 h2=>⟨s',aU,h1,h2⟩) hr)
  ·split at h
   ·obtain⟨hd,h⟩:=cu h
    exact eM.Ys aD hP au dI (by rw[←hP];exact hm) hd h
   split at h
   ·rename_i p hp
    split at h
    ·obtain⟨hd,h⟩:=cu h
     exact eM.X3 aD (by rw[←hP];exact hm) p.1 p.2 hd (rS.sound aD hP au dI _ 0 s h)
    obtain⟨hd,h⟩:=cu h
    exact eM.XV aD au dI (by rw[←hP];exact hm) p.1 p.2 hd (tI.sound aD hP au dI _ 0 s h)
   ·split at h
    ·obtain⟨hd,h⟩:=cu h
     exact eM.X2 aD (by rw[←hP];exact hm) hd (rR.sound aD hP au dI _ s h)
    ·obtain⟨hd,h⟩:=cu h
     exact eM.XP aD au dI (by rw[←hP];exact hm) hd (tH.sound aD hP au dI _ s h)
 |seq x y Wz WA=>
  intro Γ aD hP au dI n0 qL fr qR Q s h
  refine eM.abA fun K hK=>(Wz Γ aD hP au dI n0 qL fr qR _ s h).mono fun e s' hq=>?_
  exact HV (fun s'' h''=>hK s'' (WA Γ aD hP au dI n0 qL fr qR _ s'' h'')) e s' hq
 |cond c x y Wz WA=>
  intro Γ aD hP au dI n0 qL fr qR Q s h
  simp only[dX] at h
  split at h
  ·rename_i b hb
   exact eM.XO hb (fun ht=>Wz Γ aD hP au dI n0 qL fr qR _ s (h.elim.1 ht)) fun ht=>WA Γ aD hP au dI n0 qL fr qR _ s (h.elim.2 ht)
  ·exact h.elim
 |block id c ih=>intro Γ aD hP au dI n0 qL fr qR Q s h;exact eM.block (ih Γ aD hP au dI n0 qL fr qR _ s h)
 |loop c ih=>
  intro Γ aD hP au dI n0 qL fr qR Q s h
  simp only[dX] at h
  split at h
  ·split at h
   ·split at h
    ·exact eM.EV (y9.sound aD qL (ih Γ aD hP au dI n0 qL fr qR) h)
    ·exact eM.EV (gk.N2 ((ih Γ aD hP au dI n0 qL fr qR _ s h).mono fun e s' hq=>by
      cases e with
      |normal=>exact y9.sound aD qL (ih Γ aD hP au dI n0 qL fr qR) hq
      |_=>exact hq))
   ·exact h.elim
  ·exact h.elim
 |rangeFunc g ps yY body iha ihb=>
  intro Γ aD hP au dI n0 qL fr qR Q s h
  simp only[dX] at h
  split at h
  ·split at h
   ·split at h
    ·refine zb.sound aD (qR rfl) hP dI qL (fun n lQ hr Q s h=>?_) (fun n lQ hr Q s h=>?_) h
     ·exact iha lQ hr.ok (by rw[hr.hP,hP]) (by rw[hr.hP];exact au) (by rw[hr.nt,dI]) n hr.h0 false (fun h=>by cases h) _ s h
     ·exact ihb lQ hr.ok (by rw[hr.hP,hP]) (by rw[hr.hP];exact au) (by rw[hr.nt,dI]) n hr.h0 false (fun h=>by cases h) _ s h
    ·exact h.elim
   ·exact h.elim
  ·exact h.elim
 |exit id=>intro Γ aD hP au dI n0 qL fr qR Q s h;exact eM.exit h
 |label l=>intro Γ aD hP au dI n0 qL fr qR Q s h;exact eM.label h
 |ret=>intro Γ aD hP au dI n0 qL fr qR Q s h;exact eM.ret h
 |_=>intro Γ aD hP au dI n0 qL fr qR Q s h;exact h.elim
def n7 (k:Nat):Nat→List Nat
 |0=>[]
 |n+1=>k::n7 (k+1) n
theorem eM.qU {c:Code} {Q Q':Exit→AS Unit→Prop} (h:eM Γ c Q s) (hq:∀e s,Q e s→∃s2,cT Γ s s2∧Q' e s2):eM Γ c Q' s:=
 fun a w η hr=>wpIn_mono (h a w η hr) fun e a' w' ⟨s',aU,h1,h2⟩=>by
  obtain⟨s2,hw,h3⟩:=hq e s' h1
  obtain⟨DI,h4⟩:=hw _ _ _ h2
  exact⟨s2,DI,h3,h4⟩
def AV.zc (hp:List af):AV→List Prop×AV
 | .ptr r 0=>(match hp[r]? with
  |some (.box cs)=>((dw (AV.ko hp) cs).1,.cL (D5 (dw (AV.ko hp) cs).2) 0)
  |_=>([],.top))
 |x=>x.gj hp
theorem Li {hp:List af} {x:AV} (hc:eY (x.zc hp).1):x.IY hp=(x.zc hp).2:=by
 cases x with
 |ptr r o=>
  cases o with
  |zero=>
   simp only[AV.IY,AV.zc] at hc ⊢
   cases hr:hp[r]? with
   |none=>rfl
   |some o=>
    cases o with
    |box cs=>
     simp only[hr] at hc ⊢
     rw[cI (g:=AV.fq hp) (fun x=>ng) _ hc]
    |_=>rfl
  |succ n=>exact jA hc
 |_=>exact jA hc
def AV.qn (hp:List af):AV→List Prop×AV
 | .ck f cs=>((dw (AV.zc hp) cs).1,.ck f (dw (AV.zc hp) cs).2)
 |x=>x.cB hp
theorem EY {hp:List af} {x:AV} (hc:eY (x.qn hp).1):x.qN hp=(x.qn hp).2:=by
 cases x with
 |ck f cs=>simp only[AV.qn,AV.qN] at hc ⊢;rw[cI (fun x=>Li) _ hc]
 |_=>exact dW hc
def HW (az:Nat→Option TD) (rs:List ResultVar) (R:AV→Prop) (s:AS Unit):Prop:=
 match eW az s rs with
 |some l=>gU ((ij l).qn s.hp).1 (R ((ij l).qn s.hp).2)
 |none=>False
def Rx (az:Nat→Option TD) (rs:List ResultVar) (R:AV→Prop):Exit→AS Unit→Prop
 | .normal,s=>HW az rs R (rT (n7 0 s.hp.length) s)
 | .ret,s=>HW az rs R (rT (n7 0 s.hp.length) s)
 |_,_=>False
theorem HW.sound {az:Nat→Option TD} {rs:List ResultVar} {R:AV→Prop} {s:AS Unit} (h:HW az rs R s):∃l,eW az s rs=some l∧R ((ij l).qN s.hp):=by
 unfold HW at h
 split at h
 ·rename_i l hl
  rw[bG] at h
  exact⟨l,hl,by rw[EY h.1];exact h.2⟩
 ·exact h.elim
theorem Cj {C:cW} (au:aT C.P C.az) (hm:C.P.follows .mixedOrders=true) {L:List j4} {f:FuncId} {fn:Func} {c:Code} {args:List AV} {R:AV→Prop} (hf:C.P.funcs[f]?=some fn) (hb:fn.body=some c)
  (gI:(fn.name == "runtime.NumGoroutine")=false) (hn:Nat.ble args.length fn.ntmps=true) (dI:C.nt=fn.ntmps) (h:dX C L c 0 true (Rx C.az fn.results.toList R) ⟨cV 0 args,[],()⟩):Pure C.P f args R:=by
 refine BO au hf hb gI (ait hn) fun Γ aD hP N7 Yy cU=>?_
 refine(dX.sound hm c Γ aD hP.symm (by rw[hP];exact au) (by rw[dI,N7]) _ Yy true (fun _=>cU) _ _ h).qU fun e s' hq=>?_
 cases e with
 |normal=>obtain⟨l,h1,h2⟩:=HW.sound hq;exact⟨_,j3 aD (n7 0 s'.hp.length) s',by simp only[MR,h1];exact h2⟩
 |ret=>obtain⟨l,h1,h2⟩:=HW.sound hq;exact⟨_,j3 aD (n7 0 s'.hp.length) s',by simp only[MR,h1];exact h2⟩
 |_=>exact hq.elim
theorem EZ {C:cW} (au:aT C.P C.az) (hm:C.P.follows .mixedOrders=true) {L:List j4} {f:FuncId} {fn:Func} {c:Code} {args:List AV} {e size:Nat} {els:List AV} (hf:C.P.funcs[f]?=some fn) (hb:fn.body=some c)
  (gI:(fn.name == "runtime.NumGoroutine")=false) (hn:Nat.ble args.length fn.ntmps=true) (dI:C.nt=fn.ntmps) (h:dX C L c 0 true (Nl C.az fn.results.toList e size els) ⟨cV 0 args,[],()⟩):Rc C.P f args e size els:=by
 refine Et au hf hb gI (ait hn) fun Γ aD hP N7 Yy cU=>?_
 exact dX.sound hm c Γ aD hP.symm (by rw[hP];exact au) (by rw[dI,N7]) _ Yy true (fun _=>cU) _ _ h
def AV.A4 (n:Nat) (hp:List af) (x:AV):List Prop×AV:=
 match x.aR n with
 |true=>([],x)
 |false=>x.ko hp
def AV.A5 (n:Nat) (hp:List af):AV→List Prop×AV
 | .agg cs=>((dw (AV.A4 n hp) cs).1,.agg (dw (AV.A4 n hp) cs).2)
 |x=>x.A4 n hp
def AV.N8 (n:Nat) (hp:List af):AV→List Prop×AV
 | .aX cs=>((dw (AV.A5 n hp) cs).1,.aX (dw (AV.A5 n hp) cs).2)
 |x=>x.A5 n hp
theorem E0 {n:Nat} {x:AV} (hc:eY (x.A4 n hp).1):x.K1 n hp=(x.A4 n hp).2:=by
 unfold AV.K1 AV.A4 at *
 cases h:x.aR n with
 |true=>simp
 |false=>rw[h] at hc;simp only[aij,if_false];exact ng hc
theorem E1 {n:Nat} {x:AV} (hc:eY (x.A5 n hp).1):x.MX n hp=(x.A5 n hp).2:=by
 cases x with
 |agg cs=>simp only[AV.A5,AV.MX] at hc ⊢;rw[cI (fun x=>E0) _ hc]
 |_=>exact E0 hc
theorem Ry {n:Nat} {x:AV} (hc:eY (x.N8 n hp).1):x.out n hp=(x.N8 n hp).2:=by
 cases x with
 |aX cs=>simp only[AV.N8,AV.out] at hc ⊢;rw[cI (fun x=>E1) _ hc]
 |_=>exact E1 hc
def ze (az:Nat→Option TD) (n:Nat) (rs:List ResultVar) (R:AV→List af→Prop) (s:AS Unit):Prop:=
 match eW az s rs with
 |some l=>okB ((s.hp.take n).all (af.closed n)) (gU ((ij l).N8 n s.hp).1 (R ((ij l).N8 n s.hp).2 (s.hp.take n)))
 |none=>False
def Jx (az:Nat→Option TD) (n:Nat) (rs:List ResultVar) (R:AV→List af→Prop):Exit→AS Unit→Prop
 | .normal,s=>ze az n rs R (rT (n7 n (s.hp.length-n)) s)
 | .ret,s=>ze az n rs R (rT (n7 n (s.hp.length-n)) s)
 |_,_=>False
theorem ze.sound {az:Nat→Option TD} {n:Nat} {rs:List ResultVar} {R:AV→List af→Prop} {s:AS Unit} (h:ze az n rs R s):
  ∃l,eW az s rs=some l∧(∀o∈s.hp.take n,af.closed n o=true)∧R ((ij l).out n s.hp) (s.hp.take n):=by
 unfold ze at h
 split at h
 ·rename_i l hl
  obtain⟨hb,h⟩:=cu h
  rw[bG] at h
  exact⟨l,hl,fun o ho=>ah4.1 hb o ho,by rw[Ry h.1];exact h.2⟩
 ·exact h.elim
theorem wW {C:cW} (au:aT C.P C.az) (hm:C.P.follows .mixedOrders=true) {L:List j4} {f:FuncId} {fn:Func} {c:Code} {args:List AV} {hp:List af} {R:AV→List af→Prop} (m:Nat) (zZ:Nat.ble hp.length m=true) (hf:C.P.funcs[f]?=some fn) (hb:fn.body=some c)
  (gI:(fn.name == "runtime.NumGoroutine")=false) (hn:Nat.ble args.length fn.ntmps=true) (dI:C.nt=fn.ntmps) (h:dX C L c hp.length true (Jx C.az m fn.results.toList R) ⟨cV 0 args,hp,()⟩):cG C.P f args hp R:=by
 refine wR au m (ait zZ) hf hb gI (ait hn) fun Γ aD hP N7 Yy cU=>?_
 refine(dX.sound hm c Γ aD hP.symm (by rw[hP];exact au) (by rw[dI,N7]) _ Yy true (fun _=>cU) _ _ h).qU fun e s' hq=>?_
 cases e with
 |normal=>obtain⟨l,h1,h2,h3⟩:=ze.sound hq;exact⟨_,j3 aD (n7 m (s'.hp.length-m)) s',by simp only[MY,h1];exact⟨h2,h3⟩⟩
 |ret=>obtain⟨l,h1,h2,h3⟩:=ze.sound hq;exact⟨_,j3 aD (n7 m (s'.hp.length-m)) s',by simp only[MY,h1];exact⟨h2,h3⟩⟩
 |_=>exact hq.elim
abbrev nI (n:Int):AV:=.ah (.int .i64 n)
abbrev nB (b:Bool):AV:=.ah (.bool b)
abbrev nS (s:ByteArray):AV:=.ah (.string s)
theorem of_eq {p q:Prop} (h:p=q) (hp:p):q:=h▸hp
end Go.Proofs.YtjhanogfpkbamaaGreatDoor
