/- Lemmas. -/
import Derived.Test.YtnkjkpmbgoehkaaGreatQ28
namespace Go.Proofs.YtnkjkpmbgoehkaaGreat
open Go
set_option linter.unusedSimpArgs false
set_option linter.unusedVariables false
variable {Γ:Env Unit} {s s':AS Unit} {a:Act} {w w':World} {η:List Value} {hp hp':List aw}
theorem cR.eJ {f f':Nat->AV} {g:Unit} (h:∀t,aS (f t) (f' t)):cR Γ ⟨f,hp,g⟩ ⟨f',hp,g⟩:=
 fun _ _ η hr=>⟨η,hr.nt,fun t=>h t _ _ _ _ _ (hr.tmps t),hr.heap,hr.cq,hr.keeps,hr.inv,hr.marks,hr.ext⟩
theorem Pb.own {o o':aw} (h:Pb o o'):(∃cs gi,o=.box cs/\o'=.box gi/\er cs gi)\/o=o':=by
 cases o with
 |box cs=>
  cases o' with
  |box gi=>exact .inl ⟨cs,gi,rfl,rfl,h⟩
  |_=>cases h
 |_=>cases o'<;>first|exact .inr h|cases h
theorem fp.akj (h:fp hp hp') {b o:Nat} (hf:lS η hp b o):lS η hp' b o:=by
 intro r v hr hb;have:=hf r v hr hb;rcases h.get r with⟨h1,h2⟩|⟨o1,o2,h1,h2,h3⟩
 ·rw[h1] at this;exact this.elim
 ·rw[h1] at this;rw[h2];rcases h3.own with⟨cs,gi,rfl,rfl,_⟩|rfl
  ·exact this
  ·exact this
theorem fp.aeK (h:fp hp hp') {r n:Nat} {v:Value} (hf:bl η hp r n v):bl η hp' r n v:=by
 unfold bl at hf ⊢;rcases h.get r with⟨h1,h2⟩|⟨o1,o2,h1,h2,h3⟩
 ·rw[h1] at hf;exact hf.elim
 ·rw[h1] at hf;rw[h2];rcases h3.own with⟨cs,gi,rfl,rfl,_⟩|rfl
  ·exact hf
  ·exact hf
theorem cR.acx {f:Nat->AV} {g:Unit} (h:fp hp hp'):cR Γ ⟨f,hp,g⟩ ⟨f,hp',g⟩:=by
 intro a w η hr;have he:Ext w (bt Γ w η hp) η hp w (bt Γ w η hp') η hp':=
  ⟨fun _ _ _ _ h=>h,fun _ _ _ _ h=>h,fun b o hf=>⟨hf.1,hf.2.1,hf.2.2.1,h.akj hf.2.2.2⟩,fun _ _ h=>h,fun _ _ h=>h,fun _ _ _ ho=>h.aeK ho⟩
 have back:∀{r:Nat} {o':aw},hp'[r]?=some o'->∃o,hp[r]?=some o/\Pb o o'/\(o'.live->o.live):=by
  intro r o' ho;rcases h.get r with⟨h1,h2⟩|⟨o1,o2,h1,h2,h3⟩
  ·rw[h2] at ho;cases ho
  ·rw[h2] at ho;obtain rfl:=aqs ho;refine⟨o1,h1,h3,fun hl=>?_⟩;rcases h3.own with⟨cs,gi,rfl,rfl,_⟩|rfl
   ·exact True.intro
   ·exact hl
 refine⟨η,hr.nt,fun t=>(hr.tmps t).ext he,⟨by rw[hr.heap.len];exact h.length,fun r o' v h1 h2=>?_,fun r r' o o' v v' b cg h1 h2 l1 l2 e1 e2 hb=>?_⟩,fun r o v b h1 hl h2 hb=>?_,hr.keeps,hr.inv,hr.marks,hr.ext.trans he⟩
 ·obtain⟨o,g1,g2,_⟩:=back h1;have eX:=hr.heap.obj r o v g1 h2;rcases g2.own with⟨cs,gi,rfl,rfl,hw⟩|rfl
  ·obtain⟨b,vs,T,e1,e2,e3,e4⟩:=eX;refine⟨b,vs,T,e1,e2,by rw[e3,hw.length],fun j x u hx hu=>?_⟩;obtain⟨y,hy,hyx⟩:=hw.get j x hx;have:=e4 j y u hy hu;exact⟨hyx _ _ _ _ _ (this.1.ext he),this.2⟩
  ·exact eX.ext he (aqw _) fun _ _ _=>rfl
 ·obtain⟨o1,g1,_,g3⟩:=back h1;obtain⟨o2,g4,_,g6⟩:=back h2;exact hr.heap.sep r r' o1 o2 v v' b cg g1 g4 (g3 l1) (g6 l2) e1 e2 hb
 ·obtain⟨o1,g1,_,g3⟩:=back h1;exact hr.cq r o1 v b g1 (g3 hl) h2 hb
def xY.cl (n:Nat):xY->Bool
 | .o r=>Nat.blt r n
 | .k x=>x.aX n
 | .q x=>x.aX n
 |_=>true
def Sl (n:Nat):List xY->Bool
 | []=>true
 |sh::l=>sh.cl n&&Sl n l
def uq.cl (n:Nat):uq->Bool
 | .c x=>x.cl n
 | .a l=>Sl n l
def Pe (n:Nat):List uq->Bool
 | []=>true
 |sh::l=>sh.cl n&&Pe n l
def Sh.cl (n:Nat):Sh->Bool
 | .v x=>x.cl n
 | .t l=>Pe n l
 | .f _ l=>Pe n l
 | .m _ l=>Pe n l
def Pf (n:Nat):List Sh->Bool
 | []=>true
 |sh::l=>sh.cl n&&Pf n l
def mg.cl (n:Nat):mg->Bool
 | .box l=>Sl n l
 | .jy r=>Nat.blt r n
 |_=>true
def Kx (n:Nat):List mg->Bool
 | []=>true
 |sh::l=>sh.cl n&&Kx n l
theorem Ec {n:Nat} {x:AV} (h:x.aX n=true):x.dY n=true:=by
 cases x<;>first|exact h|(simp[AV.aX] at h;done)
theorem Ed {n:Nat} {x:AV} (h:x.fe n=true):x.dY n=true:=by
 cases x<;>first|exact h|rfl|(simp[AV.fe] at h;done)
theorem GQ {n:Nat} {x:AV} (h:x.dY n=true):x.closed n=true:=by
 cases x with
 |bz f cs=>exact aqF.2 fun x hx=>Ed (aqF.1 (show cs.all (AV.fe n)=true from h) x hx)
 |_=>first|exact h|(simp[AV.dY,AV.aX] at h;done)
theorem Sm {n:Nat} {lens:List Nat} {sh:xY} {t:sh.T} (h:sh.cl n=true):(mkC lens sh t).aX n=true:=by
 cases sh with
 |k x=>exact h
 |q x=>exact h
 |o r=>
  have:r<n:=aqQ (show Nat.ble (r+1) n=true from h);simp[mkC,AV.aX,this]
 |_=>rfl
theorem Ee {n:Nat} {lens:List Nat}:∀{l:List xY} {t:TCs l},Sl n l=true->(O6 lens l t).all (AV.aX n)=true
 | [],_,_=>rfl
 |sh::l,t,h=>by
  simp only[Sl,aqv] at h;simp only[O6,arQ,aqv];exact⟨Sm h.1,Ee h.2⟩
theorem Sn {n:Nat} {lens:List Nat} {sh:uq} {t:sh.T} (h:sh.cl n=true):(mkV lens sh t).dY n=true:=by
 cases sh with
 |c x=>exact Ec (Sm h)
 |a l=>exact Ee h
theorem yt {n:Nat} {lens:List Nat}:∀{l:List uq} {t:TVs l},Pe n l=true->(Kt lens l t).all (AV.dY n)=true
 | [],_,_=>rfl
 |sh::l,t,h=>by
  simp only[Pe,aqv] at h;simp only[Kt,arQ,aqv];exact⟨Sn h.1,yt h.2⟩
theorem acy {n:Nat} {lens:List Nat} {sh:Sh} {t:sh.T} (h:sh.cl n=true):(mkS lens sh t).closed n=true:=by
 cases sh with
 |v x=>exact GQ (Sn h)
 |t l=>exact yt h
 |f fn l=>exact yt h
 |m fn l=>exact yt h
theorem MF {n:Nat} {lens:List Nat}:∀{l:List Sh} {t:TS l},Pf n l=true->∀x∈x6 lens l t,x.closed n=true
 | [],_,_,x,hx=>by cases hx
 |sh::l,t,h,x,hx=>by
  simp only[Pf,aqv] at h;rcases aqZ.1 hx with rfl|hx
  ·exact acy h.1
  ·exact MF h.2 x hx
theorem Ef {n:Nat} {lens:List Nat}:∀{l:List mg} {t:TO l},Kx n l=true->∀o∈pr lens l t,aw.closed n o=true
 | [],_,_,x,hx=>by cases hx
 |sh::l,t,h,x,hx=>by
  simp only[Kx,aqv] at h;rcases aqZ.1 hx with rfl|hx
  ·cases sh with
   |box l=>exact Ee h.1
   |jy r=>exact decide_eq_true (aqQ (show Nat.ble (r+1) n=true from h.1))
   |_=>rfl
  ·exact Ef h.2 x hx
theorem uE {lens:List Nat}:∀{l:List mg} {t:TO l},(pr lens l t).length=l.length
 | [],_=>rfl
 |_::l,t=>by simp[pr,uE (l:=l)]
def vZ:List Nat->List AV->Nat->AV
 |t::ts,x::xs=>Bz (vZ ts xs) t x
 |_,_=>fun _=>.top
theorem GR {f:Nat->AV}:∀{ts:List Nat} {ys:List AV},er (ts.map f) ys->∀t,aS (f t) (vZ ts ys t)
 | [],[],_,t=>fun _ _ _ _ v _=>.top v
 |t0::ts,y::ys,h,t=>by
  simp only[vZ,gV];split
  ·rename_i ht;subst ht;exact h.1
  ·exact GR h.2 t
theorem CL {n:Nat}:∀{ts:List Nat} {ys:List AV},(∀x∈ys,x.closed n=true)->qd n (vZ ts ys)
 | [],_,_=>fun _=>rfl
 |_::_,[],_=>fun _=>rfl
 |t0::ts,y::ys,h=>qd.Bz (h y aqG) (CL fun x hx=>h x (aqI _ hx))
def Pg (eJ:List Nat) (qg:List Sh) (dq:List mg) (z:TS qg×TO dq):AS Unit:=
 ⟨vZ eJ (x6 (ig dq z.2) qg z.1),pr (ig dq z.2) dq z.2,()⟩
def Ky (eJ:List Nat) (qg:List Sh) (dq:List mg) (s:AS Unit):Option (List Prop×(TS qg×TO dq)):=
 match wW (s9 (s.hp.take dq.length)) dq (s.hp.take dq.length) with
 |some (p,y)=>(match CD (s9 (s.hp.take dq.length)) qg (eJ.map s.tmps) with
  |some (q,x)=>some (p++q,(x,y))
  |none=>none)
 |none=>none
theorem Eg (aE:Γ.Ok) {eJ:List Nat} {qg:List Sh} {dq:List mg} {s:AS Unit} {cs:List Prop} {z:TS qg×TO dq} (h:Ky eJ qg dq s=some (cs,z)) (hc:eA cs)
  (h0:Γ.mU.length<=dq.length) (dK:(Pf dq.length qg&&Kx dq.length dq)=true):cR Γ s (Pg eJ qg dq z):=by
 unfold Ky at h;split at h
 ·rename_i p y h1;split at h
  ·rename_i q x h2;simp only[aqq,aqt] at h;obtain⟨rfl,rfl⟩:=h;rw[bP] at hc;obtain⟨h3,h4⟩:=uB (lens':=[]) h1 hc.1;have h5:=GH h2 hc.2;rw[<-h4] at h3 h5;rw[aqv] at dK;obtain⟨f,hp,g⟩:=s;have w1:cR Γ ⟨f,hp,g⟩ ⟨vZ eJ (x6 (ig dq y) qg x),hp,g⟩:=cR.eJ (GR h5);have h6:fp hp (pr (ig dq y) dq y++hp.drop dq.length):=by
    have:=fp.append h3 (fp.refl (hp.drop dq.length))
    rwa [ars] at this
   have w2:=w1.trans (cR.acx h6);refine w2.trans (cR.cut aE dq.length h0 (fun t=>.inr rfl) (CL (MF dK.1)) ?_ (Ef dK.2));have:=uE (lens:=ig dq y) (l:=dq) (t:=y);rw[<-this,aso]
  ·cases h
 ·cases h
def aI (τ:Type) (x0:τ) (body:τ->(τ->Prop)->Prop):Prop:=
 ∃(β:Type) (E:β->τ) (I:β->Prop) (μ:β->Nat) (b0:β),x0=E b0/\I b0/\∀b,I b->body (E b) (fun y=>∃b',y=E b'/\I b'/\μ b' < μ b)
theorem aI.intro {τ:Type} {x0:τ} {body:τ->(τ->Prop)->Prop} {β:Type} (E:β->τ) (I:β->Prop) (μ:β->Nat) (b0:β) (h0:x0=E b0) (hI:I b0)
  (h:∀b,I b->∀again:τ->Prop,(∀b',I b'->μ b' < μ b->again (E b'))->body (E b) again):aI τ x0 body:=
 ⟨β,E,I,μ,b0,h0,hI,fun b hb=>h b hb _ fun b' h1 h2=>⟨b',rfl,h1,h2⟩⟩
def gC (Γ:Env Unit) (c:Code) (Q:Exit->AS Unit->Prop) (s:AS Unit):Prop:=
 ∀a w η,Rel Γ s a w η->∀(f:Frame) (k:List Item) (cs:List Frame),f.roundOf=Γ.fj.round->Γ.fj.fn f.fn->Γ.fj.room (cs.length+1+0)->
  ∃e a' w',(∃s' bf,Q e s'/\Rel Γ s' a' w' bf)/\ArrivesIn (Machine.fenced Γ.P Γ.fj) Γ.P (lone (f.atR a (.code c :: .inLoop c::k)) cs w) f k cs e a' w'
theorem gC.So {c:Code} {Q:Exit->AS Unit->Prop} (h:eY Γ c (sG (gC Γ c Q) Q) s):gC Γ c Q s:=by
 intro a w η hr f k cs ss hf fi;obtain⟨e,vV,vW,⟨s',bf,hq,gy⟩,gY⟩:=h a w η hr f (.inLoop c::k) cs ss hf fi
 cases e with
 |normal=>
  obtain⟨acs,acu,acv,Se,D8⟩:=hq vV vW bf gy f k cs ss hf fi;exact⟨acs,acu,acv,Se,.of_steps (StepsIn.trans gY (.one (fenced_calm hf fi rfl) stepR_inLoop)) D8⟩
 |exit id=>exact⟨_,vV,vW,⟨s',bf,hq,gy⟩,.pass (x:=.inLoop c) rfl (fun _ _=>.inl (by simp)) gY⟩
 |goto l=>exact⟨_,vV,vW,⟨s',bf,hq,gy⟩,.pass (x:=.inLoop c) rfl (fun _ _=>.inl (by simp)) gY⟩
 |ret=>exact⟨_,vV,vW,⟨s',bf,hq,gy⟩,.pass (x:=.inLoop c) rfl (fun _ _=>.inl (by simp)) gY⟩
 |panic ch=>exact⟨_,vV,vW,⟨s',bf,hq,gy⟩,.pass (x:=.inLoop c) rfl (fun _ _=>.inl (by simp)) gY⟩
 |outgrown=>exact⟨_,vV,vW,⟨s',bf,hq,gy⟩,.pass (x:=.inLoop c) rfl (fun _ _=>.inl (by simp)) gY⟩
theorem gC.ua {c:Code} {Q:Exit->AS Unit->Prop} (hw:cR Γ s s') (h:gC Γ c Q s'):gC Γ c Q s:=fun a w η hr=>let ⟨bf,gy⟩:=hw a w η hr;h a w bf gy
theorem gC.loop {c:Code} {Q:Exit->AS Unit->Prop} {β:Type} (I:β->Prop) (st:β->AS Unit) (μ:β->Nat)
  (round:∀b,I b->eY Γ c (sG (fun s'=>∃b',I b'/\cR Γ s' (st b')/\μ b' < μ b) Q) (st b)):∀(n:Nat) (b:β),I b->μ b=n->gC Γ c Q (st b):=by
 intro n
 induction n using Nat.strongRecOn with
 |_ n ih=>
  intro b hIb hb;refine gC.So ((round b hIb).mono fun e s' h=>?_)
  cases e with
  |normal=>
   obtain⟨b',X4,hw,aH⟩:=h;exact gC.ua hw (ih (μ b') (hb▸aH) b' X4 rfl)
  |_=>exact h
theorem eY.GU {c:Code} {Q:Exit->AS Unit->Prop} (h:gC Γ c Q s):eY Γ (.loop c) Q s:=by
 intro a w η hr f k cs ss hf fi;obtain⟨e,a',w',hq,gY⟩:=h a w η hr f k cs ss hf fi;exact⟨e,a',w',hq,.of_steps (.one (fenced_calm hf fi rfl) stepR_loop) gY⟩
def ofC:AV->xY
 | .ax (.int k _)=>.i k
 | .ax (.bool _)=>.b
 | .ax (.string _)=>.s
 | .ax (.slice none 0 0)=>.l
 | .sl _=>.l
 | .clip _=>.c
 | .fL (.i _)=>.m
 | .fL (.s _)=>.ms
 | .own r _=>.o r
 | .ptr r o=>.k (.ptr r o)
 | .mp r=>.k (.mp r)
 | .bz f cs=>.k (.bz f cs)
 | .fn _=>.fn
 |_=>.k .top
def aeL:List AV->List xY
 | []=>[]
 |x::l=>ofC x::aeL l
def ofV:AV->uq
 | .agg cs=>.a (aeL cs)
 |x=>.c (ofC x)
def acz:List AV->List uq
 | []=>[]
 |x::l=>ofV x::acz l
def ofS:AV->Sh
 | .aK vs=>.t (acz vs)
 | .bz f vs=>.f f (acz vs)
 |x=>.v (ofV x)
def akl:AV->xY
 | .ax (.slice none 0 0)=>.k (.ax (.slice none 0 0))
 |x=>ofC x
def aaX:List AV->List xY
 | []=>[]
 |x::l=>akl x::aaX l
def ofO:aw->mg
 | .dead=>.dead
 | .box cs=>.box (aaX cs)
 | .row e size _=>.row e size
 | .bj e size _=>.bj e size
 | .cE (.i _)=>.cE
 | .cE (.s _)=>.eV
 | .jy r _=>.jy r
 | .fz e _ _=>.fz e
def Ph:List aw->List mg
 | []=>[]
 |o::l=>ofO o::Ph l
def sL:List Nat->AS Unit->AS Unit
 | [],s=>s
 |r::l,s=>(match s.hp[r]? with
  |some (.cE es)=>sL l ⟨fun t=>RF r es (s.tmps t),s.hp.set r .dead,s.g⟩
  |some (.bj e size els)=>sL l ⟨s.tmps,s.hp.set r (.row e size els),s.g⟩
  |_=>sL l s)
theorem cR.Pj (aE:Γ.Ok) {f:Nat->AV} {g:Unit} {r e size:Nat} {els:List AV} (hr:hp[r]?=some (.bj e size els)):cR Γ ⟨f,hp,g⟩ ⟨f,hp.set r (.row e size els),g⟩:=by
 intro a w η h;have aH:r<η.length:=by have:=h.heap.len;simp only at this;rw[this];exact(aqr.1 hr).1
 have hv:η[r]?=some η[r]:=by simp[aH]
 obtain⟨hz,xs,eQ,fN⟩:=h.heap.obj r _ _ hr hv;have fF:η.set r η[r]=η:=by
  apply ark;intro i
  by_cases hi:r=i
  ·subst hi;rw[aB hv,hv]
  ·rw[getElem?_set_ne hi]
 have hd:=Rel.change (w':=w) (o':=.row e size els) (v':=η[r]) aE h hr True.intro hv (cG.refl _ w) (fun b hb=>.inl hb) (fun k hk=>hk.elim) (fun _ _ _ _ hk _=>hk.elim) (fun _ _ _ _ hk _=>hk.elim)
  (fun n u ho=>by
   unfold bl at ho ⊢;simp only[hr] at ho;rw[fF];simp only[aB hr]
   exact ho) (fun _ _=>rfl) (fun _ _=>rfl) (fun b' d gz hd=>by obtain⟨cur,h5⟩:=eQ.lt gz;rw[h5] at hd;cases hd)
  (fun he=>⟨hz,xs,eQ.more (aqC _),fun i el hi=>⟨(fN i el hi).1,fun j x hj=>let ⟨u,q1,q2,q3⟩:=(fN i el hi).2 j x hj;⟨u,q1,q2.ext he.qu.ext,q3⟩⟩⟩)
 rw[fF] at hd;exact⟨η,hd⟩
theorem kC (aE:Γ.Ok):∀(l:List Nat) (s:AS Unit),cR Γ s (sL l s)
 | [],s=>.refl s
 |r::l,s=>by
  simp only[sL];split
  ·rename_i es hr;exact(cR.frz aE hr).trans (kC aE l _)
  ·rename_i e size els hr;exact(cR.Pj aE hr).trans (kC aE l _)
  ·exact kC aE l s
structure kR where
 key:Nat
 live:List (Nat×Option Sh)
 rows:List (Nat×Nat):=[]
 aeM:List (Nat×Nat):=[]
 mq:List (Nat×Nat×Nat):=[]
 dq:List (Nat×mg):=[]
 aeN:Bool:=false
 Pj:List Nat:=[]
 mv:List (Nat×Nat):=[]
 prm:List Sh:=[]
 mb:Bool:=false
def MG (s:AS Unit):List (Nat×Option Sh)->List Sh
 | []=>[]
 |(_,some sh)::l=>sh::MG s l
 |(t,none)::l=>ofS (s.tmps t)::MG s l
def slotsOf:List (Nat×Option Sh)->List Nat
 | []=>[]
 |(t,_)::l=>t::slotsOf l
def CM:List (Nat×mg)->List mg->List mg
 | [],l=>l
 |(r,o)::m,l=>CM m (l.set r o)
def tl (tab:Nat->Option TD):List (Nat×Nat)->AS Unit->Option (AS Unit)
 | [],s=>some s
 |(t,e)::l,s=>(match s.tmps t,tab e with
  | .ax (.slice none 0 0),some d=>(match Nat.blt 0 d.size with
   |true=>tl tab l ⟨Bz s.tmps t (.own s.hp.length 0),s.hp++[.row e d.size []],s.g⟩
   |false=>none)
  | .own _ _,some _=>tl tab l s
  |_,_=>none)
theorem r3 (aE:Γ.Ok) {tab:Nat->Option TD}:∀{l:List (Nat×Nat)} {s s':AS Unit},tl tab l s=some s'->cR Γ s s'
 | [],s,s',h=>by simp only[tl,aqq] at h;subst h;exact .refl _
 |(t,e)::l,s,s',h=>by
  simp only[tl] at h;split at h
  ·rename_i d ht hd;split at h
   ·rename_i cx;exact(cR.row aE t e d.size (aqQ (show Nat.ble (0+1) d.size=true from cx)) ht).trans (r3 aE h)
   ·cases h
  ·exact r3 aE h
  ·cases h
def r5 (tab:Nat->Option TD):List (Nat×Nat)->AS Unit->Option (AS Unit)
 | [],s=>some s
 |(t,e)::l,s=>(match s.tmps t,tab e with
  | .ax (.slice none 0 0),some d=>(match Nat.blt 0 d.size with
   |true=>r5 tab l ⟨Bz s.tmps t (.own s.hp.length 0),s.hp++[.bj e d.size []],s.g⟩
   |false=>none)
  | .own _ _,some _=>r5 tab l s
  |_,_=>none)
theorem tm (aE:Γ.Ok) {tab:Nat->Option TD}:∀{l:List (Nat×Nat)} {s s':AS Unit},r5 tab l s=some s'->cR Γ s s'
 | [],s,s',h=>by simp only[r5,aqq] at h;subst h;exact .refl _
 |(t,e)::l,s,s',h=>by
  simp only[r5] at h;split at h
  ·rename_i d ht hd;split at h
   ·rename_i cx;exact(cR.Rd (M:=true) aE t e d.size (aqQ (show Nat.ble (0+1) d.size=true from cx)) ht).trans (tm aE h)
   ·cases h
  ·exact tm aE h
  ·cases h
def pw (M:Bool) (tab:Nat->Option TD):List (Nat×Nat×Nat)->AS Unit->Option (AS Unit)
 | [],s=>some s
 |(r,k,e)::l,s=>(match s.hp[r]?,tab (e % 1000000) with
  |some (.box cs),some d=>(match cs[k]? with
   |some (.ax (.slice none 0 0))=>(match Nat.blt 0 d.size with
    |true=>pw M tab l ⟨s.tmps,s.hp.set r (.box (cs.set k (.own s.hp.length 0)))++[gK (M||Nat.ble 1000000 e) (e % 1000000) d.size []],s.g⟩
    |false=>none)
   |_=>none)
  |_,_=>none)
theorem px (aE:Γ.Ok) {M:Bool} {tab:Nat->Option TD}:∀{l:List (Nat×Nat×Nat)} {s s':AS Unit},pw M tab l s=some s'->cR Γ s s'
 | [],s,s',h=>by simp only[pw,aqq] at h;subst h;exact .refl _
 |(r,k,e)::l,s,s',h=>by
  simp only[pw] at h;split at h
  ·rename_i cs d hb hd;split at h
   ·rename_i hk;split at h
    ·rename_i cx;exact(cR.abM aE r k (e % 1000000) d.size (aqQ (show Nat.ble (0+1) d.size=true from cx)) hb hk).trans (px aE h)
    ·cases h
   ·cases h
  ·cases h
def GV:List (Nat×Nat)->AS Unit->List Prop×AS Unit
 | [],s=>([],s)
 |p::l,s=>(match Nat.ble 1000000 p.1 with
  |true=>(((s.tmps p.2).bU s.hp).1++(GV l ⟨Bz s.tmps p.2 ((s.tmps p.2).bU s.hp).2,s.hp,s.g⟩).1,(GV l ⟨Bz s.tmps p.2 ((s.tmps p.2).bU s.hp).2,s.hp,s.g⟩).2)
  |false=>GV l s)
theorem Eh (aE:Γ.Ok):∀(l:List (Nat×Nat)) (s:AS Unit),eA (GV l s).1->cR Γ s (GV l s).2
 | [],s,_=>.refl s
 |p::l,s,h=>by
  simp only[GV] at h ⊢;split at h
  ·rename_i hp;simp only[bP] at h;refine cR.trans (fun a w η hr=>?_) (Eh aE l _ h.2);refine⟨η,hr.nt,fun u=>?_,hr.heap,hr.cq,hr.keeps,hr.inv,hr.marks,hr.ext⟩;show bB w _ _ _ (Bz s.tmps p.2 _ u) _;rw[gV];split
   ·rename_i hu;subst hu;rw[<-dv h.1];exact(gA hr.heap hr.cq (hr.tmps _)).lift
   ·exact hr.tmps u
  ·rename_i hp;exact Eh aE l s h
def Sp (mv:List (Nat×Nat)) (eJ:List Nat) (qg:List Sh) (dq:List mg) (again:TS qg×TO dq->Prop) (Q:Exit->AS Unit->Prop):Exit->AS Unit->Prop
 | .normal,s=>gN (GV mv (mvS mv s)).1 (match Ky eJ qg dq (GV mv (mvS mv s)).2 with
  |some (p,z)=>gN p (again z)
  |none=>False)
 |e,s=>Q e s
def zL (n0:Nat) (mv:List (Nat×Nat)) (eJ:List Nat) (qg:List Sh) (dq:List mg) (body:(Exit->AS Unit->Prop)->AS Unit->Prop) (Q:Exit->AS Unit->Prop) (s:AS Unit):Prop:=
 match Nat.ble n0 dq.length&&(Pf dq.length qg&&Kx dq.length dq)&&X3 n0 mv with
 |false=>False
 |true=>(match Ky eJ qg dq s with
  |some (p,z)=>gN p (aI (TS qg×TO dq) z fun z again=>body (Sp mv eJ qg dq again Q) (Pg eJ qg dq z))
  |none=>False)
def Sq (l:List Nat) (Q:Exit->AS Unit->Prop) (e:Exit) (s:AS Unit):Prop:=
 match l with
 | []=>Q e s
 |_=>Q e (sL l s)
theorem gC.r6 {c:Code} {Q Q':Exit->AS Unit->Prop} (h:gC Γ c Q s) (hq:∀e s,Q e s->∃s2,cR Γ s s2/\Q' e s2):gC Γ c Q' s:=
 fun a w η hr f k cs h1 h2 h3=>by
  obtain⟨e,a',w',⟨s',bf,q1,q2⟩,q3⟩:=h a w η hr f k cs h1 h2 h3;obtain⟨s2,hw,q4⟩:=hq e s' q1;obtain⟨FE,q5⟩:=hw _ _ _ q2;exact⟨e,a',w',⟨s2,FE,q4,q5⟩,q3⟩
theorem gC.Pj (aE:Γ.Ok) {c:Code} {l:List Nat} {Q:Exit->AS Unit->Prop} (h:gC Γ c (Sq l Q) s):gC Γ c Q s:=
 h.r6 fun e s' hq=>by
  unfold Sq at hq;split at hq
  ·exact⟨_,.refl _,hq⟩
  ·exact⟨_,kC aE _ _,hq⟩
def zM (tab:Nat->Option TD) (n0:Nat) (A:kR) (body:(Exit->AS Unit->Prop)->AS Unit->Prop) (Q:Exit->AS Unit->Prop) (s:AS Unit):Prop:=
 match tl tab A.rows s with
 |none=>False
 |some s0=>(match r5 tab A.aeM s0 with
  |none=>False
  |some s1=>(match pw A.mb tab A.mq s1 with
   |none=>False
   |some s2=>zL n0 A.mv (slotsOf A.live) (MG s2 A.live) (CM A.dq (Ph s2.hp)) body (Sq A.Pj Q) s2))
theorem zL.sound (aE:Γ.Ok) {n0:Nat} (oY:Γ.mU.length=n0) {mv:List (Nat×Nat)} {eJ:List Nat} {qg:List Sh} {dq:List mg} {c:Code} {body:(Exit->AS Unit->Prop)->AS Unit->Prop} {Q:Exit->AS Unit->Prop} {s:AS Unit}
  (hb:∀Q s,body Q s->eY Γ c Q s) (h:zL n0 mv eJ qg dq body Q s):gC Γ c Q s:=by
 unfold zL at h;split at h
 ·exact h.elim
 rename_i GG;rw[aqv,aqv] at GG;obtain⟨GG,QH⟩:=GG;rw[<-oY] at QH;have hn:Γ.mU.length<=dq.length:=by rw[oY];exact aqQ GG.1
 split at h
 ·rename_i p z hz;rw[bF] at h;obtain⟨hp,β,E,I,μ,b0,hz0,hI,hr⟩:=h;have hw:=Eg aE hz hp hn GG.2;rw[hz0] at hw;refine gC.ua hw (gC.loop I (fun b=>Pg eJ qg dq (E b)) μ (fun b hIb=>?_) _ b0 hI rfl);refine(hb _ _ (hr b hIb)).mono fun e s1 h1=>?_
  cases e with
  |normal=>
   simp only[Sp] at h1;rw[bF] at h1;obtain⟨QI,h1⟩:=h1;split at h1
   ·rename_i p1 z1 hz1;rw[bF] at h1;obtain⟨jC,b',gz,X4,aH⟩:=h1;have J9:=((Sk aE mv s1 QH).trans (Eh aE mv _ QI)).trans (Eg aE hz1 jC hn GG.2);rw[gz] at J9;exact⟨b',X4,J9,aH⟩
   ·exact h1.elim
  |_=>exact h1
 ·exact h.elim
theorem zM.sound (aE:Γ.Ok) {tab:Nat->Option TD} {n0:Nat} (oY:Γ.mU.length=n0) {A:kR} {c:Code} {body:(Exit->AS Unit->Prop)->AS Unit->Prop} {Q:Exit->AS Unit->Prop} {s:AS Unit}
  (hb:∀Q s,body Q s->eY Γ c Q s) (h:zM tab n0 A body Q s):gC Γ c Q s:=by
 unfold zM at h;split at h
 ·exact h.elim
 ·rename_i s0 h0;split at h
  ·exact h.elim
  ·rename_i s1 h1;split at h
   ·exact h.elim
   ·rename_i s2 h2;exact gC.ua (((r3 aE h0).trans (tm aE h1)).trans (px aE h2)) ((zL.sound aE oY hb h).Pj aE)
def mr:Code->Option Nat
 | .region id _ _=>some id
 | .seq x y=>(match mr x with|some k=>some k|none=>mr y)
 | .cond _ x y=>(match mr x with|some k=>some k|none=>mr y)
 | .block _ x=>mr x
 | .loop x=>mr x
 | .rangeFunc _ _ x y=>(match mr x with|some k=>some k|none=>mr y)
 |_=>none
def MH:List kR->Nat->Option kR
 | [],_=>none
 |A::l,k=>(match Nat.beq A.key k with|true=>some A|false=>MH l k)
def iD (τ α:Type) (y0:τ) (S:List α->Prop) (round:α->τ->(τ->Prop)->Prop) (after:τ->Prop):Prop:=
 ∃(Ls:List α) (I:List α->τ->Prop),S Ls/\I Ls y0/\(∀e rest y,I (e::rest) y->round e y (I rest))/\∀y,I [] y->after y
def ng (P:Program) (gf:Nat) (caps:List AV) (prm:List Sh) (Ls:List (TS prm)):Prop:=
 vE P gf (fun v=>v::caps) (Ls.map fun e=>x6 [] prm e) false
def Ei (dq:List mg) (again:TO dq->Prop) (Q:Exit->AS Unit->Prop) (f:Nat->AV):Exit->AS Unit->Prop
 | .normal,s=>(match wW (s9 (s.hp.take dq.length)) dq (s.hp.take dq.length) with
  |some (p,y)=>gN p (again y)
  |none=>False)
 | .ret,s=>Q .ret ⟨f,s.hp,()⟩
 | .exit id,s=>Q (.exit id) ⟨f,s.hp,()⟩
 |_,_=>False
def psB (nt:Nat):List Nat->Bool
 | []=>true
 |p::l=>Nat.blt p nt&&psB nt l
theorem Sr {nt:Nat}:∀{l:List Nat},psB nt l=true->∀p∈l,p<nt
 | [],_,p,hp=>by cases hp
 |q::l,h,p,hp=>by
  simp only[psB,aqv] at h;rcases aqZ.1 hp with rfl|hp
  ·exact aqQ (show Nat.ble (p+1) nt=true from h.1)
  ·exact Sr h.2 p hp
def uF (C:dp) (n0:Nat) (dq:List mg) (prm:List Sh) (g:Operand) (ps:Array Tmp) (zH body:(Exit->AS Unit->Prop)->AS Unit->Prop) (Q:Exit->AS Unit->Prop) (s:AS Unit):Prop:=
 match s.ev g with
 | .bz gf caps=>(match psB C.nt ps.toList&&(Nat.beq ps.toList.length prm.length&&(Nat.ble n0 dq.length&&(Nat.beq dq.length s.hp.length&&Kx dq.length dq))) with
  |false=>False
  |true=>(match wW (s9 s.hp) dq s.hp with
   |some (p,y)=>gN p (gN (cZ (AV.mh 0 (pr (ig dq y) dq y)) caps).1 (iD (TO dq) (TS prm) y (fun Ls=>ng C.P gf (cZ (AV.mh 0 (pr (ig dq y) dq y)) caps).2 prm Ls)
     (fun e y again=>zH (sG (body (Ei dq again Q s.tmps)) noQ) ⟨uC ps.toList (x6 [] prm e) s.tmps,pr (ig dq y) dq y,()⟩)
     (fun y=>Q .normal ⟨s.tmps,pr (ig dq y) dq y,()⟩)))
   |none=>False))
 |_=>False
def zN (C:dp) (A:kR) (n0:Nat) (g:Operand) (ps:Array Tmp) (zH body:Nat->(Exit->AS Unit->Prop)->AS Unit->Prop) (Q:Exit->AS Unit->Prop) (s:AS Unit):Prop:=
 match pw A.mb C.tab A.mq s with
 |none=>False
 |some s1=>uF C n0 (CM A.dq (Ph s1.hp)) A.prm g ps (zH (CM A.dq (Ph s1.hp)).length) (body (CM A.dq (Ph s1.hp)).length) Q s1
theorem GX:∀{l:List Sh} {t:TS l},(x6 [] l t).length=l.length
 | [],_=>rfl
 |_::l,t=>by simp[x6,GX (l:=l)]
theorem uF.sound (aE:Γ.Ok) (dD:Γ.JF) {C:dp} (hP:C.P=Γ.P) (dS:C.nt=Γ.nt) {n0:Nat} (oY:Γ.mU.length=n0) {dq:List mg} {prm:List Sh} {g:Operand} {ps:Array Tmp} {ca cb:Code} {zH body:(Exit->AS Unit->Prop)->AS Unit->Prop} {Q:Exit->AS Unit->Prop} {s:AS Unit}
  (ha:∀mP,jh Γ dq.length mP->∀Q s,zH Q s->eY mP ca Q s) (hb:∀mP,jh Γ dq.length mP->∀Q s,body Q s->eY mP cb Q s) (h:uF C n0 dq prm g ps zH body Q s):eY Γ (.rangeFunc g ps ca cb) Q s:=by
 unfold uF at h;split at h
 ·rename_i gf caps hg;split at h
  ·exact h.elim
  rename_i GG;simp only[aqv] at GG;obtain⟨W8,QG,hle,hln,dK⟩:=GG;have aoG:=aqN hln;split at h
  ·rename_i p y hy;rw[bF,bF] at h;obtain⟨hp,aeO,Ls,I,hS,hI,th,acA⟩:=h;obtain⟨f,akm,gg⟩:=s;obtain⟨h3,h4⟩:=uB (lens':=[]) hy hp;rw[<-h4] at h3;have hw:cR Γ ⟨f,akm,gg⟩ ⟨f,pr (ig dq y) dq y,()⟩:=cR.acx h3;refine eY.ua hw ?_;have acB:caps.map (AV.s6 0 (pr (ig dq y) dq y))=(cZ (AV.mh 0 (pr (ig dq y) dq y)) caps).2:=cr (fun x=>qT) _ aeO;refine eY.range (s:=⟨f,pr (ig dq y) dq y,()⟩) aE dD (gf:=gf) (caps:=caps) (L:=Ls.map fun e=>x6 [] prm e) hg (by rw[acB,<-hP];exact hS) (fun x hx=>?_) (fun q hq=>by rw[<-dS];exact Sr W8 q hq)
    (fun rest hp=>∃Ss y,rest=Ss.map (fun e=>x6 [] prm e)/\I Ss y/\hp=pr (ig dq y) dq y) ⟨Ls,y,rfl,hI,rfl⟩ (fun x rest hp ⟨Ss,y',he,X4,DQ⟩=>?_) fun hp ⟨Ss,y',he,X4,DQ⟩=>?_
   ·obtain⟨e,_,rfl⟩:=arx.1 hx;rw[GX,<-aqN QG];simp
   ·cases Ss with
    |nil=>cases he
    |cons e Ss=>
     simp only[aqS,List.cons.injEq] at he;obtain⟨rfl,rfl⟩:=he;subst DQ;have QD:(pr (ig dq y') dq y').length=dq.length:=uE;refine⟨fun s1=>body (Ei dq (I Ss) Q f) s1,fun mP Kz=>?_,fun s1 hs1 mP Kz=>?_⟩
     ·rw[QD] at Kz;exact ha mP Kz _ _ (th e Ss y' X4)
     ·rw[QD] at Kz;refine(hb mP Kz _ _ hs1).mono fun e s2 hq=>?_
      cases e with
      |normal=>
       simp only[Ei] at hq;split at hq
       ·rename_i p2 y2 hy2;rw[bF] at hq;obtain⟨k3,k4⟩:=uB (lens':=[]) hy2 hq.1;rw[<-k4] at k3;refine⟨pr (ig dq y2) dq y2,?_,Ss,y2,rfl,hq.2,rfl⟩;obtain⟨f2,BI,g2⟩:=s2;have h6:fp BI (pr (ig dq y2) dq y2++BI.drop dq.length):=by
         have:=fp.append k3 (fp.refl (BI.drop dq.length))
         rwa [ars] at this
        refine(cR.acx (Γ:=mP) (f:=f2) (g:=g2) h6).trans (cR.cut Kz.ok dq.length (by rw[Kz.h0];exact aqw _) Sub.nil qd.nil ?_ (Ef dK));have:=uE (lens:=ig dq y2) (l:=dq) (t:=y2);rw[<-this,aso]
       ·exact hq.elim
      |ret=>exact hq
      |exit id=>exact hq
      |_=>exact hq.elim
   ·cases Ss with
    |nil=>subst DQ;exact acA y' X4
    |cons e Ss=>cases he
  ·exact h.elim
 ·exact h.elim
theorem zN.sound (aE:Γ.Ok) (dD:Γ.JF) {C:dp} (hP:C.P=Γ.P) (dS:C.nt=Γ.nt) {A:kR} {n0:Nat} (oY:Γ.mU.length=n0) {g:Operand} {ps:Array Tmp} {ca cb:Code} {zH body:Nat->(Exit->AS Unit->Prop)->AS Unit->Prop} {Q:Exit->AS Unit->Prop} {s:AS Unit}
  (ha:∀n mP,jh Γ n mP->∀Q s,zH n Q s->eY mP ca Q s) (hb:∀n mP,jh Γ n mP->∀Q s,body n Q s->eY mP cb Q s) (h:zN C A n0 g ps zH body Q s):eY Γ (.rangeFunc g ps ca cb) Q s:=by
 unfold zN at h;split at h
 ·exact h.elim
 ·rename_i s1 h1;exact eY.ua (px aE h1) (uF.sound aE dD hP dS oY (fun mP hr=>ha _ mP hr) (fun mP hr=>hb _ mP hr) h)
def aeP:List (Nat×oh)->Nat->Option oh
 | [],_=>none
 |p::l,k=>(match Nat.beq p.1 k with|true=>some p.2|false=>aeP l k)
def hcD (l:List (Nat×List Nat)) (id:Nat):List Nat:=
 match XT l id with
 |some p=>p
 |none=>[]
def drD (l:List (Nat×List (Option (List Nat))×List (Option (List Nat)))) (id:Nat):List (Option (List Nat))×List (Option (List Nat)):=
 match aco l id with
 |some p=>p
 |none=>([],[])
def eW (C:dp) (L:List kR):Code->Nat->Bool->(Exit->AS Unit->Prop)->AS Unit->Prop
 | .skip,n0,fr,Q,s=>Q .normal s
 | .region id ops draw,n0,fr,Q,s=>(match draw with
  |false=>GD C id ops.toList (Q .normal) s
  |true=>(match aeP C.br id with
  |some pl=>okB (Nat.ble pl.depth ops.toList.length) (jj C (hcD C.hc id) ops.toList (nV ops.toList []) (drD C.dr id).1 (drD C.dr id).2 (Q .normal) pl (tk ops.toList) s)
  |none=>match aco C.dr id with
   |some p=>(match XT C.hc id with
    |some hs=>okB (ym (bu hs) p.1 p.2 ops.toList) (sK C hs ops.toList p.1 p.2 (Q .normal) 0 ops.toList s)
    |none=>okB (yk p.1 p.2 ops.toList) (uy C ops.toList p.1 p.2 (Q .normal) 0 ops.toList s))
   |none=>(match XT C.hc id with
    |some hs=>okB (yl (bu hs) ops.toList) (sJ C hs ops.toList (Q .normal) ops.toList s)
    |none=>okB (zf ops.toList) (ux C ops.toList (Q .normal) ops.toList s))))
 | .seq x y,n0,fr,Q,s=>eW C L x n0 fr (sG (eW C L y n0 fr Q) Q) s
 | .cond c x y,n0,fr,Q,s=>(match s.ev c with
  | .ax (.bool b)=>az b (eW C L x n0 fr Q s) (eW C L y n0 fr Q s)
  |_=>False)
 | .block id c,n0,fr,Q,s=>eW C L c n0 fr (zc id Q) s
 | .loop c,n0,fr,Q,s=>(match mr c with
  |some k=>(match MH L k with
   |some A=>(match A.aeN with
    |false=>zM C.tab n0 A (eW C L c n0 fr) Q s
    |true=>eW C L c n0 fr (sG (zM C.tab n0 A (eW C L c n0 fr) Q) Q) s)
   |none=>False)
  |none=>False)
 | .rangeFunc g ps zH body,n0,fr,Q,s=>(match fr with
  |true=>(match mr body with
   |some k=>(match MH L k with
    |some A=>zN C A n0 g ps (fun n=>eW C L zH n false) (fun n=>eW C L body n false) Q s
    |none=>False)
   |none=>False)
  |false=>False)
 | .exit id,n0,fr,Q,s=>Q (.exit id) s
 | .label _,n0,fr,Q,s=>Q .normal s
 | .ret,n0,fr,Q,s=>Q .ret s
 |_,_,_,_,_=>False
theorem KA {N N':AS Unit->Prop} {Q:Exit->AS Unit->Prop} (h:∀s,N s->N' s) (e:Exit) (s:AS Unit) (hq:sG N Q e s):sG N' Q e s:=by
 cases e with
 |normal=>exact h s hq
 |_=>exact hq
theorem eW.sound {C:dp} (hm:C.P.follows .mixedOrders=true) {L:List kR}:∀(c:Code) (Γ:Env Unit) (_:Γ.Ok) (_:C.P=Γ.P) (_:bc Γ.P C.tab) (_:C.nt=Γ.nt) (n0:Nat) (_:Γ.mU.length=n0) (fr:Bool) (_:fr=true->Γ.JF) (Q:Exit->AS Unit->Prop) (s:AS Unit),eW C L c n0 fr Q s->eY Γ c Q s:=by
 intro c
 induction c with
 |skip=>intro Γ aE hP aA dS n0 oY fr qt Q s h;exact eY.skip h
 |region id ops draw=>
  intro Γ aE hP aA dS n0 oY fr qt Q s h;have e:ops=ops.toList.toArray:=by simp
  simp only[eW] at h;rw[e];split at h
  ·intro a w η hr;exact wpIn_region_lit (GD.sound aE hP aA dS h a w η _ (fun s' a' w' bf h1 h2=>⟨s',bf,h1,h2⟩) hr)
  ·split at h
   ·obtain⟨hd,h⟩:=cp h;exact eY.aeJ aE hP aA dS (by rw[<-hP];exact hm) hd h
   split at h
   ·rename_i p hp;split at h
    ·obtain⟨hd,h⟩:=cp h;exact eY.ael aE (by rw[<-hP];exact hm) p.1 p.2 hd (sK.sound aE hP aA dS _ 0 s h)
    obtain⟨hd,h⟩:=cp h;exact eY.aec aE aA dS (by rw[<-hP];exact hm) p.1 p.2 hd (uy.sound aE hP aA dS _ 0 s h)
   ·split at h
    ·obtain⟨hd,h⟩:=cp h;exact eY.aek aE (by rw[<-hP];exact hm) hd (sJ.sound aE hP aA dS _ s h)
    ·obtain⟨hd,h⟩:=cp h;exact eY.ad8 aE aA dS (by rw[<-hP];exact hm) hd (ux.sound aE hP aA dS _ s h)
 |seq x y ihx ihy=>
  intro Γ aE hP aA dS n0 oY fr qt Q s h;refine eY.ajC fun K hK=>(ihx Γ aE hP aA dS n0 oY fr qt _ s h).mono fun e s' hq=>?_;exact KA (fun s'' h''=>hK s'' (ihy Γ aE hP aA dS n0 oY fr qt _ s'' h'')) e s' hq
 |cond c x y ihx ihy=>
  intro Γ aE hP aA dS n0 oY fr qt Q s h;simp only[eW] at h;split at h
  ·rename_i b hb;exact eY.ad7 hb (fun ht=>ihx Γ aE hP aA dS n0 oY fr qt _ s (h.elim.1 ht)) fun ht=>ihy Γ aE hP aA dS n0 oY fr qt _ s (h.elim.2 ht)
  ·exact h.elim
 |block id c ih=>intro Γ aE hP aA dS n0 oY fr qt Q s h;exact eY.block (ih Γ aE hP aA dS n0 oY fr qt _ s h)
 |loop c ih=>
  intro Γ aE hP aA dS n0 oY fr qt Q s h;simp only[eW] at h;split at h
  ·split at h
   ·split at h
    ·exact eY.GU (zM.sound aE oY (ih Γ aE hP aA dS n0 oY fr qt) h)
    ·exact eY.GU (gC.So ((ih Γ aE hP aA dS n0 oY fr qt _ s h).mono fun e s' hq=>by
      cases e with
      |normal=>exact zM.sound aE oY (ih Γ aE hP aA dS n0 oY fr qt) hq
      |_=>exact hq))
   ·exact h.elim
  ·exact h.elim
 |rangeFunc g ps zH body iha ihb=>
  intro Γ aE hP aA dS n0 oY fr qt Q s h;simp only[eW] at h;split at h
  ·split at h
   ·split at h
    ·refine zN.sound aE (qt rfl) hP dS oY (fun n mP hr Q s h=>?_) (fun n mP hr Q s h=>?_) h
     ·exact iha mP hr.ok (by rw[hr.hP,hP]) (by rw[hr.hP];exact aA) (by rw[hr.nt,dS]) n hr.h0 false (fun h=>by cases h) _ s h
     ·exact ihb mP hr.ok (by rw[hr.hP,hP]) (by rw[hr.hP];exact aA) (by rw[hr.nt,dS]) n hr.h0 false (fun h=>by cases h) _ s h
    ·exact h.elim
   ·exact h.elim
  ·exact h.elim
 |exit id=>intro Γ aE hP aA dS n0 oY fr qt Q s h;exact eY.exit h
 |label l=>intro Γ aE hP aA dS n0 oY fr qt Q s h;exact eY.label h
 |ret=>intro Γ aE hP aA dS n0 oY fr qt Q s h;exact eY.ret h
 |_=>intro Γ aE hP aA dS n0 oY fr qt Q s h;exact h.elim
def py (k:Nat):Nat->List Nat
 |0=>[]
 |n+1=>k::py (k+1) n
theorem eY.r6 {c:Code} {Q Q':Exit->AS Unit->Prop} (h:eY Γ c Q s) (hq:∀e s,Q e s->∃s2,cR Γ s s2/\Q' e s2):eY Γ c Q' s:=
 fun a w η hr=>wpIn_mono (h a w η hr) fun e a' w' ⟨s',bf,h1,h2⟩=>by
  obtain⟨s2,hw,h3⟩:=hq e s' h1;obtain⟨FE,h4⟩:=hw _ _ _ h2;exact⟨s2,FE,h3,h4⟩
def AV.zO (hp:List aw):AV->List Prop×AV
 | .ptr r 0=>(match hp[r]? with
  |some (.box cs)=>((cZ (AV.jP hp) cs).1,.aW (FV (cZ (AV.jP hp) cs).2) 0)
  |_=>([],.top))
 |x=>x.gB hp
theorem Pk {hp:List aw} {x:AV} (hc:eA (x.zO hp).1):x.L0 hp=(x.zO hp).2:=by
 cases x with
 |ptr r o=>
  cases o with
  |zero=>
   simp only[AV.L0,AV.zO] at hc ⊢
   cases hr:hp[r]? with
   |none=>rfl
   |some o=>
    cases o with
    |box cs=>
     simp only[hr] at hc ⊢;rw[cr (g:=AV.eG hp) (fun x=>lJ) _ hc]
    |_=>rfl
  |succ n=>exact jQ hc
 |_=>exact jQ hc
def AV.qZ (hp:List aw):AV->List Prop×AV
 | .bz f cs=>((cZ (AV.zO hp) cs).1,.bz f (cZ (AV.zO hp) cs).2)
 |x=>x.bU hp
theorem GY {hp:List aw} {x:AV} (hc:eA (x.qZ hp).1):x.rU hp=(x.qZ hp).2:=by
 cases x with
 |bz f cs=>simp only[AV.qZ,AV.rU] at hc ⊢;rw[cr (fun x=>Pk) _ hc]
 |_=>exact dv hc
def KB (tab:Nat->Option TD) (rs:List ResultVar) (R:AV->Prop) (s:AS Unit):Prop:=
 match fW tab s rs with
 |some l=>gN ((iZ l).qZ s.hp).1 (R ((iZ l).qZ s.hp).2)
 |none=>False
def X5 (tab:Nat->Option TD) (rs:List ResultVar) (R:AV->Prop):Exit->AS Unit->Prop
 | .normal,s=>KB tab rs R (sL (py 0 s.hp.length) s)
 | .ret,s=>KB tab rs R (sL (py 0 s.hp.length) s)
 |_,_=>False
theorem KB.sound {tab:Nat->Option TD} {rs:List ResultVar} {R:AV->Prop} {s:AS Unit} (h:KB tab rs R s):∃l,fW tab s rs=some l/\R ((iZ l).rU s.hp):=by
 unfold KB at h;split at h
 ·rename_i l hl;rw[bF] at h;exact⟨l,hl,by rw[GY h.1];exact h.2⟩
 ·exact h.elim
theorem Ej {C:dp} (aA:bc C.P C.tab) (hm:C.P.follows .mixedOrders=true) {L:List kR} {f:FuncId} {fn:Func} {c:Code} {args:List AV} {R:AV->Prop} (hf:C.P.funcs[f]?=some fn) (hb:fn.body=some c)
  (jD:(fn.name == "runtime.NumGoroutine")=false) (hn:Nat.ble args.length fn.ntmps=true) (dS:C.nt=fn.ntmps) (h:eW C L c 0 true (X5 C.tab fn.results.toList R) ⟨ei 0 args,[],()⟩):Pure C.P f args R:=by
 refine DN aA hf hb jD (aqQ hn) fun Γ aE hP acE hh0 dD=>?_;refine(eW.sound hm c Γ aE hP.symm (by rw[hP];exact aA) (by rw[dS,acE]) _ hh0 true (fun _=>dD) _ _ h).r6 fun e s' hq=>?_
 cases e with
 |normal=>obtain⟨l,h1,h2⟩:=KB.sound hq;exact⟨_,kC aE (py 0 s'.hp.length) s',by simp only[Q7,h1];exact h2⟩
 |ret=>obtain⟨l,h1,h2⟩:=KB.sound hq;exact⟨_,kC aE (py 0 s'.hp.length) s',by simp only[Q7,h1];exact h2⟩
 |_=>exact hq.elim
def AV.CN (n:Nat) (hp:List aw) (x:AV):List Prop×AV:=
 match x.aX n with
 |true=>([],x)
 |false=>x.jP hp
def AV.CO (n:Nat) (hp:List aw):AV->List Prop×AV
 | .agg cs=>((cZ (AV.CN n hp) cs).1,.agg (cZ (AV.CN n hp) cs).2)
 |x=>x.CN n hp
def AV.Su (n:Nat) (hp:List aw):AV->List Prop×AV
 | .aK cs=>((cZ (AV.CO n hp) cs).1,.aK (cZ (AV.CO n hp) cs).2)
 |x=>x.CO n hp
theorem GZ {n:Nat} {x:AV} (hc:eA (x.CN n hp).1):x.OX n hp=(x.CN n hp).2:=by
 unfold AV.OX AV.CN at *
 cases h:x.aX n with
 |true=>simp
 |false=>rw[h] at hc;simp only[aqH,if_false];exact lJ hc
theorem G0 {n:Nat} {x:AV} (hc:eA (x.CO n hp).1):x.Rg n hp=(x.CO n hp).2:=by
 cases x with
 |agg cs=>simp only[AV.CO,AV.Rg] at hc ⊢;rw[cr (fun x=>GZ) _ hc]
 |_=>exact GZ hc
theorem X6 {n:Nat} {x:AV} (hc:eA (x.Su n hp).1):x.out n hp=(x.Su n hp).2:=by
 cases x with
 |aK cs=>simp only[AV.Su,AV.out] at hc ⊢;rw[cr (fun x=>G0) _ hc]
 |_=>exact G0 hc
def zP (tab:Nat->Option TD) (n:Nat) (rs:List ResultVar) (R:AV->List aw->Prop) (s:AS Unit):Prop:=
 match fW tab s rs with
 |some l=>okB ((s.hp.take n).all (aw.closed n)) (gN ((iZ l).Su n s.hp).1 (R ((iZ l).Su n s.hp).2 (s.hp.take n)))
 |none=>False
def MK (tab:Nat->Option TD) (n:Nat) (rs:List ResultVar) (R:AV->List aw->Prop):Exit->AS Unit->Prop
 | .normal,s=>zP tab n rs R (sL (py n (s.hp.length-n)) s)
 | .ret,s=>zP tab n rs R (sL (py n (s.hp.length-n)) s)
 |_,_=>False
theorem zP.sound {tab:Nat->Option TD} {n:Nat} {rs:List ResultVar} {R:AV->List aw->Prop} {s:AS Unit} (h:zP tab n rs R s):
  ∃l,fW tab s rs=some l/\(∀o∈s.hp.take n,aw.closed n o=true)/\R ((iZ l).out n s.hp) (s.hp.take n):=by
 unfold zP at h;split at h
 ·rename_i l hl;obtain⟨hb,h⟩:=cp h;rw[bF] at h;exact⟨l,hl,fun o ho=>aqF.1 hb o ho,by rw[X6 h.1];exact h.2⟩
 ·exact h.elim
theorem x7 {C:dp} (aA:bc C.P C.tab) (hm:C.P.follows .mixedOrders=true) {L:List kR} {f:FuncId} {fn:Func} {c:Code} {args:List AV} {hp:List aw} {R:AV->List aw->Prop} (m:Nat) (sq:Nat.ble hp.length m=true) (hf:C.P.funcs[f]?=some fn) (hb:fn.body=some c)
  (jD:(fn.name == "runtime.NumGoroutine")=false) (hn:Nat.ble args.length fn.ntmps=true) (dS:C.nt=fn.ntmps) (h:eW C L c hp.length true (MK C.tab m fn.results.toList R) ⟨ei 0 args,hp,()⟩):aY C.P f args hp R:=by
 refine xU aA m (aqQ sq) hf hb jD (aqQ hn) fun Γ aE hP acE hh0 dD=>?_;refine(eW.sound hm c Γ aE hP.symm (by rw[hP];exact aA) (by rw[dS,acE]) _ hh0 true (fun _=>dD) _ _ h).r6 fun e s' hq=>?_
 cases e with
 |normal=>obtain⟨l,h1,h2,h3⟩:=zP.sound hq;exact⟨_,kC aE (py m (s'.hp.length-m)) s',by simp only[Rh,h1];exact⟨h2,h3⟩⟩
 |ret=>obtain⟨l,h1,h2,h3⟩:=zP.sound hq;exact⟨_,kC aE (py m (s'.hp.length-m)) s',by simp only[Rh,h1];exact⟨h2,h3⟩⟩
 |_=>exact hq.elim
def aQ (l u d m s y:Int):List AV:=[.ax (.int .i64 l),.ax (.int .i64 u),.ax (.int .u32 d),.ax (.int .i32 m),.ax (.int .u32 s),.ax (.int .u32 y)]
abbrev nI (n:Int):AV:=.ax (.int .i64 n)
abbrev nB (b:Bool):AV:=.ax (.bool b)
abbrev nS (s:ByteArray):AV:=.ax (.string s)
theorem of_eq {p q:Prop} (h:p=q) (hp:p):q:=h▸hp
end Go.Proofs.YtnkjkpmbgoehkaaGreat
