/- Texts of ours laid together for a claim: VcE. -/
import Derived.Test.YtdcikhleahfknaaGreatDoorQ28
namespace Go.Proofs.YtdcikhleahfknaaGreatDoor
open Go
set_option linter.unusedSimpArgs false
set_option linter.unusedVariables false
variable {Γ:Env Unit} {s s':AS Unit} {a:Act} {w w':World} {η:List Value} {hp hp':List af}
theorem cx.dL {f f':Nat->AV} {g:Unit} (h:∀t,dc (f t) (f' t)):cx Γ ⟨f,hp,g⟩ ⟨f',hp,g⟩:=
 fun _ _ η hr=>⟨η,hr.nt,fun t=>h t _ _ _ _ _ (hr.tmps t),hr.heap,hr.bM,hr.keeps,hr.inv,hr.marks,hr.ext⟩
theorem Ly.own {o o':af} (h:Ly o o'):(∃cs cs',o=.box cs/\o'=.box cs'/\dK cs cs')\/o=o':=by
 cases o with
 |box cs=>
  cases o' with
  |box cs'=>exact .inl ⟨cs,cs',rfl,rfl,h⟩
  |_=>cases h
 |_=>cases o'<;>first|exact .inr h|cases h
theorem eg.YX (h:eg hp hp') {b o:Nat} (hf:iR η hp b o):iR η hp' b o:=by
 intro r v hr hb;have:=hf r v hr hb;rcases h.get r with⟨h1,h2⟩|⟨o1,o2,h1,h2,h3⟩
 ·rw[h1] at this;exact this.elim
 ·rw[h1] at this;rw[h2];rcases h3.own with⟨cs,cs',rfl,rfl,_⟩|rfl
  ·exact this
  ·exact this
theorem eg.aaW (h:eg hp hp') {r n:Nat} {v:Value} (hf:aT η hp r n v):aT η hp' r n v:=by
 unfold aT at hf ⊢;rcases h.get r with⟨h1,h2⟩|⟨o1,o2,h1,h2,h3⟩
 ·rw[h1] at hf;exact hf.elim
 ·rw[h1] at hf;rw[h2];rcases h3.own with⟨cs,cs',rfl,rfl,_⟩|rfl
  ·exact hf
  ·exact hf
theorem cx.YY {f:Nat->AV} {g:Unit} (h:eg hp hp'):cx Γ ⟨f,hp,g⟩ ⟨f,hp',g⟩:=by
 intro a w η hr;have he:Ext w (bk Γ w η hp) η hp w (bk Γ w η hp') η hp':=
  ⟨fun _ _ _ _ h=>h,fun _ _ _ _ h=>h,fun b o hf=>⟨hf.1,hf.2.1,hf.2.2.1,h.YX hf.2.2.2⟩,fun _ _ h=>h,fun _ _ h=>h,fun _ _ _ ho=>h.aaW ho⟩
 have back:∀{r:Nat} {o':af},hp'[r]?=some o'->∃o,hp[r]?=some o/\Ly o o'/\(o'.live->o.live):=by
  intro r o' ho;rcases h.get r with⟨h1,h2⟩|⟨o1,o2,h1,h2,h3⟩
  ·rw[h2] at ho;cases ho
  ·rw[h2] at ho;obtain rfl:=alw ho;refine⟨o1,h1,h3,fun hl=>?_⟩;rcases h3.own with⟨cs,cs',rfl,rfl,_⟩|rfl
   ·exact True.intro
   ·exact hl
 refine⟨η,hr.nt,fun t=>(hr.tmps t).ext he,⟨by rw[hr.heap.len];exact h.length,fun r o' v h1 h2=>?_,fun r r' o o' v v' b bu h1 h2 l1 l2 e1 e2 hb=>?_⟩,fun r o v b h1 hl h2 hb=>?_,hr.keeps,hr.inv,hr.marks,hr.ext.trans he⟩
 ·obtain⟨o,g1,g2,_⟩:=back h1;have dB:=hr.heap.obj r o v g1 h2;rcases g2.own with⟨cs,cs',rfl,rfl,hw⟩|rfl
  ·obtain⟨b,vs,T,e1,e2,e3,e4⟩:=dB;refine⟨b,vs,T,e1,e2,by rw[e3,hw.length],fun j x u hx hu=>?_⟩;obtain⟨y,hy,hyx⟩:=hw.get j x hx;have:=e4 j y u hy hu;exact⟨hyx _ _ _ _ _ (this.1.ext he),this.2⟩
  ·exact dB.ext he (alA _) fun _ _ _=>rfl
 ·obtain⟨o1,g1,_,g3⟩:=back h1;obtain⟨o2,g4,_,g6⟩:=back h2;exact hr.heap.sep r r' o1 o2 v v' b bu g1 g4 (g3 l1) (g6 l2) e1 e2 hb
 ·obtain⟨o1,g1,_,g3⟩:=back h1;exact hr.bM r o1 v b g1 (g3 hl) h2 hb
def vN.cl (n:Nat):vN->Bool
 | .o r=>Nat.blt r n
 | .k x=>x.aW n
 | .q x=>x.aW n
 |_=>true
def Oz (n:Nat):List vN->Bool
 | []=>true
 |sh::l=>sh.cl n&&Oz n l
def r4.cl (n:Nat):r4->Bool
 | .c x=>x.cl n
 | .a l=>Oz n l
def LC (n:Nat):List r4->Bool
 | []=>true
 |sh::l=>sh.cl n&&LC n l
def Sh.cl (n:Nat):Sh->Bool
 | .v x=>x.cl n
 | .t l=>LC n l
 | .f _ l=>LC n l
 | .m _ l=>LC n l
def LD (n:Nat):List Sh->Bool
 | []=>true
 |sh::l=>sh.cl n&&LD n l
def kf.cl (n:Nat):kf->Bool
 | .box l=>Oz n l
 | .cU r=>Nat.blt r n
 |_=>true
def HQ (n:Nat):List kf->Bool
 | []=>true
 |sh::l=>sh.cl n&&HQ n l
theorem BK {n:Nat} {x:AV} (h:x.aW n=true):x.dp n=true:=by
 cases x<;>first|exact h|(simp[AV.aW] at h;done)
theorem BL {n:Nat} {x:AV} (h:x.dV n=true):x.dp n=true:=by
 cases x<;>first|exact h|rfl|(simp[AV.dV] at h;done)
theorem Ey {n:Nat} {x:AV} (h:x.dp n=true):x.closed n=true:=by
 cases x with
 |aY f cs=>exact alK.2 fun x hx=>BL (alK.1 (show cs.all (AV.dV n)=true from h) x hx)
 |_=>first|exact h|(simp[AV.dp,AV.aW] at h;done)
theorem OA {n:Nat} {lens:List Nat} {sh:vN} {t:sh.T} (h:sh.cl n=true):(mkC lens sh t).aW n=true:=by
 cases sh with
 |k x=>exact h
 |q x=>exact h
 |o r=>
  have:r<n:=alZ (show Nat.ble (r+1) n=true from h);simp[mkC,AV.aW,this]
 |_=>rfl
theorem BM {n:Nat} {lens:List Nat}:∀{l:List vN} {t:YP l},Oz n l=true->(Lt lens l t).all (AV.aW n)=true
 | [],_,_=>rfl
 |sh::l,t,h=>by
  simp only[Oz,alB] at h;simp only[Lt,amj,alB];exact⟨OA h.1,BM h.2⟩
theorem OB {n:Nat} {lens:List Nat} {sh:r4} {t:sh.T} (h:sh.cl n=true):(mkV lens sh t).dp n=true:=by
 cases sh with
 |c x=>exact BK (OA h)
 |a l=>exact BM h
theorem wg {n:Nat} {lens:List Nat}:∀{l:List r4} {t:Xn l},LC n l=true->(HM lens l t).all (AV.dp n)=true
 | [],_,_=>rfl
 |sh::l,t,h=>by
  simp only[LC,alB] at h;simp only[HM,amj,alB];exact⟨OB h.1,wg h.2⟩
theorem YZ {n:Nat} {lens:List Nat} {sh:Sh} {t:sh.T} (h:sh.cl n=true):(mkS lens sh t).closed n=true:=by
 cases sh with
 |v x=>exact Ey (OB h)
 |t l=>exact wg h
 |f fn l=>exact wg h
 |m fn l=>exact wg h
theorem Kb {n:Nat} {lens:List Nat}:∀{l:List Sh} {t:TS l},LD n l=true->∀x∈vQ lens l t,x.closed n=true
 | [],_,_,x,hx=>by cases hx
 |sh::l,t,h,x,hx=>by
  simp only[LD,alB] at h;rcases al6.1 hx with rfl|hx
  ·exact YZ h.1
  ·exact Kb h.2 x hx
theorem BN {n:Nat} {lens:List Nat}:∀{l:List kf} {t:TO l},HQ n l=true->∀o∈ni lens l t,af.closed n o=true
 | [],_,_,x,hx=>by cases hx
 |sh::l,t,h,x,hx=>by
  simp only[HQ,alB] at h;rcases al6.1 hx with rfl|hx
  ·cases sh with
   |box l=>exact BM h.1
   |cU r=>exact decide_eq_true (alZ (show Nat.ble (r+1) n=true from h.1))
   |_=>rfl
  ·exact BN h.2 x hx
theorem sn {lens:List Nat}:∀{l:List kf} {t:TO l},(ni lens l t).length=l.length
 | [],_=>rfl
 |_::l,t=>by simp[ni,sn (l:=l)]
def tX:List Nat->List AV->Nat->AV
 |t::ts,x::xs=>yZ (tX ts xs) t x
 |_,_=>fun _=>.top
theorem Ez {f:Nat->AV}:∀{ts:List Nat} {ys:List AV},dK (ts.map f) ys->∀t,dc (f t) (tX ts ys t)
 | [],[],_,t=>fun _ _ _ _ v _=>.top v
 |t0::ts,y::ys,h,t=>by
  simp only[tX,fc];split
  ·rename_i ht;subst ht;exact h.1
  ·exact Ez h.2 t
theorem Ad {n:Nat}:∀{ts:List Nat} {ys:List AV},(∀x∈ys,x.closed n=true)->nU n (tX ts ys)
 | [],_,_=>fun _=>rfl
 |_::_,[],_=>fun _=>rfl
 |t0::ts,y::ys,h=>nU.yZ (h y alS) (Ad fun x hx=>h x (alR _ hx))
def LF (dL:List Nat) (nX:List Sh) (cL:List kf) (z:TS nX×TO cL):AS Unit:=
 ⟨tX dL (vQ (fS cL z.2) nX z.1),ni (fS cL z.2) cL z.2,()⟩
def HR (dL:List Nat) (nX:List Sh) (cL:List kf) (s:AS Unit):Option (List Prop×(TS nX×TO cL)):=
 match uN (qT (s.hp.take cL.length)) cL (s.hp.take cL.length) with
 |some (p,y)=>(match zY (qT (s.hp.take cL.length)) nX (dL.map s.tmps) with
  |some (q,x)=>some (p++q,(x,y))
  |none=>none)
 |none=>none
theorem BO (ax:Γ.Ok) {dL:List Nat} {nX:List Sh} {cL:List kf} {s:AS Unit} {cs:List Prop} {z:TS nX×TO cL} (h:HR dL nX cL s=some (cs,z)) (hc:dQ cs)
  (h0:Γ.jR.length<=cL.length) (dx:(LD cL.length nX&&HQ cL.length cL)=true):cx Γ s (LF dL nX cL z):=by
 unfold HR at h;split at h
 ·rename_i p y h1;split at h
  ·rename_i q x h2;simp only[als,alx] at h;obtain⟨rfl,rfl⟩:=h;rw[bF] at hc;obtain⟨h3,h4⟩:=sf (lens':=[]) h1 hc.1;have h5:=Ep h2 hc.2;rw[<-h4] at h3 h5;rw[alB] at dx;obtain⟨f,hp,g⟩:=s;have w1:cx Γ ⟨f,hp,g⟩ ⟨tX dL (vQ (fS cL y) nX x),hp,g⟩:=cx.dL (Ez h5);have h6:eg hp (ni (fS cL y) cL y++hp.drop cL.length):=by
    have:=eg.append h3 (eg.refl (hp.drop cL.length))
    rwa [amk] at this
   have w2:=w1.trans (cx.YY h6);refine w2.trans (cx.cut ax cL.length h0 (fun t=>.inr rfl) (Ad (Kb dx.1)) ?_ (BN dx.2));have:=sn (lens:=fS cL y) (l:=cL) (t:=y);rw[<-this,anw]
  ·cases h
 ·cases h
def av (τ:Type) (x0:τ) (body:τ->(τ->Prop)->Prop):Prop:=
 ∃(β:Type) (E:β->τ) (I:β->Prop) (μ:β->Nat) (b0:β),x0=E b0/\I b0/\∀b,I b->body (E b) (fun y=>∃b',y=E b'/\I b'/\μ b' < μ b)
theorem av.intro {τ:Type} {x0:τ} {body:τ->(τ->Prop)->Prop} {β:Type} (E:β->τ) (I:β->Prop) (μ:β->Nat) (b0:β) (h0:x0=E b0) (hI:I b0)
  (h:∀b,I b->∀again:τ->Prop,(∀b',I b'->μ b' < μ b->again (E b'))->body (E b) again):av τ x0 body:=
 ⟨β,E,I,μ,b0,h0,hI,fun b hb=>h b hb _ fun b' h1 h2=>⟨b',rfl,h1,h2⟩⟩
def fh (Γ:Env Unit) (c:Code) (Q:Exit->AS Unit->Prop) (s:AS Unit):Prop:=
 ∀a w η,Rel Γ s a w η->∀(f:Frame) (k:List Item) (cs:List Frame),f.roundOf=Γ.ec.round->Γ.ec.fn f.fn->Γ.ec.room (cs.length+1+0)->
  ∃e a' w',(∃s' aN,Q e s'/\Rel Γ s' a' w' aN)/\ArrivesIn (Machine.fenced Γ.P Γ.ec) Γ.P (lone (f.atR a (.code c :: .inLoop c::k)) cs w) f k cs e a' w'
theorem fh.OC {c:Code} {Q:Exit->AS Unit->Prop} (h:dT Γ c (qw (fh Γ c Q) Q) s):fh Γ c Q s:=by
 intro a w η hr f k cs qi hf eU;obtain⟨e,tT,tU,⟨s',aN,hq,eH⟩,gG⟩:=h a w η hr f (.inLoop c::k) cs qi hf eU
 cases e with
 |normal=>
  obtain⟨YT,YU,YV,Ot,BG⟩:=hq tT tU aN eH f k cs qi hf eU;exact⟨YT,YU,YV,Ot,.of_steps (StepsIn.trans gG (.one (fenced_calm hf eU rfl) stepR_inLoop)) BG⟩
 |exit id=>exact⟨_,tT,tU,⟨s',aN,hq,eH⟩,.pass (x:=.inLoop c) rfl (fun _ _=>.inl (by simp)) gG⟩
 |goto l=>exact⟨_,tT,tU,⟨s',aN,hq,eH⟩,.pass (x:=.inLoop c) rfl (fun _ _=>.inl (by simp)) gG⟩
 |ret=>exact⟨_,tT,tU,⟨s',aN,hq,eH⟩,.pass (x:=.inLoop c) rfl (fun _ _=>.inl (by simp)) gG⟩
 |panic ch=>exact⟨_,tT,tU,⟨s',aN,hq,eH⟩,.pass (x:=.inLoop c) rfl (fun _ _=>.inl (by simp)) gG⟩
 |outgrown=>exact⟨_,tT,tU,⟨s',aN,hq,eH⟩,.pass (x:=.inLoop c) rfl (fun _ _=>.inl (by simp)) gG⟩
theorem fh.oE {c:Code} {Q:Exit->AS Unit->Prop} (hw:cx Γ s s') (h:fh Γ c Q s'):fh Γ c Q s:=fun a w η hr=>let ⟨aN,eH⟩:=hw a w η hr;h a w aN eH
theorem fh.loop {c:Code} {Q:Exit->AS Unit->Prop} {β:Type} (I:β->Prop) (st:β->AS Unit) (μ:β->Nat)
  (round:∀b,I b->dT Γ c (qw (fun s'=>∃b',I b'/\cx Γ s' (st b')/\μ b' < μ b) Q) (st b)):∀(n:Nat) (b:β),I b->μ b=n->fh Γ c Q (st b):=by
 intro n
 induction n using Nat.strongRecOn with
 |_ n ih=>
  intro b YS hb;refine fh.OC ((round b YS).mono fun e s' h=>?_)
  cases e with
  |normal=>
   obtain⟨b',TB,hw,ak⟩:=h;exact fh.oE hw (ih (μ b') (hb▸ak) b' TB rfl)
  |_=>exact h
theorem dT.EA {c:Code} {Q:Exit->AS Unit->Prop} (h:fh Γ c Q s):dT Γ (.loop c) Q s:=by
 intro a w η hr f k cs qi hf eU;obtain⟨e,a',w',hq,gG⟩:=h a w η hr f k cs qi hf eU;exact⟨e,a',w',hq,.of_steps (.one (fenced_calm hf eU rfl) stepR_loop) gG⟩
def ofC:AV->vN
 | .ae (.int k _)=>.i k
 | .ae (.bool _)=>.b
 | .ae (.string _)=>.s
 | .ae (.slice none 0 0)=>.l
 | .sl _=>.l
 | .clip _=>.c
 | .eG (.i _)=>.m
 | .eG (.s _)=>.ms
 | .own r _=>.o r
 | .ptr r o=>.k (.ptr r o)
 | .mp r=>.k (.mp r)
 | .aY f cs=>.k (.aY f cs)
 | .fn _=>.fn
 |_=>.k .top
def aaX:List AV->List vN
 | []=>[]
 |x::l=>ofC x::aaX l
def ofV:AV->r4
 | .agg cs=>.a (aaX cs)
 |x=>.c (ofC x)
def Y1:List AV->List r4
 | []=>[]
 |x::l=>ofV x::Y1 l
def ofS:AV->Sh
 | .aL vs=>.t (Y1 vs)
 | .aY f vs=>.f f (Y1 vs)
 |x=>.v (ofV x)
def afq:AV->vN
 | .ae (.slice none 0 0)=>.k (.ae (.slice none 0 0))
 |x=>ofC x
def Xs:List AV->List vN
 | []=>[]
 |x::l=>afq x::Xs l
def ofO:af->kf
 | .dead=>.dead
 | .box cs=>.box (Xs cs)
 | .row e size _=>.row e size
 | .aQ e size _=>.aQ e size
 | .aJ (.i _)=>.aJ
 | .aJ (.s _)=>.fR
 | .cU r _=>.cU r
 | .dN e _ _=>.dN e
def LG:List af->List kf
 | []=>[]
 |o::l=>ofO o::LG l
def qB:List Nat->AS Unit->AS Unit
 | [],s=>s
 |r::l,s=>(match s.hp[r]? with
  |some (.aJ es)=>qB l ⟨fun t=>NR r es (s.tmps t),s.hp.set r .dead,s.g⟩
  |some (.aQ e size els)=>qB l ⟨s.tmps,s.hp.set r (.row e size els),s.g⟩
  |_=>qB l s)
theorem cx.OD (ax:Γ.Ok) {f:Nat->AV} {g:Unit} {r e size:Nat} {els:List AV} (hr:hp[r]?=some (.aQ e size els)):cx Γ ⟨f,hp,g⟩ ⟨f,hp.set r (.row e size els),g⟩:=by
 intro a w η h;have ak:r<η.length:=by have:=h.heap.len;simp only at this;rw[this];exact(alu.1 hr).1
 have hv:η[r]?=some η[r]:=by simp[ak]
 obtain⟨hz,xs,cy,cS⟩:=h.heap.obj r _ _ hr hv;have dR:η.set r η[r]=η:=by
  apply ams;intro i
  by_cases hi:r=i
  ·subst hi;rw[au hv,hv]
  ·rw[getElem?_set_ne hi]
 have hd:=Rel.change (w':=w) (o':=.row e size els) (v':=η[r]) ax h hr True.intro hv (bE.refl _ w) (fun b hb=>.inl hb) (fun k hk=>hk.elim) (fun _ _ _ _ hk _=>hk.elim) (fun _ _ _ _ hk _=>hk.elim)
  (fun n u ho=>by
   unfold aT at ho ⊢;simp only[hr] at ho;rw[dR];simp only[au hr]
   exact ho) (fun _ _=>rfl) (fun _ _=>rfl) (fun b' d eF hd=>by obtain⟨cur,h5⟩:=cy.lt eF;rw[h5] at hd;cases hd)
  (fun he=>⟨hz,xs,cy.more (alE _),fun i el hi=>⟨(cS i el hi).1,fun j x hj=>let ⟨u,q1,q2,q3⟩:=(cS i el hi).2 j x hj;⟨u,q1,q2.ext he.lN.ext,q3⟩⟩⟩)
 rw[dR] at hd;exact⟨η,hd⟩
theorem ja (ax:Γ.Ok):∀(l:List Nat) (s:AS Unit),cx Γ s (qB l s)
 | [],s=>.refl s
 |r::l,s=>by
  simp only[qB];split
  ·rename_i es hr;exact(cx.Xa ax hr).trans (ja ax l _)
  ·rename_i e size els hr;exact(cx.OD ax hr).trans (ja ax l _)
  ·exact ja ax l s
structure jb where
 key:Nat
 live:List (Nat×Option Sh)
 rows:List (Nat×Nat):=[]
 aaY:List (Nat×Nat):=[]
 kl:List (Nat×Nat×Nat):=[]
 cL:List (Nat×kf):=[]
 aaZ:Bool:=false
 OD:List Nat:=[]
 mv:List (Nat×Nat):=[]
 prm:List Sh:=[]
 mb:Bool:=false
def Kd (s:AS Unit):List (Nat×Option Sh)->List Sh
 | []=>[]
 |(_,some sh)::l=>sh::Kd s l
 |(t,none)::l=>ofS (s.tmps t)::Kd s l
def slotsOf:List (Nat×Option Sh)->List Nat
 | []=>[]
 |(t,_)::l=>t::slotsOf l
def Ae:List (Nat×kf)->List kf->List kf
 | [],l=>l
 |(r,o)::m,l=>Ae m (l.set r o)
def qY (tab:Nat->Option TD):List (Nat×Nat)->AS Unit->Option (AS Unit)
 | [],s=>some s
 |(t,e)::l,s=>(match s.tmps t,tab e with
  | .ae (.slice none 0 0),some d=>(match Nat.blt 0 d.size with
   |true=>qY tab l ⟨yZ s.tmps t (.own s.hp.length 0),s.hp++[.row e d.size []],s.g⟩
   |false=>none)
  | .own _ _,some _=>qY tab l s
  |_,_=>none)
theorem pO (ax:Γ.Ok) {tab:Nat->Option TD}:∀{l:List (Nat×Nat)} {s s':AS Unit},qY tab l s=some s'->cx Γ s s'
 | [],s,s',h=>by simp only[qY,als] at h;subst h;exact .refl _
 |(t,e)::l,s,s',h=>by
  simp only[qY] at h;split at h
  ·rename_i d ht hd;split at h
   ·rename_i bN;exact(cx.row ax t e d.size (alZ (show Nat.ble (0+1) d.size=true from bN)) ht).trans (pO ax h)
   ·cases h
  ·exact pO ax h
  ·cases h
def pP (tab:Nat->Option TD):List (Nat×Nat)->AS Unit->Option (AS Unit)
 | [],s=>some s
 |(t,e)::l,s=>(match s.tmps t,tab e with
  | .ae (.slice none 0 0),some d=>(match Nat.blt 0 d.size with
   |true=>pP tab l ⟨yZ s.tmps t (.own s.hp.length 0),s.hp++[.aQ e d.size []],s.g⟩
   |false=>none)
  | .own _ _,some _=>pP tab l s
  |_,_=>none)
theorem qZ (ax:Γ.Ok) {tab:Nat->Option TD}:∀{l:List (Nat×Nat)} {s s':AS Unit},pP tab l s=some s'->cx Γ s s'
 | [],s,s',h=>by simp only[pP,als] at h;subst h;exact .refl _
 |(t,e)::l,s,s',h=>by
  simp only[pP] at h;split at h
  ·rename_i d ht hd;split at h
   ·rename_i bN;exact(cx.Nt (M:=true) ax t e d.size (alZ (show Nat.ble (0+1) d.size=true from bN)) ht).trans (qZ ax h)
   ·cases h
  ·exact qZ ax h
  ·cases h
def nk (M:Bool) (tab:Nat->Option TD):List (Nat×Nat×Nat)->AS Unit->Option (AS Unit)
 | [],s=>some s
 |(r,k,e)::l,s=>(match s.hp[r]?,tab e with
  |some (.box cs),some d=>(match cs[k]? with
   |some (.ae (.slice none 0 0))=>(match Nat.blt 0 d.size with
    |true=>nk M tab l ⟨s.tmps,s.hp.set r (.box (cs.set k (.own s.hp.length 0)))++[ea M e d.size []],s.g⟩
    |false=>none)
   |_=>none)
  |_,_=>none)
theorem nm (ax:Γ.Ok) {M:Bool} {tab:Nat->Option TD}:∀{l:List (Nat×Nat×Nat)} {s s':AS Unit},nk M tab l s=some s'->cx Γ s s'
 | [],s,s',h=>by simp only[nk,als] at h;subst h;exact .refl _
 |(r,k,e)::l,s,s',h=>by
  simp only[nk] at h;split at h
  ·rename_i cs d hb hd;split at h
   ·rename_i hk;split at h
    ·rename_i bN;exact(cx.Yd ax r k e d.size (alZ (show Nat.ble (0+1) d.size=true from bN)) hb hk).trans (nm ax h)
    ·cases h
   ·cases h
  ·cases h
def EB:List (Nat×Nat)->AS Unit->List Prop×AS Unit
 | [],s=>([],s)
 |p::l,s=>(match Nat.ble 1000000 p.1 with
  |true=>(((s.tmps p.2).bG s.hp).1++(EB l ⟨yZ s.tmps p.2 ((s.tmps p.2).bG s.hp).2,s.hp,s.g⟩).1,(EB l ⟨yZ s.tmps p.2 ((s.tmps p.2).bG s.hp).2,s.hp,s.g⟩).2)
  |false=>EB l s)
theorem BP (ax:Γ.Ok):∀(l:List (Nat×Nat)) (s:AS Unit),dQ (EB l s).1->cx Γ s (EB l s).2
 | [],s,_=>.refl s
 |p::l,s,h=>by
  simp only[EB] at h ⊢;split at h
  ·rename_i hp;simp only[bF] at h;refine cx.trans (fun a w η hr=>?_) (BP ax l _ h.2);refine⟨η,hr.nt,fun u=>?_,hr.heap,hr.bM,hr.keeps,hr.inv,hr.marks,hr.ext⟩;show bm w _ _ _ (yZ s.tmps p.2 _ u) _;rw[fc];split
   ·rename_i hu;subst hu;rw[<-cO h.1];exact(ff hr.heap hr.bM (hr.tmps _)).lift
   ·exact hr.tmps u
  ·rename_i hp;exact BP ax l s h
def OE (mv:List (Nat×Nat)) (dL:List Nat) (nX:List Sh) (cL:List kf) (again:TS nX×TO cL->Prop) (Q:Exit->AS Unit->Prop):Exit->AS Unit->Prop
 | .normal,s=>fC (EB mv (mvS mv s)).1 (match HR dL nX cL (EB mv (mvS mv s)).2 with
  |some (p,z)=>fC p (again z)
  |none=>False)
 |e,s=>Q e s
def xz (n0:Nat) (mv:List (Nat×Nat)) (dL:List Nat) (nX:List Sh) (cL:List kf) (body:(Exit->AS Unit->Prop)->AS Unit->Prop) (Q:Exit->AS Unit->Prop) (s:AS Unit):Prop:=
 match Nat.ble n0 cL.length&&(LD cL.length nX&&HQ cL.length cL)&&TA n0 mv with
 |false=>False
 |true=>(match HR dL nX cL s with
  |some (p,z)=>fC p (av (TS nX×TO cL) z fun z again=>body (OE mv dL nX cL again Q) (LF dL nX cL z))
  |none=>False)
def OG (l:List Nat) (Q:Exit->AS Unit->Prop) (e:Exit) (s:AS Unit):Prop:=
 match l with
 | []=>Q e s
 |_=>Q e (qB l s)
theorem fh.pQ {c:Code} {Q Q':Exit->AS Unit->Prop} (h:fh Γ c Q s) (hq:∀e s,Q e s->∃s2,cx Γ s s2/\Q' e s2):fh Γ c Q' s:=
 fun a w η hr f k cs h1 h2 h3=>by
  obtain⟨e,a',w',⟨s',aN,q1,q2⟩,q3⟩:=h a w η hr f k cs h1 h2 h3;obtain⟨s2,hw,q4⟩:=hq e s' q1;obtain⟨jQ,q5⟩:=hw _ _ _ q2;exact⟨e,a',w',⟨s2,jQ,q4,q5⟩,q3⟩
theorem fh.OD (ax:Γ.Ok) {c:Code} {l:List Nat} {Q:Exit->AS Unit->Prop} (h:fh Γ c (OG l Q) s):fh Γ c Q s:=
 h.pQ fun e s' hq=>by
  unfold OG at hq;split at hq
  ·exact⟨_,.refl _,hq⟩
  ·exact⟨_,ja ax _ _,hq⟩
def xA (tab:Nat->Option TD) (n0:Nat) (A:jb) (body:(Exit->AS Unit->Prop)->AS Unit->Prop) (Q:Exit->AS Unit->Prop) (s:AS Unit):Prop:=
 match qY tab A.rows s with
 |none=>False
 |some s0=>(match pP tab A.aaY s0 with
  |none=>False
  |some s1=>(match nk A.mb tab A.kl s1 with
   |none=>False
   |some s2=>xz n0 A.mv (slotsOf A.live) (Kd s2 A.live) (Ae A.cL (LG s2.hp)) body (OG A.OD Q) s2))
theorem xz.sound (ax:Γ.Ok) {n0:Nat} (l8:Γ.jR.length=n0) {mv:List (Nat×Nat)} {dL:List Nat} {nX:List Sh} {cL:List kf} {c:Code} {body:(Exit->AS Unit->Prop)->AS Unit->Prop} {Q:Exit->AS Unit->Prop} {s:AS Unit}
  (hb:∀Q s,body Q s->dT Γ c Q s) (h:xz n0 mv dL nX cL body Q s):fh Γ c Q s:=by
 unfold xz at h;split at h
 ·exact h.elim
 rename_i Eo;rw[alB,alB] at Eo;obtain⟨Eo,MS⟩:=Eo;rw[<-l8] at MS;have hn:Γ.jR.length<=cL.length:=by rw[l8];exact alZ Eo.1
 split at h
 ·rename_i p z hz;rw[bt] at h;obtain⟨hp,β,E,I,μ,b0,MQ,hI,hr⟩:=h;have hw:=BO ax hz hp hn Eo.2;rw[MQ] at hw;refine fh.oE hw (fh.loop I (fun b=>LF dL nX cL (E b)) μ (fun b YS=>?_) _ b0 hI rfl);refine(hb _ _ (hr b YS)).mono fun e s1 h1=>?_
  cases e with
  |normal=>
   simp only[OE] at h1;rw[bt] at h1;obtain⟨JF,h1⟩:=h1;split at h1
   ·rename_i p1 z1 N0;rw[bt] at h1;obtain⟨fG,b',eF,TB,ak⟩:=h1;have hw1:=((Oy ax mv s1 MS).trans (BP ax mv _ JF)).trans (BO ax N0 fG hn Eo.2);rw[eF] at hw1;exact⟨b',TB,hw1,ak⟩
   ·exact h1.elim
  |_=>exact h1
 ·exact h.elim
theorem xA.sound (ax:Γ.Ok) {tab:Nat->Option TD} {n0:Nat} (l8:Γ.jR.length=n0) {A:jb} {c:Code} {body:(Exit->AS Unit->Prop)->AS Unit->Prop} {Q:Exit->AS Unit->Prop} {s:AS Unit}
  (hb:∀Q s,body Q s->dT Γ c Q s) (h:xA tab n0 A body Q s):fh Γ c Q s:=by
 unfold xA at h;split at h
 ·exact h.elim
 ·rename_i s0 h0;split at h
  ·exact h.elim
  ·rename_i s1 h1;split at h
   ·exact h.elim
   ·rename_i s2 h2;exact fh.oE (((pO ax h0).trans (qZ ax h1)).trans (nm ax h2)) ((xz.sound ax l8 hb h).OD ax)
def ko:Code->Option Nat
 | .region id _ _=>some id
 | .seq x y=>(match ko x with|some k=>some k|none=>ko y)
 | .cond _ x y=>(match ko x with|some k=>some k|none=>ko y)
 | .block _ x=>ko x
 | .loop x=>ko x
 | .rangeFunc _ _ x y=>(match ko x with|some k=>some k|none=>ko y)
 |_=>none
def Ke:List jb->Nat->Option jb
 | [],_=>none
 |A::l,k=>(match Nat.beq A.key k with|true=>some A|false=>Ke l k)
def nn (τ α:Type) (y0:τ) (S:List α->Prop) (round:α->τ->(τ->Prop)->Prop) (after:τ->Prop):Prop:=
 ∃(Ls:List α) (I:List α->τ->Prop),S Ls/\I Ls y0/\(∀e rest y,I (e::rest) y->round e y (I rest))/\∀y,I [] y->after y
def uQ (P:Program) (gf:Nat) (caps:List AV) (prm:List Sh) (Ls:List (TS prm)):Prop:=
 zi P gf (fun v=>v::caps) (Ls.map fun e=>vQ [] prm e) false
def BQ (cL:List kf) (again:TO cL->Prop) (Q:Exit->AS Unit->Prop) (f:Nat->AV):Exit->AS Unit->Prop
 | .normal,s=>(match uN (qT (s.hp.take cL.length)) cL (s.hp.take cL.length) with
  |some (p,y)=>fC p (again y)
  |none=>False)
 | .ret,s=>Q .ret ⟨f,s.hp,()⟩
 | .exit id,s=>Q (.exit id) ⟨f,s.hp,()⟩
 |_,_=>False
def psB (nt:Nat):List Nat->Bool
 | []=>true
 |p::l=>Nat.blt p nt&&psB nt l
theorem OH {nt:Nat}:∀{l:List Nat},psB nt l=true->∀p∈l,p<nt
 | [],_,p,hp=>by cases hp
 |q::l,h,p,hp=>by
  simp only[psB,alB] at h;rcases al6.1 hp with rfl|hp
  ·exact alZ (show Nat.ble (p+1) nt=true from h.1)
  ·exact OH h.2 p hp
def sq (C:cJ) (n0:Nat) (cL:List kf) (prm:List Sh) (g:Operand) (ps:Array Tmp) (xv body:(Exit->AS Unit->Prop)->AS Unit->Prop) (Q:Exit->AS Unit->Prop) (s:AS Unit):Prop:=
 match s.ev g with
 | .aY gf caps=>(match psB C.nt ps.toList&&(Nat.beq ps.toList.length prm.length&&(Nat.ble n0 cL.length&&(Nat.beq cL.length s.hp.length&&HQ cL.length cL))) with
  |false=>False
  |true=>(match uN (qT s.hp) cL s.hp with
   |some (p,y)=>fC p (fC (cE (AV.kg 0 (ni (fS cL y) cL y)) caps).1 (nn (TO cL) (TS prm) y (fun Ls=>uQ C.P gf (cE (AV.kg 0 (ni (fS cL y) cL y)) caps).2 prm Ls)
     (fun e y again=>xv (qw (body (BQ cL again Q s.tmps)) noQ) ⟨si ps.toList (vQ [] prm e) s.tmps,ni (fS cL y) cL y,()⟩)
     (fun y=>Q .normal ⟨s.tmps,ni (fS cL y) cL y,()⟩)))
   |none=>False))
 |_=>False
def xB (C:cJ) (A:jb) (n0:Nat) (g:Operand) (ps:Array Tmp) (xv body:Nat->(Exit->AS Unit->Prop)->AS Unit->Prop) (Q:Exit->AS Unit->Prop) (s:AS Unit):Prop:=
 match nk A.mb C.tab A.kl s with
 |none=>False
 |some s1=>sq C n0 (Ae A.cL (LG s1.hp)) A.prm g ps (xv (Ae A.cL (LG s1.hp)).length) (body (Ae A.cL (LG s1.hp)).length) Q s1
theorem EC:∀{l:List Sh} {t:TS l},(vQ [] l t).length=l.length
 | [],_=>rfl
 |_::l,t=>by simp[vQ,EC (l:=l)]
theorem sq.sound (ax:Γ.Ok) (cG:Γ.Dn) {C:cJ} (hP:C.P=Γ.P) (cW:C.nt=Γ.nt) {n0:Nat} (l8:Γ.jR.length=n0) {cL:List kf} {prm:List Sh} {g:Operand} {ps:Array Tmp} {ca cb:Code} {xv body:(Exit->AS Unit->Prop)->AS Unit->Prop} {Q:Exit->AS Unit->Prop} {s:AS Unit}
  (ha:∀kG,hM Γ cL.length kG->∀Q s,xv Q s->dT kG ca Q s) (hb:∀kG,hM Γ cL.length kG->∀Q s,body Q s->dT kG cb Q s) (h:sq C n0 cL prm g ps xv body Q s):dT Γ (.rangeFunc g ps ca cb) Q s:=by
 unfold sq at h;split at h
 ·rename_i gf caps hg;split at h
  ·exact h.elim
  rename_i Eo;simp only[alB] at Eo;obtain⟨J5,Jy,hle,hln,dx⟩:=Eo;have ajB:=alT hln;split at h
  ·rename_i p y hy;rw[bt,bt] at h;obtain⟨hp,aa0,Ls,I,hS,hI,qV,Y2⟩:=h;obtain⟨f,OI,gg⟩:=s;obtain⟨h3,h4⟩:=sf (lens':=[]) hy hp;rw[<-h4] at h3;have hw:cx Γ ⟨f,OI,gg⟩ ⟨f,ni (fS cL y) cL y,()⟩:=cx.YY h3;refine dT.oE hw ?_;have Y3:caps.map (AV.qQ 0 (ni (fS cL y) cL y))=(cE (AV.kg 0 (ni (fS cL y) cL y)) caps).2:=cf (fun x=>oS) _ aa0;refine dT.range (s:=⟨f,ni (fS cL y) cL y,()⟩) ax cG (gf:=gf) (caps:=caps) (L:=Ls.map fun e=>vQ [] prm e) hg (by rw[Y3,<-hP];exact hS) (fun x hx=>?_) (fun q hq=>by rw[<-cW];exact OH J5 q hq)
    (fun rest hp=>∃OJ y,rest=OJ.map (fun e=>vQ [] prm e)/\I OJ y/\hp=ni (fS cL y) cL y) ⟨Ls,y,rfl,hI,rfl⟩ (fun x rest hp ⟨OJ,y',he,TB,Br⟩=>?_) fun hp ⟨OJ,y',he,TB,Br⟩=>?_
   ·obtain⟨e,_,rfl⟩:=amz.1 hx;rw[EC,<-alT Jy];simp
   ·cases OJ with
    |nil=>cases he
    |cons e OJ=>
     simp only[al3,List.cons.injEq] at he;obtain⟨rfl,rfl⟩:=he;subst Br;have A7:(ni (fS cL y') cL y').length=cL.length:=sn;refine⟨fun s1=>body (BQ cL (I OJ) Q f) s1,fun kG HS=>?_,fun s1 ZR kG HS=>?_⟩
     ·rw[A7] at HS;exact ha kG HS _ _ (qV e OJ y' TB)
     ·rw[A7] at HS;refine(hb kG HS _ _ ZR).mono fun e s2 hq=>?_
      cases e with
      |normal=>
       simp only[BQ] at hq;split at hq
       ·rename_i p2 y2 Y4;rw[bt] at hq;obtain⟨k3,k4⟩:=sf (lens':=[]) Y4 hq.1;rw[<-k4] at k3;refine⟨ni (fS cL y2) cL y2,?_,OJ,y2,rfl,hq.2,rfl⟩;obtain⟨f2,mO,g2⟩:=s2;have h6:eg mO (ni (fS cL y2) cL y2++mO.drop cL.length):=by
         have:=eg.append k3 (eg.refl (mO.drop cL.length))
         rwa [amk] at this
        refine(cx.YY (Γ:=kG) (f:=f2) (g:=g2) h6).trans (cx.cut HS.ok cL.length (by rw[HS.h0];exact alA _) Sub.nil nU.nil ?_ (BN dx));have:=sn (lens:=fS cL y2) (l:=cL) (t:=y2);rw[<-this,anw]
       ·exact hq.elim
      |ret=>exact hq
      |exit id=>exact hq
      |_=>exact hq.elim
   ·cases OJ with
    |nil=>subst Br;exact Y2 y' TB
    |cons e OJ=>cases he
  ·exact h.elim
 ·exact h.elim
theorem xB.sound (ax:Γ.Ok) (cG:Γ.Dn) {C:cJ} (hP:C.P=Γ.P) (cW:C.nt=Γ.nt) {A:jb} {n0:Nat} (l8:Γ.jR.length=n0) {g:Operand} {ps:Array Tmp} {ca cb:Code} {xv body:Nat->(Exit->AS Unit->Prop)->AS Unit->Prop} {Q:Exit->AS Unit->Prop} {s:AS Unit}
  (ha:∀n kG,hM Γ n kG->∀Q s,xv n Q s->dT kG ca Q s) (hb:∀n kG,hM Γ n kG->∀Q s,body n Q s->dT kG cb Q s) (h:xB C A n0 g ps xv body Q s):dT Γ (.rangeFunc g ps ca cb) Q s:=by
 unfold xB at h;split at h
 ·exact h.elim
 ·rename_i s1 h1;exact dT.oE (nm ax h1) (sq.sound ax cG hP cW l8 (fun kG hr=>ha _ kG hr) (fun kG hr=>hb _ kG hr) h)
def aa1:List (Nat×mq)->Nat->Option mq
 | [],_=>none
 |p::l,k=>(match Nat.beq p.1 k with|true=>some p.2|false=>aa1 l k)
def hcD (l:List (Nat×List Nat)) (id:Nat):List Nat:=
 match Tp l id with
 |some p=>p
 |none=>[]
def drD (l:List (Nat×List (Option (List Nat))×List (Option (List Nat)))) (id:Nat):List (Option (List Nat))×List (Option (List Nat)):=
 match YO l id with
 |some p=>p
 |none=>([],[])
def dA (C:cJ) (L:List jb):Code->Nat->Bool->(Exit->AS Unit->Prop)->AS Unit->Prop
 | .skip,n0,fr,Q,s=>Q .normal s
 | .region id ops draw,n0,fr,Q,s=>(match draw with
  |false=>Em C id ops.toList (Q .normal) s
  |true=>(match aa1 C.br id with
  |some pl=>okB (Nat.ble pl.depth ops.toList.length) (ib C (hcD C.hc id) ops.toList (l9 ops.toList []) (drD C.dr id).1 (drD C.dr id).2 (Q .normal) pl (qX ops.toList) s)
  |none=>match YO C.dr id with
   |some p=>(match Tp C.hc id with
    |some hs=>okB (v8 (bn hs) p.1 p.2 ops.toList) (qA C hs ops.toList p.1 p.2 (Q .normal) 0 ops.toList s)
    |none=>okB (vZ p.1 p.2 ops.toList) (sa C ops.toList p.1 p.2 (Q .normal) 0 ops.toList s))
   |none=>(match Tp C.hc id with
    |some hs=>okB (v7 (bn hs) ops.toList) (qz C hs ops.toList (Q .normal) ops.toList s)
    |none=>okB (w5 ops.toList) (r9 C ops.toList (Q .normal) ops.toList s))))
 | .seq x y,n0,fr,Q,s=>dA C L x n0 fr (qw (dA C L y n0 fr Q) Q) s
 | .cond c x y,n0,fr,Q,s=>(match s.ev c with
  | .ae (.bool b)=>ah b (dA C L x n0 fr Q s) (dA C L y n0 fr Q s)
  |_=>False)
 | .block id c,n0,fr,Q,s=>dA C L c n0 fr (wY id Q) s
 | .loop c,n0,fr,Q,s=>(match ko c with
  |some k=>(match Ke L k with
   |some A=>(match A.aaZ with
    |false=>xA C.tab n0 A (dA C L c n0 fr) Q s
    |true=>dA C L c n0 fr (qw (xA C.tab n0 A (dA C L c n0 fr) Q) Q) s)
   |none=>False)
  |none=>False)
 | .rangeFunc g ps xv body,n0,fr,Q,s=>(match fr with
  |true=>(match ko body with
   |some k=>(match Ke L k with
    |some A=>xB C A n0 g ps (fun n=>dA C L xv n false) (fun n=>dA C L body n false) Q s
    |none=>False)
   |none=>False)
  |false=>False)
 | .exit id,n0,fr,Q,s=>Q (.exit id) s
 | .label _,n0,fr,Q,s=>Q .normal s
 | .ret,n0,fr,Q,s=>Q .ret s
 |_,_,_,_,_=>False
theorem HT {N N':AS Unit->Prop} {Q:Exit->AS Unit->Prop} (h:∀s,N s->N' s) (e:Exit) (s:AS Unit) (hq:qw N Q e s):qw N' Q e s:=by
 cases e with
 |normal=>exact h s hq
 |_=>exact hq
theorem dA.sound {C:cJ} (hm:C.P.follows .mixedOrders=true) {L:List jb}:∀(c:Code) (Γ:Env Unit) (_:Γ.Ok) (_:C.P=Γ.P) (_:aZ Γ.P C.tab) (_:C.nt=Γ.nt) (n0:Nat) (_:Γ.jR.length=n0) (fr:Bool) (_:fr=true->Γ.Dn) (Q:Exit->AS Unit->Prop) (s:AS Unit),dA C L c n0 fr Q s->dT Γ c Q s:=by
 intro c
 induction c with
 |skip=>intro Γ ax hP aj cW n0 l8 fr qq Q s h;exact dT.skip h
 |region id ops draw=>
  intro Γ ax hP aj cW n0 l8 fr qq Q s h;have e:ops=ops.toList.toArray:=by simp
  simp only[dA] at h;rw[e];split at h
  ·intro a w η hr;exact wpIn_region_lit (Em.sound ax hP aj cW h a w η _ (fun s' a' w' aN h1 h2=>⟨s',aN,h1,h2⟩) hr)
  ·split at h
   ·obtain⟨hd,h⟩:=bT h;exact dT.aaV ax hP aj cW (by rw[<-hP];exact hm) hd h
   split at h
   ·rename_i p hp;split at h
    ·obtain⟨hd,h⟩:=bT h;exact dT.aax ax (by rw[<-hP];exact hm) p.1 p.2 hd (qA.sound ax hP aj cW _ 0 s h)
    obtain⟨hd,h⟩:=bT h;exact dT.aao ax aj cW (by rw[<-hP];exact hm) p.1 p.2 hd (sa.sound ax hP aj cW _ 0 s h)
   ·split at h
    ·obtain⟨hd,h⟩:=bT h;exact dT.aaw ax (by rw[<-hP];exact hm) hd (qz.sound ax hP aj cW _ s h)
    ·obtain⟨hd,h⟩:=bT h;exact dT.aaj ax aj cW (by rw[<-hP];exact hm) hd (r9.sound ax hP aj cW _ s h)
 |seq x y Y5 Y6=>
  intro Γ ax hP aj cW n0 l8 fr qq Q s h;refine dT.aeE fun K hK=>(Y5 Γ ax hP aj cW n0 l8 fr qq _ s h).mono fun e s' hq=>?_;exact HT (fun s'' h''=>hK s'' (Y6 Γ ax hP aj cW n0 l8 fr qq _ s'' h'')) e s' hq
 |cond c x y Y5 Y6=>
  intro Γ ax hP aj cW n0 l8 fr qq Q s h;simp only[dA] at h;split at h
  ·rename_i b hb;exact dT.aai hb (fun ht=>Y5 Γ ax hP aj cW n0 l8 fr qq _ s (h.elim.1 ht)) fun ht=>Y6 Γ ax hP aj cW n0 l8 fr qq _ s (h.elim.2 ht)
  ·exact h.elim
 |block id c ih=>intro Γ ax hP aj cW n0 l8 fr qq Q s h;exact dT.block (ih Γ ax hP aj cW n0 l8 fr qq _ s h)
 |loop c ih=>
  intro Γ ax hP aj cW n0 l8 fr qq Q s h;simp only[dA] at h;split at h
  ·split at h
   ·split at h
    ·exact dT.EA (xA.sound ax l8 (ih Γ ax hP aj cW n0 l8 fr qq) h)
    ·exact dT.EA (fh.OC ((ih Γ ax hP aj cW n0 l8 fr qq _ s h).mono fun e s' hq=>by
      cases e with
      |normal=>exact xA.sound ax l8 (ih Γ ax hP aj cW n0 l8 fr qq) hq
      |_=>exact hq))
   ·exact h.elim
  ·exact h.elim
 |rangeFunc g ps xv body iha ihb=>
  intro Γ ax hP aj cW n0 l8 fr qq Q s h;simp only[dA] at h;split at h
  ·split at h
   ·split at h
    ·refine xB.sound ax (qq rfl) hP cW l8 (fun n kG hr Q s h=>?_) (fun n kG hr Q s h=>?_) h
     ·exact iha kG hr.ok (by rw[hr.hP,hP]) (by rw[hr.hP];exact aj) (by rw[hr.nt,cW]) n hr.h0 false (fun h=>by cases h) _ s h
     ·exact ihb kG hr.ok (by rw[hr.hP,hP]) (by rw[hr.hP];exact aj) (by rw[hr.nt,cW]) n hr.h0 false (fun h=>by cases h) _ s h
    ·exact h.elim
   ·exact h.elim
  ·exact h.elim
 |exit id=>intro Γ ax hP aj cW n0 l8 fr qq Q s h;exact dT.exit h
 |label l=>intro Γ ax hP aj cW n0 l8 fr qq Q s h;exact dT.label h
 |ret=>intro Γ ax hP aj cW n0 l8 fr qq Q s h;exact dT.ret h
 |_=>intro Γ ax hP aj cW n0 l8 fr qq Q s h;exact h.elim
def np (k:Nat):Nat->List Nat
 |0=>[]
 |n+1=>k::np (k+1) n
theorem dT.pQ {c:Code} {Q Q':Exit->AS Unit->Prop} (h:dT Γ c Q s) (hq:∀e s,Q e s->∃s2,cx Γ s s2/\Q' e s2):dT Γ c Q' s:=
 fun a w η hr=>wpIn_mono (h a w η hr) fun e a' w' ⟨s',aN,h1,h2⟩=>by
  obtain⟨s2,hw,h3⟩:=hq e s' h1;obtain⟨jQ,h4⟩:=hw _ _ _ h2;exact⟨s2,jQ,h3,h4⟩
def AV.xC (hp:List af):AV->List Prop×AV
 | .ptr r 0=>(match hp[r]? with
  |some (.box cs)=>((cE (AV.jq hp) cs).1,.aS (DI (cE (AV.jq hp) cs).2) 0)
  |_=>([],.top))
 |x=>x.fg hp
theorem LH {hp:List af} {x:AV} (hc:dQ (x.xC hp).1):x.JC hp=(x.xC hp).2:=by
 cases x with
 |ptr r o=>
  cases o with
  |zero=>
   simp only[AV.JC,AV.xC] at hc ⊢
   cases hr:hp[r]? with
   |none=>rfl
   |some o=>
    cases o with
    |box cs=>
     simp only[hr] at hc ⊢;rw[cf (g:=AV.dS hp) (fun x=>mm) _ hc]
    |_=>rfl
  |succ n=>exact iC hc
 |_=>exact iC hc
def AV.oZ (hp:List af):AV->List Prop×AV
 | .aY f cs=>((cE (AV.xC hp) cs).1,.aY f (cE (AV.xC hp) cs).2)
 |x=>x.bG hp
theorem ED {hp:List af} {x:AV} (hc:dQ (x.oZ hp).1):x.pK hp=(x.oZ hp).2:=by
 cases x with
 |aY f cs=>simp only[AV.oZ,AV.pK] at hc ⊢;rw[cf (fun x=>LH) _ hc]
 |_=>exact cO hc
def HU (tab:Nat->Option TD) (rs:List ResultVar) (R:AV->Prop) (s:AS Unit):Prop:=
 match ee tab s rs with
 |some l=>fC ((gm l).oZ s.hp).1 (R ((gm l).oZ s.hp).2)
 |none=>False
def TC (tab:Nat->Option TD) (rs:List ResultVar) (R:AV->Prop):Exit->AS Unit->Prop
 | .normal,s=>HU tab rs R (qB (np 0 s.hp.length) s)
 | .ret,s=>HU tab rs R (qB (np 0 s.hp.length) s)
 |_,_=>False
theorem HU.sound {tab:Nat->Option TD} {rs:List ResultVar} {R:AV->Prop} {s:AS Unit} (h:HU tab rs R s):∃l,ee tab s rs=some l/\R ((gm l).pK s.hp):=by
 unfold HU at h;split at h
 ·rename_i l hl;rw[bt] at h;exact⟨l,hl,by rw[ED h.1];exact h.2⟩
 ·exact h.elim
theorem BR {C:cJ} (aj:aZ C.P C.tab) (hm:C.P.follows .mixedOrders=true) {L:List jb} {f:FuncId} {fn:Func} {c:Code} {args:List AV} {R:AV->Prop} (hf:C.P.funcs[f]?=some fn) (hb:fn.body=some c)
  (fD:(fn.name == "runtime.NumGoroutine")=false) (hn:Nat.ble args.length fn.ntmps=true) (cW:C.nt=fn.ntmps) (h:dA C L c 0 true (TC C.tab fn.results.toList R) ⟨cI 0 args,[],()⟩):Pure C.P f args R:=by
 refine Bp aj hf hb fD (alZ hn) fun Γ ax hP OK hh0 cG=>?_;refine(dA.sound hm c Γ ax hP.symm (by rw[hP];exact aj) (by rw[cW,OK]) _ hh0 true (fun _=>cG) _ _ h).pQ fun e s' hq=>?_
 cases e with
 |normal=>obtain⟨l,h1,h2⟩:=HU.sound hq;exact⟨_,ja ax (np 0 s'.hp.length) s',by simp only[Nq,h1];exact h2⟩
 |ret=>obtain⟨l,h1,h2⟩:=HU.sound hq;exact⟨_,ja ax (np 0 s'.hp.length) s',by simp only[Nq,h1];exact h2⟩
 |_=>exact hq.elim
theorem EE {C:cJ} (aj:aZ C.P C.tab) (hm:C.P.follows .mixedOrders=true) {L:List jb} {f:FuncId} {fn:Func} {c:Code} {args:List AV} {e size:Nat} {els:List AV} (hf:C.P.funcs[f]?=some fn) (hb:fn.body=some c)
  (fD:(fn.name == "runtime.NumGoroutine")=false) (hn:Nat.ble args.length fn.ntmps=true) (cW:C.nt=fn.ntmps) (h:dA C L c 0 true (NV C.tab fn.results.toList e size els) ⟨cI 0 args,[],()⟩):MY C.P f args e size els:=by
 refine D7 aj hf hb fD (alZ hn) fun Γ ax hP OK hh0 cG=>?_;exact dA.sound hm c Γ ax hP.symm (by rw[hP];exact aj) (by rw[cW,OK]) _ hh0 true (fun _=>cG) _ _ h
def AV.Af (n:Nat) (hp:List af) (x:AV):List Prop×AV:=
 match x.aW n with
 |true=>([],x)
 |false=>x.jq hp
def AV.Ag (n:Nat) (hp:List af):AV->List Prop×AV
 | .agg cs=>((cE (AV.Af n hp) cs).1,.agg (cE (AV.Af n hp) cs).2)
 |x=>x.Af n hp
def AV.OL (n:Nat) (hp:List af):AV->List Prop×AV
 | .aL cs=>((cE (AV.Ag n hp) cs).1,.aL (cE (AV.Ag n hp) cs).2)
 |x=>x.Ag n hp
theorem EF {n:Nat} {x:AV} (hc:dQ (x.Af n hp).1):x.Lm n hp=(x.Af n hp).2:=by
 unfold AV.Lm AV.Af at *
 cases h:x.aW n with
 |true=>simp
 |false=>rw[h] at hc;simp only[alQ,if_false];exact mm hc
theorem EG {n:Nat} {x:AV} (hc:dQ (x.Ag n hp).1):x.Nv n hp=(x.Ag n hp).2:=by
 cases x with
 |agg cs=>simp only[AV.Ag,AV.Nv] at hc ⊢;rw[cf (fun x=>EF) _ hc]
 |_=>exact EF hc
theorem TE {n:Nat} {x:AV} (hc:dQ (x.OL n hp).1):x.out n hp=(x.OL n hp).2:=by
 cases x with
 |aL cs=>simp only[AV.OL,AV.out] at hc ⊢;rw[cf (fun x=>EG) _ hc]
 |_=>exact EG hc
def xD (tab:Nat->Option TD) (n:Nat) (rs:List ResultVar) (R:AV->List af->Prop) (s:AS Unit):Prop:=
 match ee tab s rs with
 |some l=>okB ((s.hp.take n).all (af.closed n)) (fC ((gm l).OL n s.hp).1 (R ((gm l).OL n s.hp).2 (s.hp.take n)))
 |none=>False
def Kf (tab:Nat->Option TD) (n:Nat) (rs:List ResultVar) (R:AV->List af->Prop):Exit->AS Unit->Prop
 | .normal,s=>xD tab n rs R (qB (np n (s.hp.length-n)) s)
 | .ret,s=>xD tab n rs R (qB (np n (s.hp.length-n)) s)
 |_,_=>False
theorem xD.sound {tab:Nat->Option TD} {n:Nat} {rs:List ResultVar} {R:AV->List af->Prop} {s:AS Unit} (h:xD tab n rs R s):
  ∃l,ee tab s rs=some l/\(∀o∈s.hp.take n,af.closed n o=true)/\R ((gm l).out n s.hp) (s.hp.take n):=by
 unfold xD at h;split at h
 ·rename_i l hl;obtain⟨hb,h⟩:=bT h;rw[bt] at h;exact⟨l,hl,fun o ho=>alK.1 hb o ho,by rw[TE h.1];exact h.2⟩
 ·exact h.elim
theorem vR {C:cJ} (aj:aZ C.P C.tab) (hm:C.P.follows .mixedOrders=true) {L:List jb} {f:FuncId} {fn:Func} {c:Code} {args:List AV} {hp:List af} {R:AV->List af->Prop} (m:Nat) (Bb:Nat.ble hp.length m=true) (hf:C.P.funcs[f]?=some fn) (hb:fn.body=some c)
  (fD:(fn.name == "runtime.NumGoroutine")=false) (hn:Nat.ble args.length fn.ntmps=true) (cW:C.nt=fn.ntmps) (h:dA C L c hp.length true (Kf C.tab m fn.results.toList R) ⟨cI 0 args,hp,()⟩):bH C.P f args hp R:=by
 refine vK aj m (alZ Bb) hf hb fD (alZ hn) fun Γ ax hP OK hh0 cG=>?_;refine(dA.sound hm c Γ ax hP.symm (by rw[hP];exact aj) (by rw[cW,OK]) _ hh0 true (fun _=>cG) _ _ h).pQ fun e s' hq=>?_
 cases e with
 |normal=>obtain⟨l,h1,h2,h3⟩:=xD.sound hq;exact⟨_,ja ax (np m (s'.hp.length-m)) s',by simp only[Nw,h1];exact⟨h2,h3⟩⟩
 |ret=>obtain⟨l,h1,h2,h3⟩:=xD.sound hq;exact⟨_,ja ax (np m (s'.hp.length-m)) s',by simp only[Nw,h1];exact⟨h2,h3⟩⟩
 |_=>exact hq.elim
abbrev nI (n:Int):AV:=.ae (.int .i64 n)
abbrev nB (b:Bool):AV:=.ae (.bool b)
abbrev nS (s:ByteArray):AV:=.ae (.string s)
theorem of_eq {p q:Prop} (h:p=q) (hp:p):q:=h▸hp
end Go.Proofs.YtdcikhleahfknaaGreatDoor
