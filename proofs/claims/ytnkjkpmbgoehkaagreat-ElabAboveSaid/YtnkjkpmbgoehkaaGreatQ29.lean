/- Texts of ours laid together for a claim: VcE. -/
import Derived.Test.YtnkjkpmbgoehkaaGreatQ28
namespace Go.Proofs.YtnkjkpmbgoehkaaGreat
open Go
set_option linter.unusedSimpArgs false
set_option linter.unusedVariables false
variable {Γ:Env Unit} {s s':AS Unit} {a:Act} {w w':World} {η:List Value} {hp hp':List ab}
theorem ck.dT {f f':Nat->AV} {g:Unit} (h:∀t,aB (f t) (f' t)):ck Γ ⟨f,hp,g⟩ ⟨f',hp,g⟩:=
 fun _ _ η hr=>⟨η,hr.nt,fun t=>h t _ _ _ _ _ (hr.tmps t),hr.heap,hr.bN,hr.keeps,hr.inv,hr.marks,hr.ext⟩
theorem Lg.own {o o':ab} (h:Lg o o'):(∃cs eQ,o=.box cs/\o'=.box eQ/\dH cs eQ)\/o=o':=by
 cases o with
 |box cs=>
  cases o' with
  |box eQ=>exact .inl ⟨cs,eQ,rfl,rfl,h⟩
  |_=>cases h
 |_=>cases o'<;>first|exact .inr h|cases h
theorem eD.afo (h:eD hp hp') {b o:Nat} (hf:kz η hp b o):kz η hp' b o:=by
 intro r v hr hb;have:=hf r v hr hb;rcases h.get r with⟨h1,h2⟩|⟨o1,o2,h1,h2,h3⟩
 ·rw[h1] at this;exact this.elim
 ·rw[h1] at this;rw[h2];rcases h3.own with⟨cs,eQ,rfl,rfl,_⟩|rfl
  ·exact this
  ·exact this
theorem eD.ZT (h:eD hp hp') {r n:Nat} {v:Value} (hf:aR η hp r n v):aR η hp' r n v:=by
 unfold aR at hf ⊢;rcases h.get r with⟨h1,h2⟩|⟨o1,o2,h1,h2,h3⟩
 ·rw[h1] at hf;exact hf.elim
 ·rw[h1] at hf;rw[h2];rcases h3.own with⟨cs,eQ,rfl,rfl,_⟩|rfl
  ·exact hf
  ·exact hf
theorem ck.XX {f:Nat->AV} {g:Unit} (h:eD hp hp'):ck Γ ⟨f,hp,g⟩ ⟨f,hp',g⟩:=by
 intro a w η hr;have he:Ext w (aW Γ w η hp) η hp w (aW Γ w η hp') η hp':=
  ⟨fun _ _ _ _ h=>h,fun _ _ _ _ h=>h,fun b o hf=>⟨hf.1,hf.2.1,hf.2.2.1,h.afo hf.2.2.2⟩,fun _ _ h=>h,fun _ _ h=>h,fun _ _ _ ho=>h.ZT ho⟩
 have back:∀{r:Nat} {o':ab},hp'[r]?=some o'->∃o,hp[r]?=some o/\Lg o o'/\(o'.live->o.live):=by
  intro r o' ho;rcases h.get r with⟨h1,h2⟩|⟨o1,o2,h1,h2,h3⟩
  ·rw[h2] at ho;cases ho
  ·rw[h2] at ho;obtain rfl:=alj ho;refine⟨o1,h1,h3,fun hl=>?_⟩;rcases h3.own with⟨cs,eQ,rfl,rfl,_⟩|rfl
   ·exact True.intro
   ·exact hl
 refine⟨η,hr.nt,fun t=>(hr.tmps t).ext he,⟨by rw[hr.heap.len];exact h.length,fun r o' v h1 h2=>?_,fun r r' o o' v v' b bL h1 h2 l1 l2 e1 e2 hb=>?_⟩,fun r o v b h1 hl h2 hb=>?_,hr.keeps,hr.inv,hr.marks,hr.ext.trans he⟩
 ·obtain⟨o,g1,g2,_⟩:=back h1;have ei:=hr.heap.obj r o v g1 h2;rcases g2.own with⟨cs,eQ,rfl,rfl,hw⟩|rfl
  ·obtain⟨b,vs,T,e1,e2,e3,e4⟩:=ei;refine⟨b,vs,T,e1,e2,by rw[e3,hw.length],fun j x u hx hu=>?_⟩;obtain⟨y,hy,hyx⟩:=hw.get j x hx;have:=e4 j y u hy hu;exact⟨hyx _ _ _ _ _ (this.1.ext he),this.2⟩
  ·exact ei.ext he (alp _) fun _ _ _=>rfl
 ·obtain⟨o1,g1,_,g3⟩:=back h1;obtain⟨o2,g4,_,g6⟩:=back h2;exact hr.heap.sep r r' o1 o2 v v' b bL g1 g4 (g3 l1) (g6 l2) e1 e2 hb
 ·obtain⟨o1,g1,_,g3⟩:=back h1;exact hr.bN r o1 v b g1 (g3 hl) h2 hb
def vJ.cl (n:Nat):vJ->Bool
 | .o r=>Nat.blt r n
 | .k x=>x.aF n
 | .q x=>x.aF n
 |_=>true
def OB (n:Nat):List vJ->Bool
 | []=>true
 |sh::l=>sh.cl n&&OB n l
def sj.cl (n:Nat):sj->Bool
 | .c x=>x.cl n
 | .a l=>OB n l
def Lj (n:Nat):List sj->Bool
 | []=>true
 |sh::l=>sh.cl n&&Lj n l
def Sh.cl (n:Nat):Sh->Bool
 | .v x=>x.cl n
 | .t l=>Lj n l
 | .f _ l=>Lj n l
 | .m _ l=>Lj n l
def Lk (n:Nat):List Sh->Bool
 | []=>true
 |sh::l=>sh.cl n&&Lk n l
def kL.cl (n:Nat):kL->Bool
 | .box l=>OB n l
 | .iz r=>Nat.blt r n
 |_=>true
def HA (n:Nat):List kL->Bool
 | []=>true
 |sh::l=>sh.cl n&&HA n l
theorem BE {n:Nat} {x:AV} (h:x.aF n=true):x.dt n=true:=by
 cases x<;>first|exact h|(simp[AV.aF] at h;done)
theorem BF {n:Nat} {x:AV} (h:x.ep n=true):x.dt n=true:=by
 cases x<;>first|exact h|rfl|(simp[AV.ep] at h;done)
theorem D7 {n:Nat} {x:AV} (h:x.dt n=true):x.closed n=true:=by
 cases x with
 |bf f cs=>exact alv.2 fun x hx=>BF (alv.1 (show cs.all (AV.ep n)=true from h) x hx)
 |_=>first|exact h|(simp[AV.dt,AV.aF] at h;done)
theorem OC {n:Nat} {lens:List Nat} {sh:vJ} {t:sh.T} (h:sh.cl n=true):(ZI lens sh t).aF n=true:=by
 cases sh with
 |k x=>exact h
 |q x=>exact h
 |o r=>
  have:r<n:=alF (show Nat.ble (r+1) n=true from h);simp[ZI,AV.aF,this]
 |_=>rfl
theorem BG {n:Nat} {lens:List Nat}:∀{l:List vJ} {t:XQ l},OB n l=true->(Lb lens l t).all (AV.aF n)=true
 | [],_,_=>rfl
 |sh::l,t,h=>by
  simp only[OB,aln] at h;simp only[Lb,amF,aln];exact⟨OC h.1,BG h.2⟩
theorem OD {n:Nat} {lens:List Nat} {sh:sj} {t:sh.T} (h:sh.cl n=true):(mkV lens sh t).dt n=true:=by
 cases sh with
 |c x=>exact BE (OC h)
 |a l=>exact BG h
theorem wh {n:Nat} {lens:List Nat}:∀{l:List sj} {t:Wp l},Lj n l=true->(Hv lens l t).all (AV.dt n)=true
 | [],_,_=>rfl
 |sh::l,t,h=>by
  simp only[Lj,aln] at h;simp only[Hv,amF,aln];exact⟨OD h.1,wh h.2⟩
theorem XY {n:Nat} {lens:List Nat} {sh:Sh} {t:sh.T} (h:sh.cl n=true):(mkS lens sh t).closed n=true:=by
 cases sh with
 |v x=>exact D7 (OD h)
 |t l=>exact wh h
 |f fn l=>exact wh h
 |m fn l=>exact wh h
theorem JE {n:Nat} {lens:List Nat}:∀{l:List Sh} {t:TS l},Lk n l=true->∀x∈vL lens l t,x.closed n=true
 | [],_,_,x,hx=>by cases hx
 |sh::l,t,h,x,hx=>by
  simp only[Lk,aln] at h;rcases alW.1 hx with rfl|hx
  ·exact XY h.1
  ·exact JE h.2 x hx
theorem BH {n:Nat} {lens:List Nat}:∀{l:List kL} {t:TO l},HA n l=true->∀o∈nz lens l t,ab.closed n o=true
 | [],_,_,x,hx=>by cases hx
 |sh::l,t,h,x,hx=>by
  simp only[HA,aln] at h;rcases alW.1 hx with rfl|hx
  ·cases sh with
   |box l=>exact BG h.1
   |iz r=>exact decide_eq_true (alF (show Nat.ble (r+1) n=true from h.1))
   |_=>rfl
  ·exact BH h.2 x hx
theorem sC {lens:List Nat}:∀{l:List kL} {t:TO l},(nz lens l t).length=l.length
 | [],_=>rfl
 |_::l,t=>by simp[nz,sC (l:=l)]
def tY:List Nat->List AV->Nat->AV
 |t::ts,x::xs=>zb (tY ts xs) t x
 |_,_=>fun _=>.top
theorem D8 {f:Nat->AV}:∀{ts:List Nat} {ys:List AV},dH (ts.map f) ys->∀t,aB (f t) (tY ts ys t)
 | [],[],_,t=>fun _ _ _ _ v _=>.top v
 |t0::ts,y::ys,h,t=>by
  simp only[tY,fX];split
  ·rename_i ht;subst ht;exact h.1
  ·exact D8 h.2 t
theorem Ar {n:Nat}:∀{ts:List Nat} {ys:List AV},(∀x∈ys,x.closed n=true)->oh n (tY ts ys)
 | [],_,_=>fun _=>rfl
 |_::_,[],_=>fun _=>rfl
 |t0::ts,y::ys,h=>oh.zb (h y alD) (Ar fun x hx=>h x (alK _ hx))
def Ll (dT:List Nat) (ot:List Sh) (cE:List kL) (z:TS ot×TO cE):AS Unit:=
 ⟨tY dT (vL (gi cE z.2) ot z.1),nz (gi cE z.2) cE z.2,()⟩
def HB (dT:List Nat) (ot:List Sh) (cE:List kL) (s:AS Unit):Option (List Prop×(TS ot×TO cE)):=
 match uP (rh (s.hp.take cE.length)) cE (s.hp.take cE.length) with
 |some (p,y)=>(match Aj (rh (s.hp.take cE.length)) ot (dT.map s.tmps) with
  |some (q,x)=>some (p++q,(x,y))
  |none=>none)
 |none=>none
theorem BI (al:Γ.Ok) {dT:List Nat} {ot:List Sh} {cE:List kL} {s:AS Unit} {cs:List Prop} {z:TS ot×TO cE} (h:HB dT ot cE s=some (cs,z)) (hc:dK cs)
  (h0:Γ.lx.length<=cE.length) (cY:(Lk cE.length ot&&HA cE.length cE)=true):ck Γ s (Ll dT ot cE z):=by
 unfold HB at h;split at h
 ·rename_i p y h1;split at h
  ·rename_i q x h2;simp only[alh,alk] at h;obtain⟨rfl,rfl⟩:=h;rw[bt] at hc;obtain⟨h3,h4⟩:=sx (lens':=[]) h1 hc.1;have h5:=DX h2 hc.2;rw[<-h4] at h3 h5;rw[aln] at cY;obtain⟨f,hp,g⟩:=s;have w1:ck Γ ⟨f,hp,g⟩ ⟨tY dT (vL (gi cE y) ot x),hp,g⟩:=ck.dT (D8 h5);have h6:eD hp (nz (gi cE y) cE y++hp.drop cE.length):=by
    have:=eD.append h3 (eD.refl (hp.drop cE.length))
    rwa [amd] at this
   have w2:=w1.trans (ck.XX h6);refine w2.trans (ck.cut al cE.length h0 (fun t=>.inr rfl) (Ar (JE cY.1)) ?_ (BH cY.2));have:=sC (lens:=gi cE y) (l:=cE) (t:=y);rw[<-this,am2]
  ·cases h
 ·cases h
def ay (τ:Type) (x0:τ) (body:τ->(τ->Prop)->Prop):Prop:=
 ∃(β:Type) (E:β->τ) (I:β->Prop) (μ:β->Nat) (b0:β),x0=E b0/\I b0/\∀b,I b->body (E b) (fun y=>∃b',y=E b'/\I b'/\μ b' < μ b)
theorem ay.intro {τ:Type} {x0:τ} {body:τ->(τ->Prop)->Prop} {β:Type} (E:β->τ) (I:β->Prop) (μ:β->Nat) (b0:β) (h0:x0=E b0) (hI:I b0)
  (h:∀b,I b->∀again:τ->Prop,(∀b',I b'->μ b' < μ b->again (E b'))->body (E b) again):ay τ x0 body:=
 ⟨β,E,I,μ,b0,h0,hI,fun b hb=>h b hb _ fun b' h1 h2=>⟨b',rfl,h1,h2⟩⟩
def fM (Γ:Env Unit) (c:Code) (Q:Exit->AS Unit->Prop) (s:AS Unit):Prop:=
 ∀a w η,Rel Γ s a w η->∀(f:Frame) (k:List Item) (cs:List Frame),f.roundOf=Γ.eB.round->Γ.eB.fn f.fn->Γ.eB.room (cs.length+1+0)->
  ∃e a' w',(∃s' aO,Q e s'/\Rel Γ s' a' w' aO)/\ArrivesIn (Machine.fenced Γ.P Γ.eB) Γ.P (lone (f.atR a (.code c :: .inLoop c::k)) cs w) f k cs e a' w'
theorem fM.OE {c:Code} {Q:Exit->AS Unit->Prop} (h:ej Γ c (qG (fM Γ c Q) Q) s):fM Γ c Q s:=by
 intro a w η hr f k cs qp hf eA;obtain⟨e,tU,tV,⟨s',aO,hq,fI⟩,fZ⟩:=h a w η hr f (.inLoop c::k) cs qp hf eA
 cases e with
 |normal=>
  obtain⟨XT,XU,XV,Ov,BA⟩:=hq tU tV aO fI f k cs qp hf eA;exact⟨XT,XU,XV,Ov,.of_steps (StepsIn.trans fZ (.one (fenced_calm hf eA rfl) stepR_inLoop)) BA⟩
 |exit id=>exact⟨_,tU,tV,⟨s',aO,hq,fI⟩,.pass (x:=.inLoop c) rfl (fun _ _=>.inl (by simp)) fZ⟩
 |goto l=>exact⟨_,tU,tV,⟨s',aO,hq,fI⟩,.pass (x:=.inLoop c) rfl (fun _ _=>.inl (by simp)) fZ⟩
 |ret=>exact⟨_,tU,tV,⟨s',aO,hq,fI⟩,.pass (x:=.inLoop c) rfl (fun _ _=>.inl (by simp)) fZ⟩
 |panic ch=>exact⟨_,tU,tV,⟨s',aO,hq,fI⟩,.pass (x:=.inLoop c) rfl (fun _ _=>.inl (by simp)) fZ⟩
 |outgrown=>exact⟨_,tU,tV,⟨s',aO,hq,fI⟩,.pass (x:=.inLoop c) rfl (fun _ _=>.inl (by simp)) fZ⟩
theorem fM.rZ {c:Code} {Q:Exit->AS Unit->Prop} (hw:ck Γ s s') (h:fM Γ c Q s'):fM Γ c Q s:=fun a w η hr=>let ⟨aO,fI⟩:=hw a w η hr;h a w aO fI
theorem fM.loop {c:Code} {Q:Exit->AS Unit->Prop} {β:Type} (I:β->Prop) (st:β->AS Unit) (μ:β->Nat)
  (round:∀b,I b->ej Γ c (qG (fun s'=>∃b',I b'/\ck Γ s' (st b')/\μ b' < μ b) Q) (st b)):∀(n:Nat) (b:β),I b->μ b=n->fM Γ c Q (st b):=by
 intro n
 induction n using Nat.strongRecOn with
 |_ n ih=>
  intro b XS hb;refine fM.OE ((round b XS).mono fun e s' h=>?_)
  cases e with
  |normal=>
   obtain⟨b',T6,hw,aq⟩:=h;exact fM.rZ hw (ih (μ b') (hb▸aq) b' T6 rfl)
  |_=>exact h
theorem ej.D9 {c:Code} {Q:Exit->AS Unit->Prop} (h:fM Γ c Q s):ej Γ (.loop c) Q s:=by
 intro a w η hr f k cs qp hf eA;obtain⟨e,a',w',hq,fZ⟩:=h a w η hr f k cs qp hf eA;exact⟨e,a',w',hq,.of_steps (.one (fenced_calm hf eA rfl) stepR_loop) fZ⟩
def ofC:AV->vJ
 | .ae (.int k _)=>.i k
 | .ae (.bool _)=>.b
 | .ae (.string _)=>.s
 | .ae (.slice none 0 0)=>.l
 | .sl _=>.l
 | .clip _=>.c
 | .eY (.i _)=>.m
 | .eY (.s _)=>.ms
 | .own r _=>.o r
 | .ptr r o=>.k (.ptr r o)
 | .mp r=>.k (.mp r)
 | .bf f cs=>.k (.bf f cs)
 | .fn _=>.fn
 |_=>.k .top
def ZU:List AV->List vJ
 | []=>[]
 |x::l=>ofC x::ZU l
def ofV:AV->sj
 | .agg cs=>.a (ZU cs)
 |x=>.c (ofC x)
def XZ:List AV->List sj
 | []=>[]
 |x::l=>ofV x::XZ l
def ofS:AV->Sh
 | .av vs=>.t (XZ vs)
 | .bf f vs=>.f f (XZ vs)
 |x=>.v (ofV x)
def afq:AV->vJ
 | .ae (.slice none 0 0)=>.k (.ae (.slice none 0 0))
 |x=>ofC x
def Wv:List AV->List vJ
 | []=>[]
 |x::l=>afq x::Wv l
def ofO:ab->kL
 | .dead=>.dead
 | .box cs=>.box (Wv cs)
 | .row e size _=>.row e size
 | .aQ e size _=>.aQ e size
 | .bW (.i _)=>.bW
 | .bW (.s _)=>.eg
 | .iz r _=>.iz r
 | .eI e _ _=>.eI e
def Lm:List ab->List kL
 | []=>[]
 |o::l=>ofO o::Lm l
def qL:List Nat->AS Unit->AS Unit
 | [],s=>s
 |r::l,s=>(match s.hp[r]? with
  |some (.bW es)=>qL l ⟨fun t=>NT r es (s.tmps t),s.hp.set r .dead,s.g⟩
  |some (.aQ e size els)=>qL l ⟨s.tmps,s.hp.set r (.row e size els),s.g⟩
  |_=>qL l s)
theorem ck.Ln (al:Γ.Ok) {f:Nat->AV} {g:Unit} {r e size:Nat} {els:List AV} (hr:hp[r]?=some (.aQ e size els)):ck Γ ⟨f,hp,g⟩ ⟨f,hp.set r (.row e size els),g⟩:=by
 intro a w η h;have aq:r<η.length:=by have:=h.heap.len;simp only at this;rw[this];exact(ali.1 hr).1
 have hv:η[r]?=some η[r]:=by simp[aq]
 obtain⟨hz,xs,ea,fb⟩:=h.heap.obj r _ _ hr hv;have eP:η.set r η[r]=η:=by
  apply al9;intro i
  by_cases hi:r=i
  ·subst hi;rw[ai hv,hv]
  ·rw[getElem?_set_ne hi]
 have hd:=Rel.change (w':=w) (o':=.row e size els) (v':=η[r]) al h hr True.intro hv (bZ.refl _ w) (fun b hb=>.inl hb) (fun k hk=>hk.elim) (fun _ _ _ _ hk _=>hk.elim) (fun _ _ _ _ hk _=>hk.elim)
  (fun n u ho=>by
   unfold aR at ho ⊢;simp only[hr] at ho;rw[eP];simp only[ai hr]
   exact ho) (fun _ _=>rfl) (fun _ _=>rfl) (fun b' d fJ hd=>by obtain⟨cur,h5⟩:=ea.lt fJ;rw[h5] at hd;cases hd)
  (fun he=>⟨hz,xs,ea.more (aly _),fun i el hi=>⟨(fb i el hi).1,fun j x hj=>let ⟨u,q1,q2,q3⟩:=(fb i el hi).2 j x hj;⟨u,q1,q2.ext he.oB.ext,q3⟩⟩⟩)
 rw[eP] at hd;exact⟨η,hd⟩
theorem jk (al:Γ.Ok):∀(l:List Nat) (s:AS Unit),ck Γ s (qL l s)
 | [],s=>.refl s
 |r::l,s=>by
  simp only[qL];split
  ·rename_i es hr;exact(ck.YM al hr).trans (jk al l _)
  ·rename_i e size els hr;exact(ck.Ln al hr).trans (jk al l _)
  ·exact jk al l s
structure jy where
 key:Nat
 live:List (Nat×Option Sh)
 rows:List (Nat×Nat):=[]
 ZV:List (Nat×Nat):=[]
 lG:List (Nat×Nat×Nat):=[]
 cE:List (Nat×kL):=[]
 ZW:Bool:=false
 Ln:List Nat:=[]
 mv:List (Nat×Nat):=[]
 prm:List Sh:=[]
 mb:Bool:=false
def JF (s:AS Unit):List (Nat×Option Sh)->List Sh
 | []=>[]
 |(_,some sh)::l=>sh::JF s l
 |(t,none)::l=>ofS (s.tmps t)::JF s l
def slotsOf:List (Nat×Option Sh)->List Nat
 | []=>[]
 |(t,_)::l=>t::slotsOf l
def As:List (Nat×kL)->List kL->List kL
 | [],l=>l
 |(r,o)::m,l=>As m (l.set r o)
def rp (tab:Nat->Option TD):List (Nat×Nat)->AS Unit->Option (AS Unit)
 | [],s=>some s
 |(t,e)::l,s=>(match s.tmps t,tab e with
  | .ae (.slice none 0 0),some d=>(match Nat.blt 0 d.size with
   |true=>rp tab l ⟨zb s.tmps t (.own s.hp.length 0),s.hp++[.row e d.size []],s.g⟩
   |false=>none)
  | .own _ _,some _=>rp tab l s
  |_,_=>none)
theorem p8 (al:Γ.Ok) {tab:Nat->Option TD}:∀{l:List (Nat×Nat)} {s s':AS Unit},rp tab l s=some s'->ck Γ s s'
 | [],s,s',h=>by simp only[rp,alh] at h;subst h;exact .refl _
 |(t,e)::l,s,s',h=>by
  simp only[rp] at h;split at h
  ·rename_i d ht hd;split at h
   ·rename_i bO;exact(ck.row al t e d.size (alF (show Nat.ble (0+1) d.size=true from bO)) ht).trans (p8 al h)
   ·cases h
  ·exact p8 al h
  ·cases h
def p9 (tab:Nat->Option TD):List (Nat×Nat)->AS Unit->Option (AS Unit)
 | [],s=>some s
 |(t,e)::l,s=>(match s.tmps t,tab e with
  | .ae (.slice none 0 0),some d=>(match Nat.blt 0 d.size with
   |true=>p9 tab l ⟨zb s.tmps t (.own s.hp.length 0),s.hp++[.aQ e d.size []],s.g⟩
   |false=>none)
  | .own _ _,some _=>p9 tab l s
  |_,_=>none)
theorem rq (al:Γ.Ok) {tab:Nat->Option TD}:∀{l:List (Nat×Nat)} {s s':AS Unit},p9 tab l s=some s'->ck Γ s s'
 | [],s,s',h=>by simp only[p9,alh] at h;subst h;exact .refl _
 |(t,e)::l,s,s',h=>by
  simp only[p9] at h;split at h
  ·rename_i d ht hd;split at h
   ·rename_i bO;exact(ck.Nq (M:=true) al t e d.size (alF (show Nat.ble (0+1) d.size=true from bO)) ht).trans (rq al h)
   ·cases h
  ·exact rq al h
  ·cases h
def nC (M:Bool) (tab:Nat->Option TD):List (Nat×Nat×Nat)->AS Unit->Option (AS Unit)
 | [],s=>some s
 |(r,k,e)::l,s=>(match s.hp[r]?,tab (e % 1000000) with
  |some (.box cs),some d=>(match cs[k]? with
   |some (.ae (.slice none 0 0))=>(match Nat.blt 0 d.size with
    |true=>nC M tab l ⟨s.tmps,s.hp.set r (.box (cs.set k (.own s.hp.length 0)))++[fR (M||Nat.ble 1000000 e) (e % 1000000) d.size []],s.g⟩
    |false=>none)
   |_=>none)
  |_,_=>none)
theorem nD (al:Γ.Ok) {M:Bool} {tab:Nat->Option TD}:∀{l:List (Nat×Nat×Nat)} {s s':AS Unit},nC M tab l s=some s'->ck Γ s s'
 | [],s,s',h=>by simp only[nC,alh] at h;subst h;exact .refl _
 |(r,k,e)::l,s,s',h=>by
  simp only[nC] at h;split at h
  ·rename_i cs d hb hd;split at h
   ·rename_i hk;split at h
    ·rename_i bO;exact(ck.Xh al r k (e % 1000000) d.size (alF (show Nat.ble (0+1) d.size=true from bO)) hb hk).trans (nD al h)
    ·cases h
   ·cases h
  ·cases h
def Ea:List (Nat×Nat)->AS Unit->List Prop×AS Unit
 | [],s=>([],s)
 |p::l,s=>(match Nat.ble 1000000 p.1 with
  |true=>(((s.tmps p.2).bA s.hp).1++(Ea l ⟨zb s.tmps p.2 ((s.tmps p.2).bA s.hp).2,s.hp,s.g⟩).1,(Ea l ⟨zb s.tmps p.2 ((s.tmps p.2).bA s.hp).2,s.hp,s.g⟩).2)
  |false=>Ea l s)
theorem BJ (al:Γ.Ok):∀(l:List (Nat×Nat)) (s:AS Unit),dK (Ea l s).1->ck Γ s (Ea l s).2
 | [],s,_=>.refl s
 |p::l,s,h=>by
  simp only[Ea] at h ⊢;split at h
  ·rename_i hp;simp only[bt] at h;refine ck.trans (fun a w η hr=>?_) (BJ al l _ h.2);refine⟨η,hr.nt,fun u=>?_,hr.heap,hr.bN,hr.keeps,hr.inv,hr.marks,hr.ext⟩;show ba w _ _ _ (zb s.tmps p.2 _ u) _;rw[fX];split
   ·rename_i hu;subst hu;rw[<-cK h.1];exact(fK hr.heap hr.bN (hr.tmps _)).lift
   ·exact hr.tmps u
  ·rename_i hp;exact BJ al l s h
def OG (mv:List (Nat×Nat)) (dT:List Nat) (ot:List Sh) (cE:List kL) (again:TS ot×TO cE->Prop) (Q:Exit->AS Unit->Prop):Exit->AS Unit->Prop
 | .normal,s=>fU (Ea mv (mvS mv s)).1 (match HB dT ot cE (Ea mv (mvS mv s)).2 with
  |some (p,z)=>fU p (again z)
  |none=>False)
 |e,s=>Q e s
def xB (n0:Nat) (mv:List (Nat×Nat)) (dT:List Nat) (ot:List Sh) (cE:List kL) (body:(Exit->AS Unit->Prop)->AS Unit->Prop) (Q:Exit->AS Unit->Prop) (s:AS Unit):Prop:=
 match Nat.ble n0 cE.length&&(Lk cE.length ot&&HA cE.length cE)&&T5 n0 mv with
 |false=>False
 |true=>(match HB dT ot cE s with
  |some (p,z)=>fU p (ay (TS ot×TO cE) z fun z again=>body (OG mv dT ot cE again Q) (Ll dT ot cE z))
  |none=>False)
def OH (l:List Nat) (Q:Exit->AS Unit->Prop) (e:Exit) (s:AS Unit):Prop:=
 match l with
 | []=>Q e s
 |_=>Q e (qL l s)
theorem fM.qa {c:Code} {Q Q':Exit->AS Unit->Prop} (h:fM Γ c Q s) (hq:∀e s,Q e s->∃s2,ck Γ s s2/\Q' e s2):fM Γ c Q' s:=
 fun a w η hr f k cs h1 h2 h3=>by
  obtain⟨e,a',w',⟨s',aO,q1,q2⟩,q3⟩:=h a w η hr f k cs h1 h2 h3;obtain⟨s2,hw,q4⟩:=hq e s' q1;obtain⟨C1,q5⟩:=hw _ _ _ q2;exact⟨e,a',w',⟨s2,C1,q4,q5⟩,q3⟩
theorem fM.Ln (al:Γ.Ok) {c:Code} {l:List Nat} {Q:Exit->AS Unit->Prop} (h:fM Γ c (OH l Q) s):fM Γ c Q s:=
 h.qa fun e s' hq=>by
  unfold OH at hq;split at hq
  ·exact⟨_,.refl _,hq⟩
  ·exact⟨_,jk al _ _,hq⟩
def xC (tab:Nat->Option TD) (n0:Nat) (A:jy) (body:(Exit->AS Unit->Prop)->AS Unit->Prop) (Q:Exit->AS Unit->Prop) (s:AS Unit):Prop:=
 match rp tab A.rows s with
 |none=>False
 |some s0=>(match p9 tab A.ZV s0 with
  |none=>False
  |some s1=>(match nC A.mb tab A.lG s1 with
   |none=>False
   |some s2=>xB n0 A.mv (slotsOf A.live) (JF s2 A.live) (As A.cE (Lm s2.hp)) body (OH A.Ln Q) s2))
theorem xB.sound (al:Γ.Ok) {n0:Nat} (nk:Γ.lx.length=n0) {mv:List (Nat×Nat)} {dT:List Nat} {ot:List Sh} {cE:List kL} {c:Code} {body:(Exit->AS Unit->Prop)->AS Unit->Prop} {Q:Exit->AS Unit->Prop} {s:AS Unit}
  (hb:∀Q s,body Q s->ej Γ c Q s) (h:xB n0 mv dT ot cE body Q s):fM Γ c Q s:=by
 unfold xB at h;split at h
 ·exact h.elim
 rename_i DW;rw[aln,aln] at DW;obtain⟨DW,MG⟩:=DW;rw[<-nk] at MG;have hn:Γ.lx.length<=cE.length:=by rw[nk];exact alF DW.1
 split at h
 ·rename_i p z hz;rw[bh] at h;obtain⟨hp,β,E,I,μ,b0,V3,hI,hr⟩:=h;have hw:=BI al hz hp hn DW.2;rw[V3] at hw;refine fM.rZ hw (fM.loop I (fun b=>Ll dT ot cE (E b)) μ (fun b XS=>?_) _ b0 hI rfl);refine(hb _ _ (hr b XS)).mono fun e s1 h1=>?_
  cases e with
  |normal=>
   simp only[OG] at h1;rw[bh] at h1;obtain⟨MH,h1⟩:=h1;split at h1
   ·rename_i p1 z1 Zu;rw[bh] at h1;obtain⟨iC,b',fJ,T6,aq⟩:=h1;have K2:=((OA al mv s1 MG).trans (BJ al mv _ MH)).trans (BI al Zu iC hn DW.2);rw[fJ] at K2;exact⟨b',T6,K2,aq⟩
   ·exact h1.elim
  |_=>exact h1
 ·exact h.elim
theorem xC.sound (al:Γ.Ok) {tab:Nat->Option TD} {n0:Nat} (nk:Γ.lx.length=n0) {A:jy} {c:Code} {body:(Exit->AS Unit->Prop)->AS Unit->Prop} {Q:Exit->AS Unit->Prop} {s:AS Unit}
  (hb:∀Q s,body Q s->ej Γ c Q s) (h:xC tab n0 A body Q s):fM Γ c Q s:=by
 unfold xC at h;split at h
 ·exact h.elim
 ·rename_i s0 h0;split at h
  ·exact h.elim
  ·rename_i s1 h1;split at h
   ·exact h.elim
   ·rename_i s2 h2;exact fM.rZ (((p8 al h0).trans (rq al h1)).trans (nD al h2)) ((xB.sound al nk hb h).Ln al)
def kQ:Code->Option Nat
 | .region id _ _=>some id
 | .seq x y=>(match kQ x with|some k=>some k|none=>kQ y)
 | .cond _ x y=>(match kQ x with|some k=>some k|none=>kQ y)
 | .block _ x=>kQ x
 | .loop x=>kQ x
 | .rangeFunc _ _ x y=>(match kQ x with|some k=>some k|none=>kQ y)
 |_=>none
def JG:List jy->Nat->Option jy
 | [],_=>none
 |A::l,k=>(match Nat.beq A.key k with|true=>some A|false=>JG l k)
def iQ (τ α:Type) (y0:τ) (S:List α->Prop) (round:α->τ->(τ->Prop)->Prop) (after:τ->Prop):Prop:=
 ∃(Ls:List α) (I:List α->τ->Prop),S Ls/\I Ls y0/\(∀e rest y,I (e::rest) y->round e y (I rest))/\∀y,I [] y->after y
def ou (P:Program) (gf:Nat) (caps:List AV) (prm:List Sh) (Ls:List (TS prm)):Prop:=
 uQ P gf (fun v=>v::caps) (Ls.map fun e=>vL [] prm e) false
def BK (cE:List kL) (again:TO cE->Prop) (Q:Exit->AS Unit->Prop) (f:Nat->AV):Exit->AS Unit->Prop
 | .normal,s=>(match uP (rh (s.hp.take cE.length)) cE (s.hp.take cE.length) with
  |some (p,y)=>fU p (again y)
  |none=>False)
 | .ret,s=>Q .ret ⟨f,s.hp,()⟩
 | .exit id,s=>Q (.exit id) ⟨f,s.hp,()⟩
 |_,_=>False
def psB (nt:Nat):List Nat->Bool
 | []=>true
 |p::l=>Nat.blt p nt&&psB nt l
theorem OI {nt:Nat}:∀{l:List Nat},psB nt l=true->∀p∈l,p<nt
 | [],_,p,hp=>by cases hp
 |q::l,h,p,hp=>by
  simp only[psB,aln] at h;rcases alW.1 hp with rfl|hp
  ·exact alF (show Nat.ble (p+1) nt=true from h.1)
  ·exact OI h.2 p hp
def sD (C:cD) (n0:Nat) (cE:List kL) (prm:List Sh) (g:Operand) (ps:Array Tmp) (xw body:(Exit->AS Unit->Prop)->AS Unit->Prop) (Q:Exit->AS Unit->Prop) (s:AS Unit):Prop:=
 match s.ev g with
 | .bf gf caps=>(match psB C.nt ps.toList&&(Nat.beq ps.toList.length prm.length&&(Nat.ble n0 cE.length&&(Nat.beq cE.length s.hp.length&&HA cE.length cE))) with
  |false=>False
  |true=>(match uP (rh s.hp) cE s.hp with
   |some (p,y)=>fU p (fU (ct (AV.kM 0 (nz (gi cE y) cE y)) caps).1 (iQ (TO cE) (TS prm) y (fun Ls=>ou C.P gf (ct (AV.kM 0 (nz (gi cE y) cE y)) caps).2 prm Ls)
     (fun e y again=>xw (qG (body (BK cE again Q s.tmps)) noQ) ⟨sy ps.toList (vL [] prm e) s.tmps,nz (gi cE y) cE y,()⟩)
     (fun y=>Q .normal ⟨s.tmps,nz (gi cE y) cE y,()⟩)))
   |none=>False))
 |_=>False
def xD (C:cD) (A:jy) (n0:Nat) (g:Operand) (ps:Array Tmp) (xw body:Nat->(Exit->AS Unit->Prop)->AS Unit->Prop) (Q:Exit->AS Unit->Prop) (s:AS Unit):Prop:=
 match nC A.mb C.tab A.lG s with
 |none=>False
 |some s1=>sD C n0 (As A.cE (Lm s1.hp)) A.prm g ps (xw (As A.cE (Lm s1.hp)).length) (body (As A.cE (Lm s1.hp)).length) Q s1
theorem Eb:∀{l:List Sh} {t:TS l},(vL [] l t).length=l.length
 | [],_=>rfl
 |_::l,t=>by simp[vL,Eb (l:=l)]
theorem sD.sound (al:Γ.Ok) (cQ:Γ.GF) {C:cD} (hP:C.P=Γ.P) (dj:C.nt=Γ.nt) {n0:Nat} (nk:Γ.lx.length=n0) {cE:List kL} {prm:List Sh} {g:Operand} {ps:Array Tmp} {ca cb:Code} {xw body:(Exit->AS Unit->Prop)->AS Unit->Prop} {Q:Exit->AS Unit->Prop} {s:AS Unit}
  (ha:∀lq,ia Γ cE.length lq->∀Q s,xw Q s->ej lq ca Q s) (hb:∀lq,ia Γ cE.length lq->∀Q s,body Q s->ej lq cb Q s) (h:sD C n0 cE prm g ps xw body Q s):ej Γ (.rangeFunc g ps ca cb) Q s:=by
 unfold sD at h;split at h
 ·rename_i gf caps hg;split at h
  ·exact h.elim
  rename_i DW;simp only[aln] at DW;obtain⟨SX,MD,hle,hln,cY⟩:=DW;have ajF:=alB hln;split at h
  ·rename_i p y hy;rw[bh,bh] at h;obtain⟨hp,ZX,Ls,I,hS,hI,rj,X0⟩:=h;obtain⟨f,afr,gg⟩:=s;obtain⟨h3,h4⟩:=sx (lens':=[]) hy hp;rw[<-h4] at h3;have hw:ck Γ ⟨f,afr,gg⟩ ⟨f,nz (gi cE y) cE y,()⟩:=ck.XX h3;refine ej.rZ hw ?_;have X1:caps.map (AV.q9 0 (nz (gi cE y) cE y))=(ct (AV.kM 0 (nz (gi cE y) cE y)) caps).2:=bP (fun x=>pb) _ ZX;refine ej.range (s:=⟨f,nz (gi cE y) cE y,()⟩) al cQ (gf:=gf) (caps:=caps) (L:=Ls.map fun e=>vL [] prm e) hg (by rw[X1,<-hP];exact hS) (fun x hx=>?_) (fun q hq=>by rw[<-dj];exact OI SX q hq)
    (fun rest hp=>∃OJ y,rest=OJ.map (fun e=>vL [] prm e)/\I OJ y/\hp=nz (gi cE y) cE y) ⟨Ls,y,rfl,hI,rfl⟩ (fun x rest hp ⟨OJ,y',he,T6,Bj⟩=>?_) fun hp ⟨OJ,y',he,T6,Bj⟩=>?_
   ·obtain⟨e,_,rfl⟩:=amg.1 hx;rw[Eb,<-alB MD];simp
   ·cases OJ with
    |nil=>cases he
    |cons e OJ=>
     simp only[alQ,List.cons.injEq] at he;obtain⟨rfl,rfl⟩:=he;subst Bj;have MA:(nz (gi cE y') cE y').length=cE.length:=sC;refine⟨fun s1=>body (BK cE (I OJ) Q f) s1,fun lq HC=>?_,fun s1 hs1 lq HC=>?_⟩
     ·rw[MA] at HC;exact ha lq HC _ _ (rj e OJ y' T6)
     ·rw[MA] at HC;refine(hb lq HC _ _ hs1).mono fun e s2 hq=>?_
      cases e with
      |normal=>
       simp only[BK] at hq;split at hq
       ·rename_i p2 y2 hy2;rw[bh] at hq;obtain⟨k3,k4⟩:=sx (lens':=[]) hy2 hq.1;rw[<-k4] at k3;refine⟨nz (gi cE y2) cE y2,?_,OJ,y2,rfl,hq.2,rfl⟩;obtain⟨f2,zj,g2⟩:=s2;have h6:eD zj (nz (gi cE y2) cE y2++zj.drop cE.length):=by
         have:=eD.append k3 (eD.refl (zj.drop cE.length))
         rwa [amd] at this
        refine(ck.XX (Γ:=lq) (f:=f2) (g:=g2) h6).trans (ck.cut HC.ok cE.length (by rw[HC.h0];exact alp _) Sub.nil oh.nil ?_ (BH cY));have:=sC (lens:=gi cE y2) (l:=cE) (t:=y2);rw[<-this,am2]
       ·exact hq.elim
      |ret=>exact hq
      |exit id=>exact hq
      |_=>exact hq.elim
   ·cases OJ with
    |nil=>subst Bj;exact X0 y' T6
    |cons e OJ=>cases he
  ·exact h.elim
 ·exact h.elim
theorem xD.sound (al:Γ.Ok) (cQ:Γ.GF) {C:cD} (hP:C.P=Γ.P) (dj:C.nt=Γ.nt) {A:jy} {n0:Nat} (nk:Γ.lx.length=n0) {g:Operand} {ps:Array Tmp} {ca cb:Code} {xw body:Nat->(Exit->AS Unit->Prop)->AS Unit->Prop} {Q:Exit->AS Unit->Prop} {s:AS Unit}
  (ha:∀n lq,ia Γ n lq->∀Q s,xw n Q s->ej lq ca Q s) (hb:∀n lq,ia Γ n lq->∀Q s,body n Q s->ej lq cb Q s) (h:xD C A n0 g ps xw body Q s):ej Γ (.rangeFunc g ps ca cb) Q s:=by
 unfold xD at h;split at h
 ·exact h.elim
 ·rename_i s1 h1;exact ej.rZ (nD al h1) (sD.sound al cQ hP dj nk (fun lq hr=>ha _ lq hr) (fun lq hr=>hb _ lq hr) h)
def ZY:List (Nat×mJ)->Nat->Option mJ
 | [],_=>none
 |p::l,k=>(match Nat.beq p.1 k with|true=>some p.2|false=>ZY l k)
def hcD (l:List (Nat×List Nat)) (id:Nat):List Nat:=
 match TQ l id with
 |some p=>p
 |none=>[]
def drD (l:List (Nat×List (Option (List Nat))×List (Option (List Nat)))) (id:Nat):List (Option (List Nat))×List (Option (List Nat)):=
 match XP l id with
 |some p=>p
 |none=>([],[])
def eh (C:cD) (L:List jy):Code->Nat->Bool->(Exit->AS Unit->Prop)->AS Unit->Prop
 | .skip,n0,fr,Q,s=>Q .normal s
 | .region id ops draw,n0,fr,Q,s=>(match draw with
  |false=>DU C id ops.toList (Q .normal) s
  |true=>(match ZY C.br id with
  |some pl=>okB (Nat.ble pl.depth ops.toList.length) (ic C (hcD C.hc id) ops.toList (mz ops.toList []) (drD C.dr id).1 (drD C.dr id).2 (Q .normal) pl (rn ops.toList) s)
  |none=>match XP C.dr id with
   |some p=>(match TQ C.hc id with
    |some hs=>okB (v8 (aX hs) p.1 p.2 ops.toList) (qK C hs ops.toList p.1 p.2 (Q .normal) 0 ops.toList s)
    |none=>okB (vZ p.1 p.2 ops.toList) (su C ops.toList p.1 p.2 (Q .normal) 0 ops.toList s))
   |none=>(match TQ C.hc id with
    |some hs=>okB (v7 (aX hs) ops.toList) (qJ C hs ops.toList (Q .normal) ops.toList s)
    |none=>okB (wW ops.toList) (ss C ops.toList (Q .normal) ops.toList s))))
 | .seq x y,n0,fr,Q,s=>eh C L x n0 fr (qG (eh C L y n0 fr Q) Q) s
 | .cond c x y,n0,fr,Q,s=>(match s.ev c with
  | .ae (.bool b)=>ag b (eh C L x n0 fr Q s) (eh C L y n0 fr Q s)
  |_=>False)
 | .block id c,n0,fr,Q,s=>eh C L c n0 fr (wT id Q) s
 | .loop c,n0,fr,Q,s=>(match kQ c with
  |some k=>(match JG L k with
   |some A=>(match A.ZW with
    |false=>xC C.tab n0 A (eh C L c n0 fr) Q s
    |true=>eh C L c n0 fr (qG (xC C.tab n0 A (eh C L c n0 fr) Q) Q) s)
   |none=>False)
  |none=>False)
 | .rangeFunc g ps xw body,n0,fr,Q,s=>(match fr with
  |true=>(match kQ body with
   |some k=>(match JG L k with
    |some A=>xD C A n0 g ps (fun n=>eh C L xw n false) (fun n=>eh C L body n false) Q s
    |none=>False)
   |none=>False)
  |false=>False)
 | .exit id,n0,fr,Q,s=>Q (.exit id) s
 | .label _,n0,fr,Q,s=>Q .normal s
 | .ret,n0,fr,Q,s=>Q .ret s
 |_,_,_,_,_=>False
theorem HD {N N':AS Unit->Prop} {Q:Exit->AS Unit->Prop} (h:∀s,N s->N' s) (e:Exit) (s:AS Unit) (hq:qG N Q e s):qG N' Q e s:=by
 cases e with
 |normal=>exact h s hq
 |_=>exact hq
theorem eh.sound {C:cD} (hm:C.P.follows .mixedOrders=true) {L:List jy}:∀(c:Code) (Γ:Env Unit) (_:Γ.Ok) (_:C.P=Γ.P) (_:aL Γ.P C.tab) (_:C.nt=Γ.nt) (n0:Nat) (_:Γ.lx.length=n0) (fr:Bool) (_:fr=true->Γ.GF) (Q:Exit->AS Unit->Prop) (s:AS Unit),eh C L c n0 fr Q s->ej Γ c Q s:=by
 intro c
 induction c with
 |skip=>intro Γ al hP ah dj n0 nk fr qx Q s h;exact ej.skip h
 |region id ops draw=>
  intro Γ al hP ah dj n0 nk fr qx Q s h;have e:ops=ops.toList.toArray:=by simp
  simp only[eh] at h;rw[e];split at h
  ·intro a w η hr;exact wpIn_region_lit (DU.sound al hP ah dj h a w η _ (fun s' a' w' aO h1 h2=>⟨s',aO,h1,h2⟩) hr)
  ·split at h
   ·obtain⟨hd,h⟩:=bM h;exact ej.ZS al hP ah dj (by rw[<-hP];exact hm) hd h
   split at h
   ·rename_i p hp;split at h
    ·obtain⟨hd,h⟩:=bM h;exact ej.Zt al (by rw[<-hP];exact hm) p.1 p.2 hd (qK.sound al hP ah dj _ 0 s h)
    obtain⟨hd,h⟩:=bM h;exact ej.Zk al ah dj (by rw[<-hP];exact hm) p.1 p.2 hd (su.sound al hP ah dj _ 0 s h)
   ·split at h
    ·obtain⟨hd,h⟩:=bM h;exact ej.Zs al (by rw[<-hP];exact hm) hd (qJ.sound al hP ah dj _ s h)
    ·obtain⟨hd,h⟩:=bM h;exact ej.Zg al ah dj (by rw[<-hP];exact hm) hd (ss.sound al hP ah dj _ s h)
 |seq x y X2 X3=>
  intro Γ al hP ah dj n0 nk fr qx Q s h;refine ej.aeI fun K hK=>(X2 Γ al hP ah dj n0 nk fr qx _ s h).mono fun e s' hq=>?_;exact HD (fun s'' h''=>hK s'' (X3 Γ al hP ah dj n0 nk fr qx _ s'' h'')) e s' hq
 |cond c x y X2 X3=>
  intro Γ al hP ah dj n0 nk fr qx Q s h;simp only[eh] at h;split at h
  ·rename_i b hb;exact ej.Zf hb (fun ht=>X2 Γ al hP ah dj n0 nk fr qx _ s (h.elim.1 ht)) fun ht=>X3 Γ al hP ah dj n0 nk fr qx _ s (h.elim.2 ht)
  ·exact h.elim
 |block id c ih=>intro Γ al hP ah dj n0 nk fr qx Q s h;exact ej.block (ih Γ al hP ah dj n0 nk fr qx _ s h)
 |loop c ih=>
  intro Γ al hP ah dj n0 nk fr qx Q s h;simp only[eh] at h;split at h
  ·split at h
   ·split at h
    ·exact ej.D9 (xC.sound al nk (ih Γ al hP ah dj n0 nk fr qx) h)
    ·exact ej.D9 (fM.OE ((ih Γ al hP ah dj n0 nk fr qx _ s h).mono fun e s' hq=>by
      cases e with
      |normal=>exact xC.sound al nk (ih Γ al hP ah dj n0 nk fr qx) hq
      |_=>exact hq))
   ·exact h.elim
  ·exact h.elim
 |rangeFunc g ps xw body iha ihb=>
  intro Γ al hP ah dj n0 nk fr qx Q s h;simp only[eh] at h;split at h
  ·split at h
   ·split at h
    ·refine xD.sound al (qx rfl) hP dj nk (fun n lq hr Q s h=>?_) (fun n lq hr Q s h=>?_) h
     ·exact iha lq hr.ok (by rw[hr.hP,hP]) (by rw[hr.hP];exact ah) (by rw[hr.nt,dj]) n hr.h0 false (fun h=>by cases h) _ s h
     ·exact ihb lq hr.ok (by rw[hr.hP,hP]) (by rw[hr.hP];exact ah) (by rw[hr.nt,dj]) n hr.h0 false (fun h=>by cases h) _ s h
    ·exact h.elim
   ·exact h.elim
  ·exact h.elim
 |exit id=>intro Γ al hP ah dj n0 nk fr qx Q s h;exact ej.exit h
 |label l=>intro Γ al hP ah dj n0 nk fr qx Q s h;exact ej.label h
 |ret=>intro Γ al hP ah dj n0 nk fr qx Q s h;exact ej.ret h
 |_=>intro Γ al hP ah dj n0 nk fr qx Q s h;exact h.elim
def nE (k:Nat):Nat->List Nat
 |0=>[]
 |n+1=>k::nE (k+1) n
theorem ej.qa {c:Code} {Q Q':Exit->AS Unit->Prop} (h:ej Γ c Q s) (hq:∀e s,Q e s->∃s2,ck Γ s s2/\Q' e s2):ej Γ c Q' s:=
 fun a w η hr=>wpIn_mono (h a w η hr) fun e a' w' ⟨s',aO,h1,h2⟩=>by
  obtain⟨s2,hw,h3⟩:=hq e s' h1;obtain⟨C1,h4⟩:=hw _ _ _ h2;exact⟨s2,C1,h3,h4⟩
def AV.xE (hp:List ab):AV->List Prop×AV
 | .ptr r 0=>(match hp[r]? with
  |some (.box cs)=>((ct (AV.iM hp) cs).1,.aJ (Di (ct (AV.iM hp) cs).2) 0)
  |_=>([],.top))
 |x=>x.fL hp
theorem Lp {hp:List ab} {x:AV} (hc:dK (x.xE hp).1):x.I4 hp=(x.xE hp).2:=by
 cases x with
 |ptr r o=>
  cases o with
  |zero=>
   simp only[AV.I4,AV.xE] at hc ⊢
   cases hr:hp[r]? with
   |none=>rfl
   |some o=>
    cases o with
    |box cs=>
     simp only[hr] at hc ⊢;rw[bP (g:=AV.dQ hp) (fun x=>kn) _ hc]
    |_=>rfl
  |succ n=>exact iN hc
 |_=>exact iN hc
def AV.pj (hp:List ab):AV->List Prop×AV
 | .bf f cs=>((ct (AV.xE hp) cs).1,.bf f (ct (AV.xE hp) cs).2)
 |x=>x.bA hp
theorem Ec {hp:List ab} {x:AV} (hc:dK (x.pj hp).1):x.pW hp=(x.pj hp).2:=by
 cases x with
 |bf f cs=>simp only[AV.pj,AV.pW] at hc ⊢;rw[bP (fun x=>Lp) _ hc]
 |_=>exact cK hc
def HE (tab:Nat->Option TD) (rs:List ResultVar) (R:AV->Prop) (s:AS Unit):Prop:=
 match ft tab s rs with
 |some l=>fU ((gS l).pj s.hp).1 (R ((gS l).pj s.hp).2)
 |none=>False
def T7 (tab:Nat->Option TD) (rs:List ResultVar) (R:AV->Prop):Exit->AS Unit->Prop
 | .normal,s=>HE tab rs R (qL (nE 0 s.hp.length) s)
 | .ret,s=>HE tab rs R (qL (nE 0 s.hp.length) s)
 |_,_=>False
theorem HE.sound {tab:Nat->Option TD} {rs:List ResultVar} {R:AV->Prop} {s:AS Unit} (h:HE tab rs R s):∃l,ft tab s rs=some l/\R ((gS l).pW s.hp):=by
 unfold HE at h;split at h
 ·rename_i l hl;rw[bh] at h;exact⟨l,hl,by rw[Ec h.1];exact h.2⟩
 ·exact h.elim
theorem BL {C:cD} (ah:aL C.P C.tab) (hm:C.P.follows .mixedOrders=true) {L:List jy} {f:FuncId} {fn:Func} {c:Code} {args:List AV} {R:AV->Prop} (hf:C.P.funcs[f]?=some fn) (hb:fn.body=some c)
  (iD:(fn.name == "runtime.NumGoroutine")=false) (hn:Nat.ble args.length fn.ntmps=true) (dj:C.nt=fn.ntmps) (h:eh C L c 0 true (T7 C.tab fn.results.toList R) ⟨dC 0 args,[],()⟩):Pure C.P f args R:=by
 refine Bh ah hf hb iD (alF hn) fun Γ al hP X4 hh0 cQ=>?_;refine(eh.sound hm c Γ al hP.symm (by rw[hP];exact ah) (by rw[dj,X4]) _ hh0 true (fun _=>cQ) _ _ h).qa fun e s' hq=>?_
 cases e with
 |normal=>obtain⟨l,h1,h2⟩:=HE.sound hq;exact⟨_,jk al (nE 0 s'.hp.length) s',by simp only[Ni,h1];exact h2⟩
 |ret=>obtain⟨l,h1,h2⟩:=HE.sound hq;exact⟨_,jk al (nE 0 s'.hp.length) s',by simp only[Ni,h1];exact h2⟩
 |_=>exact hq.elim
def AV.At (n:Nat) (hp:List ab) (x:AV):List Prop×AV:=
 match x.aF n with
 |true=>([],x)
 |false=>x.iM hp
def AV.Au (n:Nat) (hp:List ab):AV->List Prop×AV
 | .agg cs=>((ct (AV.At n hp) cs).1,.agg (ct (AV.At n hp) cs).2)
 |x=>x.At n hp
def AV.OK (n:Nat) (hp:List ab):AV->List Prop×AV
 | .av cs=>((ct (AV.Au n hp) cs).1,.av (ct (AV.Au n hp) cs).2)
 |x=>x.Au n hp
theorem Ed {n:Nat} {x:AV} (hc:dK (x.At n hp).1):x.K1 n hp=(x.At n hp).2:=by
 unfold AV.K1 AV.At at *
 cases h:x.aF n with
 |true=>simp
 |false=>rw[h] at hc;simp only[alx,if_false];exact kn hc
theorem Ee {n:Nat} {x:AV} (hc:dK (x.Au n hp).1):x.Nt n hp=(x.Au n hp).2:=by
 cases x with
 |agg cs=>simp only[AV.Au,AV.Nt] at hc ⊢;rw[bP (fun x=>Ed) _ hc]
 |_=>exact Ed hc
theorem T8 {n:Nat} {x:AV} (hc:dK (x.OK n hp).1):x.out n hp=(x.OK n hp).2:=by
 cases x with
 |av cs=>simp only[AV.OK,AV.out] at hc ⊢;rw[bP (fun x=>Ee) _ hc]
 |_=>exact Ee hc
def xF (tab:Nat->Option TD) (n:Nat) (rs:List ResultVar) (R:AV->List ab->Prop) (s:AS Unit):Prop:=
 match ft tab s rs with
 |some l=>okB ((s.hp.take n).all (ab.closed n)) (fU ((gS l).OK n s.hp).1 (R ((gS l).OK n s.hp).2 (s.hp.take n)))
 |none=>False
def JH (tab:Nat->Option TD) (n:Nat) (rs:List ResultVar) (R:AV->List ab->Prop):Exit->AS Unit->Prop
 | .normal,s=>xF tab n rs R (qL (nE n (s.hp.length-n)) s)
 | .ret,s=>xF tab n rs R (qL (nE n (s.hp.length-n)) s)
 |_,_=>False
theorem xF.sound {tab:Nat->Option TD} {n:Nat} {rs:List ResultVar} {R:AV->List ab->Prop} {s:AS Unit} (h:xF tab n rs R s):
  ∃l,ft tab s rs=some l/\(∀o∈s.hp.take n,ab.closed n o=true)/\R ((gS l).out n s.hp) (s.hp.take n):=by
 unfold xF at h;split at h
 ·rename_i l hl;obtain⟨hb,h⟩:=bM h;rw[bh] at h;exact⟨l,hl,fun o ho=>alv.1 hb o ho,by rw[T8 h.1];exact h.2⟩
 ·exact h.elim
theorem vM {C:cD} (ah:aL C.P C.tab) (hm:C.P.follows .mixedOrders=true) {L:List jy} {f:FuncId} {fn:Func} {c:Code} {args:List AV} {hp:List ab} {R:AV->List ab->Prop} (m:Nat) (qU:Nat.ble hp.length m=true) (hf:C.P.funcs[f]?=some fn) (hb:fn.body=some c)
  (iD:(fn.name == "runtime.NumGoroutine")=false) (hn:Nat.ble args.length fn.ntmps=true) (dj:C.nt=fn.ntmps) (h:eh C L c hp.length true (JH C.tab m fn.results.toList R) ⟨dC 0 args,hp,()⟩):aG C.P f args hp R:=by
 refine vE ah m (alF qU) hf hb iD (alF hn) fun Γ al hP X4 hh0 cQ=>?_;refine(eh.sound hm c Γ al hP.symm (by rw[hP];exact ah) (by rw[dj,X4]) _ hh0 true (fun _=>cQ) _ _ h).qa fun e s' hq=>?_
 cases e with
 |normal=>obtain⟨l,h1,h2,h3⟩:=xF.sound hq;exact⟨_,jk al (nE m (s'.hp.length-m)) s',by simp only[Nu,h1];exact⟨h2,h3⟩⟩
 |ret=>obtain⟨l,h1,h2,h3⟩:=xF.sound hq;exact⟨_,jk al (nE m (s'.hp.length-m)) s',by simp only[Nu,h1];exact⟨h2,h3⟩⟩
 |_=>exact hq.elim
def az (l u d m s y:Int):List AV:=[.ae (.int .i64 l),.ae (.int .i64 u),.ae (.int .u32 d),.ae (.int .i32 m),.ae (.int .u32 s),.ae (.int .u32 y)]
abbrev nI (n:Int):AV:=.ae (.int .i64 n)
abbrev nB (b:Bool):AV:=.ae (.bool b)
abbrev nS (s:ByteArray):AV:=.ae (.string s)
theorem of_eq {p q:Prop} (h:p=q) (hp:p):q:=h▸hp
end Go.Proofs.YtnkjkpmbgoehkaaGreat
