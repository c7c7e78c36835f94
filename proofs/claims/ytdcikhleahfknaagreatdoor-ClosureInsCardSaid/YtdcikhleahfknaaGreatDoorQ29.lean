/- Texts of ours laid together for a claim: VcE. -/
import Derived.Test.YtdcikhleahfknaaGreatDoorQ28
namespace Go.Proofs.YtdcikhleahfknaaGreatDoor
open Go
set_option linter.unusedSimpArgs false
set_option linter.unusedVariables false
variable {Γ:Env Unit} {s s':AS Unit} {a:Act} {w w':World} {η:List Value} {hp hp':List af}
theorem bX.dA {f f':Nat→AV} {g:Unit} (h:∀t,dS (f t) (f' t)):bX Γ ⟨f,hp,g⟩ ⟨f',hp,g⟩:=
 fun _ _ η hr=>⟨η,hr.nt,fun t=>h t _ _ _ _ _ (hr.tmps t),hr.heap,hr.bA,hr.keeps,hr.inv,hr.marks,hr.ext⟩
theorem Ho.own {o o':af} (h:Ho o o'):(∃cs cs',o=.box cs∧o'=.box cs'∧dH cs cs')∨o=o':=by
 cases o with
 |box cs=>
  cases o' with
  |box cs'=>exact .inl ⟨cs,cs',rfl,rfl,h⟩
  |_=>cases h
 |_=>cases o'<;>first|exact .inr h|cases h
theorem dP.Sy (h:dP hp hp') {b o:Nat} (hf:gO η hp b o):gO η hp' b o:=by
 intro r v hr hb
 have:=hf r v hr hb
 rcases h.get r with⟨h1,h2⟩|⟨o1,o2,h1,h2,h3⟩
 ·rw[h1] at this;exact this.elim
 ·rw[h1] at this
  rw[h2]
  rcases h3.own with⟨cs,cs',rfl,rfl,_⟩|rfl
  ·exact this
  ·exact this
theorem dP.UF (h:dP hp hp') {r n:Nat} {v:Value} (hf:aT η hp r n v):aT η hp' r n v:=by
 unfold aT at hf ⊢
 rcases h.get r with⟨h1,h2⟩|⟨o1,o2,h1,h2,h3⟩
 ·rw[h1] at hf;exact hf.elim
 ·rw[h1] at hf
  rw[h2]
  rcases h3.own with⟨cs,cs',rfl,rfl,_⟩|rfl
  ·exact hf
  ·exact hf
theorem bX.Sz {f:Nat→AV} {g:Unit} (h:dP hp hp'):bX Γ ⟨f,hp,g⟩ ⟨f,hp',g⟩:=by
 intro a w η hr
 have he:Ext w (aW Γ w η hp) η hp w (aW Γ w η hp') η hp':=
  ⟨fun _ _ _ _ h=>h,fun _ _ _ _ h=>h,fun b o hf=>⟨hf.1,hf.2.1,hf.2.2.1,h.Sy hf.2.2.2⟩,fun _ _ h=>h,fun _ _ h=>h,fun _ _ _ ho=>h.UF ho⟩
 have back:∀{r:Nat} {o':af},hp'[r]?=some o'→∃o,hp[r]?=some o∧Ho o o'∧(o'.live→o.live):=by
  intro r o' ho
  rcases h.get r with⟨h1,h2⟩|⟨o1,o2,h1,h2,h3⟩
  ·rw[h2] at ho;cases ho
  ·rw[h2] at ho
   obtain rfl:=Option.some.inj ho
   refine⟨o1,h1,h3,fun hl=>?_⟩
   rcases h3.own with⟨cs,cs',rfl,rfl,_⟩|rfl
   ·exact True.intro
   ·exact hl
 refine⟨η,hr.nt,fun t=>(hr.tmps t).ext he,⟨by rw[hr.heap.len];exact h.length,fun r o' v h1 h2=>?_,fun r r' o o' v v' b bh h1 h2 l1 l2 e1 e2 hb=>?_⟩,fun r o v b h1 hl h2 hb=>?_,hr.keeps,hr.inv,hr.marks,hr.ext.trans he⟩
 ·obtain⟨o,g1,g2,_⟩:=back h1
  have cW:=hr.heap.obj r o v g1 h2
  rcases g2.own with⟨cs,cs',rfl,rfl,hw⟩|rfl
  ·obtain⟨b,vs,T,e1,e2,e3,e4⟩:=cW
   refine⟨b,vs,T,e1,e2,by rw[e3,hw.length],fun j x u hx hu=>?_⟩
   obtain⟨y,hy,hyx⟩:=hw.get j x hx
   have:=e4 j y u hy hu
   exact⟨hyx _ _ _ _ _ (this.1.ext he),this.2⟩
  ·exact cW.ext he (Nat.le_refl _) fun _ _ _=>rfl
 ·obtain⟨o1,g1,_,g3⟩:=back h1
  obtain⟨o2,g4,_,g6⟩:=back h2
  exact hr.heap.sep r r' o1 o2 v v' b bh g1 g4 (g3 l1) (g6 l2) e1 e2 hb
 ·obtain⟨o1,g1,_,g3⟩:=back h1
  exact hr.bA r o1 v b g1 (g3 hl) h2 hb
def tj.cl (n:Nat):tj→Bool
 | .o r=>Nat.blt r n
 | .k x=>x.aM n
 | .q x=>x.aM n
 |_=>true
def Km (n:Nat):List tj→Bool
 | []=>true
 |sh::l=>sh.cl n&&Km n l
def p8.cl (n:Nat):p8→Bool
 | .c x=>x.cl n
 | .a l=>Km n l
def Ht (n:Nat):List p8→Bool
 | []=>true
 |sh::l=>sh.cl n&&Ht n l
def Sh.cl (n:Nat):Sh→Bool
 | .v x=>x.cl n
 | .t l=>Ht n l
 | .f _ l=>Ht n l
 | .m _ l=>Ht n l
def Hu (n:Nat):List Sh→Bool
 | []=>true
 |sh::l=>sh.cl n&&Hu n l
def jh.cl (n:Nat):jh→Bool
 | .box l=>Km n l
 | .cA r=>Nat.blt r n
 |_=>true
def Eu (n:Nat):List jh→Bool
 | []=>true
 |sh::l=>sh.cl n&&Eu n l
theorem yC {n:Nat} {x:AV} (h:x.aM n=true):x.cL n=true:=by
 cases x<;>first|exact h|(simp[AV.aM] at h;done)
theorem yD {n:Nat} {x:AV} (h:x.dJ n=true):x.cL n=true:=by
 cases x<;>first|exact h|rfl|(simp[AV.dJ] at h;done)
theorem BE {n:Nat} {x:AV} (h:x.cL n=true):x.closed n=true:=by
 cases x with
 |aK f cs=>exact List.all_eq_true.2 fun x hx=>yD (List.all_eq_true.1 (show cs.all (AV.dJ n)=true from h) x hx)
 |_=>first|exact h|(simp[AV.cL,AV.aM] at h;done)
theorem Kn {n:Nat} {lens:List Nat} {sh:tj} {t:sh.T} (h:sh.cl n=true):(Uu lens sh t).aM n=true:=by
 cases sh with
 |k x=>exact h
 |q x=>exact h
 |o r=>
  have:r<n:=Nat.le_of_ble_eq_true (show Nat.ble (r+1) n=true from h)
  simp[Uu,AV.aM,this]
 |_=>rfl
theorem yE {n:Nat} {lens:List Nat}:∀{l:List tj} {t:Sr l},Km n l=true→(Hj lens l t).all (AV.aM n)=true
 | [],_,_=>rfl
 |sh::l,t,h=>by
  simp only[Km,Bool.and_eq_true] at h
  simp only[Hj,List.all_cons,Bool.and_eq_true]
  exact⟨Kn h.1,yE h.2⟩
theorem Ko {n:Nat} {lens:List Nat} {sh:p8} {t:sh.T} (h:sh.cl n=true):(Xq lens sh t).cL n=true:=by
 cases sh with
 |c x=>exact yC (Kn h)
 |a l=>exact yE h
theorem tJ {n:Nat} {lens:List Nat}:∀{l:List p8} {t:Q0 l},Ht n l=true→(Ep lens l t).all (AV.cL n)=true
 | [],_,_=>rfl
 |sh::l,t,h=>by
  simp only[Ht,Bool.and_eq_true] at h
  simp only[Ep,List.all_cons,Bool.and_eq_true]
  exact⟨Ko h.1,tJ h.2⟩
theorem SA {n:Nat} {lens:List Nat} {sh:Sh} {t:sh.T} (h:sh.cl n=true):(Yn lens sh t).closed n=true:=by
 cases sh with
 |v x=>exact BE (Ko h)
 |t l=>exact tJ h
 |f fn l=>exact tJ h
 |m fn l=>exact tJ h
theorem Gg {n:Nat} {lens:List Nat}:∀{l:List Sh} {t:TS l},Hu n l=true→∀x∈tl lens l t,x.closed n=true
 | [],_,_,x,hx=>by cases hx
 |sh::l,t,h,x,hx=>by
  simp only[Hu,Bool.and_eq_true] at h
  rcases List.mem_cons.1 hx with rfl|hx
  ·exact SA h.1
  ·exact Gg h.2 x hx
theorem yF {n:Nat} {lens:List Nat}:∀{l:List jh} {t:TO l},Eu n l=true→∀o∈lN lens l t,af.closed n o=true
 | [],_,_,x,hx=>by cases hx
 |sh::l,t,h,x,hx=>by
  simp only[Eu,Bool.and_eq_true] at h
  rcases List.mem_cons.1 hx with rfl|hx
  ·cases sh with
   |box l=>exact yE h.1
   |cA r=>exact decide_eq_true (Nat.le_of_ble_eq_true (show Nat.ble (r+1) n=true from h.1))
   |_=>rfl
  ·exact yF h.2 x hx
theorem ql {lens:List Nat}:∀{l:List jh} {t:TO l},(lN lens l t).length=l.length
 | [],_=>rfl
 |_::l,t=>by simp[lN,ql (l:=l)]
def rz:List Nat→List AV→Nat→AV
 |t::ts,x::xs=>xQ (rz ts xs) t x
 |_,_=>fun _=>.top
theorem BF {f:Nat→AV}:∀{ts:List Nat} {ys:List AV},dH (ts.map f) ys→∀t,dS (f t) (rz ts ys t)
 | [],[],_,t=>fun _ _ _ _ v _=>.top v
 |t0::ts,y::ys,h,t=>by
  simp only[rz,fc]
  split
  ·rename_i ht;subst ht;exact h.1
  ·exact BF h.2 t
theorem xi {n:Nat}:∀{ts:List Nat} {ys:List AV},(∀x∈ys,x.closed n=true)→mr n (rz ts ys)
 | [],_,_=>fun _=>rfl
 |_::_,[],_=>fun _=>rfl
 |t0::ts,y::ys,h=>mr.xQ (h y List.mem_cons_self) (xi fun x hx=>h x (List.mem_cons_of_mem _ hx))
def Hv (dA:List Nat) (my:List Sh) (cn:List jh) (z:TS my×TO cn):AS Unit:=
 ⟨rz dA (tl (fm cn z.2) my z.1),lN (fm cn z.2) cn z.2,()⟩
def Ev (dA:List Nat) (my:List Sh) (cn:List jh) (s:AS Unit):Option (List Prop×(TS my×TO cn)):=
 match r7 (o7 (s.hp.take cn.length)) cn (s.hp.take cn.length) with
 |some (p,y)=>(match w9 (o7 (s.hp.take cn.length)) my (dA.map s.tmps) with
  |some (q,x)=>some (p++q,(x,y))
  |none=>none)
 |none=>none
theorem yG (ao:Γ.Ok) {dA:List Nat} {my:List Sh} {cn:List jh} {s:AS Unit} {cs:List Prop} {z:TS my×TO cn} (h:Ev dA my cn s=some (cs,z)) (hc:dI cs)
  (h0:Γ.iV.length≤cn.length) (cS:(Hu cn.length my&&Eu cn.length cn)=true):bX Γ s (Hv dA my cn z):=by
 unfold Ev at h
 split at h
 ·rename_i p y h1
  split at h
  ·rename_i q x h2
   simp only[Option.some.injEq,Prod.mk.injEq] at h
   obtain⟨rfl,rfl⟩:=h
   rw[bt] at hc
   obtain⟨h3,h4⟩:=qh (lens':=[]) h1 hc.1
   have h5:=Bw h2 hc.2
   rw[←h4] at h3 h5
   rw[Bool.and_eq_true] at cS
   obtain⟨f,hp,g⟩:=s
   have w1:bX Γ ⟨f,hp,g⟩ ⟨rz dA (tl (fm cn y) my x),hp,g⟩:=bX.dA (BF h5)
   have h6:dP hp (lN (fm cn y) cn y++hp.drop cn.length):=by
    have:=dP.append h3 (dP.refl (hp.drop cn.length))
    rwa [List.take_append_drop] at this
   have w2:=w1.trans (bX.Sz h6)
   refine w2.trans (bX.cut ao cn.length h0 (fun t=>.inr rfl) (xi (Gg cS.1)) ?_ (yF cS.2))
   have:=ql (lens:=fm cn y) (l:=cn) (t:=y)
   rw[←this,List.take_left]
  ·cases h
 ·cases h
def ax (τ:Type) (x0:τ) (body:τ→(τ→Prop)→Prop):Prop:=
 ∃(β:Type) (E:β→τ) (I:β→Prop) (μ:β→Nat) (b0:β),x0=E b0∧I b0∧∀b,I b→body (E b) (fun y=>∃b',y=E b'∧I b'∧μ b' < μ b)
theorem ax.intro {τ:Type} {x0:τ} {body:τ→(τ→Prop)→Prop} {β:Type} (E:β→τ) (I:β→Prop) (μ:β→Nat) (b0:β) (h0:x0=E b0) (hI:I b0)
  (h:∀b,I b→∀again:τ→Prop,(∀b',I b'→μ b' < μ b→again (E b'))→body (E b) again):ax τ x0 body:=
 ⟨β,E,I,μ,b0,h0,hI,fun b hb=>h b hb _ fun b' h1 h2=>⟨b',rfl,h1,h2⟩⟩
def eL (Γ:Env Unit) (c:Code) (Q:Exit→AS Unit→Prop) (s:AS Unit):Prop:=
 ∀a w η,Rel Γ s a w η→∀(f:Frame) (k:List Item) (cs:List Frame),f.roundOf=Γ.dM.round→Γ.dM.fn f.fn→Γ.dM.room (cs.length+1+0)→
  ∃e a' w',(∃s' aH,Q e s'∧Rel Γ s' a' w' aH)∧ArrivesIn (Machine.fenced Γ.P Γ.dM) Γ.P (lone (f.atR a (.code c :: .inLoop c::k)) cs w) f k cs e a' w'
theorem eL.Kp {c:Code} {Q:Exit→AS Unit→Prop} (h:dG Γ c (oI (eL Γ c Q) Q) s):eL Γ c Q s:=by
 intro a w η hr f k cs ox hf eB
 obtain⟨e,rq,rr,⟨s',aH,hq,ec⟩,gA⟩:=h a w η hr f (.inLoop c::k) cs ox hf eB
 cases e with
 |normal=>
  obtain⟨Su,Sv,Sw,Kf,yy⟩:=hq rq rr aH ec f k cs ox hf eB
  exact⟨Su,Sv,Sw,Kf,.of_steps (StepsIn.trans gA (.one (fenced_calm hf eB rfl) stepR_inLoop)) yy⟩
 |exit id=>exact⟨_,rq,rr,⟨s',aH,hq,ec⟩,.pass (x:=.inLoop c) rfl (fun _ _=>.inl (by simp)) gA⟩
 |goto l=>exact⟨_,rq,rr,⟨s',aH,hq,ec⟩,.pass (x:=.inLoop c) rfl (fun _ _=>.inl (by simp)) gA⟩
 |ret=>exact⟨_,rq,rr,⟨s',aH,hq,ec⟩,.pass (x:=.inLoop c) rfl (fun _ _=>.inl (by simp)) gA⟩
 |panic ch=>exact⟨_,rq,rr,⟨s',aH,hq,ec⟩,.pass (x:=.inLoop c) rfl (fun _ _=>.inl (by simp)) gA⟩
 |outgrown=>exact⟨_,rq,rr,⟨s',aH,hq,ec⟩,.pass (x:=.inLoop c) rfl (fun _ _=>.inl (by simp)) gA⟩
theorem eL.pS {c:Code} {Q:Exit→AS Unit→Prop} (hw:bX Γ s s') (h:eL Γ c Q s'):eL Γ c Q s:=fun a w η hr=>let ⟨aH,ec⟩:=hw a w η hr;h a w aH ec
theorem eL.loop {c:Code} {Q:Exit→AS Unit→Prop} {β:Type} (I:β→Prop) (st:β→AS Unit) (μ:β→Nat)
  (round:∀b,I b→dG Γ c (oI (fun s'=>∃b',I b'∧bX Γ s' (st b')∧μ b' < μ b) Q) (st b)):∀(n:Nat) (b:β),I b→μ b=n→eL Γ c Q (st b):=by
 intro n
 induction n using Nat.strongRecOn with
 |_ n ih=>
  intro b St hb
  refine eL.Kp ((round b St).mono fun e s' h=>?_)
  cases e with
  |normal=>
   obtain⟨b',N5,hw,ak⟩:=h
   exact eL.pS hw (ih (μ b') (hb▸ak) b' N5 rfl)
  |_=>exact h
theorem dG.BG {c:Code} {Q:Exit→AS Unit→Prop} (h:eL Γ c Q s):dG Γ (.loop c) Q s:=by
 intro a w η hr f k cs ox hf eB
 obtain⟨e,a',w',hq,gA⟩:=h a w η hr f k cs ox hf eB
 exact⟨e,a',w',hq,.of_steps (.one (fenced_calm hf eB rfl) stepR_loop) gA⟩
def YF:AV→tj
 | .ae (.int k _)=>.i k
 | .ae (.bool _)=>.b
 | .ae (.string _)=>.s
 | .ae (.slice none 0 0)=>.l
 | .sl _=>.l
 | .clip _=>.c
 | .ea (.i _)=>.m
 | .ea (.s _)=>.ms
 | .own r _=>.o r
 | .ptr r o=>.k (.ptr r o)
 | .mp r=>.k (.mp r)
 | .aK f cs=>.k (.aK f cs)
 | .fn _=>.fn
 |_=>.k .top
def UG:List AV→List tj
 | []=>[]
 |x::l=>YF x::UG l
def ofV:AV→p8
 | .agg cs=>.a (UG cs)
 |x=>.c (YF x)
def SB:List AV→List p8
 | []=>[]
 |x::l=>ofV x::SB l
def ofS:AV→Sh
 | .aX vs=>.t (SB vs)
 | .aK f vs=>.f f (SB vs)
 |x=>.v (ofV x)
def YG:AV→tj
 | .ae (.slice none 0 0)=>.k (.ae (.slice none 0 0))
 |x=>YF x
def Q5:List AV→List tj
 | []=>[]
 |x::l=>YG x::Q5 l
def ofO:af→jh
 | .dead=>.dead
 | .box cs=>.box (Q5 cs)
 | .row e size _=>.row e size
 | .aI e size _=>.aI e size
 | .aB (.i _)=>.aB
 | .aB (.s _)=>.cD
 | .cA r _=>.cA r
 | .dB e _ _=>.dB e
def Hw:List af→List jh
 | []=>[]
 |o::l=>ofO o::Hw l
def oN:List Nat→AS Unit→AS Unit
 | [],s=>s
 |r::l,s=>(match s.hp[r]? with
  |some (.aB es)=>oN l ⟨fun t=>JG r es (s.tmps t),s.hp.set r .dead,s.g⟩
  |some (.aI e size els)=>oN l ⟨s.tmps,s.hp.set r (.row e size els),s.g⟩
  |_=>oN l s)
theorem bX.Kq (ao:Γ.Ok) {f:Nat→AV} {g:Unit} {r e size:Nat} {els:List AV} (hr:hp[r]?=some (.aI e size els)):bX Γ ⟨f,hp,g⟩ ⟨f,hp.set r (.row e size els),g⟩:=by
 intro a w η h
 have ak:r<η.length:=by have:=h.heap.len;simp only at this;rw[this];exact(List.getElem?_eq_some_iff.1 hr).1
 have hv:η[r]?=some η[r]:=by simp[ak]
 obtain⟨hz,xs,bW,cy⟩:=h.heap.obj r _ _ hr hv
 have dE:η.set r η[r]=η:=by
  apply List.ext_getElem?
  intro i
  by_cases hi:r=i
  ·subst hi;rw[aj hv,hv]
  ·rw[getElem?_set_ne hi]
 have hd:=Rel.change (w':=w) (o':=.row e size els) (v':=η[r]) ao h hr True.intro hv (bo.refl _ w) (fun b hb=>.inl hb) (fun k hk=>hk.elim) (fun _ _ _ _ hk _=>hk.elim) (fun _ _ _ _ hk _=>hk.elim)
  (fun n u ho=>by
   unfold aT at ho ⊢
   simp only[hr] at ho
   rw[dE]
   simp only[aj hr]
   exact ho) (fun _ _=>rfl) (fun _ _=>rfl) (fun b' d er hd=>by obtain⟨cur,h5⟩:=bW.lt er;rw[h5] at hd;cases hd)
  (fun he=>⟨hz,xs,bW.more (Nat.zero_le _),fun i el hi=>⟨(cy i el hi).1,fun j x hj=>let ⟨u,q1,q2,q3⟩:=(cy i el hi).2 j x hj;⟨u,q1,q2.ext he.ko.ext,q3⟩⟩⟩)
 rw[dE] at hd
 exact⟨η,hd⟩
theorem gY (ao:Γ.Ok):∀(l:List Nat) (s:AS Unit),bX Γ s (oN l s)
 | [],s=>.refl s
 |r::l,s=>by
  simp only[oN]
  split
  ·rename_i es hr
   exact(bX.QO ao hr).trans (gY ao l _)
  ·rename_i e size els hr
   exact(bX.Kq ao hr).trans (gY ao l _)
  ·exact gY ao l s
structure gZ where
 key:Nat
 live:List (Nat×Option Sh)
 rows:List (Nat×Nat):=[]
 UH:List (Nat×Nat):=[]
 qm:List (Nat×Nat×Nat):=[]
 cn:List (Nat×jh):=[]
 YH:Bool:=false
 Kq:List Nat:=[]
 mv:List (Nat×Nat):=[]
 prm:List Sh:=[]
 mb:Bool:=false
def Gi (s:AS Unit):List (Nat×Option Sh)→List Sh
 | []=>[]
 |(_,some sh)::l=>sh::Gi s l
 |(t,none)::l=>ofS (s.tmps t)::Gi s l
def slotsOf:List (Nat×Option Sh)→List Nat
 | []=>[]
 |(t,_)::l=>t::slotsOf l
def xj:List (Nat×jh)→List jh→List jh
 | [],l=>l
 |(r,o)::m,l=>xj m (l.set r o)
def pf (tab:Nat→Option TD):List (Nat×Nat)→AS Unit→Option (AS Unit)
 | [],s=>some s
 |(t,e)::l,s=>(match s.tmps t,tab e with
  | .ae (.slice none 0 0),some d=>(match Nat.blt 0 d.size with
   |true=>pf tab l ⟨xQ s.tmps t (.own s.hp.length 0),s.hp++[.row e d.size []],s.g⟩
   |false=>none)
  | .own _ _,some _=>pf tab l s
  |_,_=>none)
theorem nZ (ao:Γ.Ok) {tab:Nat→Option TD}:∀{l:List (Nat×Nat)} {s s':AS Unit},pf tab l s=some s'→bX Γ s s'
 | [],s,s',h=>by simp only[pf,Option.some.injEq] at h;subst h;exact .refl _
 |(t,e)::l,s,s',h=>by
  simp only[pf] at h
  split at h
  ·rename_i d ht hd
   split at h
   ·rename_i bC
    exact(bX.row ao t e d.size (Nat.le_of_ble_eq_true (show Nat.ble (0+1) d.size=true from bC)) ht).trans (nZ ao h)
   ·cases h
  ·exact nZ ao h
  ·cases h
def n5 (tab:Nat→Option TD):List (Nat×Nat)→AS Unit→Option (AS Unit)
 | [],s=>some s
 |(t,e)::l,s=>(match s.tmps t,tab e with
  | .ae (.slice none 0 0),some d=>(match Nat.blt 0 d.size with
   |true=>n5 tab l ⟨xQ s.tmps t (.own s.hp.length 0),s.hp++[.aI e d.size []],s.g⟩
   |false=>none)
  | .own _ _,some _=>n5 tab l s
  |_,_=>none)
theorem pg (ao:Γ.Ok) {tab:Nat→Option TD}:∀{l:List (Nat×Nat)} {s s':AS Unit},n5 tab l s=some s'→bX Γ s s'
 | [],s,s',h=>by simp only[n5,Option.some.injEq] at h;subst h;exact .refl _
 |(t,e)::l,s,s',h=>by
  simp only[n5] at h
  split at h
  ·rename_i d ht hd
   split at h
   ·rename_i bC
    exact(bX.Jk (M:=true) ao t e d.size (Nat.le_of_ble_eq_true (show Nat.ble (0+1) d.size=true from bC)) ht).trans (pg ao h)
   ·cases h
  ·exact pg ao h
  ·cases h
def lP (M:Bool) (tab:Nat→Option TD):List (Nat×Nat×Nat)→AS Unit→Option (AS Unit)
 | [],s=>some s
 |(r,k,e)::l,s=>(match s.hp[r]?,tab e with
  |some (.box cs),some d=>(match cs[k]? with
   |some (.ae (.slice none 0 0))=>(match Nat.blt 0 d.size with
    |true=>lP M tab l ⟨s.tmps,s.hp.set r (.box (cs.set k (.own s.hp.length 0)))++[eU M e d.size []],s.g⟩
    |false=>none)
   |_=>none)
  |_,_=>none)
theorem lR (ao:Γ.Ok) {M:Bool} {tab:Nat→Option TD}:∀{l:List (Nat×Nat×Nat)} {s s':AS Unit},lP M tab l s=some s'→bX Γ s s'
 | [],s,s',h=>by simp only[lP,Option.some.injEq] at h;subst h;exact .refl _
 |(r,k,e)::l,s,s',h=>by
  simp only[lP] at h
  split at h
  ·rename_i cs d hb hd
   split at h
   ·rename_i hk
    split at h
    ·rename_i bC
     exact(bX.RN ao r k e d.size (Nat.le_of_ble_eq_true (show Nat.ble (0+1) d.size=true from bC)) hb hk).trans (lR ao h)
    ·cases h
   ·cases h
  ·cases h
def Kr (mv:List (Nat×Nat)) (dA:List Nat) (my:List Sh) (cn:List jh) (again:TS my×TO cn→Prop) (Q:Exit→AS Unit→Prop):Exit→AS Unit→Prop
 | .normal,s=>(match Ev dA my cn (YE mv s) with
  |some (p,z)=>fg p (again z)
  |none=>False)
 |e,s=>Q e s
def uY (n0:Nat) (mv:List (Nat×Nat)) (dA:List Nat) (my:List Sh) (cn:List jh) (body:(Exit→AS Unit→Prop)→AS Unit→Prop) (Q:Exit→AS Unit→Prop) (s:AS Unit):Prop:=
 match Nat.ble n0 cn.length&&(Hu cn.length my&&Eu cn.length cn)&&N4 n0 mv with
 |false=>False
 |true=>(match Ev dA my cn s with
  |some (p,z)=>fg p (ax (TS my×TO cn) z fun z again=>body (Kr mv dA my cn again Q) (Hv dA my cn z))
  |none=>False)
def Ks (l:List Nat) (Q:Exit→AS Unit→Prop) (e:Exit) (s:AS Unit):Prop:=
 match l with
 | []=>Q e s
 |_=>Q e (oN l s)
theorem eL.n6 {c:Code} {Q Q':Exit→AS Unit→Prop} (h:eL Γ c Q s) (hq:∀e s,Q e s→∃s2,bX Γ s s2∧Q' e s2):eL Γ c Q' s:=
 fun a w η hr f k cs h1 h2 h3=>by
  obtain⟨e,a',w',⟨s',aH,q1,q2⟩,q3⟩:=h a w η hr f k cs h1 h2 h3
  obtain⟨s2,hw,q4⟩:=hq e s' q1
  obtain⟨kq,q5⟩:=hw _ _ _ q2
  exact⟨e,a',w',⟨s2,kq,q4,q5⟩,q3⟩
theorem eL.Kq (ao:Γ.Ok) {c:Code} {l:List Nat} {Q:Exit→AS Unit→Prop} (h:eL Γ c (Ks l Q) s):eL Γ c Q s:=
 h.n6 fun e s' hq=>by
  unfold Ks at hq
  split at hq
  ·exact⟨_,.refl _,hq⟩
  ·exact⟨_,gY ao _ _,hq⟩
def uZ (tab:Nat→Option TD) (n0:Nat) (A:gZ) (body:(Exit→AS Unit→Prop)→AS Unit→Prop) (Q:Exit→AS Unit→Prop) (s:AS Unit):Prop:=
 match pf tab A.rows s with
 |none=>False
 |some s0=>(match n5 tab A.UH s0 with
  |none=>False
  |some s1=>(match lP A.mb tab A.qm s1 with
   |none=>False
   |some s2=>uY n0 A.mv (slotsOf A.live) (Gi s2 A.live) (xj A.cn (Hw s2.hp)) body (Ks A.Kq Q) s2))
theorem uY.sound (ao:Γ.Ok) {n0:Nat} (lC:Γ.iV.length=n0) {mv:List (Nat×Nat)} {dA:List Nat} {my:List Sh} {cn:List jh} {c:Code} {body:(Exit→AS Unit→Prop)→AS Unit→Prop} {Q:Exit→AS Unit→Prop} {s:AS Unit}
  (hb:∀Q s,body Q s→dG Γ c Q s) (h:uY n0 mv dA my cn body Q s):eL Γ c Q s:=by
 unfold uY at h
 split at h
 ·exact h.elim
 rename_i Bv
 rw[Bool.and_eq_true,Bool.and_eq_true] at Bv
 obtain⟨Bv,IJ⟩:=Bv
 rw[←lC] at IJ
 have hn:Γ.iV.length≤cn.length:=by rw[lC];exact Nat.le_of_ble_eq_true Bv.1
 split at h
 ·rename_i p z hz
  rw[bf] at h
  obtain⟨hp,β,E,I,μ,b0,IG,hI,hr⟩:=h
  have hw:=yG ao hz hp hn Bv.2
  rw[IG] at hw
  refine eL.pS hw (eL.loop I (fun b=>Hv dA my cn (E b)) μ (fun b St=>?_) _ b0 hI rfl)
  refine(hb _ _ (hr b St)).mono fun e s1 h1=>?_
  cases e with
  |normal=>
   simp only[Kr] at h1
   split at h1
   ·rename_i p1 z1 JO
    rw[bf] at h1
    obtain⟨ff,b',er,N5,ak⟩:=h1
    have TY:=(Kl ao mv s1 IJ).trans (yG ao JO ff hn Bv.2)
    rw[er] at TY
    exact⟨b',N5,TY,ak⟩
   ·exact h1.elim
  |_=>exact h1
 ·exact h.elim
theorem uZ.sound (ao:Γ.Ok) {tab:Nat→Option TD} {n0:Nat} (lC:Γ.iV.length=n0) {A:gZ} {c:Code} {body:(Exit→AS Unit→Prop)→AS Unit→Prop} {Q:Exit→AS Unit→Prop} {s:AS Unit}
  (hb:∀Q s,body Q s→dG Γ c Q s) (h:uZ tab n0 A body Q s):eL Γ c Q s:=by
 unfold uZ at h
 split at h
 ·exact h.elim
 ·rename_i s0 h0
  split at h
  ·exact h.elim
  ·rename_i s1 h1
   split at h
   ·exact h.elim
   ·rename_i s2 h2
    exact eL.pS (((nZ ao h0).trans (pg ao h1)).trans (lR ao h2)) ((uY.sound ao lC hb h).Kq ao)
def jl:Code→Option Nat
 | .region id _ _=>some id
 | .seq x y=>(match jl x with|some k=>some k|none=>jl y)
 | .cond _ x y=>(match jl x with|some k=>some k|none=>jl y)
 | .block _ x=>jl x
 | .loop x=>jl x
 | .rangeFunc _ _ x y=>(match jl x with|some k=>some k|none=>jl y)
 |_=>none
def Gj:List gZ→Nat→Option gZ
 | [],_=>none
 |A::l,k=>(match Nat.beq A.key k with|true=>some A|false=>Gj l k)
def lS (τ α:Type) (y0:τ) (S:List α→Prop) (round:α→τ→(τ→Prop)→Prop) (after:τ→Prop):Prop:=
 ∃(Ls:List α) (I:List α→τ→Prop),S Ls∧I Ls y0∧(∀e rest y,I (e::rest) y→round e y (I rest))∧∀y,I [] y→after y
def sa (P:Program) (gf:Nat) (caps:List AV) (prm:List Sh) (Ls:List (TS prm)):Prop:=
 wu P gf (fun v=>v::caps) (Ls.map fun e=>tl [] prm e) false
def yH (cn:List jh) (again:TO cn→Prop) (Q:Exit→AS Unit→Prop) (f:Nat→AV):Exit→AS Unit→Prop
 | .normal,s=>(match r7 (o7 (s.hp.take cn.length)) cn (s.hp.take cn.length) with
  |some (p,y)=>fg p (again y)
  |none=>False)
 | .ret,s=>Q .ret ⟨f,s.hp,()⟩
 | .exit id,s=>Q (.exit id) ⟨f,s.hp,()⟩
 |_,_=>False
def Xr (nt:Nat):List Nat→Bool
 | []=>true
 |p::l=>Nat.blt p nt&&Xr nt l
theorem Kt {nt:Nat}:∀{l:List Nat},Xr nt l=true→∀p∈l,p<nt
 | [],_,p,hp=>by cases hp
 |q::l,h,p,hp=>by
  simp only[Xr,Bool.and_eq_true] at h
  rcases List.mem_cons.1 hp with rfl|hp
  ·exact Nat.le_of_ble_eq_true (show Nat.ble (p+1) nt=true from h.1)
  ·exact Kt h.2 p hp
def qn (C:cm) (n0:Nat) (cn:List jh) (prm:List Sh) (g:Operand) (ps:Array Tmp) (uU body:(Exit→AS Unit→Prop)→AS Unit→Prop) (Q:Exit→AS Unit→Prop) (s:AS Unit):Prop:=
 match s.ev g with
 | .aK gf caps=>(match Xr C.nt ps.toList&&(Nat.beq ps.toList.length prm.length&&(Nat.ble n0 cn.length&&(Nat.beq cn.length s.hp.length&&Eu cn.length cn))) with
  |false=>False
  |true=>(match r7 (o7 s.hp) cn s.hp with
   |some (p,y)=>fg p (fg (cd (AV.ji 0 (lN (fm cn y) cn y)) caps).1 (lS (TO cn) (TS prm) y (fun Ls=>sa C.P gf (cd (AV.ji 0 (lN (fm cn y) cn y)) caps).2 prm Ls)
     (fun e y again=>uU (oI (body (yH cn again Q s.tmps)) Yv) ⟨qi ps.toList (tl [] prm e) s.tmps,lN (fm cn y) cn y,()⟩)
     (fun y=>Q .normal ⟨s.tmps,lN (fm cn y) cn y,()⟩)))
   |none=>False))
 |_=>False
def u4 (C:cm) (A:gZ) (n0:Nat) (g:Operand) (ps:Array Tmp) (uU body:Nat→(Exit→AS Unit→Prop)→AS Unit→Prop) (Q:Exit→AS Unit→Prop) (s:AS Unit):Prop:=
 match lP A.mb C.tab A.qm s with
 |none=>False
 |some s1=>qn C n0 (xj A.cn (Hw s1.hp)) A.prm g ps (uU (xj A.cn (Hw s1.hp)).length) (body (xj A.cn (Hw s1.hp)).length) Q s1
theorem BH:∀{l:List Sh} {t:TS l},(tl [] l t).length=l.length
 | [],_=>rfl
 |_::l,t=>by simp[tl,BH (l:=l)]
theorem qn.sound (ao:Γ.Ok) (cg:Γ.Ar) {C:cm} (hP:C.P=Γ.P) (cC:C.nt=Γ.nt) {n0:Nat} (lC:Γ.iV.length=n0) {cn:List jh} {prm:List Sh} {g:Operand} {ps:Array Tmp} {ca cb:Code} {uU body:(Exit→AS Unit→Prop)→AS Unit→Prop} {Q:Exit→AS Unit→Prop} {s:AS Unit}
  (ha:∀jC,fY Γ cn.length jC→∀Q s,uU Q s→dG jC ca Q s) (hb:∀jC,fY Γ cn.length jC→∀Q s,body Q s→dG jC cb Q s) (h:qn C n0 cn prm g ps uU body Q s):dG Γ (.rangeFunc g ps ca cb) Q s:=by
 unfold qn at h
 split at h
 ·rename_i gf caps hg
  split at h
  ·exact h.elim
  rename_i Bv
  simp only[Bool.and_eq_true] at Bv
  obtain⟨Kh,II,hle,hln,cS⟩:=Bv
  have acq:=Nat.eq_of_beq_eq_true hln
  split at h
  ·rename_i p y hy
   rw[bf,bf] at h
   obtain⟨hp,UI,Ls,I,hS,hI,o9,SC⟩:=h
   obtain⟨f,Ku,gg⟩:=s
   obtain⟨h3,h4⟩:=qh (lens':=[]) hy hp
   rw[←h4] at h3
   have hw:bX Γ ⟨f,Ku,gg⟩ ⟨f,lN (fm cn y) cn y,()⟩:=bX.Sz h3
   refine dG.pS hw ?_
   have SD:caps.map (AV.oZ 0 (lN (fm cn y) cn y))=(cd (AV.ji 0 (lN (fm cn y) cn y)) caps).2:=bO (fun x=>ni) _ UI
   refine dG.range (s:=⟨f,lN (fm cn y) cn y,()⟩) ao cg (gf:=gf) (caps:=caps) (L:=Ls.map fun e=>tl [] prm e) hg (by rw[SD,←hP];exact hS) (fun x hx=>?_) (fun q hq=>by rw[←cC];exact Kt Kh q hq)
    (fun rest hp=>∃Kv y,rest=Kv.map (fun e=>tl [] prm e)∧I Kv y∧hp=lN (fm cn y) cn y) ⟨Ls,y,rfl,hI,rfl⟩ (fun x rest hp ⟨Kv,y',he,N5,yg⟩=>?_) fun hp ⟨Kv,y',he,N5,yg⟩=>?_
   ·obtain⟨e,_,rfl⟩:=List.mem_map.1 hx
    rw[BH,←Nat.eq_of_beq_eq_true II];simp
   ·cases Kv with
    |nil=>cases he
    |cons e Kv=>
     simp only[List.map_cons,List.cons.injEq] at he
     obtain⟨rfl,rfl⟩:=he
     subst yg
     have As:(lN (fm cn y') cn y').length=cn.length:=ql
     refine⟨fun s1=>body (yH cn (I Kv) Q f) s1,fun jC Ew=>?_,fun s1 Tq jC Ew=>?_⟩
     ·rw[As] at Ew
      exact ha jC Ew _ _ (o9 e Kv y' N5)
     ·rw[As] at Ew
      refine(hb jC Ew _ _ Tq).mono fun e s2 hq=>?_
      cases e with
      |normal=>
       simp only[yH] at hq
       split at hq
       ·rename_i p2 y2 UJ
        rw[bf] at hq
        obtain⟨k3,k4⟩:=qh (lens':=[]) UJ hq.1
        rw[←k4] at k3
        refine⟨lN (fm cn y2) cn y2,?_,Kv,y2,rfl,hq.2,rfl⟩
        obtain⟨f2,nR,g2⟩:=s2
        have h6:dP nR (lN (fm cn y2) cn y2++nR.drop cn.length):=by
         have:=dP.append k3 (dP.refl (nR.drop cn.length))
         rwa [List.take_append_drop] at this
        refine(bX.Sz (Γ:=jC) (f:=f2) (g:=g2) h6).trans (bX.cut Ew.ok cn.length (by rw[Ew.h0];exact Nat.le_refl _) Sub.nil mr.nil ?_ (yF cS))
        have:=ql (lens:=fm cn y2) (l:=cn) (t:=y2)
        rw[←this,List.take_left]
       ·exact hq.elim
      |ret=>exact hq
      |exit id=>exact hq
      |_=>exact hq.elim
   ·cases Kv with
    |nil=>subst yg;exact SC y' N5
    |cons e Kv=>cases he
  ·exact h.elim
 ·exact h.elim
theorem u4.sound (ao:Γ.Ok) (cg:Γ.Ar) {C:cm} (hP:C.P=Γ.P) (cC:C.nt=Γ.nt) {A:gZ} {n0:Nat} (lC:Γ.iV.length=n0) {g:Operand} {ps:Array Tmp} {ca cb:Code} {uU body:Nat→(Exit→AS Unit→Prop)→AS Unit→Prop} {Q:Exit→AS Unit→Prop} {s:AS Unit}
  (ha:∀n jC,fY Γ n jC→∀Q s,uU n Q s→dG jC ca Q s) (hb:∀n jC,fY Γ n jC→∀Q s,body n Q s→dG jC cb Q s) (h:u4 C A n0 g ps uU body Q s):dG Γ (.rangeFunc g ps ca cb) Q s:=by
 unfold u4 at h
 split at h
 ·exact h.elim
 ·rename_i s1 h1
  exact dG.pS (lR ao h1) (qn.sound ao cg hP cC lC (fun jC hr=>ha _ jC hr) (fun jC hr=>hb _ jC hr) h)
def UK:List (Nat×kY)→Nat→Option kY
 | [],_=>none
 |p::l,k=>(match Nat.beq p.1 k with|true=>some p.2|false=>UK l k)
def hcD (l:List (Nat×List Nat)) (id:Nat):List Nat:=
 match NT l id with
 |some p=>p
 |none=>[]
def drD (l:List (Nat×List (Option (List Nat))×List (Option (List Nat)))) (id:Nat):List (Option (List Nat))×List (Option (List Nat)):=
 match Sq l id with
 |some p=>p
 |none=>([],[])
def cU (C:cm) (L:List gZ):Code→Nat→Bool→(Exit→AS Unit→Prop)→AS Unit→Prop
 | .skip,n0,fr,Q,s=>Q .normal s
 | .region id ops draw,n0,fr,Q,s=>(match draw with
  |false=>Bt C id ops.toList (Q .normal) s
  |true=>(match UK C.br id with
  |some pl=>okB (Nat.ble pl.depth ops.toList.length) (ga C (hcD C.hc id) ops.toList (kK ops.toList []) (drD C.dr id).1 (drD C.dr id).2 (Q .normal) pl (pd ops.toList) s)
  |none=>match Sq C.dr id with
   |some p=>(match NT C.hc id with
    |some hs=>okB (tE (aZ hs) p.1 p.2 ops.toList) (oM C hs ops.toList p.1 p.2 (Q .normal) 0 ops.toList s)
    |none=>okB (tC p.1 p.2 ops.toList) (qe C ops.toList p.1 p.2 (Q .normal) 0 ops.toList s))
   |none=>(match NT C.hc id with
    |some hs=>okB (tD (aZ hs) ops.toList) (oL C hs ops.toList (Q .normal) ops.toList s)
    |none=>okB (uw ops.toList) (qd C ops.toList (Q .normal) ops.toList s))))
 | .seq x y,n0,fr,Q,s=>cU C L x n0 fr (oI (cU C L y n0 fr Q) Q) s
 | .cond c x y,n0,fr,Q,s=>(match s.ev c with
  | .ae (.bool b)=>ai b (cU C L x n0 fr Q s) (cU C L y n0 fr Q s)
  |_=>False)
 | .block id c,n0,fr,Q,s=>cU C L c n0 fr (ur id Q) s
 | .loop c,n0,fr,Q,s=>(match jl c with
  |some k=>(match Gj L k with
   |some A=>(match A.YH with
    |false=>uZ C.tab n0 A (cU C L c n0 fr) Q s
    |true=>cU C L c n0 fr (oI (uZ C.tab n0 A (cU C L c n0 fr) Q) Q) s)
   |none=>False)
  |none=>False)
 | .rangeFunc g ps uU body,n0,fr,Q,s=>(match fr with
  |true=>(match jl body with
   |some k=>(match Gj L k with
    |some A=>u4 C A n0 g ps (fun n=>cU C L uU n false) (fun n=>cU C L body n false) Q s
    |none=>False)
   |none=>False)
  |false=>False)
 | .exit id,n0,fr,Q,s=>Q (.exit id) s
 | .label _,n0,fr,Q,s=>Q .normal s
 | .ret,n0,fr,Q,s=>Q .ret s
 |_,_,_,_,_=>False
theorem Ex {N N':AS Unit→Prop} {Q:Exit→AS Unit→Prop} (h:∀s,N s→N' s) (e:Exit) (s:AS Unit) (hq:oI N Q e s):oI N' Q e s:=by
 cases e with
 |normal=>exact h s hq
 |_=>exact hq
theorem cU.sound {C:cm} (hm:C.P.follows .mixedOrders=true) {L:List gZ}:∀(c:Code) (Γ:Env Unit) (_:Γ.Ok) (_:C.P=Γ.P) (_:aQ Γ.P C.tab) (_:C.nt=Γ.nt) (n0:Nat) (_:Γ.iV.length=n0) (fr:Bool) (_:fr=true→Γ.Ar) (Q:Exit→AS Unit→Prop) (s:AS Unit),cU C L c n0 fr Q s→dG Γ c Q s:=by
 intro c
 induction c with
 |skip=>intro Γ ao hP ah cC n0 lC fr oE Q s h;exact dG.skip h
 |region id ops draw=>
  intro Γ ao hP ah cC n0 lC fr oE Q s h
  have e:ops=ops.toList.toArray:=by simp
  simp only[cU] at h
  rw[e]
  split at h
  ·intro a w η hr
   exact wpIn_region_lit (Bt.sound ao hP ah cC h a w η _ (fun s' a' w' aH h1 h2=>⟨s',aH,h1,h2⟩) hr)
  ·split at h
   ·obtain⟨hd,h⟩:=bE h
    exact dG.UE ao hP ah cC (by rw[←hP];exact hm) hd h
   split at h
   ·rename_i p hp
    split at h
    ·obtain⟨hd,h⟩:=bE h
     exact dG.Ue ao (by rw[←hP];exact hm) p.1 p.2 hd (oM.sound ao hP ah cC _ 0 s h)
    obtain⟨hd,h⟩:=bE h
    exact dG.T5 ao ah cC (by rw[←hP];exact hm) p.1 p.2 hd (qe.sound ao hP ah cC _ 0 s h)
   ·split at h
    ·obtain⟨hd,h⟩:=bE h
     exact dG.Ud ao (by rw[←hP];exact hm) hd (oL.sound ao hP ah cC _ s h)
    ·obtain⟨hd,h⟩:=bE h
     exact dG.TW ao ah cC (by rw[←hP];exact hm) hd (qd.sound ao hP ah cC _ s h)
 |seq x y SE SF=>
  intro Γ ao hP ah cC n0 lC fr oE Q s h
  refine dG.XV fun K hK=>(SE Γ ao hP ah cC n0 lC fr oE _ s h).mono fun e s' hq=>?_
  exact Ex (fun s'' h''=>hK s'' (SF Γ ao hP ah cC n0 lC fr oE _ s'' h'')) e s' hq
 |cond c x y SE SF=>
  intro Γ ao hP ah cC n0 lC fr oE Q s h
  simp only[cU] at h
  split at h
  ·rename_i b hb
   exact dG.TV hb (fun ht=>SE Γ ao hP ah cC n0 lC fr oE _ s (h.elim.1 ht)) fun ht=>SF Γ ao hP ah cC n0 lC fr oE _ s (h.elim.2 ht)
  ·exact h.elim
 |block id c ih=>intro Γ ao hP ah cC n0 lC fr oE Q s h;exact dG.block (ih Γ ao hP ah cC n0 lC fr oE _ s h)
 |loop c ih=>
  intro Γ ao hP ah cC n0 lC fr oE Q s h
  simp only[cU] at h
  split at h
  ·split at h
   ·split at h
    ·exact dG.BG (uZ.sound ao lC (ih Γ ao hP ah cC n0 lC fr oE) h)
    ·exact dG.BG (eL.Kp ((ih Γ ao hP ah cC n0 lC fr oE _ s h).mono fun e s' hq=>by
      cases e with
      |normal=>exact uZ.sound ao lC (ih Γ ao hP ah cC n0 lC fr oE) hq
      |_=>exact hq))
   ·exact h.elim
  ·exact h.elim
 |rangeFunc g ps uU body iha ihb=>
  intro Γ ao hP ah cC n0 lC fr oE Q s h
  simp only[cU] at h
  split at h
  ·split at h
   ·split at h
    ·refine u4.sound ao (oE rfl) hP cC lC (fun n jC hr Q s h=>?_) (fun n jC hr Q s h=>?_) h
     ·exact iha jC hr.ok (by rw[hr.hP,hP]) (by rw[hr.hP];exact ah) (by rw[hr.nt,cC]) n hr.h0 false (fun h=>by cases h) _ s h
     ·exact ihb jC hr.ok (by rw[hr.hP,hP]) (by rw[hr.hP];exact ah) (by rw[hr.nt,cC]) n hr.h0 false (fun h=>by cases h) _ s h
    ·exact h.elim
   ·exact h.elim
  ·exact h.elim
 |exit id=>intro Γ ao hP ah cC n0 lC fr oE Q s h;exact dG.exit h
 |label l=>intro Γ ao hP ah cC n0 lC fr oE Q s h;exact dG.label h
 |ret=>intro Γ ao hP ah cC n0 lC fr oE Q s h;exact dG.ret h
 |_=>intro Γ ao hP ah cC n0 lC fr oE Q s h;exact h.elim
def lT (k:Nat):Nat→List Nat
 |0=>[]
 |n+1=>k::lT (k+1) n
theorem dG.n6 {c:Code} {Q Q':Exit→AS Unit→Prop} (h:dG Γ c Q s) (hq:∀e s,Q e s→∃s2,bX Γ s s2∧Q' e s2):dG Γ c Q' s:=
 fun a w η hr=>wpIn_mono (h a w η hr) fun e a' w' ⟨s',aH,h1,h2⟩=>by
  obtain⟨s2,hw,h3⟩:=hq e s' h1
  obtain⟨kq,h4⟩:=hw _ _ _ h2
  exact⟨s2,kq,h3,h4⟩
def AV.u6 (hp:List af):AV→List Prop×AV
 | .ptr r 0=>(match hp[r]? with
  |some (.box cs)=>((cd (AV.iw hp) cs).1,.aL (AO (cd (AV.iw hp) cs).2) 0)
  |_=>([],.top))
 |x=>x.eK hp
theorem Hx {hp:List af} {x:AV} (hc:dI (x.u6 hp).1):x.FF hp=(x.u6 hp).2:=by
 cases x with
 |ptr r o=>
  cases o with
  |zero=>
   simp only[AV.FF,AV.u6] at hc ⊢
   cases hr:hp[r]? with
   |none=>rfl
   |some o=>
    cases o with
    |box cs=>
     simp only[hr] at hc ⊢
     rw[bO (g:=AV.dF hp) (fun x=>kV) _ hc]
    |_=>rfl
  |succ n=>exact gC hc
 |_=>exact gC hc
def AV.nq (hp:List af):AV→List Prop×AV
 | .aK f cs=>((cd (AV.u6 hp) cs).1,.aK f (cd (AV.u6 hp) cs).2)
 |x=>x.bz hp
theorem BI {hp:List af} {x:AV} (hc:dI (x.nq hp).1):x.nV hp=(x.nq hp).2:=by
 cases x with
 |aK f cs=>simp only[AV.nq,AV.nV] at hc ⊢;rw[bO (fun x=>Hx) _ hc]
 |_=>exact cF hc
def Ey (tab:Nat→Option TD) (rs:List ResultVar) (R:AV→Prop) (s:AS Unit):Prop:=
 match dN tab s rs with
 |some l=>fg ((fw l).nq s.hp).1 (R ((fw l).nq s.hp).2)
 |none=>False
def N6 (tab:Nat→Option TD) (rs:List ResultVar) (R:AV→Prop):Exit→AS Unit→Prop
 | .normal,s=>Ey tab rs R (oN (lT 0 s.hp.length) s)
 | .ret,s=>Ey tab rs R (oN (lT 0 s.hp.length) s)
 |_,_=>False
theorem Ey.sound {tab:Nat→Option TD} {rs:List ResultVar} {R:AV→Prop} {s:AS Unit} (h:Ey tab rs R s):∃l,dN tab s rs=some l∧R ((fw l).nV s.hp):=by
 unfold Ey at h
 split at h
 ·rename_i l hl
  rw[bf] at h
  exact⟨l,hl,by rw[BI h.1];exact h.2⟩
 ·exact h.elim
theorem yI {C:cm} (ah:aQ C.P C.tab) (hm:C.P.follows .mixedOrders=true) {L:List gZ} {f:FuncId} {fn:Func} {c:Code} {args:List AV} {R:AV→Prop} (hf:C.P.funcs[f]?=some fn) (hb:fn.body=some c)
  (eZ:(fn.name == "runtime.NumGoroutine")=false) (hn:Nat.ble args.length fn.ntmps=true) (cC:C.nt=fn.ntmps) (h:cU C L c 0 true (N6 C.tab fn.results.toList R) ⟨ck 0 args,[],()⟩):Pure C.P f args R:=by
 refine yd ah hf hb eZ (Nat.le_of_ble_eq_true hn) fun Γ ao hP Kw UL cg=>?_
 refine(cU.sound hm c Γ ao hP.symm (by rw[hP];exact ah) (by rw[cC,Kw]) _ UL true (fun _=>cg) _ _ h).n6 fun e s' hq=>?_
 cases e with
 |normal=>obtain⟨l,h1,h2⟩:=Ey.sound hq;exact⟨_,gY ao (lT 0 s'.hp.length) s',by simp only[Jh,h1];exact h2⟩
 |ret=>obtain⟨l,h1,h2⟩:=Ey.sound hq;exact⟨_,gY ao (lT 0 s'.hp.length) s',by simp only[Jh,h1];exact h2⟩
 |_=>exact hq.elim
theorem BJ {C:cm} (ah:aQ C.P C.tab) (hm:C.P.follows .mixedOrders=true) {L:List gZ} {f:FuncId} {fn:Func} {c:Code} {args:List AV} {e size:Nat} {els:List AV} (hf:C.P.funcs[f]?=some fn) (hb:fn.body=some c)
  (eZ:(fn.name == "runtime.NumGoroutine")=false) (hn:Nat.ble args.length fn.ntmps=true) (cC:C.nt=fn.ntmps) (h:cU C L c 0 true (JK C.tab fn.results.toList e size els) ⟨ck 0 args,[],()⟩):IQ C.P f args e size els:=by
 refine Be ah hf hb eZ (Nat.le_of_ble_eq_true hn) fun Γ ao hP Kw UL cg=>?_
 exact cU.sound hm c Γ ao hP.symm (by rw[hP];exact ah) (by rw[cC,Kw]) _ UL true (fun _=>cg) _ _ h
def AV.xk (n:Nat) (hp:List af) (x:AV):List Prop×AV:=
 match x.aM n with
 |true=>([],x)
 |false=>x.iw hp
def AV.xl (n:Nat) (hp:List af):AV→List Prop×AV
 | .agg cs=>((cd (AV.xk n hp) cs).1,.agg (cd (AV.xk n hp) cs).2)
 |x=>x.xk n hp
def AV.Kx (n:Nat) (hp:List af):AV→List Prop×AV
 | .aX cs=>((cd (AV.xl n hp) cs).1,.aX (cd (AV.xl n hp) cs).2)
 |x=>x.xl n hp
theorem BK {n:Nat} {x:AV} (hc:dI (x.xk n hp).1):x.Hd n hp=(x.xk n hp).2:=by
 unfold AV.Hd AV.xk at *
 cases h:x.aM n with
 |true=>simp
 |false=>rw[h] at hc;simp only[Bool.false_eq_true,if_false];exact kV hc
theorem BL {n:Nat} {x:AV} (hc:dI (x.xl n hp).1):x.Jm n hp=(x.xl n hp).2:=by
 cases x with
 |agg cs=>simp only[AV.xl,AV.Jm] at hc ⊢;rw[bO (fun x=>BK) _ hc]
 |_=>exact BK hc
theorem N7 {n:Nat} {x:AV} (hc:dI (x.Kx n hp).1):x.out n hp=(x.Kx n hp).2:=by
 cases x with
 |aX cs=>simp only[AV.Kx,AV.out] at hc ⊢;rw[bO (fun x=>BL) _ hc]
 |_=>exact BL hc
def u7 (tab:Nat→Option TD) (n:Nat) (rs:List ResultVar) (R:AV→List af→Prop) (s:AS Unit):Prop:=
 match dN tab s rs with
 |some l=>okB ((s.hp.take n).all (af.closed n)) (fg ((fw l).Kx n s.hp).1 (R ((fw l).Kx n s.hp).2 (s.hp.take n)))
 |none=>False
def Gk (tab:Nat→Option TD) (n:Nat) (rs:List ResultVar) (R:AV→List af→Prop):Exit→AS Unit→Prop
 | .normal,s=>u7 tab n rs R (oN (lT n (s.hp.length-n)) s)
 | .ret,s=>u7 tab n rs R (oN (lT n (s.hp.length-n)) s)
 |_,_=>False
theorem u7.sound {tab:Nat→Option TD} {n:Nat} {rs:List ResultVar} {R:AV→List af→Prop} {s:AS Unit} (h:u7 tab n rs R s):
  ∃l,dN tab s rs=some l∧(∀o∈s.hp.take n,af.closed n o=true)∧R ((fw l).out n s.hp) (s.hp.take n):=by
 unfold u7 at h
 split at h
 ·rename_i l hl
  obtain⟨hb,h⟩:=bE h
  rw[bf] at h
  exact⟨l,hl,fun o ho=>List.all_eq_true.1 hb o ho,by rw[N7 h.1];exact h.2⟩
 ·exact h.elim
theorem tm {C:cm} (ah:aQ C.P C.tab) (hm:C.P.follows .mixedOrders=true) {L:List gZ} {f:FuncId} {fn:Func} {c:Code} {args:List AV} {hp:List af} {R:AV→List af→Prop} (m:Nat) (xU:Nat.ble hp.length m=true) (hf:C.P.funcs[f]?=some fn) (hb:fn.body=some c)
  (eZ:(fn.name == "runtime.NumGoroutine")=false) (hn:Nat.ble args.length fn.ntmps=true) (cC:C.nt=fn.ntmps) (h:cU C L c hp.length true (Gk C.tab m fn.results.toList R) ⟨ck 0 args,hp,()⟩):bp C.P f args hp R:=by
 refine ta ah m (Nat.le_of_ble_eq_true xU) hf hb eZ (Nat.le_of_ble_eq_true hn) fun Γ ao hP Kw UL cg=>?_
 refine(cU.sound hm c Γ ao hP.symm (by rw[hP];exact ah) (by rw[cC,Kw]) _ UL true (fun _=>cg) _ _ h).n6 fun e s' hq=>?_
 cases e with
 |normal=>obtain⟨l,h1,h2,h3⟩:=u7.sound hq;exact⟨_,gY ao (lT m (s'.hp.length-m)) s',by simp only[Jn,h1];exact⟨h2,h3⟩⟩
 |ret=>obtain⟨l,h1,h2,h3⟩:=u7.sound hq;exact⟨_,gY ao (lT m (s'.hp.length-m)) s',by simp only[Jn,h1];exact⟨h2,h3⟩⟩
 |_=>exact hq.elim
abbrev nI (n:Int):AV:=.ae (.int .i64 n)
abbrev nB (b:Bool):AV:=.ae (.bool b)
abbrev nS (s:ByteArray):AV:=.ae (.string s)
theorem of_eq {p q:Prop} (h:p=q) (hp:p):q:=h▸hp
end Go.Proofs.YtdcikhleahfknaaGreatDoor
