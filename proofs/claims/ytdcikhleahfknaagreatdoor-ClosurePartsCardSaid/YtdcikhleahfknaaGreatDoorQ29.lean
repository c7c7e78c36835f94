/- Texts of ours laid together for a claim: VcE. -/
import Derived.Test.YtdcikhleahfknaaGreatDoorQ28
namespace Go.Proofs.YtdcikhleahfknaaGreatDoor
open Go
set_option linter.unusedSimpArgs false
set_option linter.unusedVariables false
variable {Γ:Env Unit} {s s':AS Unit} {a:Act} {w w':World} {η:List Value} {hp hp':List af}
theorem bV.da {f f':Nat→AV} {g:Unit} (h:∀t,dE (f t) (f' t)):bV Γ ⟨f,hp,g⟩ ⟨f',hp,g⟩:=
 fun _ _ η hr=>⟨η,hr.nt,fun t=>h t _ _ _ _ _ (hr.tmps t),hr.heap,hr.bA,hr.keeps,hr.inv,hr.marks,hr.ext⟩
theorem F9.own {o o':af} (h:F9 o o'):(∃cs cs',o=.box cs∧o'=.box cs'∧dt cs cs')∨o=o':=by
 cases o with
 |box cs=>
  cases o' with
  |box cs'=>exact .inl ⟨cs,cs',rfl,rfl,h⟩
  |_=>cases h
 |_=>cases o'<;>first|exact .inr h|cases h
theorem dD.W4 (h:dD hp hp') {b o:Nat} (hf:gW η hp b o):gW η hp' b o:=by
 intro r v hr hb
 have:=hf r v hr hb
 rcases h.get r with⟨h1,h2⟩|⟨o1,o2,h1,h2,h3⟩
 ·rw[h1] at this;exact this.elim
 ·rw[h1] at this
  rw[h2]
  rcases h3.own with⟨cs,cs',rfl,rfl,_⟩|rfl
  ·exact this
  ·exact this
theorem dD.SX (h:dD hp hp') {r n:Nat} {v:Value} (hf:aQ η hp r n v):aQ η hp' r n v:=by
 unfold aQ at hf ⊢
 rcases h.get r with⟨h1,h2⟩|⟨o1,o2,h1,h2,h3⟩
 ·rw[h1] at hf;exact hf.elim
 ·rw[h1] at hf
  rw[h2]
  rcases h3.own with⟨cs,cs',rfl,rfl,_⟩|rfl
  ·exact hf
  ·exact hf
theorem bV.QO {f:Nat→AV} {g:Unit} (h:dD hp hp'):bV Γ ⟨f,hp,g⟩ ⟨f,hp',g⟩:=by
 intro a w η hr
 have he:Ext w (aU Γ w η hp) η hp w (aU Γ w η hp') η hp':=
  ⟨fun _ _ _ _ h=>h,fun _ _ _ _ h=>h,fun b o hf=>⟨hf.1,hf.2.1,hf.2.2.1,h.W4 hf.2.2.2⟩,fun _ _ h=>h,fun _ _ h=>h,fun _ _ _ ho=>h.SX ho⟩
 have back:∀{r:Nat} {o':af},hp'[r]?=some o'→∃o,hp[r]?=some o∧F9 o o'∧(o'.live→o.live):=by
  intro r o' ho
  rcases h.get r with⟨h1,h2⟩|⟨o1,o2,h1,h2,h3⟩
  ·rw[h2] at ho;cases ho
  ·rw[h2] at ho
   obtain rfl:=Option.some.inj ho
   refine⟨o1,h1,h3,fun hl=>?_⟩
   rcases h3.own with⟨cs,cs',rfl,rfl,_⟩|rfl
   ·exact True.intro
   ·exact hl
 refine⟨η,hr.nt,fun t=>(hr.tmps t).ext he,⟨by rw[hr.heap.len];exact h.length,fun r o' v h1 h2=>?_,fun r r' o o' v v' b bj h1 h2 l1 l2 e1 e2 hb=>?_⟩,fun r o v b h1 hl h2 hb=>?_,hr.keeps,hr.inv,hr.marks,hr.ext.trans he⟩
 ·obtain⟨o,g1,g2,_⟩:=back h1
  have cR:=hr.heap.obj r o v g1 h2
  rcases g2.own with⟨cs,cs',rfl,rfl,hw⟩|rfl
  ·obtain⟨b,vs,T,e1,e2,e3,e4⟩:=cR
   refine⟨b,vs,T,e1,e2,by rw[e3,hw.length],fun j x u hx hu=>?_⟩
   obtain⟨y,hy,hyx⟩:=hw.get j x hx
   have:=e4 j y u hy hu
   exact⟨hyx _ _ _ _ _ (this.1.ext he),this.2⟩
  ·exact cR.ext he (Nat.le_refl _) fun _ _ _=>rfl
 ·obtain⟨o1,g1,_,g3⟩:=back h1
  obtain⟨o2,g4,_,g6⟩:=back h2
  exact hr.heap.sep r r' o1 o2 v v' b bj g1 g4 (g3 l1) (g6 l2) e1 e2 hb
 ·obtain⟨o1,g1,_,g3⟩:=back h1
  exact hr.bA r o1 v b g1 (g3 hl) h2 hb
def sw.cl (n:Nat):sw→Bool
 | .o r=>Nat.blt r n
 | .k x=>x.aJ n
 | .q x=>x.aJ n
 |_=>true
def IV (n:Nat):List sw→Bool
 | []=>true
 |sh::l=>sh.cl n&&IV n l
def pD.cl (n:Nat):pD→Bool
 | .c x=>x.cl n
 | .a l=>IV n l
def Gd (n:Nat):List pD→Bool
 | []=>true
 |sh::l=>sh.cl n&&Gd n l
def Sh.cl (n:Nat):Sh→Bool
 | .v x=>x.cl n
 | .t l=>Gd n l
 | .f _ l=>Gd n l
 | .m _ l=>Gd n l
def Ge (n:Nat):List Sh→Bool
 | []=>true
 |sh::l=>sh.cl n&&Ge n l
def iG.cl (n:Nat):iG→Bool
 | .box l=>IV n l
 | .cA r=>Nat.blt r n
 |_=>true
def Da (n:Nat):List iG→Bool
 | []=>true
 |sh::l=>sh.cl n&&Da n l
theorem xP {n:Nat} {x:AV} (h:x.aJ n=true):x.cI n=true:=by
 cases x<;>first|exact h|(simp[AV.aJ] at h;done)
theorem xQ {n:Nat} {x:AV} (h:x.dx n=true):x.cI n=true:=by
 cases x<;>first|exact h|rfl|(simp[AV.dx] at h;done)
theorem Au {n:Nat} {x:AV} (h:x.cI n=true):x.closed n=true:=by
 cases x with
 |aS f cs=>exact List.all_eq_true.2 fun x hx=>xQ (List.all_eq_true.1 (show cs.all (AV.dx n)=true from h) x hx)
 |_=>first|exact h|(simp[AV.cI,AV.aJ] at h;done)
theorem IW {n:Nat} {lens:List Nat} {sh:sw} {t:sh.T} (h:sh.cl n=true):(SK lens sh t).aJ n=true:=by
 cases sh with
 |k x=>exact h
 |q x=>exact h
 |o r=>
  have:r<n:=Nat.le_of_ble_eq_true (show Nat.ble (r+1) n=true from h)
  simp[SK,AV.aJ,this]
 |_=>rfl
theorem xR {n:Nat} {lens:List Nat}:∀{l:List sw} {t:QH l},IV n l=true→(F4 lens l t).all (AV.aJ n)=true
 | [],_,_=>rfl
 |sh::l,t,h=>by
  simp only[IV,Bool.and_eq_true] at h
  simp only[F4,List.all_cons,Bool.and_eq_true]
  exact⟨IW h.1,xR h.2⟩
theorem IX {n:Nat} {lens:List Nat} {sh:pD} {t:sh.T} (h:sh.cl n=true):(VL lens sh t).cI n=true:=by
 cases sh with
 |c x=>exact xP (IW h)
 |a l=>exact xR h
theorem sR {n:Nat} {lens:List Nat}:∀{l:List pD} {t:Pp l},Gd n l=true→(C6 lens l t).all (AV.cI n)=true
 | [],_,_=>rfl
 |sh::l,t,h=>by
  simp only[Gd,Bool.and_eq_true] at h
  simp only[C6,List.all_cons,Bool.and_eq_true]
  exact⟨IX h.1,sR h.2⟩
theorem QP {n:Nat} {lens:List Nat} {sh:Sh} {t:sh.T} (h:sh.cl n=true):(WK lens sh t).closed n=true:=by
 cases sh with
 |v x=>exact Au (IX h)
 |t l=>exact sR h
 |f fn l=>exact sR h
 |m fn l=>exact sR h
theorem EY {n:Nat} {lens:List Nat}:∀{l:List Sh} {t:TS l},Ge n l=true→∀x∈sy lens l t,x.closed n=true
 | [],_,_,x,hx=>by cases hx
 |sh::l,t,h,x,hx=>by
  simp only[Ge,Bool.and_eq_true] at h
  rcases List.mem_cons.1 hx with rfl|hx
  ·exact QP h.1
  ·exact EY h.2 x hx
theorem xS {n:Nat} {lens:List Nat}:∀{l:List iG} {t:TO l},Da n l=true→∀o∈lh lens l t,af.closed n o=true
 | [],_,_,x,hx=>by cases hx
 |sh::l,t,h,x,hx=>by
  simp only[Da,Bool.and_eq_true] at h
  rcases List.mem_cons.1 hx with rfl|hx
  ·cases sh with
   |box l=>exact xR h.1
   |cA r=>exact decide_eq_true (Nat.le_of_ble_eq_true (show Nat.ble (r+1) n=true from h.1))
   |_=>rfl
  ·exact xS h.2 x hx
theorem pR {lens:List Nat}:∀{l:List iG} {t:TO l},(lh lens l t).length=l.length
 | [],_=>rfl
 |_::l,t=>by simp[lh,pR (l:=l)]
def qR:List Nat→List AV→Nat→AV
 |t::ts,x::xs=>xa (qR ts xs) t x
 |_,_=>fun _=>.top
theorem Av {f:Nat→AV}:∀{ts:List Nat} {ys:List AV},dt (ts.map f) ys→∀t,dE (f t) (qR ts ys t)
 | [],[],_,t=>fun _ _ _ _ v _=>.top v
 |t0::ts,y::ys,h,t=>by
  simp only[qR,eF]
  split
  ·rename_i ht;subst ht;exact h.1
  ·exact Av h.2 t
theorem wy {n:Nat}:∀{ts:List Nat} {ys:List AV},(∀x∈ys,x.closed n=true)→lM n (qR ts ys)
 | [],_,_=>fun _=>rfl
 |_::_,[],_=>fun _=>rfl
 |t0::ts,y::ys,h=>lM.xa (h y List.mem_cons_self) (wy fun x hx=>h x (List.mem_cons_of_mem _ hx))
def Gf (da:List Nat) (lP:List Sh) (cn:List iG) (z:TS lP×TO cn):AS Unit:=
 ⟨qR da (sy (eO cn z.2) lP z.1),lh (eO cn z.2) cn z.2,()⟩
def Db (da:List Nat) (lP:List Sh) (cn:List iG) (s:AS Unit):Option (List Prop×(TS lP×TO cn)):=
 match rC (oI (s.hp.take cn.length)) cn (s.hp.take cn.length) with
 |some (p,y)=>(match wi (oI (s.hp.take cn.length)) lP (da.map s.tmps) with
  |some (q,x)=>some (p++q,(x,y))
  |none=>none)
 |none=>none
theorem xT (aq:Γ.Ok) {da:List Nat} {lP:List Sh} {cn:List iG} {s:AS Unit} {cs:List Prop} {z:TS lP×TO cn} (h:Db da lP cn s=some (cs,z)) (hc:dw cs)
  (h0:Γ.ir.length≤cn.length) (cS:(Ge cn.length lP&&Da cn.length cn)=true):bV Γ s (Gf da lP cn z):=by
 unfold Db at h
 split at h
 ·rename_i p y h1
  split at h
  ·rename_i q x h2
   simp only[Option.some.injEq,Prod.mk.injEq] at h
   obtain⟨rfl,rfl⟩:=h
   rw[bq] at hc
   obtain⟨h3,h4⟩:=pN (lens':=[]) h1 hc.1
   have h5:=Al h2 hc.2
   rw[←h4] at h3 h5
   rw[Bool.and_eq_true] at cS
   obtain⟨f,hp,g⟩:=s
   have w1:bV Γ ⟨f,hp,g⟩ ⟨qR da (sy (eO cn y) lP x),hp,g⟩:=bV.da (Av h5)
   have h6:dD hp (lh (eO cn y) cn y++hp.drop cn.length):=by
    have:=dD.append h3 (dD.refl (hp.drop cn.length))
    rwa [List.take_append_drop] at this
   have w2:=w1.trans (bV.QO h6)
   refine w2.trans (bV.cut aq cn.length h0 (fun t=>.inr rfl) (wy (EY cS.1)) ?_ (xS cS.2))
   have:=pR (lens:=eO cn y) (l:=cn) (t:=y)
   rw[←this,List.take_left]
  ·cases h
 ·cases h
def au (τ:Type) (x0:τ) (body:τ→(τ→Prop)→Prop):Prop:=
 ∃(β:Type) (E:β→τ) (I:β→Prop) (μ:β→Nat) (b0:β),x0=E b0∧I b0∧∀b,I b→body (E b) (fun y=>∃b',y=E b'∧I b'∧μ b' < μ b)
theorem au.intro {τ:Type} {x0:τ} {body:τ→(τ→Prop)→Prop} {β:Type} (E:β→τ) (I:β→Prop) (μ:β→Nat) (b0:β) (h0:x0=E b0) (hI:I b0)
  (h:∀b,I b→∀again:τ→Prop,(∀b',I b'→μ b' < μ b→again (E b'))→body (E b) again):au τ x0 body:=
 ⟨β,E,I,μ,b0,h0,hI,fun b hb=>h b hb _ fun b' h1 h2=>⟨b',rfl,h1,h2⟩⟩
def eg (Γ:Env Unit) (c:Code) (Q:Exit→AS Unit→Prop) (s:AS Unit):Prop:=
 ∀a w η,Rel Γ s a w η→∀(f:Frame) (k:List Item) (cs:List Frame),f.roundOf=Γ.dA.round→Γ.dA.fn f.fn→Γ.dA.room (cs.length+1+0)→
  ∃e a' w',(∃s' aM,Q e s'∧Rel Γ s' a' w' aM)∧ArrivesIn (Machine.fenced Γ.P Γ.dA) Γ.P (lone (f.atR a (.code c :: .inLoop c::k)) cs w) f k cs e a' w'
theorem eg.IY {c:Code} {Q:Exit→AS Unit→Prop} (h:dq Γ c (n8 (eg Γ c Q) Q) s):eg Γ c Q s:=by
 intro a w η hr f k cs nQ hf dU
 obtain⟨e,qN,qO,⟨s',aM,hq,dM⟩,fj⟩:=h a w η hr f (.inLoop c::k) cs nQ hf dU
 cases e with
 |normal=>
  obtain⟨QK,QL,QM,IJ,xL⟩:=hq qN qO aM dM f k cs nQ hf dU
  exact⟨QK,QL,QM,IJ,.of_steps (StepsIn.trans fj (.one (fenced_calm hf dU rfl) stepR_inLoop)) xL⟩
 |exit id=>exact⟨_,qN,qO,⟨s',aM,hq,dM⟩,.pass (x:=.inLoop c) rfl (fun _ _=>.inl (by simp)) fj⟩
 |goto l=>exact⟨_,qN,qO,⟨s',aM,hq,dM⟩,.pass (x:=.inLoop c) rfl (fun _ _=>.inl (by simp)) fj⟩
 |ret=>exact⟨_,qN,qO,⟨s',aM,hq,dM⟩,.pass (x:=.inLoop c) rfl (fun _ _=>.inl (by simp)) fj⟩
 |panic ch=>exact⟨_,qN,qO,⟨s',aM,hq,dM⟩,.pass (x:=.inLoop c) rfl (fun _ _=>.inl (by simp)) fj⟩
 |outgrown=>exact⟨_,qN,qO,⟨s',aM,hq,dM⟩,.pass (x:=.inLoop c) rfl (fun _ _=>.inl (by simp)) fj⟩
theorem eg.pn {c:Code} {Q:Exit→AS Unit→Prop} (hw:bV Γ s s') (h:eg Γ c Q s'):eg Γ c Q s:=fun a w η hr=>let ⟨aM,dM⟩:=hw a w η hr;h a w aM dM
theorem eg.loop {c:Code} {Q:Exit→AS Unit→Prop} {β:Type} (I:β→Prop) (st:β→AS Unit) (μ:β→Nat)
  (round:∀b,I b→dq Γ c (n8 (fun s'=>∃b',I b'∧bV Γ s' (st b')∧μ b' < μ b) Q) (st b)):∀(n:Nat) (b:β),I b→μ b=n→eg Γ c Q (st b):=by
 intro n
 induction n using Nat.strongRecOn with
 |_ n ih=>
  intro b QJ hb
  refine eg.IY ((round b QJ).mono fun e s' h=>?_)
  cases e with
  |normal=>
   obtain⟨b',Mu,hw,al⟩:=h
   exact eg.pn hw (ih (μ b') (hb▸al) b' Mu rfl)
  |_=>exact h
theorem dq.Aw {c:Code} {Q:Exit→AS Unit→Prop} (h:eg Γ c Q s):dq Γ (.loop c) Q s:=by
 intro a w η hr f k cs nQ hf dU
 obtain⟨e,a',w',hq,fj⟩:=h a w η hr f k cs nQ hf dU
 exact⟨e,a',w',hq,.of_steps (.one (fenced_calm hf dU rfl) stepR_loop) fj⟩
def W5:AV→sw
 | .ae (.int k _)=>.i k
 | .ae (.bool _)=>.b
 | .ae (.string _)=>.s
 | .ae (.slice none 0 0)=>.l
 | .sl _=>.l
 | .clip _=>.c
 | .dL (.i _)=>.m
 | .dL (.s _)=>.ms
 | .own r _=>.o r
 | .ptr r o=>.k (.ptr r o)
 | .mp r=>.k (.mp r)
 | .aS f cs=>.k (.aS f cs)
 | .fn _=>.fn
 |_=>.k .top
def SY:List AV→List sw
 | []=>[]
 |x::l=>W5 x::SY l
def ZD:AV→pD
 | .agg cs=>.a (SY cs)
 |x=>.c (W5 x)
def QQ:List AV→List pD
 | []=>[]
 |x::l=>ZD x::QQ l
def ofS:AV→Sh
 | .bc vs=>.t (QQ vs)
 | .aS f vs=>.f f (QQ vs)
 |x=>.v (ZD x)
def W6:AV→sw
 | .ae (.slice none 0 0)=>.k (.ae (.slice none 0 0))
 |x=>W5 x
def Pu:List AV→List sw
 | []=>[]
 |x::l=>W6 x::Pu l
def ofO:af→iG
 | .dead=>.dead
 | .box cs=>.box (Pu cs)
 | .row e size _=>.row e size
 | .aF e size _=>.aF e size
 | .aP (.i _)=>.aP
 | .aP (.s _)=>.eN
 | .cA r _=>.cA r
 | .dh e _ _=>.dh e
def Gg:List af→List iG
 | []=>[]
 |o::l=>ofO o::Gg l
def og:List Nat→AS Unit→AS Unit
 | [],s=>s
 |r::l,s=>(match s.hp[r]? with
  |some (.aP es)=>og l ⟨fun t=>H9 r es (s.tmps t),s.hp.set r .dead,s.g⟩
  |some (.aF e size els)=>og l ⟨s.tmps,s.hp.set r (.row e size els),s.g⟩
  |_=>og l s)
theorem bV.IZ (aq:Γ.Ok) {f:Nat→AV} {g:Unit} {r e size:Nat} {els:List AV} (hr:hp[r]?=some (.aF e size els)):bV Γ ⟨f,hp,g⟩ ⟨f,hp.set r (.row e size els),g⟩:=by
 intro a w η h
 have al:r<η.length:=by have:=h.heap.len;simp only at this;rw[this];exact(List.getElem?_eq_some_iff.1 hr).1
 have hv:η[r]?=some η[r]:=by simp[al]
 obtain⟨hz,xs,bU,cy⟩:=h.heap.obj r _ _ hr hv
 have dn:η.set r η[r]=η:=by
  apply List.ext_getElem?
  intro i
  by_cases hi:r=i
  ·subst hi;rw[ai hv,hv]
  ·rw[getElem?_set_ne hi]
 have hd:=Rel.change (w':=w) (o':=.row e size els) (v':=η[r]) aq h hr True.intro hv (bo.refl _ w) (fun b hb=>.inl hb) (fun k hk=>hk.elim) (fun _ _ _ _ hk _=>hk.elim) (fun _ _ _ _ hk _=>hk.elim)
  (fun n u ho=>by
   unfold aQ at ho ⊢
   simp only[hr] at ho
   rw[dn]
   simp only[ai hr]
   exact ho) (fun _ _=>rfl) (fun _ _=>rfl) (fun b' d ec hd=>by obtain⟨cur,h5⟩:=bU.lt ec;rw[h5] at hd;cases hd)
  (fun he=>⟨hz,xs,bU.more (Nat.zero_le _),fun i el hi=>⟨(cy i el hi).1,fun j x hj=>let ⟨u,q1,q2,q3⟩:=(cy i el hi).2 j x hj;⟨u,q1,q2.ext he.jP.ext,q3⟩⟩⟩)
 rw[dn] at hd
 exact⟨η,hd⟩
theorem gF (aq:Γ.Ok):∀(l:List Nat) (s:AS Unit),bV Γ s (og l s)
 | [],s=>.refl s
 |r::l,s=>by
  simp only[og]
  split
  ·rename_i es hr
   exact(bV.Pc aq hr).trans (gF aq l _)
  ·rename_i e size els hr
   exact(bV.IZ aq hr).trans (gF aq l _)
  ·exact gF aq l s
structure gG where
 key:Nat
 live:List (Nat×Option Sh)
 rows:List (Nat×Nat):=[]
 Pv:List (Nat×Nat):=[]
 lR:List (Nat×Nat×Nat):=[]
 cn:List (Nat×iG):=[]
 W7:Bool:=false
 IZ:List Nat:=[]
 mv:List (Nat×Nat):=[]
 prm:List Sh:=[]
 mb:Bool:=false
def EZ (s:AS Unit):List (Nat×Option Sh)→List Sh
 | []=>[]
 |(_,some sh)::l=>sh::EZ s l
 |(t,none)::l=>ofS (s.tmps t)::EZ s l
def slotsOf:List (Nat×Option Sh)→List Nat
 | []=>[]
 |(t,_)::l=>t::slotsOf l
def wz:List (Nat×iG)→List iG→List iG
 | [],l=>l
 |(r,o)::m,l=>wz m (l.set r o)
def oN (tab:Nat→Option TD):List (Nat×Nat)→AS Unit→Option (AS Unit)
 | [],s=>some s
 |(t,e)::l,s=>(match s.tmps t,tab e with
  | .ae (.slice none 0 0),some d=>(match Nat.blt 0 d.size with
   |true=>oN tab l ⟨xa s.tmps t (.own s.hp.length 0),s.hp++[.row e d.size []],s.g⟩
   |false=>none)
  | .own _ _,some _=>oN tab l s
  |_,_=>none)
theorem nA (aq:Γ.Ok) {tab:Nat→Option TD}:∀{l:List (Nat×Nat)} {s s':AS Unit},oN tab l s=some s'→bV Γ s s'
 | [],s,s',h=>by simp only[oN,Option.some.injEq] at h;subst h;exact .refl _
 |(t,e)::l,s,s',h=>by
  simp only[oN] at h
  split at h
  ·rename_i d ht hd
   split at h
   ·rename_i bE
    exact(bV.row aq t e d.size (Nat.le_of_ble_eq_true (show Nat.ble (0+1) d.size=true from bE)) ht).trans (nA aq h)
   ·cases h
  ·exact nA aq h
  ·cases h
def nC (tab:Nat→Option TD):List (Nat×Nat)→AS Unit→Option (AS Unit)
 | [],s=>some s
 |(t,e)::l,s=>(match s.tmps t,tab e with
  | .ae (.slice none 0 0),some d=>(match Nat.blt 0 d.size with
   |true=>nC tab l ⟨xa s.tmps t (.own s.hp.length 0),s.hp++[.aF e d.size []],s.g⟩
   |false=>none)
  | .own _ _,some _=>nC tab l s
  |_,_=>none)
theorem oO (aq:Γ.Ok) {tab:Nat→Option TD}:∀{l:List (Nat×Nat)} {s s':AS Unit},nC tab l s=some s'→bV Γ s s'
 | [],s,s',h=>by simp only[nC,Option.some.injEq] at h;subst h;exact .refl _
 |(t,e)::l,s,s',h=>by
  simp only[nC] at h
  split at h
  ·rename_i d ht hd
   split at h
   ·rename_i bE
    exact(bV.HI (M:=true) aq t e d.size (Nat.le_of_ble_eq_true (show Nat.ble (0+1) d.size=true from bE)) ht).trans (oO aq h)
   ·cases h
  ·exact oO aq h
  ·cases h
def lk (M:Bool) (tab:Nat→Option TD):List (Nat×Nat×Nat)→AS Unit→Option (AS Unit)
 | [],s=>some s
 |(r,k,e)::l,s=>(match s.hp[r]?,tab e with
  |some (.box cs),some d=>(match cs[k]? with
   |some (.ae (.slice none 0 0))=>(match Nat.blt 0 d.size with
    |true=>lk M tab l ⟨s.tmps,s.hp.set r (.box (cs.set k (.own s.hp.length 0)))++[eu M e d.size []],s.g⟩
    |false=>none)
   |_=>none)
  |_,_=>none)
theorem ln (aq:Γ.Ok) {M:Bool} {tab:Nat→Option TD}:∀{l:List (Nat×Nat×Nat)} {s s':AS Unit},lk M tab l s=some s'→bV Γ s s'
 | [],s,s',h=>by simp only[lk,Option.some.injEq] at h;subst h;exact .refl _
 |(r,k,e)::l,s,s',h=>by
  simp only[lk] at h
  split at h
  ·rename_i cs d hb hd
   split at h
   ·rename_i hk
    split at h
    ·rename_i bE
     exact(bV.P7 aq r k e d.size (Nat.le_of_ble_eq_true (show Nat.ble (0+1) d.size=true from bE)) hb hk).trans (ln aq h)
    ·cases h
   ·cases h
  ·cases h
def I0 (mv:List (Nat×Nat)) (da:List Nat) (lP:List Sh) (cn:List iG) (again:TS lP×TO cn→Prop) (Q:Exit→AS Unit→Prop):Exit→AS Unit→Prop
 | .normal,s=>(match Db da lP cn (W3 mv s) with
  |some (p,z)=>eH p (again z)
  |none=>False)
 |e,s=>Q e s
def ui (n0:Nat) (mv:List (Nat×Nat)) (da:List Nat) (lP:List Sh) (cn:List iG) (body:(Exit→AS Unit→Prop)→AS Unit→Prop) (Q:Exit→AS Unit→Prop) (s:AS Unit):Prop:=
 match Nat.ble n0 cn.length&&(Ge cn.length lP&&Da cn.length cn)&&Mt n0 mv with
 |false=>False
 |true=>(match Db da lP cn s with
  |some (p,z)=>eH p (au (TS lP×TO cn) z fun z again=>body (I0 mv da lP cn again Q) (Gf da lP cn z))
  |none=>False)
def I3 (l:List Nat) (Q:Exit→AS Unit→Prop) (e:Exit) (s:AS Unit):Prop:=
 match l with
 | []=>Q e s
 |_=>Q e (og l s)
theorem eg.nD {c:Code} {Q Q':Exit→AS Unit→Prop} (h:eg Γ c Q s) (hq:∀e s,Q e s→∃s2,bV Γ s s2∧Q' e s2):eg Γ c Q' s:=
 fun a w η hr f k cs h1 h2 h3=>by
  obtain⟨e,a',w',⟨s',aM,q1,q2⟩,q3⟩:=h a w η hr f k cs h1 h2 h3
  obtain⟨s2,hw,q4⟩:=hq e s' q1
  obtain⟨lY,q5⟩:=hw _ _ _ q2
  exact⟨e,a',w',⟨s2,lY,q4,q5⟩,q3⟩
theorem eg.IZ (aq:Γ.Ok) {c:Code} {l:List Nat} {Q:Exit→AS Unit→Prop} (h:eg Γ c (I3 l Q) s):eg Γ c Q s:=
 h.nD fun e s' hq=>by
  unfold I3 at hq
  split at hq
  ·exact⟨_,.refl _,hq⟩
  ·exact⟨_,gF aq _ _,hq⟩
def uj (tab:Nat→Option TD) (n0:Nat) (A:gG) (body:(Exit→AS Unit→Prop)→AS Unit→Prop) (Q:Exit→AS Unit→Prop) (s:AS Unit):Prop:=
 match oN tab A.rows s with
 |none=>False
 |some s0=>(match nC tab A.Pv s0 with
  |none=>False
  |some s1=>(match lk A.mb tab A.lR s1 with
   |none=>False
   |some s2=>ui n0 A.mv (slotsOf A.live) (EZ s2 A.live) (wz A.cn (Gg s2.hp)) body (I3 A.IZ Q) s2))
theorem ui.sound (aq:Γ.Ok) {n0:Nat} (kV:Γ.ir.length=n0) {mv:List (Nat×Nat)} {da:List Nat} {lP:List Sh} {cn:List iG} {c:Code} {body:(Exit→AS Unit→Prop)→AS Unit→Prop} {Q:Exit→AS Unit→Prop} {s:AS Unit}
  (hb:∀Q s,body Q s→dq Γ c Q s) (h:ui n0 mv da lP cn body Q s):eg Γ c Q s:=by
 unfold ui at h
 split at h
 ·exact h.elim
 rename_i Ak
 rw[Bool.and_eq_true,Bool.and_eq_true] at Ak
 obtain⟨Ak,Hg⟩:=Ak
 rw[←kV] at Hg
 have hn:Γ.ir.length≤cn.length:=by rw[kV];exact Nat.le_of_ble_eq_true Ak.1
 split at h
 ·rename_i p z hz
  rw[bg] at h
  obtain⟨hp,β,E,I,μ,b0,Hc,hI,hr⟩:=h
  have hw:=xT aq hz hp hn Ak.2
  rw[Hc] at hw
  refine eg.pn hw (eg.loop I (fun b=>Gf da lP cn (E b)) μ (fun b QJ=>?_) _ b0 hI rfl)
  refine(hb _ _ (hr b QJ)).mono fun e s1 h1=>?_
  cases e with
  |normal=>
   simp only[I0] at h1
   split at h1
   ·rename_i p1 z1 Ij
    rw[bg] at h1
    obtain⟨eG,b',ec,Mu,al⟩:=h1
    have Se:=(IU aq mv s1 Hg).trans (xT aq Ij eG hn Ak.2)
    rw[ec] at Se
    exact⟨b',Mu,Se,al⟩
   ·exact h1.elim
  |_=>exact h1
 ·exact h.elim
theorem uj.sound (aq:Γ.Ok) {tab:Nat→Option TD} {n0:Nat} (kV:Γ.ir.length=n0) {A:gG} {c:Code} {body:(Exit→AS Unit→Prop)→AS Unit→Prop} {Q:Exit→AS Unit→Prop} {s:AS Unit}
  (hb:∀Q s,body Q s→dq Γ c Q s) (h:uj tab n0 A body Q s):eg Γ c Q s:=by
 unfold uj at h
 split at h
 ·exact h.elim
 ·rename_i s0 h0
  split at h
  ·exact h.elim
  ·rename_i s1 h1
   split at h
   ·exact h.elim
   ·rename_i s2 h2
    exact eg.pn (((nA aq h0).trans (oO aq h1)).trans (ln aq h2)) ((ui.sound aq kV hb h).IZ aq)
def iK:Code→Option Nat
 | .region id _ _=>some id
 | .seq x y=>(match iK x with|some k=>some k|none=>iK y)
 | .cond _ x y=>(match iK x with|some k=>some k|none=>iK y)
 | .block _ x=>iK x
 | .loop x=>iK x
 | .rangeFunc _ _ x y=>(match iK x with|some k=>some k|none=>iK y)
 |_=>none
def E0:List gG→Nat→Option gG
 | [],_=>none
 |A::l,k=>(match Nat.beq A.key k with|true=>some A|false=>E0 l k)
def lp (τ α:Type) (y0:τ) (S:List α→Prop) (round:α→τ→(τ→Prop)→Prop) (after:τ→Prop):Prop:=
 ∃(Ls:List α) (I:List α→τ→Prop),S Ls∧I Ls y0∧(∀e rest y,I (e::rest) y→round e y (I rest))∧∀y,I [] y→after y
def rF (P:Program) (gf:Nat) (caps:List AV) (prm:List Sh) (Ls:List (TS prm)):Prop:=
 vz P gf (fun v=>v::caps) (Ls.map fun e=>sy [] prm e) false
def xU (cn:List iG) (again:TO cn→Prop) (Q:Exit→AS Unit→Prop) (f:Nat→AV):Exit→AS Unit→Prop
 | .normal,s=>(match rC (oI (s.hp.take cn.length)) cn (s.hp.take cn.length) with
  |some (p,y)=>eH p (again y)
  |none=>False)
 | .ret,s=>Q .ret ⟨f,s.hp,()⟩
 | .exit id,s=>Q (.exit id) ⟨f,s.hp,()⟩
 |_,_=>False
def VM (nt:Nat):List Nat→Bool
 | []=>true
 |p::l=>Nat.blt p nt&&VM nt l
theorem I4 {nt:Nat}:∀{l:List Nat},VM nt l=true→∀p∈l,p<nt
 | [],_,p,hp=>by cases hp
 |q::l,h,p,hp=>by
  simp only[VM,Bool.and_eq_true] at h
  rcases List.mem_cons.1 hp with rfl|hp
  ·exact Nat.le_of_ble_eq_true (show Nat.ble (p+1) nt=true from h.1)
  ·exact I4 h.2 p hp
def pS (C:ck) (n0:Nat) (cn:List iG) (prm:List Sh) (g:Operand) (ps:Array Tmp) (ue body:(Exit→AS Unit→Prop)→AS Unit→Prop) (Q:Exit→AS Unit→Prop) (s:AS Unit):Prop:=
 match s.ev g with
 | .aS gf caps=>(match VM C.nt ps.toList&&(Nat.beq ps.toList.length prm.length&&(Nat.ble n0 cn.length&&(Nat.beq cn.length s.hp.length&&Da cn.length cn))) with
  |false=>False
  |true=>(match rC (oI s.hp) cn s.hp with
   |some (p,y)=>eH p (eH (bZ (AV.iH 0 (lh (eO cn y) cn y)) caps).1 (lp (TO cn) (TS prm) y (fun Ls=>rF C.P gf (bZ (AV.iH 0 (lh (eO cn y) cn y)) caps).2 prm Ls)
     (fun e y again=>ue (n8 (body (xU cn again Q s.tmps)) WT) ⟨pO ps.toList (sy [] prm e) s.tmps,lh (eO cn y) cn y,()⟩)
     (fun y=>Q .normal ⟨s.tmps,lh (eO cn y) cn y,()⟩)))
   |none=>False))
 |_=>False
def uk (C:ck) (A:gG) (n0:Nat) (g:Operand) (ps:Array Tmp) (ue body:Nat→(Exit→AS Unit→Prop)→AS Unit→Prop) (Q:Exit→AS Unit→Prop) (s:AS Unit):Prop:=
 match lk A.mb C.tab A.lR s with
 |none=>False
 |some s1=>pS C n0 (wz A.cn (Gg s1.hp)) A.prm g ps (ue (wz A.cn (Gg s1.hp)).length) (body (wz A.cn (Gg s1.hp)).length) Q s1
theorem Ax:∀{l:List Sh} {t:TS l},(sy [] l t).length=l.length
 | [],_=>rfl
 |_::l,t=>by simp[sy,Ax (l:=l)]
theorem pS.sound (aq:Γ.Ok) (cf:Γ.zg) {C:ck} (hP:C.P=Γ.P) (cC:C.nt=Γ.nt) {n0:Nat} (kV:Γ.ir.length=n0) {cn:List iG} {prm:List Sh} {g:Operand} {ps:Array Tmp} {ca cb:Code} {ue body:(Exit→AS Unit→Prop)→AS Unit→Prop} {Q:Exit→AS Unit→Prop} {s:AS Unit}
  (ha:∀iW,fG Γ cn.length iW→∀Q s,ue Q s→dq iW ca Q s) (hb:∀iW,fG Γ cn.length iW→∀Q s,body Q s→dq iW cb Q s) (h:pS C n0 cn prm g ps ue body Q s):dq Γ (.rangeFunc g ps ca cb) Q s:=by
 unfold pS at h
 split at h
 ·rename_i gf caps hg
  split at h
  ·exact h.elim
  rename_i Ak
  simp only[Bool.and_eq_true] at Ak
  obtain⟨IL,Hf,hle,hln,cS⟩:=Ak
  have aaF:=Nat.eq_of_beq_eq_true hln
  split at h
  ·rename_i p y hy
   rw[bg,bg] at h
   obtain⟨hp,SZ,Ls,I,hS,hI,oK,QR⟩:=h
   obtain⟨f,I5,gg⟩:=s
   obtain⟨h3,h4⟩:=pN (lens':=[]) hy hp
   rw[←h4] at h3
   have hw:bV Γ ⟨f,I5,gg⟩ ⟨f,lh (eO cn y) cn y,()⟩:=bV.QO h3
   refine dq.pn hw ?_
   have QS:caps.map (AV.oF 0 (lh (eO cn y) cn y))=(bZ (AV.iH 0 (lh (eO cn y) cn y)) caps).2:=bI (fun x=>mC) _ SZ
   refine dq.range (s:=⟨f,lh (eO cn y) cn y,()⟩) aq cf (gf:=gf) (caps:=caps) (L:=Ls.map fun e=>sy [] prm e) hg (by rw[QS,←hP];exact hS) (fun x hx=>?_) (fun q hq=>by rw[←cC];exact I4 IL q hq)
    (fun rest hp=>∃I6 y,rest=I6.map (fun e=>sy [] prm e)∧I I6 y∧hp=lh (eO cn y) cn y) ⟨Ls,y,rfl,hI,rfl⟩ (fun x rest hp ⟨I6,y',he,Mu,xw⟩=>?_) fun hp ⟨I6,y',he,Mu,xw⟩=>?_
   ·obtain⟨e,_,rfl⟩:=List.mem_map.1 hx
    rw[Ax,←Nat.eq_of_beq_eq_true Hf];simp
   ·cases I6 with
    |nil=>cases he
    |cons e I6=>
     simp only[List.map_cons,List.cons.injEq] at he
     obtain⟨rfl,rfl⟩:=he
     subst xw
     have zh:(lh (eO cn y') cn y').length=cn.length:=pR
     refine⟨fun s1=>body (xU cn (I I6) Q f) s1,fun iW Dc=>?_,fun s1 RG iW Dc=>?_⟩
     ·rw[zh] at Dc
      exact ha iW Dc _ _ (oK e I6 y' Mu)
     ·rw[zh] at Dc
      refine(hb iW Dc _ _ RG).mono fun e s2 hq=>?_
      cases e with
      |normal=>
       simp only[xU] at hq
       split at hq
       ·rename_i p2 y2 W8
        rw[bg] at hq
        obtain⟨k3,k4⟩:=pN (lens':=[]) W8 hq.1
        rw[←k4] at k3
        refine⟨lh (eO cn y2) cn y2,?_,I6,y2,rfl,hq.2,rfl⟩
        obtain⟨f2,nr,g2⟩:=s2
        have h6:dD nr (lh (eO cn y2) cn y2++nr.drop cn.length):=by
         have:=dD.append k3 (dD.refl (nr.drop cn.length))
         rwa [List.take_append_drop] at this
        refine(bV.QO (Γ:=iW) (f:=f2) (g:=g2) h6).trans (bV.cut Dc.ok cn.length (by rw[Dc.h0];exact Nat.le_refl _) Sub.nil lM.nil ?_ (xS cS))
        have:=pR (lens:=eO cn y2) (l:=cn) (t:=y2)
        rw[←this,List.take_left]
       ·exact hq.elim
      |ret=>exact hq
      |exit id=>exact hq
      |_=>exact hq.elim
   ·cases I6 with
    |nil=>subst xw;exact QR y' Mu
    |cons e I6=>cases he
  ·exact h.elim
 ·exact h.elim
theorem uk.sound (aq:Γ.Ok) (cf:Γ.zg) {C:ck} (hP:C.P=Γ.P) (cC:C.nt=Γ.nt) {A:gG} {n0:Nat} (kV:Γ.ir.length=n0) {g:Operand} {ps:Array Tmp} {ca cb:Code} {ue body:Nat→(Exit→AS Unit→Prop)→AS Unit→Prop} {Q:Exit→AS Unit→Prop} {s:AS Unit}
  (ha:∀n iW,fG Γ n iW→∀Q s,ue n Q s→dq iW ca Q s) (hb:∀n iW,fG Γ n iW→∀Q s,body n Q s→dq iW cb Q s) (h:uk C A n0 g ps ue body Q s):dq Γ (.rangeFunc g ps ca cb) Q s:=by
 unfold uk at h
 split at h
 ·exact h.elim
 ·rename_i s1 h1
  exact dq.pn (ln aq h1) (pS.sound aq cf hP cC kV (fun iW hr=>ha _ iW hr) (fun iW hr=>hb _ iW hr) h)
def S0:List (Nat×kz)→Nat→Option kz
 | [],_=>none
 |p::l,k=>(match Nat.beq p.1 k with|true=>some p.2|false=>S0 l k)
def hcD (l:List (Nat×List Nat)) (id:Nat):List Nat:=
 match Mj l id with
 |some p=>p
 |none=>[]
def ZE (l:List (Nat×List (Option (List Nat))×List (Option (List Nat)))) (id:Nat):List (Option (List Nat))×List (Option (List Nat)):=
 match QG l id with
 |some p=>p
 |none=>([],[])
def cP (C:ck) (L:List gG):Code→Nat→Bool→(Exit→AS Unit→Prop)→AS Unit→Prop
 | .skip,n0,fr,Q,s=>Q .normal s
 | .region id ops draw,n0,fr,Q,s=>(match draw with
  |false=>Ai C id ops.toList (Q .normal) s
  |true=>(match S0 C.br id with
  |some pl=>okB (Nat.ble pl.depth ops.toList.length) (fI C (hcD C.hc id) ops.toList (kb ops.toList []) (ZE C.dr id).1 (ZE C.dr id).2 (Q .normal) pl (oM ops.toList) s)
  |none=>match QG C.dr id with
   |some p=>(match Mj C.hc id with
    |some hs=>okB (sM (aW hs) p.1 p.2 ops.toList) (oe C hs ops.toList p.1 p.2 (Q .normal) 0 ops.toList s)
    |none=>okB (sK p.1 p.2 ops.toList) (pK C ops.toList p.1 p.2 (Q .normal) 0 ops.toList s))
   |none=>(match Mj C.hc id with
    |some hs=>okB (sL (aW hs) ops.toList) (oc C hs ops.toList (Q .normal) ops.toList s)
    |none=>okB (tG ops.toList) (pJ C ops.toList (Q .normal) ops.toList s))))
 | .seq x y,n0,fr,Q,s=>cP C L x n0 fr (n8 (cP C L y n0 fr Q) Q) s
 | .cond c x y,n0,fr,Q,s=>(match s.ev c with
  | .ae (.bool b)=>ak b (cP C L x n0 fr Q s) (cP C L y n0 fr Q s)
  |_=>False)
 | .block id c,n0,fr,Q,s=>cP C L c n0 fr (tD id Q) s
 | .loop c,n0,fr,Q,s=>(match iK c with
  |some k=>(match E0 L k with
   |some A=>(match A.W7 with
    |false=>uj C.tab n0 A (cP C L c n0 fr) Q s
    |true=>cP C L c n0 fr (n8 (uj C.tab n0 A (cP C L c n0 fr) Q) Q) s)
   |none=>False)
  |none=>False)
 | .rangeFunc g ps ue body,n0,fr,Q,s=>(match fr with
  |true=>(match iK body with
   |some k=>(match E0 L k with
    |some A=>uk C A n0 g ps (fun n=>cP C L ue n false) (fun n=>cP C L body n false) Q s
    |none=>False)
   |none=>False)
  |false=>False)
 | .exit id,n0,fr,Q,s=>Q (.exit id) s
 | .label _,n0,fr,Q,s=>Q .normal s
 | .ret,n0,fr,Q,s=>Q .ret s
 |_,_,_,_,_=>False
theorem Dd {N N':AS Unit→Prop} {Q:Exit→AS Unit→Prop} (h:∀s,N s→N' s) (e:Exit) (s:AS Unit) (hq:n8 N Q e s):n8 N' Q e s:=by
 cases e with
 |normal=>exact h s hq
 |_=>exact hq
theorem cP.sound {C:ck} (hm:C.P.follows .mixedOrders=true) {L:List gG}:∀(c:Code) (Γ:Env Unit) (_:Γ.Ok) (_:C.P=Γ.P) (_:aL Γ.P C.tab) (_:C.nt=Γ.nt) (n0:Nat) (_:Γ.ir.length=n0) (fr:Bool) (_:fr=true→Γ.zg) (Q:Exit→AS Unit→Prop) (s:AS Unit),cP C L c n0 fr Q s→dq Γ c Q s:=by
 intro c
 induction c with
 |skip=>intro Γ aq hP ah cC n0 kV fr nZ Q s h;exact dq.skip h
 |region id ops draw=>
  intro Γ aq hP ah cC n0 kV fr nZ Q s h
  have e:ops=ops.toList.toArray:=by simp
  simp only[cP] at h
  rw[e]
  split at h
  ·intro a w η hr
   exact wpIn_region_lit (Ai.sound aq hP ah cC h a w η _ (fun s' a' w' aM h1 h2=>⟨s',aM,h1,h2⟩) hr)
  ·split at h
   ·obtain⟨hd,h⟩:=bD h
    exact dq.SW aq hP ah cC (by rw[←hP];exact hm) hd h
   split at h
   ·rename_i p hp
    split at h
    ·obtain⟨hd,h⟩:=bD h
     exact dq.Sv aq (by rw[←hP];exact hm) p.1 p.2 hd (oe.sound aq hP ah cC _ 0 s h)
    obtain⟨hd,h⟩:=bD h
    exact dq.Sj aq ah cC (by rw[←hP];exact hm) p.1 p.2 hd (pK.sound aq hP ah cC _ 0 s h)
   ·split at h
    ·obtain⟨hd,h⟩:=bD h
     exact dq.Su aq (by rw[←hP];exact hm) hd (oc.sound aq hP ah cC _ s h)
    ·obtain⟨hd,h⟩:=bD h
     exact dq.Sc aq ah cC (by rw[←hP];exact hm) hd (pJ.sound aq hP ah cC _ s h)
 |seq x y QT QU=>
  intro Γ aq hP ah cC n0 kV fr nZ Q s h
  refine dq.Wh fun K hK=>(QT Γ aq hP ah cC n0 kV fr nZ _ s h).mono fun e s' hq=>?_
  exact Dd (fun ZF h''=>hK ZF (QU Γ aq hP ah cC n0 kV fr nZ _ ZF h'')) e s' hq
 |cond c x y QT QU=>
  intro Γ aq hP ah cC n0 kV fr nZ Q s h
  simp only[cP] at h
  split at h
  ·rename_i b hb
   exact dq.Sb hb (fun ht=>QT Γ aq hP ah cC n0 kV fr nZ _ s (h.elim.1 ht)) fun ht=>QU Γ aq hP ah cC n0 kV fr nZ _ s (h.elim.2 ht)
  ·exact h.elim
 |block id c ih=>intro Γ aq hP ah cC n0 kV fr nZ Q s h;exact dq.block (ih Γ aq hP ah cC n0 kV fr nZ _ s h)
 |loop c ih=>
  intro Γ aq hP ah cC n0 kV fr nZ Q s h
  simp only[cP] at h
  split at h
  ·split at h
   ·split at h
    ·exact dq.Aw (uj.sound aq kV (ih Γ aq hP ah cC n0 kV fr nZ) h)
    ·exact dq.Aw (eg.IY ((ih Γ aq hP ah cC n0 kV fr nZ _ s h).mono fun e s' hq=>by
      cases e with
      |normal=>exact uj.sound aq kV (ih Γ aq hP ah cC n0 kV fr nZ) hq
      |_=>exact hq))
   ·exact h.elim
  ·exact h.elim
 |rangeFunc g ps ue body iha ihb=>
  intro Γ aq hP ah cC n0 kV fr nZ Q s h
  simp only[cP] at h
  split at h
  ·split at h
   ·split at h
    ·refine uk.sound aq (nZ rfl) hP cC kV (fun n iW hr Q s h=>?_) (fun n iW hr Q s h=>?_) h
     ·exact iha iW hr.ok (by rw[hr.hP,hP]) (by rw[hr.hP];exact ah) (by rw[hr.nt,cC]) n hr.h0 false (fun h=>by cases h) _ s h
     ·exact ihb iW hr.ok (by rw[hr.hP,hP]) (by rw[hr.hP];exact ah) (by rw[hr.nt,cC]) n hr.h0 false (fun h=>by cases h) _ s h
    ·exact h.elim
   ·exact h.elim
  ·exact h.elim
 |exit id=>intro Γ aq hP ah cC n0 kV fr nZ Q s h;exact dq.exit h
 |label l=>intro Γ aq hP ah cC n0 kV fr nZ Q s h;exact dq.label h
 |ret=>intro Γ aq hP ah cC n0 kV fr nZ Q s h;exact dq.ret h
 |_=>intro Γ aq hP ah cC n0 kV fr nZ Q s h;exact h.elim
def lq (k:Nat):Nat→List Nat
 |0=>[]
 |n+1=>k::lq (k+1) n
theorem dq.nD {c:Code} {Q Q':Exit→AS Unit→Prop} (h:dq Γ c Q s) (hq:∀e s,Q e s→∃s2,bV Γ s s2∧Q' e s2):dq Γ c Q' s:=
 fun a w η hr=>wpIn_mono (h a w η hr) fun e a' w' ⟨s',aM,h1,h2⟩=>by
  obtain⟨s2,hw,h3⟩:=hq e s' h1
  obtain⟨lY,h4⟩:=hw _ _ _ h2
  exact⟨s2,lY,h3,h4⟩
def AV.um (hp:List af):AV→List Prop×AV
 | .ptr r 0=>(match hp[r]? with
  |some (.box cs)=>((bZ (AV.gO hp) cs).1,.aH (zC (bZ (AV.gO hp) cs).2) 0)
  |_=>([],.top))
 |x=>x.ef hp
theorem Gi {hp:List af} {x:AV} (hc:dw (x.um hp).1):x.Er hp=(x.um hp).2:=by
 cases x with
 |ptr r o=>
  cases o with
  |zero=>
   simp only[AV.Er,AV.um] at hc ⊢
   cases hr:hp[r]? with
   |none=>rfl
   |some o=>
    cases o with
    |box cs=>
     simp only[hr] at hc ⊢
     rw[bI (g:=AV.dp hp) (fun x=>ku) _ hc]
    |_=>rfl
  |succ n=>exact fZ hc
 |_=>exact fZ hc
def AV.mI (hp:List af):AV→List Prop×AV
 | .aS f cs=>((bZ (AV.um hp) cs).1,.aS f (bZ (AV.um hp) cs).2)
 |x=>x.bx hp
theorem Ay {hp:List af} {x:AV} (hc:dw (x.mI hp).1):x.nw hp=(x.mI hp).2:=by
 cases x with
 |aS f cs=>simp only[AV.mI,AV.nw] at hc ⊢;rw[bI (fun x=>Gi) _ hc]
 |_=>exact cE hc
def De (tab:Nat→Option TD) (rs:List ResultVar) (R:AV→Prop) (s:AS Unit):Prop:=
 match dB tab s rs with
 |some l=>eH ((eW l).mI s.hp).1 (R ((eW l).mI s.hp).2)
 |none=>False
def Mw (tab:Nat→Option TD) (rs:List ResultVar) (R:AV→Prop):Exit→AS Unit→Prop
 | .normal,s=>De tab rs R (og (lq 0 s.hp.length) s)
 | .ret,s=>De tab rs R (og (lq 0 s.hp.length) s)
 |_,_=>False
theorem De.sound {tab:Nat→Option TD} {rs:List ResultVar} {R:AV→Prop} {s:AS Unit} (h:De tab rs R s):∃l,dB tab s rs=some l∧R ((eW l).nw s.hp):=by
 unfold De at h
 split at h
 ·rename_i l hl
  rw[bg] at h
  exact⟨l,hl,by rw[Ay h.1];exact h.2⟩
 ·exact h.elim
theorem xV {C:ck} (ah:aL C.P C.tab) (hm:C.P.follows .mixedOrders=true) {L:List gG} {f:FuncId} {fn:Func} {c:Code} {args:List AV} {R:AV→Prop} (hf:C.P.funcs[f]?=some fn) (hb:fn.body=some c)
  (eC:(fn.name == "runtime.NumGoroutine")=false) (hn:Nat.ble args.length fn.ntmps=true) (cC:C.nt=fn.ntmps) (h:cP C L c 0 true (Mw C.tab fn.results.toList R) ⟨cj 0 args,[],()⟩):Pure C.P f args R:=by
 refine xu ah hf hb eC (Nat.le_of_ble_eq_true hn) fun Γ aq hP I7 S1 cf=>?_
 refine(cP.sound hm c Γ aq hP.symm (by rw[hP];exact ah) (by rw[cC,I7]) _ S1 true (fun _=>cf) _ _ h).nD fun e s' hq=>?_
 cases e with
 |normal=>obtain⟨l,h1,h2⟩:=De.sound hq;exact⟨_,gF aq (lq 0 s'.hp.length) s',by simp only[HE,h1];exact h2⟩
 |ret=>obtain⟨l,h1,h2⟩:=De.sound hq;exact⟨_,gF aq (lq 0 s'.hp.length) s',by simp only[HE,h1];exact h2⟩
 |_=>exact hq.elim
theorem Az {C:ck} (ah:aL C.P C.tab) (hm:C.P.follows .mixedOrders=true) {L:List gG} {f:FuncId} {fn:Func} {c:Code} {args:List AV} {e size:Nat} {els:List AV} (hf:C.P.funcs[f]?=some fn) (hb:fn.body=some c)
  (eC:(fn.name == "runtime.NumGoroutine")=false) (hn:Nat.ble args.length fn.ntmps=true) (cC:C.nt=fn.ntmps) (h:cP C L c 0 true (Ie C.tab fn.results.toList e size els) ⟨cj 0 args,[],()⟩):CU C.P f args e size els:=by
 refine zW ah hf hb eC (Nat.le_of_ble_eq_true hn) fun Γ aq hP I7 S1 cf=>?_
 exact cP.sound hm c Γ aq hP.symm (by rw[hP];exact ah) (by rw[cC,I7]) _ S1 true (fun _=>cf) _ _ h
def AV.wA (n:Nat) (hp:List af) (x:AV):List Prop×AV:=
 match x.aJ n with
 |true=>([],x)
 |false=>x.gO hp
def AV.wB (n:Nat) (hp:List af):AV→List Prop×AV
 | .agg cs=>((bZ (AV.wA n hp) cs).1,.agg (bZ (AV.wA n hp) cs).2)
 |x=>x.wA n hp
def AV.I8 (n:Nat) (hp:List af):AV→List Prop×AV
 | .bc cs=>((bZ (AV.wB n hp) cs).1,.bc (bZ (AV.wB n hp) cs).2)
 |x=>x.wB n hp
theorem AA {n:Nat} {x:AV} (hc:dw (x.wA n hp).1):x.FT n hp=(x.wA n hp).2:=by
 unfold AV.FT AV.wA at *
 cases h:x.aJ n with
 |true=>simp
 |false=>rw[h] at hc;simp only[Bool.false_eq_true,if_false];exact ku hc
theorem AB {n:Nat} {x:AV} (hc:dw (x.wB n hp).1):x.HK n hp=(x.wB n hp).2:=by
 cases x with
 |agg cs=>simp only[AV.wB,AV.HK] at hc ⊢;rw[bI (fun x=>AA) _ hc]
 |_=>exact AA hc
theorem Mx {n:Nat} {x:AV} (hc:dw (x.I8 n hp).1):x.out n hp=(x.I8 n hp).2:=by
 cases x with
 |bc cs=>simp only[AV.I8,AV.out] at hc ⊢;rw[bI (fun x=>AB) _ hc]
 |_=>exact AB hc
def uo (tab:Nat→Option TD) (n:Nat) (rs:List ResultVar) (R:AV→List af→Prop) (s:AS Unit):Prop:=
 match dB tab s rs with
 |some l=>okB ((s.hp.take n).all (af.closed n)) (eH ((eW l).I8 n s.hp).1 (R ((eW l).I8 n s.hp).2 (s.hp.take n)))
 |none=>False
def E1 (tab:Nat→Option TD) (n:Nat) (rs:List ResultVar) (R:AV→List af→Prop):Exit→AS Unit→Prop
 | .normal,s=>uo tab n rs R (og (lq n (s.hp.length-n)) s)
 | .ret,s=>uo tab n rs R (og (lq n (s.hp.length-n)) s)
 |_,_=>False
theorem uo.sound {tab:Nat→Option TD} {n:Nat} {rs:List ResultVar} {R:AV→List af→Prop} {s:AS Unit} (h:uo tab n rs R s):
  ∃l,dB tab s rs=some l∧(∀o∈s.hp.take n,af.closed n o=true)∧R ((eW l).out n s.hp) (s.hp.take n):=by
 unfold uo at h
 split at h
 ·rename_i l hl
  obtain⟨hb,h⟩:=bD h
  rw[bg] at h
  exact⟨l,hl,fun o ho=>List.all_eq_true.1 hb o ho,by rw[Mx h.1];exact h.2⟩
 ·exact h.elim
theorem sA {C:ck} (ah:aL C.P C.tab) (hm:C.P.follows .mixedOrders=true) {L:List gG} {f:FuncId} {fn:Func} {c:Code} {args:List AV} {hp:List af} {R:AV→List af→Prop} (m:Nat) (xf:Nat.ble hp.length m=true) (hf:C.P.funcs[f]?=some fn) (hb:fn.body=some c)
  (eC:(fn.name == "runtime.NumGoroutine")=false) (hn:Nat.ble args.length fn.ntmps=true) (cC:C.nt=fn.ntmps) (h:cP C L c hp.length true (E1 C.tab m fn.results.toList R) ⟨cj 0 args,hp,()⟩):bJ C.P f args hp R:=by
 refine ss ah m (Nat.le_of_ble_eq_true xf) hf hb eC (Nat.le_of_ble_eq_true hn) fun Γ aq hP I7 S1 cf=>?_
 refine(cP.sound hm c Γ aq hP.symm (by rw[hP];exact ah) (by rw[cC,I7]) _ S1 true (fun _=>cf) _ _ h).nD fun e s' hq=>?_
 cases e with
 |normal=>obtain⟨l,h1,h2,h3⟩:=uo.sound hq;exact⟨_,gF aq (lq m (s'.hp.length-m)) s',by simp only[HL,h1];exact⟨h2,h3⟩⟩
 |ret=>obtain⟨l,h1,h2,h3⟩:=uo.sound hq;exact⟨_,gF aq (lq m (s'.hp.length-m)) s',by simp only[HL,h1];exact⟨h2,h3⟩⟩
 |_=>exact hq.elim
abbrev nI (n:Int):AV:=.ae (.int .i64 n)
abbrev nB (b:Bool):AV:=.ae (.bool b)
abbrev nS (s:ByteArray):AV:=.ae (.string s)
theorem of_eq {p q:Prop} (h:p=q) (hp:p):q:=h▸hp
end Go.Proofs.YtdcikhleahfknaaGreatDoor
