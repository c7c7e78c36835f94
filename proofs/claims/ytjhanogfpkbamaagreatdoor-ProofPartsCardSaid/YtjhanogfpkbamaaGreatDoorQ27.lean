/- Texts of ours laid together for a claim: VcE. -/
import Derived.Test.YtjhanogfpkbamaaGreatDoorQ26
namespace Go.Proofs.YtjhanogfpkbamaaGreatDoor
open Go
set_option linter.unusedSimpArgs false
set_option linter.unusedVariables false
variable {Γ:Env Unit} {s s':AS Unit} {a:Act} {w w':World} {η:List Value} {hp hp':List AObj}
theorem Weak.slots {f f':Nat→AV} {g:Unit} (h:∀t,RepW (f t) (f' t)):Weak Γ ⟨f,hp,g⟩ ⟨f',hp,g⟩:=
 fun _ _ η hr=>⟨η,hr.nt,fun t=>h t _ _ _ _ _ (hr.tmps t),hr.heap,hr.mine,hr.keeps,hr.inv,hr.marks,hr.ext⟩
theorem ObjW.own {o o':AObj} (h:ObjW o o'):(∃cs cs',o=.box cs∧o'=.box cs'∧RepWL cs cs')∨o=o':=by
 cases o with
 |box cs=>
  cases o' with
  |box cs'=>exact .inl ⟨cs,cs',rfl,rfl,h⟩
  |_=>cases h
 |_=>cases o'<;>first|exact .inr h|cases h
theorem ObjWL.objF (h:ObjWL hp hp') {b o:Nat} (hf:ObjF η hp b o):ObjF η hp' b o:=by
 intro r v hr hb
 have:=hf r v hr hb
 rcases h.get r with⟨h1,h2⟩|⟨o1,o2,h1,h2,h3⟩
 ·rw[h1] at this;exact this.elim
 ·rw[h1] at this
  rw[h2]
  rcases h3.own with⟨cs,cs',rfl,rfl,_⟩|rfl
  ·exact this
  ·exact this
theorem ObjWL.ownOk (h:ObjWL hp hp') {r n:Nat} {v:Value} (hf:OwnOk η hp r n v):OwnOk η hp' r n v:=by
 unfold OwnOk at hf ⊢
 rcases h.get r with⟨h1,h2⟩|⟨o1,o2,h1,h2,h3⟩
 ·rw[h1] at hf;exact hf.elim
 ·rw[h1] at hf
  rw[h2]
  rcases h3.own with⟨cs,cs',rfl,rfl,_⟩|rfl
  ·exact hf
  ·exact hf
theorem Weak.objs {f:Nat→AV} {g:Unit} (h:ObjWL hp hp'):Weak Γ ⟨f,hp,g⟩ ⟨f,hp',g⟩:=by
 intro a w η hr
 have he:Ext w (Fok Γ w η hp) η hp w (Fok Γ w η hp') η hp':=
  ⟨fun _ _ _ _ h=>h,fun _ _ _ _ h=>h,fun b o hf=>⟨hf.1,hf.2.1,hf.2.2.1,h.objF hf.2.2.2⟩,fun _ _ h=>h,fun _ _ h=>h,fun _ _ _ ho=>h.ownOk ho⟩
 have back:∀{r:Nat} {o':AObj},hp'[r]?=some o'→∃o,hp[r]?=some o∧ObjW o o'∧(o'.live→o.live):=by
  intro r o' ho
  rcases h.get r with⟨h1,h2⟩|⟨o1,o2,h1,h2,h3⟩
  ·rw[h2] at ho;cases ho
  ·rw[h2] at ho
   obtain rfl:=Option.some.inj ho
   refine⟨o1,h1,h3,fun hl=>?_⟩
   rcases h3.own with⟨cs,cs',rfl,rfl,_⟩|rfl
   ·exact True.intro
   ·exact hl
 refine⟨η,hr.nt,fun t=>(hr.tmps t).ext he,⟨by rw[hr.heap.len];exact h.length,fun r o' v h1 h2=>?_,fun r r' o o' v v' b hne h1 h2 l1 l2 e1 e2 hb=>?_⟩,fun r o v b h1 hl h2 hb=>?_,hr.keeps,hr.inv,hr.marks,hr.ext.trans he⟩
 ·obtain⟨o,g1,g2,_⟩:=back h1
  have hob:=hr.heap.obj r o v g1 h2
  rcases g2.own with⟨cs,cs',rfl,rfl,hw⟩|rfl
  ·obtain⟨b,vs,T,e1,e2,e3,e4⟩:=hob
   refine⟨b,vs,T,e1,e2,by rw[e3,hw.length],fun j x u hx hu=>?_⟩
   obtain⟨y,hy,hyx⟩:=hw.get j x hx
   have:=e4 j y u hy hu
   exact⟨hyx _ _ _ _ _ (this.1.ext he),this.2⟩
  ·exact hob.ext he (Nat.le_refl _) fun _ _ _=>rfl
 ·obtain⟨o1,g1,_,g3⟩:=back h1
  obtain⟨o2,g4,_,g6⟩:=back h2
  exact hr.heap.sep r r' o1 o2 v v' b hne g1 g4 (g3 l1) (g6 l2) e1 e2 hb
 ·obtain⟨o1,g1,_,g3⟩:=back h1
  exact hr.mine r o1 v b g1 (g3 hl) h2 hb
def ShC.cl (n:Nat):ShC→Bool
 | .o r=>Nat.blt r n
 | .k x=>x.closedC n
 | .q x=>x.closedC n
 |_=>true
def clCs (n:Nat):List ShC→Bool
 | []=>true
 |sh::l=>sh.cl n&&clCs n l
def ShV.cl (n:Nat):ShV→Bool
 | .c x=>x.cl n
 | .a l=>clCs n l
def clVs (n:Nat):List ShV→Bool
 | []=>true
 |sh::l=>sh.cl n&&clVs n l
def Sh.cl (n:Nat):Sh→Bool
 | .v x=>x.cl n
 | .t l=>clVs n l
 | .f _ l=>clVs n l
 | .m _ l=>clVs n l
def clSl (n:Nat):List Sh→Bool
 | []=>true
 |sh::l=>sh.cl n&&clSl n l
def OSh.cl (n:Nat):OSh→Bool
 | .box l=>clCs n l
 | .bld r=>Nat.blt r n
 |_=>true
def clOL (n:Nat):List OSh→Bool
 | []=>true
 |sh::l=>sh.cl n&&clOL n l
theorem closedV_of_C {n:Nat} {x:AV} (h:x.closedC n=true):x.closedV n=true:=by
 cases x<;>first|exact h|(simp[AV.closedC] at h;done)
theorem closed_of_V {n:Nat} {x:AV} (h:x.closedV n=true):x.closed n=true:=by
 cases x<;>first|exact h|(simp[AV.closedV,AV.closedC] at h;done)
theorem mkC_cl {n:Nat} {lens:List Nat} {sh:ShC} {t:sh.T} (h:sh.cl n=true):(mkC lens sh t).closedC n=true:=by
 cases sh with
 |k x=>exact h
 |q x=>exact h
 |o r=>
  have:r<n:=Nat.le_of_ble_eq_true (show Nat.ble (r+1) n=true from h)
  simp[mkC,AV.closedC,this]
 |_=>rfl
theorem mkCs_cl {n:Nat} {lens:List Nat}:∀{l:List ShC} {t:TCs l},clCs n l=true→(mkCs lens l t).all (AV.closedC n)=true
 | [],_,_=>rfl
 |sh::l,t,h=>by
  simp only[clCs,Bool.and_eq_true] at h
  simp only[mkCs,List.all_cons,Bool.and_eq_true]
  exact⟨mkC_cl h.1,mkCs_cl h.2⟩
theorem mkV_cl {n:Nat} {lens:List Nat} {sh:ShV} {t:sh.T} (h:sh.cl n=true):(mkV lens sh t).closedV n=true:=by
 cases sh with
 |c x=>exact closedV_of_C (mkC_cl h)
 |a l=>exact mkCs_cl h
theorem mkVs_cl {n:Nat} {lens:List Nat}:∀{l:List ShV} {t:TVs l},clVs n l=true→(mkVs lens l t).all (AV.closedV n)=true
 | [],_,_=>rfl
 |sh::l,t,h=>by
  simp only[clVs,Bool.and_eq_true] at h
  simp only[mkVs,List.all_cons,Bool.and_eq_true]
  exact⟨mkV_cl h.1,mkVs_cl h.2⟩
theorem mkS_cl {n:Nat} {lens:List Nat} {sh:Sh} {t:sh.T} (h:sh.cl n=true):(mkS lens sh t).closed n=true:=by
 cases sh with
 |v x=>exact closed_of_V (mkV_cl h)
 |t l=>exact mkVs_cl h
 |f fn l=>exact mkVs_cl h
 |m fn l=>exact mkVs_cl h
theorem mkSl_cl {n:Nat} {lens:List Nat}:∀{l:List Sh} {t:TS l},clSl n l=true→∀x∈mkSl lens l t,x.closed n=true
 | [],_,_,x,hx=>by cases hx
 |sh::l,t,h,x,hx=>by
  simp only[clSl,Bool.and_eq_true] at h
  rcases List.mem_cons.1 hx with rfl|hx
  ·exact mkS_cl h.1
  ·exact mkSl_cl h.2 x hx
theorem mkOL_cl {n:Nat} {lens:List Nat}:∀{l:List OSh} {t:TO l},clOL n l=true→∀o∈mkOL lens l t,AObj.closed n o=true
 | [],_,_,x,hx=>by cases hx
 |sh::l,t,h,x,hx=>by
  simp only[clOL,Bool.and_eq_true] at h
  rcases List.mem_cons.1 hx with rfl|hx
  ·cases sh with
   |box l=>exact mkCs_cl h.1
   |bld r=>exact decide_eq_true (Nat.le_of_ble_eq_true (show Nat.ble (r+1) n=true from h.1))
   |_=>rfl
  ·exact mkOL_cl h.2 x hx
theorem mkOL_len {lens:List Nat}:∀{l:List OSh} {t:TO l},(mkOL lens l t).length=l.length
 | [],_=>rfl
 |_::l,t=>by simp[mkOL,mkOL_len (l:=l)]
def slotsT:List Nat→List AV→Nat→AV
 |t::ts,x::xs=>upd (slotsT ts xs) t x
 |_,_=>fun _=>.top
theorem slotsT_w {f:Nat→AV}:∀{ts:List Nat} {ys:List AV},RepWL (ts.map f) ys→∀t,RepW (f t) (slotsT ts ys t)
 | [],[],_,t=>fun _ _ _ _ v _=>.top v
 |t0::ts,y::ys,h,t=>by
  simp only[slotsT,upd_eq]
  split
  ·rename_i ht;subst ht;exact h.1
  ·exact slotsT_w h.2 t
theorem slotsT_cl {n:Nat}:∀{ts:List Nat} {ys:List AV},(∀x∈ys,x.closed n=true)→ShutF n (slotsT ts ys)
 | [],_,_=>fun _=>rfl
 |_::_,[],_=>fun _=>rfl
 |t0::ts,y::ys,h=>ShutF.upd (h y List.mem_cons_self) (slotsT_cl fun x hx=>h x (List.mem_cons_of_mem _ hx))
def stAt (slots:List Nat) (shs:List Sh) (osh:List OSh) (z:TS shs×TO osh):AS Unit:=
 ⟨slotsT slots (mkSl (lensO osh z.2) shs z.1),mkOL (lensO osh z.2) osh z.2,()⟩
def KDec (slots:List Nat) (shs:List Sh) (osh:List OSh) (s:AS Unit):Option (List Prop×(TS shs×TO osh)):=
 match decOL (lensOf (s.hp.take osh.length)) osh (s.hp.take osh.length) with
 |some (p,y)=>(match decSl (lensOf (s.hp.take osh.length)) shs (slots.map s.tmps) with
  |some (q,x)=>some (p++q,(x,y))
  |none=>none)
 |none=>none
theorem KDec_ok (hok:Γ.Ok) {slots:List Nat} {shs:List Sh} {osh:List OSh} {s:AS Unit} {cs:List Prop} {z:TS shs×TO osh} (h:KDec slots shs osh s=some (cs,z)) (hc:allP cs)
  (h0:Γ.hp0.length≤osh.length) (hcl:(clSl osh.length shs&&clOL osh.length osh)=true):Weak Γ s (stAt slots shs osh z):=by
 unfold KDec at h
 split at h
 ·rename_i p y h1
  split at h
  ·rename_i q x h2
   simp only[Option.some.injEq,Prod.mk.injEq] at h
   obtain⟨rfl,rfl⟩:=h
   rw[allP_append] at hc
   obtain⟨h3,h4⟩:=decOL_ok (lens':=[]) h1 hc.1
   have h5:=decSl_ok h2 hc.2
   rw[←h4] at h3 h5
   rw[Bool.and_eq_true] at hcl
   obtain⟨f,hp,g⟩:=s
   have w1:Weak Γ ⟨f,hp,g⟩ ⟨slotsT slots (mkSl (lensO osh y) shs x),hp,g⟩:=Weak.slots (slotsT_w h5)
   have h6:ObjWL hp (mkOL (lensO osh y) osh y++hp.drop osh.length):=by
    have:=ObjWL.append h3 (ObjWL.refl (hp.drop osh.length))
    rwa [List.take_append_drop] at this
   have w2:=w1.trans (Weak.objs h6)
   refine w2.trans (Weak.cut hok osh.length h0 (fun t=>.inr rfl) (slotsT_cl (mkSl_cl hcl.1)) ?_ (mkOL_cl hcl.2))
   have:=mkOL_len (lens:=lensO osh y) (l:=osh) (t:=y)
   rw[←this,List.take_left]
  ·cases h
 ·cases h
def LoopP (τ:Type) (x0:τ) (body:τ→(τ→Prop)→Prop):Prop:=
 ∃(β:Type) (E:β→τ) (I:β→Prop) (μ:β→Nat) (b0:β),x0=E b0∧I b0∧∀b,I b→body (E b) (fun y=>∃b',y=E b'∧I b'∧μ b' < μ b)
theorem LoopP.intro {τ:Type} {x0:τ} {body:τ→(τ→Prop)→Prop} {β:Type} (E:β→τ) (I:β→Prop) (μ:β→Nat) (b0:β) (h0:x0=E b0) (hI:I b0)
  (h:∀b,I b→∀again:τ→Prop,(∀b',I b'→μ b' < μ b→again (E b'))→body (E b) again):LoopP τ x0 body:=
 ⟨β,E,I,μ,b0,h0,hI,fun b hb=>h b hb _ fun b' h1 h2=>⟨b',rfl,h1,h2⟩⟩
def ALoop (Γ:Env Unit) (c:Code) (Q:Exit→AS Unit→Prop) (s:AS Unit):Prop:=
 ∀a w η,Rel Γ s a w η→∀(f:Frame) (k:List Item) (cs:List Frame),f.roundOf=Γ.fence.round→Γ.fence.fn f.fn→Γ.fence.room (cs.length+1+0)→
  ∃e a' w',(∃s' η',Q e s'∧Rel Γ s' a' w' η')∧ArrivesIn (Machine.fenced Γ.P Γ.fence) Γ.P (lone (f.atR a (.code c :: .inLoop c::k)) cs w) f k cs e a' w'
theorem ALoop.unroll {c:Code} {Q:Exit→AS Unit→Prop} (h:AWp Γ c (thenQ (ALoop Γ c Q) Q) s):ALoop Γ c Q s:=by
 intro a w η hr f k cs hro hf hroom
 obtain⟨e,a₁,w₁,⟨s',η',hq,hr'⟩,harr⟩:=h a w η hr f (.inLoop c::k) cs hro hf hroom
 cases e with
 |normal=>
  obtain⟨e₂,a₂,w₂,hq₂,harr₂⟩:=hq a₁ w₁ η' hr' f k cs hro hf hroom
  exact⟨e₂,a₂,w₂,hq₂,.of_steps (StepsIn.trans harr (.one (fenced_calm hf hroom rfl) stepR_inLoop)) harr₂⟩
 |exit id=>exact⟨_,a₁,w₁,⟨s',η',hq,hr'⟩,.pass (x:=.inLoop c) rfl (fun _ _=>.inl (by simp)) harr⟩
 |goto l=>exact⟨_,a₁,w₁,⟨s',η',hq,hr'⟩,.pass (x:=.inLoop c) rfl (fun _ _=>.inl (by simp)) harr⟩
 |ret=>exact⟨_,a₁,w₁,⟨s',η',hq,hr'⟩,.pass (x:=.inLoop c) rfl (fun _ _=>.inl (by simp)) harr⟩
 |panic ch=>exact⟨_,a₁,w₁,⟨s',η',hq,hr'⟩,.pass (x:=.inLoop c) rfl (fun _ _=>.inl (by simp)) harr⟩
 |outgrown=>exact⟨_,a₁,w₁,⟨s',η',hq,hr'⟩,.pass (x:=.inLoop c) rfl (fun _ _=>.inl (by simp)) harr⟩
theorem ALoop.weak {c:Code} {Q:Exit→AS Unit→Prop} (hw:Weak Γ s s') (h:ALoop Γ c Q s'):ALoop Γ c Q s:=fun a w η hr=>let ⟨η',hr'⟩:=hw a w η hr;h a w η' hr'
theorem ALoop.loop {c:Code} {Q:Exit→AS Unit→Prop} {β:Type} (I:β→Prop) (st:β→AS Unit) (μ:β→Nat)
  (round:∀b,I b→AWp Γ c (thenQ (fun s'=>∃b',I b'∧Weak Γ s' (st b')∧μ b' < μ b) Q) (st b)):∀(n:Nat) (b:β),I b→μ b=n→ALoop Γ c Q (st b):=by
 intro n
 induction n using Nat.strongRecOn with
 |_ n ih=>
  intro b hIb hb
  refine ALoop.unroll ((round b hIb).mono fun e s' h=>?_)
  cases e with
  |normal=>
   obtain⟨b',hI',hw,hlt⟩:=h
   exact ALoop.weak hw (ih (μ b') (hb▸hlt) b' hI' rfl)
  |_=>exact h
theorem AWp.of_ALoop {c:Code} {Q:Exit→AS Unit→Prop} (h:ALoop Γ c Q s):AWp Γ (.loop c) Q s:=by
 intro a w η hr f k cs hro hf hroom
 obtain⟨e,a',w',hq,harr⟩:=h a w η hr f k cs hro hf hroom
 exact⟨e,a',w',hq,.of_steps (.one (fenced_calm hf hroom rfl) stepR_loop) harr⟩
def ofC:AV→ShC
 | .prim (.int k _)=>.i k
 | .prim (.bool _)=>.b
 | .prim (.string _)=>.s
 | .prim (.slice none 0 0)=>.l
 | .sl _=>.l
 | .clip _=>.c
 | .mapv (.i _)=>.m
 | .mapv (.s _)=>.ms
 | .own r _=>.o r
 | .ptr r o=>.k (.ptr r o)
 | .mp r=>.k (.mp r)
 | .fn _=>.fn
 |_=>.k .top
def ofCs:List AV→List ShC
 | []=>[]
 |x::l=>ofC x::ofCs l
def ofV:AV→ShV
 | .agg cs=>.a (ofCs cs)
 |x=>.c (ofC x)
def ofVs:List AV→List ShV
 | []=>[]
 |x::l=>ofV x::ofVs l
def ofS:AV→Sh
 | .tup vs=>.t (ofVs vs)
 | .clo f vs=>.f f (ofVs vs)
 |x=>.v (ofV x)
def ofCb:AV→ShC
 | .prim (.slice none 0 0)=>.k (.prim (.slice none 0 0))
 |x=>ofC x
def ofCbs:List AV→List ShC
 | []=>[]
 |x::l=>ofCb x::ofCbs l
def ofO:AObj→OSh
 | .dead=>.dead
 | .box cs=>.box (ofCbs cs)
 | .row e size _=>.row e size
 | .mrow _ _ _=>.dead
 | .mapo (.i _)=>.mapo
 | .mapo (.s _)=>.mapos
 | .bld r _=>.bld r
def ofOL:List AObj→List OSh
 | []=>[]
 |o::l=>ofO o::ofOL l
structure LAnn where
 key:Nat
 live:List (Nat×Option Sh)
 rows:List (Nat×Nat):=[]
 brows:List (Nat×Nat×Nat):=[]
 osh:List (Nat×OSh):=[]
 peel:Bool:=false
 prm:List Sh:=[]
def shsOf (s:AS Unit):List (Nat×Option Sh)→List Sh
 | []=>[]
 |(_,some sh)::l=>sh::shsOf s l
 |(t,none)::l=>ofS (s.tmps t)::shsOf s l
def slotsOf:List (Nat×Option Sh)→List Nat
 | []=>[]
 |(t,_)::l=>t::slotsOf l
def overO:List (Nat×OSh)→List OSh→List OSh
 | [],l=>l
 |(r,o)::m,l=>overO m (l.set r o)
def rowsAt (tab:Nat→Option TD):List (Nat×Nat)→AS Unit→Option (AS Unit)
 | [],s=>some s
 |(t,e)::l,s=>(match s.tmps t,tab e with
  | .prim (.slice none 0 0),some d=>(match Nat.blt 0 d.size with
   |true=>rowsAt tab l ⟨upd s.tmps t (.own s.hp.length 0),s.hp++[.row e d.size []],s.g⟩
   |false=>none)
  | .own _ _,some _=>rowsAt tab l s
  |_,_=>none)
theorem rowsAt_ok (hok:Γ.Ok) {tab:Nat→Option TD}:∀{l:List (Nat×Nat)} {s s':AS Unit},rowsAt tab l s=some s'→Weak Γ s s'
 | [],s,s',h=>by simp only[rowsAt,Option.some.injEq] at h;subst h;exact .refl _
 |(t,e)::l,s,s',h=>by
  simp only[rowsAt] at h
  split at h
  ·rename_i d ht hd
   split at h
   ·rename_i hsz
    exact(Weak.row hok t e d.size (Nat.le_of_ble_eq_true (show Nat.ble (0+1) d.size=true from hsz)) ht).trans (rowsAt_ok hok h)
   ·cases h
  ·exact rowsAt_ok hok h
  ·cases h
def browsAt (tab:Nat→Option TD):List (Nat×Nat×Nat)→AS Unit→Option (AS Unit)
 | [],s=>some s
 |(r,k,e)::l,s=>(match s.hp[r]?,tab e with
  |some (.box cs),some d=>(match cs[k]? with
   |some (.prim (.slice none 0 0))=>(match Nat.blt 0 d.size with
    |true=>browsAt tab l ⟨s.tmps,s.hp.set r (.box (cs.set k (.own s.hp.length 0)))++[.row e d.size []],s.g⟩
    |false=>none)
   |_=>none)
  |_,_=>none)
theorem browsAt_ok (hok:Γ.Ok) {tab:Nat→Option TD}:∀{l:List (Nat×Nat×Nat)} {s s':AS Unit},browsAt tab l s=some s'→Weak Γ s s'
 | [],s,s',h=>by simp only[browsAt,Option.some.injEq] at h;subst h;exact .refl _
 |(r,k,e)::l,s,s',h=>by
  simp only[browsAt] at h
  split at h
  ·rename_i cs d hb hd
   split at h
   ·rename_i hk
    split at h
    ·rename_i hsz
     exact(Weak.boxRow hok r k e d.size (Nat.le_of_ble_eq_true (show Nat.ble (0+1) d.size=true from hsz)) hb hk).trans (browsAt_ok hok h)
    ·cases h
   ·cases h
  ·cases h
def KAgain (slots:List Nat) (shs:List Sh) (osh:List OSh) (again:TS shs×TO osh→Prop) (Q:Exit→AS Unit→Prop):Exit→AS Unit→Prop
 | .normal,s=>(match KDec slots shs osh s with
  |some (p,z)=>conj p (again z)
  |none=>False)
 |e,s=>Q e s
def KLoop2 (n0:Nat) (slots:List Nat) (shs:List Sh) (osh:List OSh) (body:(Exit→AS Unit→Prop)→AS Unit→Prop) (Q:Exit→AS Unit→Prop) (s:AS Unit):Prop:=
 match Nat.ble n0 osh.length&&(clSl osh.length shs&&clOL osh.length osh) with
 |false=>False
 |true=>(match KDec slots shs osh s with
  |some (p,z)=>conj p (LoopP (TS shs×TO osh) z fun z again=>body (KAgain slots shs osh again Q) (stAt slots shs osh z))
  |none=>False)
def KLoop (tab:Nat→Option TD) (n0:Nat) (A:LAnn) (body:(Exit→AS Unit→Prop)→AS Unit→Prop) (Q:Exit→AS Unit→Prop) (s:AS Unit):Prop:=
 match rowsAt tab A.rows s with
 |none=>False
 |some s1=>(match browsAt tab A.brows s1 with
  |none=>False
  |some s2=>KLoop2 n0 (slotsOf A.live) (shsOf s2 A.live) (overO A.osh (ofOL s2.hp)) body Q s2)
theorem KLoop2.sound (hok:Γ.Ok) {n0:Nat} (hn0:Γ.hp0.length=n0) {slots:List Nat} {shs:List Sh} {osh:List OSh} {c:Code} {body:(Exit→AS Unit→Prop)→AS Unit→Prop} {Q:Exit→AS Unit→Prop} {s:AS Unit}
  (hb:∀Q s,body Q s→AWp Γ c Q s) (h:KLoop2 n0 slots shs osh body Q s):ALoop Γ c Q s:=by
 unfold KLoop2 at h
 split at h
 ·exact h.elim
 rename_i hch
 rw[Bool.and_eq_true] at hch
 have hn:Γ.hp0.length≤osh.length:=by rw[hn0];exact Nat.le_of_ble_eq_true hch.1
 split at h
 ·rename_i p z hz
  rw[conj_iff] at h
  obtain⟨hp,β,E,I,μ,b0,hz0,hI,hr⟩:=h
  have hw:=KDec_ok hok hz hp hn hch.2
  rw[hz0] at hw
  refine ALoop.weak hw (ALoop.loop I (fun b=>stAt slots shs osh (E b)) μ (fun b hIb=>?_) _ b0 hI rfl)
  refine(hb _ _ (hr b hIb)).mono fun e s1 h1=>?_
  cases e with
  |normal=>
   simp only[KAgain] at h1
   split at h1
   ·rename_i p1 z1 hz1
    rw[conj_iff] at h1
    obtain⟨hp1,b',hb',hI',hlt⟩:=h1
    have hw1:=KDec_ok hok hz1 hp1 hn hch.2
    rw[hb'] at hw1
    exact⟨b',hI',hw1,hlt⟩
   ·exact h1.elim
  |_=>exact h1
 ·exact h.elim
theorem KLoop.sound (hok:Γ.Ok) {tab:Nat→Option TD} {n0:Nat} (hn0:Γ.hp0.length=n0) {A:LAnn} {c:Code} {body:(Exit→AS Unit→Prop)→AS Unit→Prop} {Q:Exit→AS Unit→Prop} {s:AS Unit}
  (hb:∀Q s,body Q s→AWp Γ c Q s) (h:KLoop tab n0 A body Q s):ALoop Γ c Q s:=by
 unfold KLoop at h
 split at h
 ·exact h.elim
 ·rename_i s1 h1
  split at h
  ·exact h.elim
  ·rename_i s2 h2
   exact ALoop.weak ((rowsAt_ok hok h1).trans (browsAt_ok hok h2)) (KLoop2.sound hok hn0 hb h)
def firstR:Code→Option Nat
 | .region id _ _=>some id
 | .seq x y=>(match firstR x with|some k=>some k|none=>firstR y)
 | .cond _ x y=>(match firstR x with|some k=>some k|none=>firstR y)
 | .block _ x=>firstR x
 | .loop x=>firstR x
 | .rangeFunc _ _ x y=>(match firstR x with|some k=>some k|none=>firstR y)
 |_=>none
def annOf:List LAnn→Nat→Option LAnn
 | [],_=>none
 |A::l,k=>(match Nat.beq A.key k with|true=>some A|false=>annOf l k)
def RangeP (τ α:Type) (y0:τ) (S:List α→Prop) (round:α→τ→(τ→Prop)→Prop) (after:τ→Prop):Prop:=
 ∃(Ls:List α) (I:List α→τ→Prop),S Ls∧I Ls y0∧(∀e rest y,I (e::rest) y→round e y (I rest))∧∀y,I [] y→after y
def SeqIs (P:Program) (gf:Nat) (caps:List AV) (prm:List Sh) (Ls:List (TS prm)):Prop:=
 YFn P gf (fun v=>v::caps) (Ls.map fun e=>mkSl [] prm e) false
def KRAgain (osh:List OSh) (again:TO osh→Prop) (Q:Exit→AS Unit→Prop) (f:Nat→AV):Exit→AS Unit→Prop
 | .normal,s=>(match decOL (lensOf (s.hp.take osh.length)) osh (s.hp.take osh.length) with
  |some (p,y)=>conj p (again y)
  |none=>False)
 | .ret,s=>Q .ret ⟨f,s.hp,()⟩
 | .exit id,s=>Q (.exit id) ⟨f,s.hp,()⟩
 |_,_=>False
def psB (nt:Nat):List Nat→Bool
 | []=>true
 |p::l=>Nat.blt p nt&&psB nt l
theorem psB_ok {nt:Nat}:∀{l:List Nat},psB nt l=true→∀p∈l,p<nt
 | [],_,p,hp=>by cases hp
 |q::l,h,p,hp=>by
  simp only[psB,Bool.and_eq_true] at h
  rcases List.mem_cons.1 hp with rfl|hp
  ·exact Nat.le_of_ble_eq_true (show Nat.ble (p+1) nt=true from h.1)
  ·exact psB_ok h.2 p hp
def KRange2 (C:VCfg) (n0:Nat) (osh:List OSh) (prm:List Sh) (g:Operand) (ps:Array Tmp) (asg body:(Exit→AS Unit→Prop)→AS Unit→Prop) (Q:Exit→AS Unit→Prop) (s:AS Unit):Prop:=
 match s.ev g with
 | .clo gf caps=>(match psB C.nt ps.toList&&(Nat.beq ps.toList.length prm.length&&(Nat.ble n0 osh.length&&(Nat.beq osh.length s.hp.length&&clOL osh.length osh))) with
  |false=>False
  |true=>(match decOL (lensOf s.hp) osh s.hp with
   |some (p,y)=>conj p (conj (mapD (AV.argN' 0 (mkOL (lensO osh y) osh y)) caps).1 (RangeP (TO osh) (TS prm) y (fun Ls=>SeqIs C.P gf (mapD (AV.argN' 0 (mkOL (lensO osh y) osh y)) caps).2 prm Ls)
     (fun e y again=>asg (thenQ (body (KRAgain osh again Q s.tmps)) noQ) ⟨setPs ps.toList (mkSl [] prm e) s.tmps,mkOL (lensO osh y) osh y,()⟩)
     (fun y=>Q .normal ⟨s.tmps,mkOL (lensO osh y) osh y,()⟩)))
   |none=>False))
 |_=>False
def KRange (C:VCfg) (A:LAnn) (n0:Nat) (g:Operand) (ps:Array Tmp) (asg body:Nat→(Exit→AS Unit→Prop)→AS Unit→Prop) (Q:Exit→AS Unit→Prop) (s:AS Unit):Prop:=
 match browsAt C.tab A.brows s with
 |none=>False
 |some s1=>KRange2 C n0 (overO A.osh (ofOL s1.hp)) A.prm g ps (asg (overO A.osh (ofOL s1.hp)).length) (body (overO A.osh (ofOL s1.hp)).length) Q s1
theorem mkSl_len:∀{l:List Sh} {t:TS l},(mkSl [] l t).length=l.length
 | [],_=>rfl
 |_::l,t=>by simp[mkSl,mkSl_len (l:=l)]
theorem KRange2.sound (hok:Γ.Ok) (hfree:Γ.Free) {C:VCfg} (hP:C.P=Γ.P) (hnt:C.nt=Γ.nt) {n0:Nat} (hn0:Γ.hp0.length=n0) {osh:List OSh} {prm:List Sh} {g:Operand} {ps:Array Tmp} {ca cb:Code} {asg body:(Exit→AS Unit→Prop)→AS Unit→Prop} {Q:Exit→AS Unit→Prop} {s:AS Unit}
  (ha:∀Γr,RoundEnv Γ osh.length Γr→∀Q s,asg Q s→AWp Γr ca Q s) (hb:∀Γr,RoundEnv Γ osh.length Γr→∀Q s,body Q s→AWp Γr cb Q s) (h:KRange2 C n0 osh prm g ps asg body Q s):AWp Γ (.rangeFunc g ps ca cb) Q s:=by
 unfold KRange2 at h
 split at h
 ·rename_i gf caps hg
  split at h
  ·exact h.elim
  rename_i hch
  simp only[Bool.and_eq_true] at hch
  obtain⟨hps,hpl,hle,hln,hcl⟩:=hch
  have hln':=Nat.eq_of_beq_eq_true hln
  split at h
  ·rename_i p y hy
   rw[conj_iff,conj_iff] at h
   obtain⟨hp,hcaps,Ls,I,hS,hI,hround,hafter⟩:=h
   obtain⟨f,hps0,gg⟩:=s
   obtain⟨h3,h4⟩:=decOL_ok (lens':=[]) hy hp
   rw[←h4] at h3
   have hw:Weak Γ ⟨f,hps0,gg⟩ ⟨f,mkOL (lensO osh y) osh y,()⟩:=Weak.objs h3
   refine AWp.weak hw ?_
   have hcapeq:caps.map (AV.argN 0 (mkOL (lensO osh y) osh y))=(mapD (AV.argN' 0 (mkOL (lensO osh y) osh y)) caps).2:=mapD_ok (fun x=>argN'_ok) _ hcaps
   refine AWp.range (s:=⟨f,mkOL (lensO osh y) osh y,()⟩) hok hfree (gf:=gf) (caps:=caps) (L:=Ls.map fun e=>mkSl [] prm e) hg (by rw[hcapeq,←hP];exact hS) (fun x hx=>?_) (fun q hq=>by rw[←hnt];exact psB_ok hps q hq)
    (fun rest hp=>∃Ls' y,rest=Ls'.map (fun e=>mkSl [] prm e)∧I Ls' y∧hp=mkOL (lensO osh y) osh y) ⟨Ls,y,rfl,hI,rfl⟩ (fun x rest hp ⟨Ls',y',he,hI',hhp⟩=>?_) fun hp ⟨Ls',y',he,hI',hhp⟩=>?_
   ·obtain⟨e,_,rfl⟩:=List.mem_map.1 hx
    rw[mkSl_len,←Nat.eq_of_beq_eq_true hpl];simp
   ·cases Ls' with
    |nil=>cases he
    |cons e Ls'=>
     simp only[List.map_cons,List.cons.injEq] at he
     obtain⟨rfl,rfl⟩:=he
     subst hhp
     have hl1:(mkOL (lensO osh y') osh y').length=osh.length:=mkOL_len
     refine⟨fun s1=>body (KRAgain osh (I Ls') Q f) s1,fun Γr hΓr=>?_,fun s1 hs1 Γr hΓr=>?_⟩
     ·rw[hl1] at hΓr
      exact ha Γr hΓr _ _ (hround e Ls' y' hI')
     ·rw[hl1] at hΓr
      refine(hb Γr hΓr _ _ hs1).mono fun e s2 hq=>?_
      cases e with
      |normal=>
       simp only[KRAgain] at hq
       split at hq
       ·rename_i p2 y2 hy2
        rw[conj_iff] at hq
        obtain⟨k3,k4⟩:=decOL_ok (lens':=[]) hy2 hq.1
        rw[←k4] at k3
        refine⟨mkOL (lensO osh y2) osh y2,?_,Ls',y2,rfl,hq.2,rfl⟩
        obtain⟨f2,hp2,g2⟩:=s2
        have h6:ObjWL hp2 (mkOL (lensO osh y2) osh y2++hp2.drop osh.length):=by
         have:=ObjWL.append k3 (ObjWL.refl (hp2.drop osh.length))
         rwa [List.take_append_drop] at this
        refine(Weak.objs (Γ:=Γr) (f:=f2) (g:=g2) h6).trans (Weak.cut hΓr.ok osh.length (by rw[hΓr.h0];exact Nat.le_refl _) Sub.nil ShutF.nil ?_ (mkOL_cl hcl))
        have:=mkOL_len (lens:=lensO osh y2) (l:=osh) (t:=y2)
        rw[←this,List.take_left]
       ·exact hq.elim
      |ret=>exact hq
      |exit id=>exact hq
      |_=>exact hq.elim
   ·cases Ls' with
    |nil=>subst hhp;exact hafter y' hI'
    |cons e Ls'=>cases he
  ·exact h.elim
 ·exact h.elim
theorem KRange.sound (hok:Γ.Ok) (hfree:Γ.Free) {C:VCfg} (hP:C.P=Γ.P) (hnt:C.nt=Γ.nt) {A:LAnn} {n0:Nat} (hn0:Γ.hp0.length=n0) {g:Operand} {ps:Array Tmp} {ca cb:Code} {asg body:Nat→(Exit→AS Unit→Prop)→AS Unit→Prop} {Q:Exit→AS Unit→Prop} {s:AS Unit}
  (ha:∀n Γr,RoundEnv Γ n Γr→∀Q s,asg n Q s→AWp Γr ca Q s) (hb:∀n Γr,RoundEnv Γ n Γr→∀Q s,body n Q s→AWp Γr cb Q s) (h:KRange C A n0 g ps asg body Q s):AWp Γ (.rangeFunc g ps ca cb) Q s:=by
 unfold KRange at h
 split at h
 ·exact h.elim
 ·rename_i s1 h1
  exact AWp.weak (browsAt_ok hok h1) (KRange2.sound hok hfree hP hnt hn0 (fun Γr hr=>ha _ Γr hr) (fun Γr hr=>hb _ Γr hr) h)
def plOf:List (Nat×Plan)→Nat→Option Plan
 | [],_=>none
 |p::l,k=>(match Nat.beq p.1 k with|true=>some p.2|false=>plOf l k)
def hcD (l:List (Nat×List Nat)) (id:Nat):List Nat:=
 match hcOf l id with
 |some p=>p
 |none=>[]
def drD (l:List (Nat×List (Option (List Nat))×List (Option (List Nat)))) (id:Nat):List (Option (List Nat))×List (Option (List Nat)):=
 match drOf l id with
 |some p=>p
 |none=>([],[])
def KCode (C:VCfg) (L:List LAnn):Code→Nat→Bool→(Exit→AS Unit→Prop)→AS Unit→Prop
 | .skip,n0,fr,Q,s=>Q .normal s
 | .region id ops draw,n0,fr,Q,s=>(match draw with
  |false=>KRun C ops.toList (Q .normal) ops.toList s
  |true=>(match plOf C.br id with
  |some pl=>okB (Nat.ble pl.depth ops.toList.length) (KPlan C (hcD C.hc id) ops.toList (ancL ops.toList []) (drD C.dr id).1 (drD C.dr id).2 (Q .normal) pl (falses ops.toList) s)
  |none=>match drOf C.dr id with
   |some p=>(match hcOf C.hc id with
    |some hs=>okB (drawOkW (heapCallee hs) p.1 p.2 ops.toList) (KRunW C hs ops.toList p.1 p.2 (Q .normal) 0 ops.toList s)
    |none=>okB (drawOkU p.1 p.2 ops.toList) (KRunU C ops.toList p.1 p.2 (Q .normal) 0 ops.toList s))
   |none=>(match hcOf C.hc id with
    |some hs=>okB (drawOkH (heapCallee hs) ops.toList) (KRunH C hs ops.toList (Q .normal) ops.toList s)
    |none=>okB (drawOk ops.toList) (KRunD C ops.toList (Q .normal) ops.toList s))))
 | .seq x y,n0,fr,Q,s=>KCode C L x n0 fr (thenQ (KCode C L y n0 fr Q) Q) s
 | .cond c x y,n0,fr,Q,s=>(match s.ev c with
  | .prim (.bool b)=>ITE b (KCode C L x n0 fr Q s) (KCode C L y n0 fr Q s)
  |_=>False)
 | .block id c,n0,fr,Q,s=>KCode C L c n0 fr (inBlockQ id Q) s
 | .loop c,n0,fr,Q,s=>(match firstR c with
  |some k=>(match annOf L k with
   |some A=>(match A.peel with
    |false=>KLoop C.tab n0 A (KCode C L c n0 fr) Q s
    |true=>KCode C L c n0 fr (thenQ (KLoop C.tab n0 A (KCode C L c n0 fr) Q) Q) s)
   |none=>False)
  |none=>False)
 | .rangeFunc g ps asg body,n0,fr,Q,s=>(match fr with
  |true=>(match firstR body with
   |some k=>(match annOf L k with
    |some A=>KRange C A n0 g ps (fun n=>KCode C L asg n false) (fun n=>KCode C L body n false) Q s
    |none=>False)
   |none=>False)
  |false=>False)
 | .exit id,n0,fr,Q,s=>Q (.exit id) s
 | .label _,n0,fr,Q,s=>Q .normal s
 | .ret,n0,fr,Q,s=>Q .ret s
 |_,_,_,_,_=>False
theorem thenQ_mono {N N':AS Unit→Prop} {Q:Exit→AS Unit→Prop} (h:∀s,N s→N' s) (e:Exit) (s:AS Unit) (hq:thenQ N Q e s):thenQ N' Q e s:=by
 cases e with
 |normal=>exact h s hq
 |_=>exact hq
theorem KCode.sound {C:VCfg} (hm:C.P.follows .mixedOrders=true) {L:List LAnn}:∀(c:Code) (Γ:Env Unit) (_:Γ.Ok) (_:C.P=Γ.P) (_:TabOk Γ.P C.tab) (_:C.nt=Γ.nt) (n0:Nat) (_:Γ.hp0.length=n0) (fr:Bool) (_:fr=true→Γ.Free) (Q:Exit→AS Unit→Prop) (s:AS Unit),KCode C L c n0 fr Q s→AWp Γ c Q s:=by
 intro c
 induction c with
 |skip=>intro Γ hok hP htab hnt n0 hn0 fr hfr Q s h;exact AWp.skip h
 |region id ops draw=>
  intro Γ hok hP htab hnt n0 hn0 fr hfr Q s h
  have e:ops=ops.toList.toArray:=by simp
  simp only[KCode] at h
  rw[e]
  split at h
  ·intro a w η hr
   exact wpIn_region_lit (KRun.sound hok hP htab hnt _ s h a w η _ (fun s' a' w' η' h1 h2=>⟨s',η',h1,h2⟩) hr)
  ·split at h
   ·obtain⟨hd,h⟩:=okB_ok h
    exact AWp.drawB hok hP htab hnt (by rw[←hP];exact hm) hd h
   split at h
   ·rename_i p hp
    split at h
    ·obtain⟨hd,h⟩:=okB_ok h
     exact AWp.drawW hok (by rw[←hP];exact hm) p.1 p.2 hd (KRunW.sound hok hP htab hnt _ 0 s h)
    obtain⟨hd,h⟩:=okB_ok h
    exact AWp.drawU hok htab hnt (by rw[←hP];exact hm) p.1 p.2 hd (KRunU.sound hok hP htab hnt _ 0 s h)
   ·split at h
    ·obtain⟨hd,h⟩:=okB_ok h
     exact AWp.drawH hok (by rw[←hP];exact hm) hd (KRunH.sound hok hP htab hnt _ s h)
    ·obtain⟨hd,h⟩:=okB_ok h
     exact AWp.drawD hok htab hnt (by rw[←hP];exact hm) hd (KRunD.sound hok hP htab hnt _ s h)
 |seq x y ihx ihy=>
  intro Γ hok hP htab hnt n0 hn0 fr hfr Q s h
  refine AWp.seqK fun K hK=>(ihx Γ hok hP htab hnt n0 hn0 fr hfr _ s h).mono fun e s' hq=>?_
  exact thenQ_mono (fun s'' h''=>hK s'' (ihy Γ hok hP htab hnt n0 hn0 fr hfr _ s'' h'')) e s' hq
 |cond c x y ihx ihy=>
  intro Γ hok hP htab hnt n0 hn0 fr hfr Q s h
  simp only[KCode] at h
  split at h
  ·rename_i b hb
   exact AWp.condB hb (fun ht=>ihx Γ hok hP htab hnt n0 hn0 fr hfr _ s (h.elim.1 ht)) fun ht=>ihy Γ hok hP htab hnt n0 hn0 fr hfr _ s (h.elim.2 ht)
  ·exact h.elim
 |block id c ih=>intro Γ hok hP htab hnt n0 hn0 fr hfr Q s h;exact AWp.block (ih Γ hok hP htab hnt n0 hn0 fr hfr _ s h)
 |loop c ih=>
  intro Γ hok hP htab hnt n0 hn0 fr hfr Q s h
  simp only[KCode] at h
  split at h
  ·split at h
   ·split at h
    ·exact AWp.of_ALoop (KLoop.sound hok hn0 (ih Γ hok hP htab hnt n0 hn0 fr hfr) h)
    ·exact AWp.of_ALoop (ALoop.unroll ((ih Γ hok hP htab hnt n0 hn0 fr hfr _ s h).mono fun e s' hq=>by
      cases e with
      |normal=>exact KLoop.sound hok hn0 (ih Γ hok hP htab hnt n0 hn0 fr hfr) hq
      |_=>exact hq))
   ·exact h.elim
  ·exact h.elim
 |rangeFunc g ps asg body iha ihb=>
  intro Γ hok hP htab hnt n0 hn0 fr hfr Q s h
  simp only[KCode] at h
  split at h
  ·split at h
   ·split at h
    ·refine KRange.sound hok (hfr rfl) hP hnt hn0 (fun n Γr hr Q s h=>?_) (fun n Γr hr Q s h=>?_) h
     ·exact iha Γr hr.ok (by rw[hr.hP,hP]) (by rw[hr.hP];exact htab) (by rw[hr.nt,hnt]) n hr.h0 false (fun h=>by cases h) _ s h
     ·exact ihb Γr hr.ok (by rw[hr.hP,hP]) (by rw[hr.hP];exact htab) (by rw[hr.nt,hnt]) n hr.h0 false (fun h=>by cases h) _ s h
    ·exact h.elim
   ·exact h.elim
  ·exact h.elim
 |exit id=>intro Γ hok hP htab hnt n0 hn0 fr hfr Q s h;exact AWp.exit h
 |label l=>intro Γ hok hP htab hnt n0 hn0 fr hfr Q s h;exact AWp.label h
 |ret=>intro Γ hok hP htab hnt n0 hn0 fr hfr Q s h;exact AWp.ret h
 |_=>intro Γ hok hP htab hnt n0 hn0 fr hfr Q s h;exact h.elim
def frzAt:List Nat→AS Unit→AS Unit
 | [],s=>s
 |r::l,s=>(match s.hp[r]? with
  |some (.mapo es)=>frzAt l ⟨fun t=>frzV r es (s.tmps t),s.hp.set r .dead,s.g⟩
  |some (.mrow e size els)=>frzAt l ⟨s.tmps,s.hp.set r (.row e size els),s.g⟩
  |_=>frzAt l s)
def rangeN (k:Nat):Nat→List Nat
 |0=>[]
 |n+1=>k::rangeN (k+1) n
theorem Weak.thaw (hok:Γ.Ok) {f:Nat→AV} {g:Unit} {r e size:Nat} {els:List AV} (hr:hp[r]?=some (.mrow e size els)):Weak Γ ⟨f,hp,g⟩ ⟨f,hp.set r (.row e size els),g⟩:=by
 intro a w η h
 have hlt:r<η.length:=by have:=h.heap.len;simp only at this;rw[this];exact(List.getElem?_eq_some_iff.1 hr).1
 have hv:η[r]?=some η[r]:=by simp[hlt]
 obtain⟨hz,xs,hrow,hels⟩:=h.heap.obj r _ _ hr hv
 have hη:η.set r η[r]=η:=by
  apply List.ext_getElem?
  intro i
  by_cases hi:r=i
  ·subst hi;rw[getElem?_set_same hv,hv]
  ·rw[getElem?_set_ne hi]
 have hd:=Rel.change (w':=w) (o':=.row e size els) (v':=η[r]) hok h hr True.intro hv (Keeps.refl _ w) (fun b hb=>.inl hb) (fun k hk=>hk.elim) (fun _ _ _ _ hk _=>hk.elim) (fun _ _ _ _ hk _=>hk.elim)
  (fun n u ho=>by
   unfold OwnOk at ho ⊢
   simp only[hr] at ho
   rw[hη]
   simp only[getElem?_set_same hr]
   exact⟨Nat.le_of_eq ho.1,fun _=>ho.2⟩) (fun _ _=>rfl) (fun _ _=>rfl) (fun b' d hb' hd=>by obtain⟨cur,h5⟩:=hrow.lt hb';rw[h5] at hd;cases hd)
  (fun he=>⟨hz,xs,hrow.more (Nat.zero_le _),fun i el hi=>⟨(hels i el hi).1,fun j x hj=>let ⟨u,q1,q2,q3⟩:=(hels i el hi).2 j x hj;⟨u,q1,q2.ext he.ext0.ext,q3⟩⟩⟩)
 rw[hη] at hd
 exact⟨η,hd⟩
theorem frzAt_ok (hok:Γ.Ok):∀(l:List Nat) (s:AS Unit),Weak Γ s (frzAt l s)
 | [],s=>.refl s
 |r::l,s=>by
  simp only[frzAt]
  split
  ·rename_i es hr
   exact(Weak.frz hok hr).trans (frzAt_ok hok l _)
  ·rename_i e size els hr
   exact(Weak.thaw hok hr).trans (frzAt_ok hok l _)
  ·exact frzAt_ok hok l s
theorem AWp.post_weak {c:Code} {Q Q':Exit→AS Unit→Prop} (h:AWp Γ c Q s) (hq:∀e s,Q e s→∃s2,Weak Γ s s2∧Q' e s2):AWp Γ c Q' s:=
 fun a w η hr=>wpIn_mono (h a w η hr) fun e a' w' ⟨s',η',h1,h2⟩=>by
  obtain⟨s2,hw,h3⟩:=hq e s' h1
  obtain⟨η2,h4⟩:=hw _ _ _ h2
  exact⟨s2,η2,h3,h4⟩
def AV.dataE' (hp:List AObj):AV→List Prop×AV
 | .ptr r 0=>(match hp[r]? with
  |some (.box cs)=>((mapD (AV.dataC' hp) cs).1,.eptr (boxE (mapD (AV.dataC' hp) cs).2) 0)
  |_=>([],.top))
 |x=>x.dataV' hp
theorem dataE'_ok {hp:List AObj} {x:AV} (hc:allP (x.dataE' hp).1):x.dataE hp=(x.dataE' hp).2:=by
 cases x with
 |ptr r o=>
  cases o with
  |zero=>
   simp only[AV.dataE,AV.dataE'] at hc ⊢
   cases hr:hp[r]? with
   |none=>rfl
   |some o=>
    cases o with
    |box cs=>
     simp only[hr] at hc ⊢
     rw[mapD_ok (g:=AV.dataC hp) (fun x=>dataC'_ok) _ hc]
    |_=>rfl
  |succ n=>exact dataV'_ok hc
 |_=>exact dataV'_ok hc
def AV.toDataR' (hp:List AObj):AV→List Prop×AV
 | .clo f cs=>((mapD (AV.dataE' hp) cs).1,.clo f (mapD (AV.dataE' hp) cs).2)
 |x=>x.toData' hp
theorem toDataR'_ok {hp:List AObj} {x:AV} (hc:allP (x.toDataR' hp).1):x.toDataR hp=(x.toDataR' hp).2:=by
 cases x with
 |clo f cs=>simp only[AV.toDataR',AV.toDataR] at hc ⊢;rw[mapD_ok (fun x=>dataE'_ok) _ hc]
 |_=>exact toData'_ok hc
def KRet (tab:Nat→Option TD) (rs:List ResultVar) (R:AV→Prop) (s:AS Unit):Prop:=
 match resAll tab s rs with
 |some l=>conj ((resTup l).toDataR' s.hp).1 (R ((resTup l).toDataR' s.hp).2)
 |none=>False
def KEnd (tab:Nat→Option TD) (rs:List ResultVar) (R:AV→Prop):Exit→AS Unit→Prop
 | .normal,s=>KRet tab rs R (frzAt (rangeN 0 s.hp.length) s)
 | .ret,s=>KRet tab rs R (frzAt (rangeN 0 s.hp.length) s)
 |_,_=>False
theorem KRet.sound {tab:Nat→Option TD} {rs:List ResultVar} {R:AV→Prop} {s:AS Unit} (h:KRet tab rs R s):∃l,resAll tab s rs=some l∧R ((resTup l).toDataR s.hp):=by
 unfold KRet at h
 split at h
 ·rename_i l hl
  rw[conj_iff] at h
  exact⟨l,hl,by rw[toDataR'_ok h.1];exact h.2⟩
 ·exact h.elim
theorem pure_of_code {C:VCfg} (htab:TabOk C.P C.tab) (hm:C.P.follows .mixedOrders=true) {L:List LAnn} {f:FuncId} {fn:Func} {c:Code} {args:List AV} {R:AV→Prop} (hf:C.P.funcs[f]?=some fn) (hb:fn.body=some c)
  (hname:(fn.name == "runtime.NumGoroutine")=false) (hn:Nat.ble args.length fn.ntmps=true) (hnt:C.nt=fn.ntmps) (h:KCode C L c 0 true (KEnd C.tab fn.results.toList R) ⟨startT 0 args,[],()⟩):Pure C.P f args R:=by
 refine pure_of_body htab hf hb hname (Nat.le_of_ble_eq_true hn) fun Γ hok hP hnt' hh0 hfree=>?_
 refine(KCode.sound hm c Γ hok hP.symm (by rw[hP];exact htab) (by rw[hnt,hnt']) _ hh0 true (fun _=>hfree) _ _ h).post_weak fun e s' hq=>?_
 cases e with
 |normal=>obtain⟨l,h1,h2⟩:=KRet.sound hq;exact⟨_,frzAt_ok hok (rangeN 0 s'.hp.length) s',by simp only[retQ,h1];exact h2⟩
 |ret=>obtain⟨l,h1,h2⟩:=KRet.sound hq;exact⟨_,frzAt_ok hok (rangeN 0 s'.hp.length) s',by simp only[retQ,h1];exact h2⟩
 |_=>exact hq.elim
def AV.outC' (n:Nat) (hp:List AObj) (x:AV):List Prop×AV:=
 match x.closedC n with
 |true=>([],x)
 |false=>x.dataC' hp
def AV.outV' (n:Nat) (hp:List AObj):AV→List Prop×AV
 | .agg cs=>((mapD (AV.outC' n hp) cs).1,.agg (mapD (AV.outC' n hp) cs).2)
 |x=>x.outC' n hp
def AV.out' (n:Nat) (hp:List AObj):AV→List Prop×AV
 | .tup cs=>((mapD (AV.outV' n hp) cs).1,.tup (mapD (AV.outV' n hp) cs).2)
 |x=>x.outV' n hp
theorem outC'_ok {n:Nat} {x:AV} (hc:allP (x.outC' n hp).1):x.outC n hp=(x.outC' n hp).2:=by
 unfold AV.outC AV.outC' at *
 cases h:x.closedC n with
 |true=>simp
 |false=>rw[h] at hc;simp only[Bool.false_eq_true,if_false];exact dataC'_ok hc
theorem outV'_ok {n:Nat} {x:AV} (hc:allP (x.outV' n hp).1):x.outV n hp=(x.outV' n hp).2:=by
 cases x with
 |agg cs=>simp only[AV.outV',AV.outV] at hc ⊢;rw[mapD_ok (fun x=>outC'_ok) _ hc]
 |_=>exact outC'_ok hc
theorem out'_ok {n:Nat} {x:AV} (hc:allP (x.out' n hp).1):x.out n hp=(x.out' n hp).2:=by
 cases x with
 |tup cs=>simp only[AV.out',AV.out] at hc ⊢;rw[mapD_ok (fun x=>outV'_ok) _ hc]
 |_=>exact outV'_ok hc
def KRetH (tab:Nat→Option TD) (n:Nat) (rs:List ResultVar) (R:AV→List AObj→Prop) (s:AS Unit):Prop:=
 match resAll tab s rs with
 |some l=>okB ((s.hp.take n).all (AObj.closed n)) (conj ((resTup l).out' n s.hp).1 (R ((resTup l).out' n s.hp).2 (s.hp.take n)))
 |none=>False
def KEndH (tab:Nat→Option TD) (n:Nat) (rs:List ResultVar) (R:AV→List AObj→Prop):Exit→AS Unit→Prop
 | .normal,s=>KRetH tab n rs R (frzAt (rangeN n (s.hp.length-n)) s)
 | .ret,s=>KRetH tab n rs R (frzAt (rangeN n (s.hp.length-n)) s)
 |_,_=>False
theorem KRetH.sound {tab:Nat→Option TD} {n:Nat} {rs:List ResultVar} {R:AV→List AObj→Prop} {s:AS Unit} (h:KRetH tab n rs R s):
  ∃l,resAll tab s rs=some l∧(∀o∈s.hp.take n,AObj.closed n o=true)∧R ((resTup l).out n s.hp) (s.hp.take n):=by
 unfold KRetH at h
 split at h
 ·rename_i l hl
  obtain⟨hb,h⟩:=okB_ok h
  rw[conj_iff] at h
  exact⟨l,hl,fun o ho=>List.all_eq_true.1 hb o ho,by rw[out'_ok h.1];exact h.2⟩
 ·exact h.elim
theorem heap_of_code {C:VCfg} (htab:TabOk C.P C.tab) (hm:C.P.follows .mixedOrders=true) {L:List LAnn} {f:FuncId} {fn:Func} {c:Code} {args:List AV} {hp:List AObj} {R:AV→List AObj→Prop} (hf:C.P.funcs[f]?=some fn) (hb:fn.body=some c)
  (hname:(fn.name == "runtime.NumGoroutine")=false) (hn:Nat.ble args.length fn.ntmps=true) (hnt:C.nt=fn.ntmps) (h:KCode C L c hp.length true (KEndH C.tab hp.length fn.results.toList R) ⟨startT 0 args,hp,()⟩):HFn C.P f args hp R:=by
 refine heap_of_body htab hf hb hname (Nat.le_of_ble_eq_true hn) fun Γ hok hP hnt' hh0 hfree=>?_
 refine(KCode.sound hm c Γ hok hP.symm (by rw[hP];exact htab) (by rw[hnt,hnt']) _ hh0 true (fun _=>hfree) _ _ h).post_weak fun e s' hq=>?_
 cases e with
 |normal=>obtain⟨l,h1,h2,h3⟩:=KRetH.sound hq;exact⟨_,frzAt_ok hok (rangeN hp.length (s'.hp.length-hp.length)) s',by simp only[retH,h1];exact⟨h2,h3⟩⟩
 |ret=>obtain⟨l,h1,h2,h3⟩:=KRetH.sound hq;exact⟨_,frzAt_ok hok (rangeN hp.length (s'.hp.length-hp.length)) s',by simp only[retH,h1];exact⟨h2,h3⟩⟩
 |_=>exact hq.elim
theorem heap_of_code_at {C:VCfg} (htab:TabOk C.P C.tab) (hm:C.P.follows .mixedOrders=true) {L:List LAnn} {f:FuncId} {fn:Func} {c:Code} {args:List AV} {hp:List AObj} {R:AV→List AObj→Prop} (m:Nat) (hm2:Nat.ble hp.length m=true) (hf:C.P.funcs[f]?=some fn) (hb:fn.body=some c)
  (hname:(fn.name == "runtime.NumGoroutine")=false) (hn:Nat.ble args.length fn.ntmps=true) (hnt:C.nt=fn.ntmps) (h:KCode C L c hp.length true (KEndH C.tab m fn.results.toList R) ⟨startT 0 args,hp,()⟩):HFn C.P f args hp R:=by
 refine heap_of_body_at htab m (Nat.le_of_ble_eq_true hm2) hf hb hname (Nat.le_of_ble_eq_true hn) fun Γ hok hP hnt' hh0 hfree=>?_
 refine(KCode.sound hm c Γ hok hP.symm (by rw[hP];exact htab) (by rw[hnt,hnt']) _ hh0 true (fun _=>hfree) _ _ h).post_weak fun e s' hq=>?_
 cases e with
 |normal=>obtain⟨l,h1,h2,h3⟩:=KRetH.sound hq;exact⟨_,frzAt_ok hok (rangeN m (s'.hp.length-m)) s',by simp only[retH,h1];exact⟨h2,h3⟩⟩
 |ret=>obtain⟨l,h1,h2,h3⟩:=KRetH.sound hq;exact⟨_,frzAt_ok hok (rangeN m (s'.hp.length-m)) s',by simp only[retH,h1];exact⟨h2,h3⟩⟩
 |_=>exact hq.elim
abbrev nI (n:Int):AV:=.prim (.int .i64 n)
abbrev nB (b:Bool):AV:=.prim (.bool b)
abbrev nS (s:ByteArray):AV:=.prim (.string s)
theorem of_eq {p q:Prop} (h:p=q) (hp:p):q:=h▸hp
end Go.Proofs.YtjhanogfpkbamaaGreatDoor
