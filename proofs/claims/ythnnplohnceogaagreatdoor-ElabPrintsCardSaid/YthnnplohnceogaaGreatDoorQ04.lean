/- Lemmas. -/
import Derived.Test.YthnnplohnceogaaGreatDoorProg
import Derived.KernelRfl
import Derived.Test.YthnnplohnceogaaGreatDoorQ03
namespace Go.Proofs.YthnnplohnceogaaGreatDoor
open Go
open Go.Proofs.Tryz renaming prog->aj
set_option linter.unusedSimpArgs false
set_option linter.unusedVariables false
section
variable {Γ:Env Unit} {s s':AS Unit} {a:Act} {w w':World} {η:List Value} {hp hp':List ax}
theorem cU.eQ{f f':Nat->AV}{g:Unit}(h:∀t,aX (f t) (f' t)):cU Γ ⟨f,hp,g⟩ ⟨f',hp,g⟩:=λ_ _ η hr=>⟨η,hr.nt,λt=>h t _ _ _ _ _ (hr.tmps t),hr.heap,hr.cu,hr.keeps,hr.inv,hr.marks,hr.ext⟩
theorem QS.own{o o':ax}(h:QS o o'):(∃cs eJ,o=.box cs/\o'=.box eJ/\ef cs eJ)\/o=o':=by
 cases o with
  |box cs=>cases o' with|box eJ=>exact .inl ⟨cs,eJ,rfl,rfl,h⟩|_=>cases h
  |_=>cases o'<;>first|exact .inr h|cases h
theorem fp.aeS(h:fp hp hp'){b o:Nat}(hf:ka η hp b o):ka η hp' b o:=by
 intro r v hr hb;have:=hf r v hr hb;rcases h.get r with⟨h1,h2⟩|⟨o1,o2,h1,h2,h3⟩;simp_all
 ·rw[h1]at this;rw[h2];rcases h3.own with⟨cs,eJ,rfl,rfl,_⟩|rfl;all_goals omega
theorem fp.ahm(h:fp hp hp'){r n:Nat}{v:Value}(hf:bk η hp r n v):bk η hp' r n v:=by unfold bk at hf ⊢;rcases h.get r with⟨h1,h2⟩|⟨o1,o2,h1,h2,h3⟩;simp_all;rw[h1]at hf;rw[h2];rcases h3.own with⟨cs,eJ,rfl,rfl,_⟩|rfl;exact hf;exact hf
theorem cU.aeT{f:Nat->AV}{g:Unit}(h:fp hp hp'):cU Γ ⟨f,hp,g⟩ ⟨f,hp',g⟩:=by
 intro a w η hr;have he:Ext w (bw Γ w η hp) η hp w (bw Γ w η hp') η hp':= ⟨λ_ _ _ _ h=>h,λ_ _ _ _ h=>h,λb o hf=>⟨hf.1,hf.2.1,hf.2.2.1,h.aeS hf.2.2.2⟩,λ_ _ h=>h,λ_ _ h=>h,λ_ _ _ ho=>h.ahm ho⟩;have back:∀{r:Nat}{o':ax},hp'[r]?=some o'->∃o,hp[r]?=some o/\QS o o'/\(o'.live->o.live):=by
  intro r o' ho;rcases h.get r with⟨h1,h2⟩|⟨o1,o2,h1,h2,h3⟩;simp_all
  ·rw[h2]at ho;obtain rfl:=auo ho;refine⟨o1,h1,h3,λhl=>?_⟩;rcases h3.own with⟨cs,eJ,rfl,rfl,_⟩|rfl;all_goals assumption
 refine⟨η,hr.nt,λt=>(hr.tmps t).ext he,⟨by rw[hr.heap.len];exact h.length,λr o' v h1 h2=>?_,λr r' o o' v v' b bW h1 h2 l1 l2 e1 e2 hb=>?_⟩,λr o v b h1 hl h2 hb=>?_,hr.keeps,hr.inv,hr.marks,hr.ext.trans he⟩;obtain⟨o,g1,g2,_⟩:=back h1;have gn:=hr.heap.obj r o v g1 h2;rcases g2.own with⟨cs,eJ,rfl,rfl,hw⟩|rfl;obtain⟨b,vs,T,e1,e2,e3,e4⟩:=gn;refine⟨b,vs,T,e1,e2,by rw[e3,hw.length],λj x u hx hu=>?_⟩;obtain⟨y,hy,hyx⟩:=hw.get j x hx;have:=e4 j y u hy hu;exact⟨hyx _ _ _ _ _ (this.1.ext he),this.2⟩;exact gn.ext he (aur _) λ_ _ _=>rfl;obtain⟨o1,g1,_,g3⟩:=back h1;obtain⟨o2,g4,_,g6⟩:=back h2;exact hr.heap.sep r r' o1 o2 v v' b bW g1 g4 (g3 l1) (g6 l2) e1 e2 hb;obtain⟨o1,g1,_,g3⟩:=back h1;exact hr.cu r o1 v b g1 (g3 hl) h2 hb
def yE.cl(n:Nat):yE->Bool
 | .o r=>Nat.blt r n| .k x=>x.bb n| .q x=>x.bb n|_=>true
def Uf(n:Nat):List yE->Bool
 | []=>true|sh::l=>sh.cl n&&Uf n l
def ui.cl(n:Nat):ui->Bool
 | .c x=>x.cl n| .a l=>Uf n l
def QW(n:Nat):List ui->Bool
 | []=>true|sh::l=>sh.cl n&&QW n l
def Sh.cl(n:Nat):Sh->Bool
 | .v x=>x.cl n| .t l=>QW n l| .f _ l=>QW n l| .m _ l=>QW n l
def QX(n:Nat):List Sh->Bool
 | []=>true|sh::l=>sh.cl n&&QX n l
def mo.cl(n:Nat):mo->Bool
 | .box l=>Uf n l| .jm r=>Nat.blt r n|_=>true
def LX(n:Nat):List mo->Bool
 | []=>true|sh::l=>sh.cl n&&LX n l
theorem E8{n:Nat}{x:AV}(h:x.bb n=true):x.dX n=true:=by cases x<;>first|exact h|simp_all [AV.bb]
theorem E9{n:Nat}{x:AV}(h:x.fe n=true):x.dX n=true:=by cases x<;>first|exact h|rfl|(simp[AV.fe]at h;done)
theorem Ig{n:Nat}{x:AV}(h:x.dX n=true):x.closed n=true:=by cases x with|bz f cs=>exact auI.2 λx hx=>E9 (auI.1 (show cs.all (AV.fe n)=true from h) x hx)|_=>first|exact h|(simp[AV.dX,AV.bb]at h;done)
theorem Ug{n:Nat}{lens:List Nat}{sh:yE}{t:sh.T}(h:sh.cl n=true):(mkC lens sh t).bb n=true:=by cases sh with|k x=>exact h|q x=>exact h|o r=>have:r<n:=auW (by assumption);simp_all [mkC,AV.bb]|_=>rfl
theorem Fb{n:Nat}{lens:List Nat}:∀{l:List yE}{t:TCs l},Uf n l=true->(QN lens l t).all (AV.bb n)=true
 | [],_,_=>rfl|sh::l,t,h=>by simp only[Uf,auq]at h;simp only[QN,avL,auq];exact⟨Ug h.1,Fb h.2⟩
theorem Uh{n:Nat}{lens:List Nat}{sh:ui}{t:sh.T}(h:sh.cl n=true):(mkV lens sh t).dX n=true:=by cases sh with|c x=>exact E8 (Ug h)|a l=>exact Fb h
theorem zb{n:Nat}{lens:List Nat}:∀{l:List ui}{t:TVs l},QW n l=true->(LS lens l t).all (AV.dX n)=true
 | [],_,_=>rfl|sh::l,t,h=>by simp only[QW,auq]at h;simp only[LS,avL,auq];exact⟨Uh h.1,zb h.2⟩
theorem aeU{n:Nat}{lens:List Nat}{sh:Sh}{t:sh.T}(h:sh.cl n=true):(mkS lens sh t).closed n=true:=by cases sh with|v x=>exact Ig (Uh h)|t l=>exact zb h|f fn l=>exact zb h|m fn l=>exact zb h
theorem Ol{n:Nat}{lens:List Nat}:∀{l:List Sh}{t:TS l},QX n l=true->∀x∈yG lens l t,x.closed n=true
 | [],_,_,x,hx=>by cases hx|sh::l,t,h,x,hx=>by simp only[QX,auq]at h;rcases auJ.1 hx with rfl|hx;exact aeU h.1;exact Ol h.2 x hx
theorem Fc{n:Nat}{lens:List Nat}:∀{l:List mo}{t:TO l},LX n l=true->∀o∈pz lens l t,ax.closed n o=true
 | [],_,_,x,hx=>by cases hx|sh::l,t,h,x,hx=>by simp only[LX,auq]at h;rcases auJ.1 hx with rfl|hx;(cases sh with|box l=>exact Fb h.1|jm r=>exact decide_eq_true (auW (show Nat.ble (r+1) n=true from h.1))|_=>rfl);exact Fc h.2 x hx
theorem uz{lens:List Nat}:∀{l:List mo}{t:TO l},(pz lens l t).length=l.length
 | [],_=>rfl|_::l,t=>by simp[pz,uz (l:=l)]
def wh:List Nat->List AV->Nat->AV
 |t::ts,x::xs=>Cm (wh ts xs) t x|_,_=>λ_=>.top
theorem Ih{f:Nat->AV}:∀{ts:List Nat}{ys:List AV},ef (ts.map f) ys->∀t,aX (f t) (wh ts ys t)
 | [],[],_,t=>λ_ _ _ _ v _=>.top v|t0::ts,y::ys,h,t=>by simp only[wh,gS];split;rename_i ht;subst ht;exact h.1;exact Ih h.2 t
theorem Dz{n:Nat}:∀{ts:List Nat}{ys:List AV},(∀x∈ys,x.closed n=true)->qg n (wh ts ys)
 | [],_,_=>λ_=>rfl|_::_,[],_=>λ_=>rfl|t0::ts,y::ys,h=>qg.Cm (h y auC) (Dz (by simp_all))
def QY(eQ:List Nat)(qk:List Sh)(dL:List mo)(z:TS qk×TO dL):AS Unit:=⟨wh eQ (yG (iV dL z.2) qk z.1),pz (iV dL z.2) dL z.2,()⟩
def LY(eQ:List Nat)(qk:List Sh)(dL:List mo)(s:AS Unit):Option (List Prop×(TS qk×TO dL)):=
 match xw (s6 (s.hp.take dL.length)) dL (s.hp.take dL.length)with
 |some (p,y)=>(match Dq (s6 (s.hp.take dL.length)) qk (eQ.map s.tmps)with
  |some (q,x)=>some (p++q,(x,y))
  |none=>none)
 |none=>none
theorem Fe(aN:Γ.Ok){eQ:List Nat}{qk:List Sh}{dL:List mo}{s:AS Unit}{cs:List Prop}{z:TS qk×TO dL}(h:LY eQ qk dL s=some (cs,z))(hc:eK cs)(h0:Γ.mP.length<=dL.length)(ej:(QX dL.length qk&&LX dL.length dL)=true):cU Γ s (QY eQ qk dL z):=by unfold LY at h;split at h;rename_i p y h1;split at h;(rename_i q x h2;simp only[aul,aup]at h;obtain⟨rfl,rfl⟩:=h;rw[bV]at hc;obtain⟨h3,h4⟩:=uw (lens':=[]) h1 hc.1;have h5:=H7 h2 hc.2;rw[<-h4]at h3 h5;rw[auq]at ej;obtain⟨f,hp,g⟩:=s;have w1:cU Γ ⟨f,hp,g⟩ ⟨wh eQ (yG (iV dL y) qk x),hp,g⟩:=cU.eQ (Ih h5);have h6:fp hp (pz (iV dL y) dL y++hp.drop dL.length):=by grind [fp.append,fp.refl,avl]);have w2:=w1.trans (cU.aeT h6);refine w2.trans (cU.cut aN dL.length h0 (λt=>.inr rfl) (Dz (Ol ej.1)) ?_ (Fc ej.2));simp[uz];cases h;cases h
def aI(τ:Type)(x0:τ)(body:τ->(τ->Prop)->Prop):Prop:=∃(β:Type)(E:β->τ)(I:β->Prop)(μ:β->Nat)(b0:β),x0=E b0/\I b0/\∀b,I b->body (E b) (λy=>∃b',y=E b'/\I b'/\μ b' < μ b)
theorem aI.intro{τ:Type}{x0:τ}{body:τ->(τ->Prop)->Prop}{β:Type}(E:β->τ)(I:β->Prop)(μ:β->Nat)(b0:β)(h0:x0=E b0)(hI:I b0)(h:∀b,I b->∀again:τ->Prop,(∀b',I b'->μ b' < μ b->again (E b'))->body (E b) again):aI τ x0 body:=⟨β,E,I,μ,b0,h0,hI,λb hb=>h b hb _ λb' h1 h2=>⟨b',rfl,h1,h2⟩⟩
def gz(Γ:Env Unit)(c:Code)(Q:Exit->AS Unit->Prop)(s:AS Unit):Prop:=
 ∀a w η,Rel Γ s a w η->∀(f:Frame)(k:List Item)(cs:List Frame),f.roundOf=Γ.fO.round->Γ.fO.fn f.fn->Γ.fO.room (cs.length+1+0)->
  ∃e a' w',(∃s' bj,Q e s'/\Rel Γ s' a' w' bj)/\ArrivesIn (Machine.fenced Γ.P Γ.fO) Γ.P (lone (f.atR a (.code c :: .inLoop c::k)) cs w) f k cs e a' w'
theorem gz.Ui{c:Code}{Q:Exit->AS Unit->Prop}(h:gk Γ c (sG (gz Γ c Q) Q) s):gz Γ c Q s:=by intro a w η hr f k cs sE hf fi;obtain⟨e,wc,we,⟨s',bj,hq,gJ⟩,mQ⟩:=h a w η hr f (.inLoop c::k) cs sE hf fi;cases e with|normal=>obtain⟨aeM,aeN,aeO,Ua,E3⟩:=hq wc we bj gJ f k cs sE hf fi;exact⟨aeM,aeN,aeO,Ua,.of_steps (StepsIn.trans mQ (.one (fenced_calm hf fi rfl) stepR_inLoop)) E3⟩|exit id=>exact⟨_,wc,we,⟨s',bj,hq,gJ⟩,by assumption⟩|goto l=>exact⟨_,wc,we,⟨s',bj,hq,gJ⟩,by assumption⟩|ret=>exact⟨_,wc,we,⟨s',bj,hq,gJ⟩,by assumption⟩|panic ch=>exact⟨_,wc,we,⟨s',bj,hq,gJ⟩,by assumption⟩|outgrown=>exact⟨_,wc,we,⟨s',bj,hq,gJ⟩,by assumption⟩
theorem gz.sr{c:Code}{Q:Exit->AS Unit->Prop}(hw:cU Γ s s')(h:gz Γ c Q s'):gz Γ c Q s:=λa w η hr=>let ⟨bj,gJ⟩:=hw a w η hr;h a w bj gJ
theorem gz.loop{c:Code}{Q:Exit->AS Unit->Prop}{β:Type}(I:β->Prop)(st:β->AS Unit)(μ:β->Nat)(round:∀b,I b->gk Γ c (sG (λs'=>∃b',I b'/\cU Γ s' (st b')/\μ b' < μ b) Q) (st b)):∀(n:Nat)(b:β),I b->μ b=n->gz Γ c Q (st b):=by intro n;induction n using Nat.strongRecOn with|_ n ih=>intro b hIb hb;refine gz.Ui ((round b hIb).mono λe s' h=>?_);cases e with|normal=>obtain⟨b',hI',hw,aF⟩:=h;exact gz.sr hw (by grind)|_=>exact h
theorem gk.Ii{c:Code}{Q:Exit->AS Unit->Prop}(h:gz Γ c Q s):gk Γ (.loop c) Q s:=by intro a w η hr f k cs sE hf fi;obtain⟨e,a',w',hq,mQ⟩:=h a w η hr f k cs sE hf fi;exact⟨e,a',w',hq,.of_steps (.one (fenced_calm hf fi rfl) stepR_loop) mQ⟩
def ofC:AV->yE
 | .ay (.int k _)=>.i k| .ay (.bool _)=>.b| .ay (.string _)=>.s| .ay (.slice none 0 0)=>.l| .sl _=>.l| .clip _=>.c| .eo (.i _)=>.m| .eo (.s _)=>.ms| .own r _=>.o r| .ptr r o=>.k (.ptr r o)| .mp r=>.k (.mp r)| .bz f cs=>.k (.bz f cs)| .fn _=>.fn|_=>.k .top
def ahn:List AV->List yE
 | []=>[]|x::l=>ofC x::ahn l
def ofV:AV->ui
 | .agg cs=>.a (ahn cs)|x=>.c (ofC x)
def aeV:List AV->List ui
 | []=>[]|x::l=>ofV x::aeV l
def ofS:AV->Sh
 | .aG vs=>.t (aeV vs)| .bz f vs=>.f f (aeV vs)|x=>.v (ofV x)
def amK:AV->yE
 | .ay (.slice none 0 0)=>.k (.ay (.slice none 0 0))|x=>ofC x
def adq:List AV->List yE
 | []=>[]|x::l=>amK x::adq l
def ofO:ax->mo
 | .dead=>.dead| .box cs=>.box (adq cs)| .row e size _=>.row e size| .aV e size _=>.aV e size| .cJ (.i _)=>.cJ| .cJ (.s _)=>.eX| .jm r _=>.jm r| .fz e _ _=>.fz e
def QZ:List ax->List mo
 | []=>[]|o::l=>ofO o::QZ l
def sL:List Nat->AS Unit->AS Unit
 | [],s=>s|r::l,s=>(match s.hp[r]? with|some (.cJ es)=>sL l ⟨λt=>Tu r es (s.tmps t),s.hp.set r .dead,s.g⟩|some (.aV e size els)=>sL l ⟨s.tmps,s.hp.set r (.row e size els),s.g⟩|_=>sL l s)
theorem cU.Q0(aN:Γ.Ok){f:Nat->AV}{g:Unit}{r e size:Nat}{els:List AV}(hr:hp[r]?=some (.aV e size els)):cU Γ ⟨f,hp,g⟩ ⟨f,hp.set r (.row e size els),g⟩:=by
 intro a w η h;have aF:r<η.length:=by have:=h.heap.len;simp only at this;rw[this];exact(aun.1 hr).1
 have hv:η[r]?=some η[r]:=by simp[aF]
 obtain⟨hz,xs,fh,fA⟩:=h.heap.obj r _ _ hr hv;have fU:η.set r η[r]=η:=by simp
 have hd:=Rel.change (w':=w) (o':=.row e size els) (v':=η[r]) aN h hr True.intro hv (cy.refl _ w) (λb hb=>.inl hb) (λk hk=>hk.elim) (λ_ _ _ _ hk _=>hk.elim) (λ_ _ _ _ hk _=>hk.elim)
  (λn u ho=>by
   unfold bk at ho ⊢;simp only[hr]at ho;rw[fU];simp only[aD hr]
   exact ho) (λ_ _=>rfl) (λ_ _=>rfl) (λb' d gb hd=>by obtain⟨cur,h5⟩:=fh.lt gb;rw[h5]at hd;cases hd)
  (λhe=>⟨hz,xs,fh.more (auv _),λi el hi=>⟨(fA i el hi).1,λj x hj=>let ⟨u,q1,q2,q3⟩:=(fA i el hi).2 j x hj;⟨u,q1,q2.ext he.ny.ext,q3⟩⟩⟩)
 grind
theorem ic(aN:Γ.Ok):∀(l:List Nat)(s:AS Unit),cU Γ s (sL l s)
 | [],s=>.refl s|r::l,s=>by simp only[sL];split;rename_i es hr;exact(cU.frz aN hr).trans (ic aN l _);rename_i e size els hr;exact(cU.Q0 aN hr).trans (ic aN l _);exact ic aN l s
structure kl where
 key:Nat
 live:List (Nat×Option Sh)
 rows:List (Nat×Nat):=[]
 aho:List (Nat×Nat):=[]
 my:List (Nat×Nat×Nat):=[]
 dL:List (Nat×mo):=[]
 ahp:Bool:=false
 Q0:List Nat:=[]
 mv:List (Nat×Nat):=[]
 prm:List Sh:=[]
 mb:Bool:=false
def Om(s:AS Unit):List (Nat×Option Sh)->List Sh
 | []=>[]|(_,some sh)::l=>sh::Om s l|(t,none)::l=>ofS (s.tmps t)::Om s l
def slotsOf:List (Nat×Option Sh)->List Nat
 | []=>[]|(t,_)::l=>t::slotsOf l
def DA:List (Nat×mo)->List mo->List mo
 | [],l=>l|(r,o)::m,l=>DA m (l.set r o)
def s9(tab:Nat->Option TD):List (Nat×Nat)->AS Unit->Option (AS Unit)
 | [],s=>some s|(t,e)::l,s=>(match s.tmps t,tab e with| .ay (.slice none 0 0),some d=>(match Nat.blt 0 d.size with|true=>s9 tab l ⟨Cm s.tmps t (.own s.hp.length 0),s.hp++[.row e d.size []],s.g⟩|false=>none)| .own _ _,some _=>s9 tab l s|_,_=>none)
theorem rY(aN:Γ.Ok){tab:Nat->Option TD}:∀{l:List (Nat×Nat)}{s s':AS Unit},s9 tab l s=some s'->cU Γ s s'
 | [],s,s',h=>by simp only[s9,aul]at h;subst h;exact .refl _|(t,e)::l,s,s',h=>by simp only[s9]at h;split at h;rename_i d ht hd;split at h;rename_i cY;exact(cU.row aN t e d.size (by simp_all) ht).trans (rY aN h);cases h;exact rY aN h;cases h
def rZ(tab:Nat->Option TD):List (Nat×Nat)->AS Unit->Option (AS Unit)
 | [],s=>some s|(t,e)::l,s=>(match s.tmps t,tab e with| .ay (.slice none 0 0),some d=>(match Nat.blt 0 d.size with|true=>rZ tab l ⟨Cm s.tmps t (.own s.hp.length 0),s.hp++[.aV e d.size []],s.g⟩|false=>none)| .own _ _,some _=>rZ tab l s|_,_=>none)
theorem te(aN:Γ.Ok){tab:Nat->Option TD}:∀{l:List (Nat×Nat)}{s s':AS Unit},rZ tab l s=some s'->cU Γ s s'
 | [],s,s',h=>by simp only[rZ,aul]at h;subst h;exact .refl _|(t,e)::l,s,s',h=>by simp only[rZ]at h;split at h;rename_i d ht hd;split at h;rename_i cY;exact(cU.SV (M:=true) aN t e d.size (by simp_all) ht).trans (te aN h);cases h;exact te aN h;cases h
def nj(M:Bool)(tab:Nat->Option TD):List (Nat×Nat×Nat)->AS Unit->Option (AS Unit)
 | [],s=>some s|(r,k,e)::l,s=>(match s.hp[r]?,tab (e % 1000000)with|some (.box cs),some d=>(match cs[k]? with|some (.ay (.slice none 0 0))=>(match Nat.blt 0 d.size with|true=>nj M tab l ⟨s.tmps,s.hp.set r (.box (cs.set k (.own s.hp.length 0)))++[fI (M||Nat.ble 1000000 e) (e % 1000000) d.size []],s.g⟩|false=>none)|some (.own _ _)=>nj M tab l s|_=>none)|_,_=>none)
theorem mz(aN:Γ.Ok){M:Bool}{tab:Nat->Option TD}:∀{l:List (Nat×Nat×Nat)}{s s':AS Unit},nj M tab l s=some s'->cU Γ s s'
 | [],s,s',h=>by simp only[nj,aul]at h;subst h;exact .refl _|(r,k,e)::l,s,s',h=>by simp only[nj]at h;split at h;rename_i cs d hb hd;split at h;rename_i hk;split at h;rename_i cY;exact(cU.ad9 aN r k (e % 1000000) d.size (by simp_all) hb hk).trans (mz aN h);cases h;exact mz aN h;cases h;cases h
def Ij:List (Nat×Nat)->AS Unit->List Prop×AS Unit
 | [],s=>([],s)|p::l,s=>(match Nat.ble 1000000 p.1 with|true=>(((s.tmps p.2).bZ s.hp).1++(Ij l ⟨Cm s.tmps p.2 ((s.tmps p.2).bZ s.hp).2,s.hp,s.g⟩).1,(Ij l ⟨Cm s.tmps p.2 ((s.tmps p.2).bZ s.hp).2,s.hp,s.g⟩).2)|false=>Ij l s)
theorem Ff(aN:Γ.Ok):∀(l:List (Nat×Nat))(s:AS Unit),eK (Ij l s).1->cU Γ s (Ij l s).2
 | [],s,_=>.refl s|p::l,s,h=>by simp only[Ij]at h ⊢;split at h;rename_i hp;simp only[bV]at h;refine cU.trans (λa w η hr=>?_) (Ff aN l _ h.2);refine⟨η,hr.nt,λu=>?_,hr.heap,hr.cu,hr.keeps,hr.inv,hr.marks,hr.ext⟩;show bq w _ _ _ (Cm s.tmps p.2 _ u) _;rw[gS];split;rename_i hu;subst hu;rw[<-dy h.1];exact(fJ hr.heap hr.cu (hr.tmps _)).lift;exact hr.tmps u;rename_i hp;exact Ff aN l s h
def Uj(mv:List (Nat×Nat))(eQ:List Nat)(qk:List Sh)(dL:List mo)(again:TS qk×TO dL->Prop)(Q:Exit->AS Unit->Prop):Exit->AS Unit->Prop
 | .normal,s=>gL (Ij mv (mvS mv s)).1 (match LY eQ qk dL (Ij mv (mvS mv s)).2 with|some (p,z)=>gL p (again z)|none=>False)|e,s=>Q e s
def AD(n0:Nat)(mv:List (Nat×Nat))(eQ:List Nat)(qk:List Sh)(dL:List mo)(body:(Exit->AS Unit->Prop)->AS Unit->Prop)(Q:Exit->AS Unit->Prop)(s:AS Unit):Prop:=
 match Nat.ble n0 dL.length&&(QX dL.length qk&&LX dL.length dL)&&ZA n0 mv with
 |false=>False
 |true=>(match LY eQ qk dL s with
  |some (p,z)=>gL p (aI (TS qk×TO dL) z λz again=>body (Uj mv eQ qk dL again Q) (QY eQ qk dL z))
  |none=>False)
def Uk(l:List Nat)(Q:Exit->AS Unit->Prop)(e:Exit)(s:AS Unit):Prop:=
 match l with
 | []=>Q e s
 |_=>Q e (sL l s)
theorem gz.oD{c:Code}{Q Q':Exit->AS Unit->Prop}(h:gz Γ c Q s)(hq:∀e s,Q e s->∃s2,cU Γ s s2/\Q' e s2):gz Γ c Q' s:=
 λa w η hr f k cs h1 h2 h3=>by
  obtain⟨e,a',w',⟨s',bj,q1,q2⟩,q3⟩:=h a w η hr f k cs h1 h2 h3;obtain⟨s2,hw,q4⟩:=hq e s' q1;obtain⟨Ck,q5⟩:=hw _ _ _ q2
  grind
theorem gz.Q0(aN:Γ.Ok){c:Code}{l:List Nat}{Q:Exit->AS Unit->Prop}(h:gz Γ c (Uk l Q) s):gz Γ c Q s:=
 h.oD λe s' hq=>by
  unfold Uk at hq;split at hq
  ·exact⟨_,.refl _,hq⟩
  grind [ic]
def AE(tab:Nat->Option TD)(n0:Nat)(A:kl)(body:(Exit->AS Unit->Prop)->AS Unit->Prop)(Q:Exit->AS Unit->Prop)(s:AS Unit):Prop:=
 match s9 tab A.rows s with
 |none=>False
 |some s0=>(match rZ tab A.aho s0 with
  |none=>False
  |some s1=>(match nj A.mb tab A.my s1 with
   |none=>False
   |some s2=>AD n0 A.mv (slotsOf A.live) (Om s2 A.live) (DA A.dL (QZ s2.hp)) body (Uk A.Q0 Q) s2))
theorem AD.sound(aN:Γ.Ok){n0:Nat}(qI:Γ.mP.length=n0){mv:List (Nat×Nat)}{eQ:List Nat}{qk:List Sh}{dL:List mo}{c:Code}{body:(Exit->AS Unit->Prop)->AS Unit->Prop}{Q:Exit->AS Unit->Prop}{s:AS Unit}(hb:∀Q s,body Q s->gk Γ c Q s)(h:AD n0 mv eQ qk dL body Q s):gz Γ c Q s:=by unfold AD at h;split at h;grind;(rename_i N2;rw[auq,auq]at N2;obtain⟨N2,Sk⟩:=N2;rw[<-qI]at Sk;have hn:Γ.mP.length<=dL.length:=by simp_all);split at h;rename_i p z hz;rw[bG]at h;obtain⟨hp,β,E,I,μ,b0,Sg,hI,hr⟩:=h;have hw:=Fe aN hz hp hn N2.2;rw[Sg]at hw;refine gz.sr hw (gz.loop I (λb=>QY eQ qk dL (E b)) μ (λb hIb=>?_) _ b0 hI rfl);refine(hb _ _ (hr b hIb)).mono λe s1 h1=>?_;(cases e with|normal=>simp only[Uj]at h1;rw[bG]at h1;obtain⟨hd1,h1⟩:=h1;split at h1;rename_i p1 z1 Zd;rw[bG]at h1;obtain⟨kX,b',gb,hI',aF⟩:=h1;have Lw:=((Ue aN mv s1 Sk).trans (Ff aN mv _ hd1)).trans (Fe aN Zd kX hn N2.2);rw[gb]at Lw;exact⟨b',hI',Lw,aF⟩;simp_all|_=>exact h1);simp_all
theorem AE.sound(aN:Γ.Ok){tab:Nat->Option TD}{n0:Nat}(qI:Γ.mP.length=n0){A:kl}{c:Code}{body:(Exit->AS Unit->Prop)->AS Unit->Prop}{Q:Exit->AS Unit->Prop}{s:AS Unit}(hb:∀Q s,body Q s->gk Γ c Q s)(h:AE tab n0 A body Q s):gz Γ c Q s:=by unfold AE at h;split at h;grind;rename_i s0 h0;split at h;grind;rename_i s1 h1;split at h;grind;rename_i s2 h2;exact gz.sr (((rY aN h0).trans (te aN h1)).trans (mz aN h2)) ((AD.sound aN qI hb h).Q0 aN)
def mA:Code->Option Nat
 | .region id _ _=>some id| .seq x y=>(match mA x with|some k=>some k|none=>mA y)| .cond _ x y=>(match mA x with|some k=>some k|none=>mA y)| .block _ x=>mA x| .loop x=>mA x| .rangeFunc _ _ x y=>(match mA x with|some k=>some k|none=>mA y)|_=>none
def On:List kl->Nat->Option kl
 | [],_=>none|A::l,k=>(match Nat.beq A.key k with|true=>some A|false=>On l k)
def fK(τ α:Type)(y0:τ)(S:List α->Prop)(round:α->τ->(τ->Prop)->Prop)(after:τ->Prop):Prop:=∃(Ls:List α)(I:List α->τ->Prop),S Ls/\I Ls y0/\(∀e rest y,I (e::rest) y->round e y (I rest))/\∀y,I [] y->after y
def kR(P:Program)(gf:Nat)(caps:List AV)(prm:List Sh)(Ls:List (TS prm)):Prop:=vL P gf (λv=>v::caps) (Ls.map λe=>yG [] prm e) false
def Fg(dL:List mo)(again:TO dL->Prop)(Q:Exit->AS Unit->Prop)(f:Nat->AV):Exit->AS Unit->Prop
 | .normal,s=>(match xw (s6 (s.hp.take dL.length)) dL (s.hp.take dL.length)with|some (p,y)=>gL p (again y)|none=>False)| .ret,s=>Q .ret ⟨f,s.hp,()⟩| .exit id,s=>Q (.exit id) ⟨f,s.hp,()⟩|_,_=>False
def psB(nt:Nat):List Nat->Bool
 | []=>true|p::l=>Nat.blt p nt&&psB nt l
theorem Ul{nt:Nat}:∀{l:List Nat},psB nt l=true->∀p∈l,p<nt
 | [],_,p,hp=>by cases hp|q::l,h,p,hp=>by simp only[psB,auq]at h;rcases auJ.1 hp with rfl|hp;simp_all;exact Ul h.2 p hp
def uA(C:dw)(n0:Nat)(dL:List mo)(prm:List Sh)(g:Operand)(ps:Array Tmp)(Ay body:(Exit->AS Unit->Prop)->AS Unit->Prop)(Q:Exit->AS Unit->Prop)(s:AS Unit):Prop:=
 match s.ev g with
 | .bz gf caps=>(match psB C.nt ps.toList&&(Nat.beq ps.toList.length prm.length&&(Nat.ble n0 dL.length&&(Nat.beq dL.length s.hp.length&&LX dL.length dL)))with
  |false=>False
  |true=>(match xw (s6 s.hp) dL s.hp with
   |some (p,y)=>gL p (gL (cZ (AV.mq 0 (pz (iV dL y) dL y)) caps).1 (fK (TO dL) (TS prm) y (λLs=>kR C.P gf (cZ (AV.mq 0 (pz (iV dL y) dL y)) caps).2 prm Ls)
     (λe y again=>Ay (sG (body (Fg dL again Q s.tmps)) noQ) ⟨ux ps.toList (yG [] prm e) s.tmps,pz (iV dL y) dL y,()⟩)
     (λy=>Q .normal ⟨s.tmps,pz (iV dL y) dL y,()⟩)))
   |none=>False))
 |_=>False
def AF(C:dw)(A:kl)(n0:Nat)(g:Operand)(ps:Array Tmp)(Ay body:Nat->(Exit->AS Unit->Prop)->AS Unit->Prop)(Q:Exit->AS Unit->Prop)(s:AS Unit):Prop:=
 match nj A.mb C.tab A.my s with
 |none=>False
 |some s1=>uA C n0 (DA A.dL (QZ s1.hp)) A.prm g ps (Ay (DA A.dL (QZ s1.hp)).length) (body (DA A.dL (QZ s1.hp)).length) Q s1
theorem Ik:∀{l:List Sh}{t:TS l},(yG [] l t).length=l.length
 | [],_=>rfl|_::l,t=>by simp[yG,Ik (l:=l)]
theorem uA.sound(aN:Γ.Ok)(ib:Γ.Ha){C:dw}(hP:C.P=Γ.P)(iG:C.nt=Γ.nt){n0:Nat}(qI:Γ.mP.length=n0){dL:List mo}{prm:List Sh}{g:Operand}{ps:Array Tmp}{ca cb:Code}{Ay body:(Exit->AS Unit->Prop)->AS Unit->Prop}{Q:Exit->AS Unit->Prop}{s:AS Unit}(ha:∀oV,iW Γ dL.length oV->∀Q s,Ay Q s->gk oV ca Q s)(hb:∀oV,iW Γ dL.length oV->∀Q s,body Q s->gk oV cb Q s)(h:uA C n0 dL prm g ps Ay body Q s):gk Γ (.rangeFunc g ps ca cb) Q s:=by unfold uA at h;split at h;rename_i gf caps hg;split at h;grind;rename_i N2;simp only[auq]at N2;obtain⟨hps,YY,hle,hln,ej⟩:=N2;have ar1:=auN hln;split at h;(rename_i p y hy;rw[bG,bG]at h;obtain⟨hp,ap8,Ls,I,hS,hI,wb,amM⟩:=h;obtain⟨f,amN,gg⟩:=s;obtain⟨h3,h4⟩:=uw (lens':=[]) hy hp;rw[<-h4]at h3;have hw:cU Γ ⟨f,amN,gg⟩ ⟨f,pz (iV dL y) dL y,()⟩:=cU.aeT h3;refine gk.sr hw ?_;have aeW:caps.map (AV.sX 0 (pz (iV dL y) dL y))=(cZ (AV.mq 0 (pz (iV dL y) dL y)) caps).2:=by grind [cE,qV]);refine gk.range (s:=⟨f,pz (iV dL y) dL y,()⟩) aN ib (gf:=gf) (caps:=caps) (L:=Ls.map λe=>yG [] prm e) hg (by rw[aeW,<-hP];exact hS) (λx hx=>?_) (λq hq=>by rw[<-iG];exact Ul hps q hq) (λrest hp=>∃Ls' y,rest=Ls'.map (λe=>yG [] prm e)/\I Ls' y/\hp=pz (iV dL y) dL y) ⟨Ls,y,rfl,hI,rfl⟩ (λx rest hp ⟨Ls',y',he,hI',Lx⟩=>?_) λhp ⟨Ls',y',he,hI',Lx⟩=>?_;grind [Ik,auN];(cases Ls' with|nil=>cases he|cons e Ls'=>simp only[auR,List.cons.injEq]at he;obtain⟨rfl,rfl⟩:=he;subst Lx;have zG:(pz (iV dL y') dL y').length=dL.length:=uz;refine⟨λs1=>body (Fg dL (I Ls') Q f) s1,λoV Um=>?_,λs1 hs1 oV Um=>?_⟩;simp_all;rw[zG]at Um;refine(hb oV Um _ _ hs1).mono λe s2 hq=>?_;cases e with|normal=>simp only[Fg]at hq;split at hq;(rename_i p2 y2 hy2;rw[bG]at hq;obtain⟨k3,k4⟩:=uw (lens':=[]) hy2 hq.1;rw[<-k4]at k3;refine⟨pz (iV dL y2) dL y2,?_,Ls',y2,rfl,hq.2,rfl⟩;obtain⟨f2,yY,g2⟩:=s2;have h6:fp yY (pz (iV dL y2) dL y2++yY.drop dL.length):=by grind [fp.append,fp.refl,avl]);refine(cU.aeT (Γ:=oV) (f:=f2) (g:=g2) h6).trans (cU.cut Um.ok dL.length (by rw[Um.h0];omega) Sub.nil qg.nil ?_ (Fc ej));simp[uz];simp_all|ret=>exact hq|exit id=>exact hq|_=>exact hq.elim);simp_all;simp_all;simp_all
theorem AF.sound(aN:Γ.Ok)(ib:Γ.Ha){C:dw}(hP:C.P=Γ.P)(iG:C.nt=Γ.nt){A:kl}{n0:Nat}(qI:Γ.mP.length=n0){g:Operand}{ps:Array Tmp}{ca cb:Code}{Ay body:Nat->(Exit->AS Unit->Prop)->AS Unit->Prop}{Q:Exit->AS Unit->Prop}{s:AS Unit}(ha:∀n oV,iW Γ n oV->∀Q s,Ay n Q s->gk oV ca Q s)(hb:∀n oV,iW Γ n oV->∀Q s,body n Q s->gk oV cb Q s)(h:AF C A n0 g ps Ay body Q s):gk Γ (.rangeFunc g ps ca cb) Q s:=by unfold AF at h;split at h;grind;rename_i s1 h1;exact gk.sr (mz aN h1) (by grind [uA.sound])
def ahq:List (Nat×oy)->Nat->Option oy
 | [],_=>none|p::l,k=>(match Nat.beq p.1 k with|true=>some p.2|false=>ahq l k)
def hcD(l:List (Nat×List Nat))(id:Nat):List Nat:=
 match ag9 l id with
 |some p=>p
 |none=>[]
def drD(l:List (Nat×List (Option (List Nat))×List (Option (List Nat))))(id:Nat):List (Option (List Nat))×List (Option (List Nat)):=
 match aha l id with
 |some p=>p
 |none=>([],[])
def eH(C:dw)(L:List kl):Code->Nat->Bool->(Exit->AS Unit->Prop)->AS Unit->Prop
 | .skip,n0,fr,Q,s=>Q .normal s| .region id ops draw,n0,fr,Q,s=>(match draw with
  |false=>H5 C id ops.toList (Q .normal) s|true=>(match ahq C.br id with
  |some pl=>okB (Nat.ble pl.depth ops.toList.length) (iY C (hcD C.hc id) ops.toList (Cw ops.toList []) (drD C.dr id).1 (drD C.dr id).2 (Q .normal) pl (s8 ops.toList) s)|none=>okB (y6 (bE (hcD C.hc id)) (drD C.dr id).1 (drD C.dr id).2 ops.toList) (sK C (hcD C.hc id) ops.toList (drD C.dr id).1 (drD C.dr id).2 (Q .normal) 0 ops.toList s)))
 | .seq x y,n0,fr,Q,s=>eH C L x n0 fr (sG (eH C L y n0 fr Q) Q) s| .cond c x y,n0,fr,Q,s=>(match s.ev c with| .ay (.bool b)=>aA b (eH C L x n0 fr Q s) (eH C L y n0 fr Q s)|_=>False)| .block id c,n0,fr,Q,s=>eH C L c n0 fr (zW id Q) s| .loop c,n0,fr,Q,s=>(match mA c with|some k=>(match On L k with|some A=>(match A.ahp with|false=>AE C.tab n0 A (eH C L c n0 fr) Q s|true=>eH C L c n0 fr (sG (AE C.tab n0 A (eH C L c n0 fr) Q) Q) s)|none=>False)|none=>False)| .rangeFunc g ps Ay body,n0,fr,Q,s=>(match fr with|true=>(match mA body with|some k=>(match On L k with|some A=>AF C A n0 g ps (λn=>eH C L Ay n false) (λn=>eH C L body n false) Q s|none=>False)|none=>False)|false=>False)| .exit id,n0,fr,Q,s=>Q (.exit id) s| .label _,n0,fr,Q,s=>Q .normal s| .ret,n0,fr,Q,s=>Q .ret s|_,_,_,_,_=>False
theorem LZ{N N':AS Unit->Prop}{Q:Exit->AS Unit->Prop}(h:∀s,N s->N' s)(e:Exit)(s:AS Unit)(hq:sG N Q e s):sG N' Q e s:=by cases e with|normal=>exact h s hq|_=>exact hq
theorem eH.sound{C:dw}(hm:C.P.follows .mixedOrders=true){L:List kl}:∀(c:Code)(Γ:Env Unit)(_:Γ.Ok)(_:C.P=Γ.P)(_:bn Γ.P C.tab)(_:C.nt=Γ.nt)(n0:Nat)(_:Γ.mP.length=n0)(fr:Bool)(_:fr=true->Γ.Ha)(Q:Exit->AS Unit->Prop)(s:AS Unit),eH C L c n0 fr Q s->gk Γ c Q s:=by
 intro c;induction c with
  |skip=>intro Γ aN hP aC iG n0 qI fr uq Q s h;exact gk.skip h|region id ops draw=>(intro Γ aN hP aC iG n0 qI fr uq Q s h;have e:ops=ops.toList.toArray:=by simp);simp only[eH]at h;rw[e];split at h;intro a w η hr;exact wpIn_region_lit (H5.sound aN hP aC iG h a w η _ (by grind) hr);grind [cX,gk.ahl,gk.agS,sK.sound]|seq x y ihx ihy=>intro Γ aN hP aC iG n0 qI fr uq Q s h;refine gk.al0 λK hK=>(ihx Γ aN hP aC iG n0 qI fr uq _ s h).mono λe s' hq=>?_;grind [LZ]|cond c x y ihx ihy=>intro Γ aN hP aC iG n0 qI fr uq Q s h;simp only[eH]at h;split at h;rename_i b hb;exact gk.agF hb (λht=>ihx Γ aN hP aC iG n0 qI fr uq _ s (h.elim.1 ht)) λht=>ihy Γ aN hP aC iG n0 qI fr uq _ s (h.elim.2 ht);simp_all|block id c ih=>intro Γ aN hP aC iG n0 qI fr uq Q s h;exact gk.block (ih Γ aN hP aC iG n0 qI fr uq _ s h)|loop c ih=>
   intro Γ aN hP aC iG n0 qI fr uq Q s h;simp only[eH]at h;split at h;split at h
   ·split at h;grind [gk.Ii,AE.sound]
    ·exact gk.Ii (gz.Ui ((ih Γ aN hP aC iG n0 qI fr uq _ s h).mono λe s' hq=>by cases e with|normal=>exact AE.sound aN qI (by grind) hq|_=>exact hq))
   simp_all;simp_all
  |rangeFunc g ps Ay body iha ihb=>intro Γ aN hP aC iG n0 qI fr uq Q s h;simp only[eH]at h;split at h;split at h;split at h;refine AF.sound aN (uq rfl) hP iG qI (λn oV hr Q s h=>?_) (λn oV hr Q s h=>?_) h;exact iha oV hr.ok (by rw[hr.hP,hP]) (by rw[hr.hP];exact aC) (by rw[hr.nt,iG]) n hr.h0 false (λh=>by cases h) _ s h;exact ihb oV hr.ok (by rw[hr.hP,hP]) (by rw[hr.hP];exact aC) (by rw[hr.nt,iG]) n hr.h0 false (λh=>by cases h) _ s h;simp_all;simp_all;simp_all|exit id=>intro Γ aN hP aC iG n0 qI fr uq Q s h;exact gk.exit h|label l=>intro Γ aN hP aC iG n0 qI fr uq Q s h;exact gk.label h|ret=>intro Γ aN hP aC iG n0 qI fr uq Q s h;exact gk.ret h|_=>intro Γ aN hP aC iG n0 qI fr uq Q s h;exact h.elim
def mB(k:Nat):Nat->List Nat
 |0=>[]|n+1=>k::mB (k+1) n
theorem gk.oD{c:Code}{Q Q':Exit->AS Unit->Prop}(h:gk Γ c Q s)(hq:∀e s,Q e s->∃s2,cU Γ s s2/\Q' e s2):gk Γ c Q' s:=
 λa w η hr=>wpIn_mono (h a w η hr) λe a' w' ⟨s',bj,h1,h2⟩=>by
  obtain⟨s2,hw,h3⟩:=hq e s' h1;obtain⟨Ck,h4⟩:=hw _ _ _ h2
  grind
def AV.AG(hp:List ax):AV->List Prop×AV
 | .ptr r 0=>(match hp[r]? with|some (.box cs)=>((cZ (AV.jE hp) cs).1,.aU (Hr (cZ (AV.jE hp) cs).2) 0)|_=>([],.top))|x=>x.gy hp
theorem Q1{hp:List ax}{x:AV}(hc:eK (x.AG hp).1):x.NC hp=(x.AG hp).2:=by
 cases x with
  |ptr r o=>cases o with|zero=>grind [AV.NC,AV.AG,cE,lI]|succ n=>rfl
  |_=>exact lJ hc
def AV.q8(hp:List ax):AV->List Prop×AV
 | .bz f cs=>((cZ (AV.AG hp) cs).1,.bz f (cZ (AV.AG hp) cs).2)|x=>x.bZ hp
theorem Il{hp:List ax}{x:AV}(hc:eK (x.q8 hp).1):x.rT hp=(x.q8 hp).2:=by cases x with|bz f cs=>grind [AV.q8,AV.rT,cE,Q1]|_=>exact dy hc
def L0(tab:Nat->Option TD)(rs:List ResultVar)(R:AV->Prop)(s:AS Unit):Prop:=
 match fZ tab s rs with
 |some l=>gL ((iQ l).q8 s.hp).1 (R ((iQ l).q8 s.hp).2)
 |none=>False
def ZB(tab:Nat->Option TD)(rs:List ResultVar)(R:AV->Prop):Exit->AS Unit->Prop
 | .normal,s=>L0 tab rs R (sL (mB 0 s.hp.length) s)| .ret,s=>L0 tab rs R (sL (mB 0 s.hp.length) s)|_,_=>False
theorem L0.sound{tab:Nat->Option TD}{rs:List ResultVar}{R:AV->Prop}{s:AS Unit}(h:L0 tab rs R s):∃l,fZ tab s rs=some l/\R ((iQ l).rT s.hp):=by grind [L0,bG,Il]
theorem Fh{C:dw}(aC:bn C.P C.tab)(hm:C.P.follows .mixedOrders=true){L:List kl}{f:FuncId}{fn:Func}{c:Code}{args:List AV}{R:AV->Prop}(hf:C.P.funcs[f]?=some fn)(hb:fn.body=some c)(gO:(fn.name == "runtime.NumGoroutine")=false)(hn:Nat.ble args.length fn.ntmps=true)(iG:C.nt=fn.ntmps)(h:eH C L c 0 true (ZB C.tab fn.results.toList R) ⟨dS 0 args,[],()⟩):Pure C.P f args R:=by refine EO aC hf hb gO (auW hn) λΓ aN hP ahr hh0 ib=>?_;refine(eH.sound hm c Γ aN hP.symm (by simp_all) (by omega) _ hh0 true (λ_=>ib) _ _ h).oD λe s' hq=>?_;cases e with|normal=>obtain⟨l,h1,h2⟩:=L0.sound hq;exact⟨_,ic aN (mB 0 s'.hp.length) s',by simp only[SQ,h1];exact h2⟩|ret=>obtain⟨l,h1,h2⟩:=L0.sound hq;exact⟨_,ic aN (mB 0 s'.hp.length) s',by simp only[SQ,h1];exact h2⟩|_=>exact hq.elim
def AV.DB(n:Nat)(hp:List ax)(x:AV):List Prop×AV:=
 match x.bb n with
 |true=>([],x)
 |false=>x.jE hp
def AV.DC(n:Nat)(hp:List ax):AV->List Prop×AV
 | .agg cs=>((cZ (AV.DB n hp) cs).1,.agg (cZ (AV.DB n hp) cs).2)|x=>x.DB n hp
def AV.Un(n:Nat)(hp:List ax):AV->List Prop×AV
 | .aG cs=>((cZ (AV.DC n hp) cs).1,.aG (cZ (AV.DC n hp) cs).2)|x=>x.DC n hp
theorem Im{n:Nat}{x:AV}(hc:eK (x.DB n hp).1):x.QB n hp=(x.DB n hp).2:=by unfold AV.QB AV.DB at *;cases h:x.bb n with|true=>simp|false=>simp_all [lI]
theorem Io{n:Nat}{x:AV}(hc:eK (x.DC n hp).1):x.SY n hp=(x.DC n hp).2:=by cases x with|agg cs=>grind [AV.DC,AV.SY,cE,Im]|_=>exact Im hc
theorem ZC{n:Nat}{x:AV}(hc:eK (x.Un n hp).1):x.out n hp=(x.Un n hp).2:=by cases x with|aG cs=>grind [AV.Un,AV.out,cE,Io]|_=>exact Io hc
def uB(tab:Nat->Option TD)(n:Nat)(rs:List ResultVar)(R:AV->List ax->Prop)(s:AS Unit):Prop:=
 match fZ tab s rs with
 |some l=>okB ((s.hp.take n).all (ax.closed n)) (gL ((iQ l).Un n s.hp).1 (R ((iQ l).Un n s.hp).2 (s.hp.take n)))
 |none=>False
def Ip(tab:Nat->Option TD)(n:Nat)(rs:List ResultVar)(R:AV->List ax->Prop):Exit->AS Unit->Prop
 | .normal,s=>uB tab n rs R (sL (mB n (s.hp.length-n)) s)| .ret,s=>uB tab n rs R (sL (mB n (s.hp.length-n)) s)|_,_=>False
theorem uB.sound{tab:Nat->Option TD}{n:Nat}{rs:List ResultVar}{R:AV->List ax->Prop}{s:AS Unit}(h:uB tab n rs R s): ∃l,fZ tab s rs=some l/\(∀o∈s.hp.take n,ax.closed n o=true)/\R ((iQ l).out n s.hp) (s.hp.take n):=by grind [uB,cX,bG,ZC]
theorem ZD{C:dw}(aC:bn C.P C.tab)(hm:C.P.follows .mixedOrders=true){L:List kl}{f:FuncId}{fn:Func}{c:Code}{args:List AV}{hp:List ax}{R:AV->List ax->Prop}(hf:C.P.funcs[f]?=some fn)(hb:fn.body=some c)(gO:(fn.name == "runtime.NumGoroutine")=false)(hn:Nat.ble args.length fn.ntmps=true)(iG:C.nt=fn.ntmps)(h:eH C L c hp.length true (Ip C.tab hp.length fn.results.toList R) ⟨dS 0 args,hp,()⟩):aY C.P f args hp R:=by refine EP aC hf hb gO (auW hn) λΓ aN hP ahr hh0 ib=>?_;refine(eH.sound hm c Γ aN hP.symm (by simp_all) (by omega) _ hh0 true (λ_=>ib) _ _ h).oD λe s' hq=>?_;cases e with|normal=>obtain⟨l,h1,h2,h3⟩:=uB.sound hq;exact⟨_,ic aN (mB hp.length (s'.hp.length-hp.length)) s',by simp only[Hw,h1];exact⟨h2,h3⟩⟩|ret=>obtain⟨l,h1,h2,h3⟩:=uB.sound hq;exact⟨_,ic aN (mB hp.length (s'.hp.length-hp.length)) s',by simp only[Hw,h1];exact⟨h2,h3⟩⟩|_=>exact hq.elim
theorem yI{C:dw}(aC:bn C.P C.tab)(hm:C.P.follows .mixedOrders=true){L:List kl}{f:FuncId}{fn:Func}{c:Code}{args:List AV}{hp:List ax}{R:AV->List ax->Prop}(m:Nat)(sj:Nat.ble hp.length m=true)(hf:C.P.funcs[f]?=some fn)(hb:fn.body=some c)(gO:(fn.name == "runtime.NumGoroutine")=false)(hn:Nat.ble args.length fn.ntmps=true)(iG:C.nt=fn.ntmps)(h:eH C L c hp.length true (Ip C.tab m fn.results.toList R) ⟨dS 0 args,hp,()⟩):aY C.P f args hp R:=by refine qh aC m (auW sj) hf hb gO (auW hn) λΓ aN hP ahr hh0 ib=>?_;refine(eH.sound hm c Γ aN hP.symm (by simp_all) (by omega) _ hh0 true (λ_=>ib) _ _ h).oD λe s' hq=>?_;cases e with|normal=>obtain⟨l,h1,h2,h3⟩:=uB.sound hq;exact⟨_,ic aN (mB m (s'.hp.length-m)) s',by simp only[Hw,h1];exact⟨h2,h3⟩⟩|ret=>obtain⟨l,h1,h2,h3⟩:=uB.sound hq;exact⟨_,ic aN (mB m (s'.hp.length-m)) s',by simp only[Hw,h1];exact⟨h2,h3⟩⟩|_=>exact hq.elim
def aW(l u d m s y:Int):List AV:=[.ay (.int .i64 l),.ay (.int .i64 u),.ay (.int .u32 d),.ay (.int .i32 m),.ay (.int .u32 s),.ay (.int .u32 y)]
abbrev nI(n:Int):AV:=.ay (.int .i64 n)
abbrev nB(b:Bool):AV:=.ay (.bool b)
abbrev nS(s:aw):AV:=.ay (.string s)
theorem of_eq{p q:Prop}(h:p=q)(hp:p):q:=h▸hp
end
section
variable {P:Program} {f:FuncId} {args:List AV} {hp kX:List ax} {R R':AV->List ax->Prop}
theorem L1{w:World}{F:Nat->Nat->Prop}{η:List Value}{hp:List ax}:∀{xs ys:List AV}{vs:List Value},ef xs ys->cC w F η hp xs vs->cC w F η hp ys vs
 | [],[],[],_,_=>True.intro
 |_::_,_::_,_::_,h,hr=>⟨h.1 _ _ _ _ _ hr.1,L1 h.2 hr.2⟩
theorem Pure.xA{xs ys:List AV}{R:AV->Prop}(h:ef xs ys)(hp:Pure P f ys R):Pure P f xs R:=⟨hp.1,λw F vals hF hg hv=>hp.2 w F vals hF hg (L1 h hv)⟩
theorem bX:aX (.ay (.slice none 0 0)) (.sl []):=by intro w F η hp v hv;cases hv;exact .mV _
theorem fV(l:List AV):aX (.clip l) (.sl l):=λ_ _ _ _ _ h=>h.mW
theorem aY.xA{xs ys:List AV}(h:ef xs ys)(hf:aY P f ys hp R):aY P f xs hp R:=⟨hf.1,λw F η vals bA hv=>hf.2 w F η vals bA (L1 h hv)⟩
theorem aY.res(hf:aY P f args hp R)(h:∀r h',R r h'->∃r2,aX r r2/\R' r2 h'):aY P f args hp R':=
 ⟨hf.1,λw F η vals bA hv=>(hf.2 w F η vals bA hv).mono λ_ _ ⟨v,r,hp',bj,h1,h2,h3⟩=>by
  obtain⟨r2,g1,g2⟩:=h r hp' h2
  exact⟨v,r2,hp',bj,h1,g2,h3.keeps,h3.ext,h3.heap,h3.cu,g1 _ _ _ _ _ h3.rep⟩⟩
end
section
variable {P:Program} {yv:Value} {J:JT} {D0:Cells} {Y0:Nat->Prop} {gI:World} {s:AS Unit} {g:Gh}
def Uo(C:dw)(yv:Value)(o:Oper)(s:AS Unit)(g:Gh)(next:AS Unit->Gh->Prop):Option Prop:=
 match o.guard,o.op with
 |none,.call c=>(match c.callee with
  | .value x=>(match s.ev x with
   | .fn v=>some (v=yv/\gL (cZ (AV.mq 0 s.hp) (c.args.toList.map s.ev)).1 (∃more:List (List AV),g=some ((cZ (AV.mq 0 s.hp) (c.args.toList.map s.ev)).2::more)/\∀b:Bool,next (s.put o.dst (.ay (.bool b))) (gT b more)))
   | .bz f caps=>(match C.sig f o.type with
    | .y kind=>some (gL (cZ (AV.mq 0 s.hp) (c.args.toList.map s.ev++caps)).1 (∃(A:AV->List AV)(L more:List (List AV)),(cZ (AV.mq 0 s.hp) (c.args.toList.map s.ev++caps)).2=A (.fn yv)/\vL C.P f A L kind/\g=some (L++more)/\
      ∀b:Bool,next (s.put o.dst (match kind with|true=>.ay (.bool b)|false=>.top)) (gT b more)))
    |_=>none)
   |_=>none)
  |_=>none)
 |_,_=>none
theorem Uo.sound{C:dw}(hC:Cons C.P yv J){ops:Array Oper}{K N:AS Unit->Gh->Prop}{o:Oper}{rest:List Oper}{p:Prop}(h:Uo C yv o s g N=some p)(hp:p)(hd:eu C.nt o.dst)(hn:∀s g,N s g->fP C.P J D0 Y0 gI C.nt ops K rest s g): fP C.P J D0 Y0 gI C.nt ops K (o::rest) s g:=by unfold Uo at h;split at h;rename_i c hg ho;split at h;rename_i x hx;split at h;rename_i v hv;obtain rfl:=auo h;obtain⟨rfl,hp⟩:=hp;rw[bG]at hp;obtain⟨gY,more,hgh,QM⟩:=hp;rw[<-cE (g:=AV.sX 0 s.hp) (λx=>qV) _ gY]at hgh;exact fP.yield hC hg ho hx hv hd hgh λb=>hn _ _ (QM b);rename_i f caps ej;split at h;rename_i kind ag6;obtain rfl:=auo h;rw[bG]at hp;obtain⟨gY,A,L,more,hA,hF,hgh,QM⟩:=hp;rw[<-cE (g:=AV.sX 0 s.hp) (λx=>qV) _ gY]at hA;exact fP.call hC hg ho hx ej hd hF hA hgh λb=>hn _ _ (QM b);cases h;cases h;cases h;cases h
def qn(C:dw)(yv:Value)(l0:List Oper)(K:AS Unit->Gh->Prop):List Oper->AS Unit->Gh->Prop
 | [],s,g=>K s g|o::rest,s,g=>(match Uo C yv o s g (qn C yv l0 K rest)with|some p=>okB (yF C.nt o.dst) p|none=>KG l0 o s (λs=>kj C o s (λs'=>qn C yv l0 K rest s' g)) (λs=>okB (yF C.nt o.dst) (qn C yv l0 K rest (s.put o.dst (.ay (.tuple #[]))) g)))
theorem qn.sound{C:dw}(aC:bn C.P C.tab)(hC:Cons C.P yv J){l0:List Oper}{K:AS Unit->Gh->Prop}:∀(l:List Oper)(s:AS Unit)(g:Gh),qn C yv l0 K l s g->fP C.P J D0 Y0 gI C.nt l0.toArray K l s g:=by intro l;induction l with|nil=>intro s g h;exact fP.nil h|cons o rest ih=>intro s g h;simp only[qn]at h;split at h;rename_i p hp;obtain⟨hd,h⟩:=cX h;exact Uo.sound hC hp h (jT hd) ih;have run:kj C o s (λs'=>qn C yv l0 K rest s' g)->∀Γ:Env Unit,Γ.Ok->Γ.P=C.P->Γ.nt=C.nt->Γ.mP.length=0->bR Γ o s (λs'=>qn C yv l0 K rest s' g):= λh Γ aN hP iG _=>kj.sound aN hP.symm (by rw[hP];exact aC) iG.symm h λ_ h=>h;rcases KG.cases h with⟨hg,h⟩|⟨j,want,b,hg,hb,⟨tV,h⟩|⟨tV,h⟩⟩|⟨j,want,hg,hb,h⟩;exact fP.calm (N:=qn C yv l0 K rest) (λΓ a w η _=>by simp[Region.wanted,hg]) (run h) λs' h=>ih s' g h;exact fP.calm (N:=qn C yv l0 K rest) (λΓ a w η hr=>by simp[Region.wanted,hg,gZ hr hb,tV]) (run h) λs' h=>ih s' g h;obtain⟨hd,h⟩:=cX h;exact fP.skip (λΓ a w η hr=>by simp[Region.wanted,hg,gZ hr hb,tV]) (jT hd) (ih _ _ h);obtain⟨hd,h⟩:=cX h;exact fP.skip (λΓ a w η hr=>by simp[Region.wanted,hg,gZ hr hb]) (jT hd) (ih _ _ h)
def Oo(eQ:List Nat)(qk:List Sh)(dL:List mo)(again:(TS qk×TO dL)×Gh->Prop)(Q:Exit->AS Unit->Gh->Prop):Exit->AS Unit->Gh->Prop
 | .normal,s,g=>(match LY eQ qk dL s with|some (p,z)=>gL p (again (z,g))|none=>False)|e,s,g=>Q e s g
def uC(eQ:List Nat)(qk:List Sh)(dL:List mo)(body:(Exit->AS Unit->Gh->Prop)->AS Unit->Gh->Prop)(Q:Exit->AS Unit->Gh->Prop)(s:AS Unit)(g:Gh):Prop:=
 match QX dL.length qk&&LX dL.length dL with
 |false=>False
 |true=>(match LY eQ qk dL s with
  |some (p,z)=>gL p (aI ((TS qk×TO dL)×Gh) (z,g) λz again=>body (Oo eQ qk dL again Q) (QY eQ qk dL z.1) z.2)
  |none=>False)
def AH(tab:Nat->Option TD)(A:kl)(body:(Exit->AS Unit->Gh->Prop)->AS Unit->Gh->Prop)(Q:Exit->AS Unit->Gh->Prop)(s:AS Unit)(g:Gh):Prop:=
 match s9 tab A.rows s with
 |none=>False
 |some s1=>(match nj A.mb tab A.my s1 with
  |none=>False
  |some s2=>uC (slotsOf A.live) (Om s2 A.live) (DA A.dL (QZ s2.hp)) body Q s2 g)
theorem uC.sound{nt:Nat}{eQ:List Nat}{qk:List Sh}{dL:List mo}{c:Code}{body:(Exit->AS Unit->Gh->Prop)->AS Unit->Gh->Prop}{Q:Exit->AS Unit->Gh->Prop}(hb:∀Q s g,body Q s g->dY P J D0 Y0 gI nt c Q s g)(h:uC eQ qk dL body Q s g):dY P J D0 Y0 gI nt (.loop c) Q s g:=by unfold uC at h;split at h;exact h.elim;rename_i N2;split at h;rename_i p z hz;rw[bG]at h;obtain⟨hp,β,E,I,μ,b0,Sg,hI,hr⟩:=h;have sr:∀{s:AS Unit}{p:List Prop}{z:TS qk×TO dL},LY eQ qk dL s=some (p,z)->eK p->Od s (QY eQ qk dL z):= λhz hp Γ aN h0=>Fe aN hz hp (by rw[h0];exact auv _) N2;refine dY.loop I (λb=>QY eQ qk dL (E b).1) (λb=>(E b).2) μ b0 hI (by rw[<-Sg];exact sr hz hp) (by rw[<-Sg]) λb hIb=>?_;refine(hb _ _ _ (hr b hIb)).mono λe s1 g1 h1=>?_;(cases e with|normal=>simp only[Oo]at h1;split at h1;rename_i p1 z1 Zd;rw[bG]at h1;obtain⟨kX,b',gb,hI',aF⟩:=h1;exact⟨b',hI',by rw[<-gb];exact sr Zd kX,by rw[<-gb],aF⟩;exact h1.elim|_=>exact h1);exact h.elim
theorem AH.sound{nt:Nat}{tab:Nat->Option TD}{A:kl}{c:Code}{body:(Exit->AS Unit->Gh->Prop)->AS Unit->Gh->Prop}{Q:Exit->AS Unit->Gh->Prop}(hb:∀Q s g,body Q s g->dY P J D0 Y0 gI nt c Q s g)(h:AH tab A body Q s g):dY P J D0 Y0 gI nt (.loop c) Q s g:=by unfold AH at h;split at h;exact h.elim;rename_i s1 h1;split at h;exact h.elim;rename_i s2 h2;exact dY.sr (λΓ aN _ a w η hr=>((rY aN h1).trans (mz aN h2)) a w η hr) (uC.sound hb h)
def gW(C:dw)(L:List kl)(yv:Value):Code->(Exit->AS Unit->Gh->Prop)->AS Unit->Gh->Prop
 | .skip,Q,s,g=>Q .normal s g| .region id ops draw,Q,s,g=>(match draw with|false=>qn C yv ops.toList (Q .normal) ops.toList s g|true=>eH C L (.region id ops true) 0 false (λe s'=>Q e s' g) s)| .seq x y,Q,s,g=>gW C L yv x (T9 (gW C L yv y Q) Q) s g| .cond c x y,Q,s,g=>(match s.ev c with| .ay (.bool b)=>aA b (gW C L yv x Q s g) (gW C L yv y Q s g)|_=>False)| .block id c,Q,s,g=>gW C L yv c (AA id Q) s g| .loop c,Q,s,g=>(match mA c with|some k=>(match On L k with|some A=>AH C.tab A (gW C L yv c) Q s g|none=>False)|none=>False)| .exit id,Q,s,g=>Q (.exit id) s g| .label _,Q,s,g=>Q .normal s g| .ret,Q,s,g=>Q .ret s g|_,_,_,_=>False
theorem gW.sound{C:dw}(hm:C.P.follows .mixedOrders=true)(aC:bn C.P C.tab)(hC:Cons C.P yv J){L:List kl}:∀(c:Code)(Q:Exit->AS Unit->Gh->Prop)(s:AS Unit)(g:Gh),gW C L yv c Q s g->dY C.P J D0 Y0 gI C.nt c Q s g:=by
 intro c;induction c with
  |skip=>intro Q s g h;exact dY.skip h|region id ops draw=>(intro Q s g h;have e:ops=ops.toList.toArray:=by simp);simp only[gW]at h;split at h;rw[e];exact dY.region (qn.sound aC hC _ s g h);exact dY.of λΓ aN hP iG h0=>eH.sound hm _ Γ aN hP.symm (by rw[hP];exact aC) iG.symm 0 h0 false (λh=>by cases h) _ s h|seq x y ihx ihy=>intro Q s g h;refine dY.seq ((ihx _ s g h).mono λe s' g' hq=>?_);cases e with|normal=>exact ihy _ s' g' hq|_=>exact hq
  |cond c x y ihx ihy=>intro Q s g h;simp only[gW]at h;split at h;rename_i b hb;exact dY.cond hb (λht=>ihx _ s g (h.elim.1 ht)) λht=>ihy _ s g (h.elim.2 ht);exact h.elim|block id c ih=>intro Q s g h;exact dY.block (ih _ s g h)|loop c ih=>intro Q s g h;simp only[gW]at h;split at h;split at h;exact AH.sound ih h;exact h.elim;exact h.elim|exit id=>intro Q s g h;exact dY.exit h|label l=>intro Q s g h;exact dY.label h|ret=>intro Q s g h;exact dY.ret h|_=>intro Q s g h;exact h.elim
def RY(kind:Bool)(more:List (List AV)):Bool->Gh->Prop:=
 match kind with
 |true=>λb g=>g=gT b more
 |false=>λ_ g=>∃b,g=gT b more
def xB(tab:Nat->Option TD)(rs:List ResultVar)(kind:Bool)(R:Bool->Gh->Prop)(s:AS Unit)(g:Gh):Prop:=
 match kind with
 |true=>(match fZ tab s rs with
  |some [.ay (.bool b)]=>R b g
  |_=>False)
 |false=>(match fZ tab s rs with
  |some _=>R true g
  |none=>False)
def Oq(tab:Nat->Option TD)(rs:List ResultVar)(kind:Bool)(R:Bool->Gh->Prop):Exit->AS Unit->Gh->Prop
 | .normal,s,g=>xB tab rs kind R s g| .ret,s,g=>xB tab rs kind R s g|_,_,_=>False
theorem xB.sound{tab:Nat->Option TD}{rs:List ResultVar}{kind:Bool}{more:List (List AV)}(h:xB tab rs kind (RY kind more) s g):∃l,fZ tab s rs=some l/\∃b,g=gT b more/\Oe kind b (iQ l):=by cases kind with|true=>simp only[xB]at h;split at h;rename_i b hb;exact⟨_,hb,b,h,rfl⟩;exact h.elim|false=>simp only[xB]at h;split at h;rename_i l hl;obtain⟨b,hb⟩:=h;exact⟨_,hl,b,hb,True.intro⟩;exact h.elim
theorem Iq{C:dw}(aC:bn C.P C.tab)(hm:C.P.follows .mixedOrders=true){L:List kl}{f:FuncId}{fn:Func}{c:Code}{args:AV->List AV}{Ls:List (List AV)}{kind:Bool}(hf:C.P.funcs[f]?=some fn)(hb:fn.body=some c)(gO:(fn.name == "runtime.NumGoroutine")=false)(hn:∀v,Nat.ble (args v).length fn.ntmps=true)(iG:C.nt=fn.ntmps)(h:∀(yv:Value)(more:List (List AV)),gW C L yv c (Oq C.tab fn.results.toList kind (RY kind more)) ⟨dS 0 (args (.fn yv)),[],()⟩ (some (Ls++more))):vL C.P f args Ls kind:=by refine H9 aC hf hb gO (λv=>auW (hn v)) λJ yv hC D0 Y0 gI more=>?_;rw[<-iG];refine(gW.sound hm aC hC c _ _ _ (h yv more)).mono λe s' g' hq=>?_;cases e with|normal=>obtain⟨l,h1,h2⟩:=xB.sound hq;simp only[Ub,h1];exact h2|ret=>obtain⟨l,h1,h2⟩:=xB.sound hq;simp only[Ub,h1];exact h2|_=>exact hq.elim
end
def tc(k:TK)(b:Nat)(z:Value):TD:={ flat:=false,kind:=k,size:=1,bytes:=b,zero:=z }
def ti(k:IntKind)(b:Nat):TD:=tc (.int k) b (.int k 0)
def ts(e:Nat):TD:=tc (.kW e) 24 (.slice none 0 0)
def tp(e:Nat):TD:=tc (.ptr e) 8 (.pointer none)
def tf:TD:=tc .other 8 .nilFunc
def tg(k:TK)(b:Nat)(z:List Value)(f:Bool:=false)(g:Bool:=false):TD:={ flat:=f,four:=g,kind:=k,size:=z.length,bytes:=b,zero:=.agg z.toArray }
abbrev iJ:Value:=.int .i64 0
abbrev jG:Value:=.slice none 0 0
abbrev Up:Value:=.string ⟨#[]⟩
def td1:TD:=tf
def td2:TD:=ti .i64 8
def td3:TD:=ti .i64 8
def td4:TD:=tc (.bool) 1 (.bool false)
def td5:TD:=ti .u8 1
def L2:TD:=tc (.str) 16 (Up)
def amP:TD:=ti .i32 4
def amQ:TD:=ts 9
def amR:TD:=ts 83
def amS:TD:=tg (.cr [(0,1,false),(1,1,false)]) 48 [jG,jG]
def amT:TD:=ts 75
def amU:TD:=ts 86
def amV:TD:=ts 88
def amW:TD:=ts 52
def amX:TD:=ts 69
def amY:TD:=tg (.cr [(0,2,true),(2,1,false),(3,1,false),(4,1,false),(5,1,false),(6,1,false),(7,1,false),(8,1,false)]) 216 [jG,jG,jG,jG,jG,jG,jG,jG,jG]
def amZ:TD:=ti .i64 8
def aht:TD:=tg (.cr [(0,1,false),(1,1,false)]) 16 [iJ,iJ] true
def ahu:TD:=tg (.cr [(0,1,false),(1,2,true),(3,1,false)]) 40 [iJ,iJ,iJ,Up] false true
def am0:TD:=ts 47
def am1:TD:=ts 119
def ZE:TD:=tg (.cr [(0,1,false),(1,1,false),(2,1,false),(3,1,false),(4,1,false)]) 72 [iJ,jG,jG,iJ,iJ]
def am2:TD:=tg (.cr [(0,1,false),(1,1,false),(2,1,false)]) 72 [jG,jG,jG]
def aeY:TD:=tg (.cr [(0,1,false),(1,1,false)]) 16 [iJ,iJ] true
def am3:TD:=tp 61
def am4:TD:=tc (.qt 9 116) 8 (.map none)
def am5:TD:=tg (.cr [(0,9,true),(9,1,false),(10,1,false),(11,4,true)]) 280 [jG,jG,jG,jG,jG,jG,jG,jG,jG,Up,.map none,iJ,iJ,iJ,Up]
def ahv:TD:=tg (.cr [(0,1,false),(1,1,false)]) 16 [iJ,iJ] true
def am6:TD:=ts 67
def Ir:TD:=tg (.cr [(0,1,false),(1,2,true),(3,1,false)]) 64 [jG,iJ,iJ,jG]
def Uq:TD:=tg (.cr [(0,1,false),(1,1,false),(2,4,true),(6,4,true),(10,1,false)]) 152 [iJ,iJ,jG,iJ,iJ,jG,jG,iJ,iJ,jG,iJ]
def am7:TD:=tg (.cr [(0,1,false),(1,1,false),(2,1,false)]) 56 [iJ,jG,jG]
def sx:TD:=tg (.cr [(0,1,false),(1,1,false)]) 32 [jG,iJ]
def am8:TD:=tp 79
def am9:TD:=tg (.cr [(0,3,true),(3,1,false),(4,1,false)]) 104 [jG,jG,jG,jG,iJ]
def aeZ:TD:=tg (.cr [(0,1,false),(1,2,true)]) 48 [Up,jG,iJ]
def Ur:TD:=tg (.cr [(0,1,false),(1,4,true),(5,4,true)]) 144 [Up,jG,iJ,iJ,jG,jG,iJ,iJ,jG]
def ae0:TD:=tg (.arr 2) 16 [iJ,iJ] true
def ana:TD:=tf
def anb:TD:=tf
def ane:TD:=tf
def ahw:TD:=tf
def ahx:TD:=tp 110
def Ut:TD:=tg (.cr [(0,1,false),(1,1,false),(2,1,false)]) 32 [iJ,Up,iJ]
def ahy:TD:=tp 144
def ahz:TD:=tg (.cr [(0,1,false),(1,1,false),(2,4,true)]) 56 [.pointer none,iJ,iJ,iJ,iJ,Up]
def ahA:TD:=tf
def ahB:TD:=tg (.cr [(0,1,false),(1,2,true)]) 24 [.bool false,iJ,iJ]
def ahC:TD:=tg (.cr [(0,1,false),(1,1,false),(2,1,false),(3,1,false)]) 56 [iJ,Up,iJ,jG]
def ahD:TD:=tf
def ahE:TD:=tf
def ahF:TD:=tp 134
def ahG:TD:=ts 5
def ahH:TD:=tg (.cr [(0,1,false),(1,1,false)]) 32 [.pointer none,jG]
def ahI:TD:=tg (.cr [(0,1,false)]) 8 [.pointer none]
def ahJ:TD:=ts 106
def ahK:TD:=tg (.cr [(0,1,false),(1,1,false),(2,1,false)]) 48 [jG,Up,iJ]
def ahL:TD:=tf
def ahM:TD:=tf
def ahN:TD:=ts 3
def ahO:TD:=tf
def ahP:TD:=tf
def adt:TD:=tg (.cr [(0,1,false),(1,1,false)]) 16 [iJ,iJ] true
def ahQ:TD:=tc (.qt 9 4) 8 (.map none)
def ahR:TD:=tg (.cr [(0,3,true),(3,1,false)]) 80 [jG,jG,jG,.map none]
def ahS:TD:=tg (.cr [(0,1,false),(1,1,false),(2,1,false),(3,1,false),(4,1,false),(5,1,false)]) 48 [Up,iJ,iJ,iJ,.bool false,.bool false]
def ahT:TD:=tf
def ahU:TD:=tf
def ahV:TD:=tf
def ahW:TD:=tp 5
def ahX:TD:=ts 275
def ahY:TD:=tc (.qt 3 4) 8 (.map none)
def ahZ:TD:=ts 234
def ah0:TD:=tg (.cr [(0,1,false),(1,2,true),(3,1,false),(4,1,false)]) 72 [iJ,jG,iJ,iJ,jG]
def ah1:TD:=tf
def ah2:TD:=ts 26
def ah3:TD:=tf
def ah4:TD:=ts 22
def ah5:TD:=tf
def ah6:TD:=tp 302
def adu:TD:=tg (.cr [(0,1,false),(1,1,false),(2,1,false),(3,1,false)]) 80 [iJ,jG,jG,jG]
def ah7:TD:=tp 3
def ah8:TD:=tg (.cr []) 0 []
def ah9:TD:=tg (.cr []) 0 []
def aia:TD:=tg (.cr [(0,0,true),(0,0,true),(0,1,false)]) 8 [iJ]
def aib:TD:=tg (.cr []) 0 []
def aic:TD:=ti .u32 4
def aid:TD:=tg (.cr [(0,0,true),(0,1,false)]) 4 [.int .u32 0]
def aie:TD:=tg (.cr [(0,1,false),(1,1,false)]) 8 [.int .i32 0,.int .u32 0]
def aif:TD:=tg (.cr [(0,0,true),(0,2,true)]) 8 [.int .i32 0,.int .u32 0]
def aih:TD:=tg (.cr [(0,0,true),(0,1,true),(1,2,true)]) 12 [.int .u32 0,.int .i32 0,.int .u32 0]
def aii:TD:=tg (.cr [(0,1,true),(1,1,true),(2,3,true),(5,1,true)]) 32 [iJ,iJ,.int .u32 0,.int .i32 0,.int .u32 0,.int .u32 0]
def aij:TD:=ti .u64 8
def aik:TD:=tf
def ail:TD:=tp 317
def aim:TD:=tg (.cr [(0,1,false),(1,1,false),(2,1,false)]) 24 [.pointer none,iJ,iJ]
def ain:TD:=tp 2
def aio:TD:=tg (.arr 20) 160 [.int .u64 0,.int .u64 0,.int .u64 0,.int .u64 0,.int .u64 0,.int .u64 0,.int .u64 0,.int .u64 0,.int .u64 0,.int .u64 0,.int .u64 0,.int .u64 0,.int .u64 0,.int .u64 0,.int .u64 0,.int .u64 0,.int .u64 0,.int .u64 0,.int .u64 0,.int .u64 0]
def aip:TD:=ti .u64 8
def aiq:TD:=tf
def air:TD:=tg (.cr [(0,1,false),(1,1,false),(2,1,false)]) 40 [.pointer none,jG,iJ]
def ais:TD:=tp 292
def ait:TD:=tp 300
def aiu:TD:=tp 296
def aiv:TD:=tp 21
theorem ae1:gq aj 35 aht:=rV (by kernel_rfl) (by kernel_rfl) (by rfl) rfl rfl (by kernel_rfl) (by kernel_rfl) (by kernel_rfl) (by kernel_rfl)
theorem ae2:gq aj 37 ahu:=Qz (T2:=35) (t1:=33) (t3:=9) (by kernel_rfl) (by kernel_rfl) (by rfl) rfl (by kernel_rfl) (by kernel_rfl) (by kernel_rfl) (by kernel_rfl) (by kernel_rfl) (by kernel_rfl) (by kernel_rfl) (by kernel_rfl) (by kernel_rfl)
theorem ae3:gq aj 52 aeY:=rV (by kernel_rfl) (by kernel_rfl) (by rfl) rfl rfl (by kernel_rfl) (by kernel_rfl) (by kernel_rfl) (by kernel_rfl)
theorem ae4:gq aj 64 ahv:=rV (by kernel_rfl) (by kernel_rfl) (by rfl) rfl rfl (by kernel_rfl) (by kernel_rfl) (by kernel_rfl) (by kernel_rfl)
theorem ae5:gq aj 88 ae0:=SW (e:=3) (by kernel_rfl) (by kernel_rfl) (by rfl) rfl rfl (by kernel_rfl) (by kernel_rfl) (by kernel_rfl) (by kernel_rfl)
theorem ZF:gq aj 176 adt:=rV (by kernel_rfl) (by kernel_rfl) (by rfl) rfl rfl (by kernel_rfl) (by kernel_rfl) (by kernel_rfl) (by kernel_rfl)
def ZG:List (Nat×TD):=[(1,td1),(2,td2),(3,td3),(4,td4),(5,td5),(9,L2),(21,amP),(22,amQ),(23,amR),(25,amS),(26,amT),(27,amU),(28,amV),(29,amW),(30,amX),(32,amY),(33,amZ),(41,am0),(45,am1),(47,ZE),(49,am2),(58,am3),(59,am4),(61,am5),(65,am6),(67,Ir),(69,Uq),(72,am7),(75,sx),(77,am8),(79,am9),(83,aeZ),(86,Ur),(91,ana),(92,anb),(97,ane),(101,ahw),(104,ahx),(106,Ut),(108,ahy),(110,ahz),(113,ahA),(116,ahB),(119,ahC),(122,ahD),(130,ahE),(131,ahF),(132,ahG),(134,ahH),(136,ahI),(139,ahJ),(144,ahK),(149,ahL),(157,ahM),(161,ahN),(165,ahO),(167,ahP),(187,ahQ),(191,ahR),(195,ahS),(198,ahT),(200,ahU),(208,ahV),(209,ahW),(226,ahX),(230,ahY),(232,ahZ),(234,ah0),(240,ah1),(242,ah2),(244,ah3),(245,ah4),(250,ah5),(263,ah6),(275,adu),(279,ah7),(287,ah8),(288,ah9),(290,aia),(291,aib),(292,aic),(294,aid),(296,aie),(298,aif),(300,aih),(302,aii),(306,aij),(313,aik),(315,ail),(317,aim),(322,ain),(324,aio),(326,aip),(330,aiq),(338,air),(349,ais),(352,ait),(356,aiu),(358,aiv)]
def aiw:List (Nat×TD):=ZG++[(35,aht),(37,ahu),(52,aeY),(64,ahv),(88,ae0),(176,adt)]
def tab(T:Nat):Option TD:=(aiw.find? (λp=>p.1==T)).map (·.2)
def tyF(P:Program)(p:Nat×TD):Option (Nat×Nat×Option Value)×Option Bool×Bool×Bool:=((P.info? p.1).map (λi=>(i.size,i.bytes,i.zero)),(P.underlying p.1).map (λu=>iR P u p.2.kind),Aa p.2,p.2.flat||p.2.four)
theorem ZH:∀p∈ZG,gq aj p.1 p.2:=λp hp=>by
 have h:ZG.map (tyF aj)=ZG.map λp=>(some (p.2.size,p.2.bytes,some p.2.zero),some true,true,false):=by kernel_rfl
 have h:=(List.map_inj_left.1 h) p hp;simp only[tyF,aup]at h;exact Y4 h.1 h.2.1 h.2.2.1 h.2.2.2
theorem ZI:∀p∈aiw,gq aj p.1 p.2:=List.forall_mem_append.2 ⟨ZH,avE.2 ⟨ae1,avE.2 ⟨ae2,avE.2 ⟨ae3,avE.2 ⟨ae4,avE.2 ⟨ae5,avE.2 ⟨ZF,λp h=>by cases h⟩⟩⟩⟩⟩⟩⟩
theorem ae6:bn aj tab:=SX ZI
end Go.Proofs.YthnnplohnceogaaGreatDoor
