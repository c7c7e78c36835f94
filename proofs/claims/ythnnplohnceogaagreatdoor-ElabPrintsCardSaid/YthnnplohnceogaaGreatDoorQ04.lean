/- Lemmas. -/
import Derived.Test.YthnnplohnceogaaGreatDoorProg
import Derived.KernelRfl
import Derived.Test.YthnnplohnceogaaGreatDoorQ03
namespace Go.Proofs.YthnnplohnceogaaGreatDoor
open Go
open _root_.True renaming intro->ai
open Go.Proofs.Tryz renaming prog->aj
set_option linter.unusedSimpArgs false
set_option linter.unusedVariables false
section
def ox.depth:ox->Nat
 | .done=>0| .val _ p=>p.depth+1| .cS _ p=>p.depth+1| .two _ p _ q=>Nat.max p.depth q.depth+1| .three _ p _ q _ r=>Nat.max p.depth (Nat.max q.depth r.depth)+1
def Ie(d:Bool):List Bool->Nat->Bool
 | [],_=>d|b::_,0=>b|_::l,n+1=>Ie d l n
theorem y8(d:Bool):∀(l:List Bool)(n:Nat),Ie d l n=l.toArray.getD n d
 | [],n=>by simp[Ie]|b::l,0=>by simp[Ie]|b::l,n+1=>by have:=y8 d l n;simp only[Ie,this];simp[au2]
def oB:List Oper->Nat->Option Oper
 | [],_=>none|o::_,0=>some o|_::l,n+1=>oB l n
theorem oC:∀(l:List Oper)(n:Nat),oB l n=l.toArray[n]?
 | [],n=>by simp[oB]|b::l,0=>by simp[oB]|b::l,n+1=>by have:=oC l n;simp only[oB,this];simp
def nF:List Bool->Nat->List Bool
 | [],_=>[]|_::l,0=>true::l|b::l,n+1=>b::nF l n
theorem gn:∀(l:List Bool)(n:Nat),(nF l n).toArray=l.toArray.setIfInBounds n true:=by (intro l n;have:∀(l:List Bool)(n:Nat),nF l n=l.set n true:=by intro l;induction l with|nil=>intro n;simp[nF]|cons b l ih=>intro n;cases n<;>simp[nF,ih]);rw[this];simp
def AF(gp:List Bool):List Edge->Bool
 | []=>true|e::l=>(!Region.binds .any e||Ie false gp e.on)&&AF gp l
theorem Dw{gp:List Bool}:∀{l:List Edge},AF gp l=true↔∀e∈l,Region.binds .any e=true->gp.toArray.getD e.on false=true
 | []=>by simp[AF]|e::l=>by simp only[AF,aul,avh,au7,Dw (l:=l),auJ,forall_eq_or_imp,y8];constructor;rintro⟨h1,h2⟩;exact⟨λhb=>h1.resolve_left (by rw[hb];simp),h2⟩;rintro⟨h1,h2⟩;refine⟨?_,h2⟩;cases hb:Region.binds .any e with|false=>exact .inl rfl|true=>exact .inr (h1 hb)
def qW(l0:List Oper)(gp:List Bool)(k:Nat):Bool:=
 match oB l0 k with
 |none=>false
 |some o=>!(Ie true gp k)&&AF gp o.after.toList
theorem mq{l0:List Oper}{gp:List Bool}{k:Nat}:qW l0 gp k=true↔k∈Region.ready .any l0.toArray gp.toArray:=by rw[mem_ready];unfold qW;rw[oC];cases hk:l0.toArray[k]? with|none=>simp|some o=>simp only[aul,au7,y8,Dw,aug,exists_eq_left'];constructor;rintro⟨h1,h2⟩;exact⟨h1,λe he hb=>h2 e (by simpa using he) hb⟩;rintro⟨h1,h2⟩;exact⟨h1,λe he hb=>h2 e (by simpa using he) hb⟩
def xt(l0:List Oper)(gp:List Bool)(l:List Nat):List Oper->Nat->Bool
 | [],_=>true|_::r,k=>(!qW l0 gp k||LV l k)&&xt l0 gp l r (k+1)
theorem Ig{l0:List Oper}{gp:List Bool}{l:List Nat}:∀{r:List Oper}{k:Nat},xt l0 gp l r k=true->∀q,k<=q->q<k+r.length->qW l0 gp q=true->q∈l
 | [],k,_,q,h1,h2,_=>by simp at h2;omega|o::r,k,h,q,h1,h2,h3=>by simp only[xt,aul,avh,au7]at h;by_cases hq:q=k;subst hq;exact E2 (h.1.resolve_left (by rw[h3];simp));exact Ig h.2 q (by omega) (by simp only[aur]at h2;omega) h3
theorem px{l0:List Oper}{gp:List Bool}{l:List Nat}(h:xt l0 gp l l0 0=true){q:Nat}(hq:q∈Region.ready .any l0.toArray gp.toArray):q∈l:=by obtain⟨_,o,ho,_⟩:=mem_ready.1 hq;have:=(auW.1 ho).1;exact Ig h q (aus _) (by simpa using this) (mq.2 hq)
def Dx(C M:List (Option (List Nat)))(k j:Nat)(op:Op):Bool:=
 ia op||(match qU C j,qU M k with
  |some l,some K=>Ta l K
  |_,_=>false)
def E7(C M:List (Option (List Nat)))(k j:Nat)(op:Op):Bool:=
 match qU C j with
 |none=>false
 |some l=>ia op||(match qU M k with
  |some K=>Ta l K
  |none=>false)
theorem Ih{C M:List (Option (List Nat))}{k j:Nat}{op:Op}(h:E7 C M k j op=true):∃l,C.getD j none=some l/\∀hp hp',ou l hp hp'->tO M k op hp hp':=by unfold E7 at h;rw[iw]at h;split at h;cases h;rename_i l hl;refine⟨l,hl,λhp hp' hf=>nz (C:=C) (j:=j) ?_ (by unfold sJ;rw[hl];exact hf)⟩;unfold mf;rw[iw]at h;rw[hl];rw[avh]at h ⊢;refine h.imp id λh=>?_;split at h;rename_i K hK;rw[hK];exact h;cases h
def Om(H:Oper->Bool)(l0:List Oper)(LZ:List Nat)(C M:List (Option (List Nat)))(gp:List Bool)(i:Nat)(oi:Oper):List Oper->Nat->Bool
 | [],_=>true|oj::r,j=>(Nat.beq j i||(Ie true gp j||(((LZ.getD j 0).testBit i)||(oi.apart l0.toArray oj&&(match H oj with|false=>!gR oj.op||Dx C M i j oi.op|true=>!gR oj.op&&E7 C M i j oi.op)))))&&Om H l0 LZ C M gp i oi r (j+1)
theorem Ii{H:Oper->Bool}{l0:List Oper}{LZ:List Nat}{C M:List (Option (List Nat))}{gp:List Bool}{i:Nat}{oi:Oper}:∀{r:List Oper}{k:Nat},Om H l0 LZ C M gp i oi r k=true->∀(j:Nat) oj,r[j]?=some oj->k+j≠i->gp.toArray.getD (k+j) true=false-> (LZ.getD (k+j) 0).testBit i=true\/(oi.apart l0.toArray oj=true/\((H oj=false/\(gR oj.op=false\/mf C M i (k+j) oi.op=true))\/(H oj=true/\gR oj.op=false/\E7 C M i (k+j) oi.op=true)))
 | [],k,_,j,oj,hj,_,_=>by simp at hj|o::r,k,h,j,oj,hj,h1,h2=>by
  simp only[Om,aul,avh,au7]at h;cases j with
   |zero=>simp only[au4,aug]at hj;subst hj;rcases h.1 with h3|h3|h3|h3;exact(h1 (auG h3)).elim;rw[y8,show k=k+0 from rfl,h2]at h3;cases h3;exact .inl h3;refine .inr ⟨h3.1,?_⟩;have h4:=h3.2;cases hH:H o with|false=>rw[hH]at h4;simp only[avh,au7]at h4;refine .inl ⟨rfl,h4.imp id λh=>?_⟩;unfold Dx at h;unfold mf;rw[iw,iw]at h;exact h|true=>rw[hH]at h4;simp only[aul,au7]at h4;exact .inr ⟨rfl,h4⟩
   |succ j=>simp only[au3]at hj;have:=Ii h.2 j oj hj (by omega) (by rw[show k+1+j=k+(j+1)from by omega];exact h2);rw[show k+1+j=k+(j+1)from by omega]at this;exact this
def wi(C:dQ)(l:List Nat)(o:Oper)(s:AS Unit)(next:AS Unit->Prop):Prop:=
 match qQ s o.op with
 |some (f,args)=>(match HX C f o with
  | .ft sh=>okB (Ta (jI s.hp 100 [] args) l) (CJ C (jI s.hp 100 [] args) sh f args o s next)
  |_=>False)
 |none=>False
theorem Uf{js:List Nat}{H h:List ax}(hb:qS H.length js=true)(hl:js.length<=h.length):ou js H (kl (nD js H.length) js.length h H):=by refine⟨by rw[kl,uj];omega,λq o hq ho=>?_⟩;have hql:q<H.length:=(auh.1 ho).1;rw[kl,Aq (by omega)];unfold putAt;split;rename_i i hi;obtain⟨h1,h2⟩:=pr hi;unfold nD at h2;split at h2;rename_i aE;have aE:i<js.length:=auI (show Nat.ble (i+1) js.length=true from aE);exact(hq (by rw[<-h2];exact auq (qT aE))).elim;omega;rw[avc,ho];rfl
theorem wi.sound{Γ:Env Unit}{s:AS Unit}(aK:Γ.Ok){C:dQ}(hP:C.P=Γ.P)(fE:C.nt=Γ.nt){ops:Array Oper}{l:List Nat}{o:Oper}{next K:AS Unit->Prop}(hd:fq Γ.nt o.dst)(h:wi C l o s next)(hn:∀s,next s->K s):Tj Γ ops o l s K:=by
 unfold wi at h;split at h;rename_i f args aQ;rw[lL]at aQ;unfold mc at aQ;split at aQ;rename_i c hc;split at aQ;rename_i x hx;split at aQ;rename_i f' caps dL;simp only[aug,auk]at aQ;obtain⟨rfl,rfl⟩:=aQ;split at h;rename_i sh ag5;generalize jI s.hp 100 [] (List.map s.ev c.args.toList++caps)=js at *;obtain⟨Ts,h⟩:=cU h;unfold CJ at h;obtain⟨hb,h⟩:=cU h;rw[bF]at h;obtain⟨gK,R,g1,g2⟩:=h;have aQ:=cE (g:=AV.LR js s.hp) (λx=>Au) _ gK;rw[hP]at g1;have sy:=CJ.hfn (R:=λr h'=>R r h'/\xq js r h'=true) hb (g1.mono λr h' hr=>⟨hr,(cU (iY (g2 r h' hr))).1⟩) (λr h' hr=>hr.2);refine⟨λr2 H2=>∃r h,(R r h/\xq js r h=true)/\r2=sY (nD js s.hp.length) r/\H2=kl (nD js s.hp.length) js.length h s.hp,λs' ht HE K' hK'=>?_,λr hp' hN=>?_⟩
 ·(have zJ:∀y,y∈o.op.operands->s'.ev y=s.ev y:=λy hy=>by cases y with|tmp t=>refine ht t ?_;unfold Oper.looksAt;exact avs _ (List.mem_filterMap.2 ⟨.tmp t,by simpa using hy,rfl⟩)|_=>rfl);(have lG:s'.ev x=.bw f' caps:=by rw[<-dL];exact zJ x (by rw[hc];simp[Op.operands,Call.operands,hx]));have hm:c.args.toList.map s'.ev=c.args.toList.map s.ev:=avD λy hy=>zJ y (by rw[hc];simp only[Op.operands,Call.operands,avT];exact .inr (by simpa using hy));exact bT.Ti aK hc hx lG (by rw[HE];exact sy) (λa w η us hr h=>by have:=uu hr js _ us h;rw[hm,HE,aQ]at this;rw[HE];exact this) hd hK'
 obtain⟨r',h',hr,rfl,rfl⟩:=hN;have xo:qS s.hp.length js=true:=by simp only[aul]at hb;exact hb.1
 have hle:js.length<=h'.length:=by have:=hr.2;simp only[xq,aul]at this;exact auI this.1
 refine⟨(Uf xo hle).mono λq hq=>?_,hn _ (cU (iY (g2 r' h' hr.1))).2⟩;have:=auB.1 Ts q hq;simpa using this;exact h.elim;cases aQ;cases aQ;cases aQ;exact h.elim
def s8(C:dQ)(hs:List Nat)(l0:List Oper)(Cl:List (Option (List Nat)))(i:Nat)(o:Oper)(s:AS Unit)(next:AS Unit->Prop):Prop:=
 match Ax C.nt o.dst with
 |false=>False
 |true=>(match gR o.op with
  |true=>(match o.guard with
   |none=>okB (TT (qU Cl i) s.ev o.op) (match LQ C.tab s.hp s.ev o.op (λr hp'=>next (AS.put { s with hp:=hp' } o.dst r))with
    |some p=>p
    |none=>False)
   |some _=>False)
  |false=>(match bW hs o with
   |true=>KG l0 o s (λs=>match qU Cl i with
     |none=>mo C o s next
     |some l=>wi C l o s next) (λs=>next (s.put o.dst (.ay (.tuple #[]))))
   |false=>KG l0 o s (λs=>gP C none o s next) (λs=>next (s.put o.dst (.ay (.tuple #[]))))))
def jb(C:dQ)(hs:List Nat)(l0:List Oper)(LZ:List Nat)(Cl M:List (Option (List Nat)))(K:AS Unit->Prop):ox->List Bool->AS Unit->Prop
 | .done,gp,s=>okB (xt l0 gp [] l0 0) (K s)| .val i p,gp,s=>(match oB l0 i with|none=>False|some o=>okB (qW l0 gp i&&(Om (bW hs) l0 LZ Cl M gp i o l0 0&&(!gR o.op&&(!bW hs o&&Ax C.nt o.dst)))) (KG l0 o s (λs=>gP C (qU M i) o s (jb C hs l0 LZ Cl M K p (nF gp i))) (λs=>jb C hs l0 LZ Cl M K p (nF gp i) (s.put o.dst (.ay (.tuple #[]))))))| .cS i p,gp,s=>(match oB l0 i with|none=>False|some o=>okB (qW l0 gp i&&xt l0 gp [i] l0 0) (s8 C hs l0 Cl i o s (jb C hs l0 LZ Cl M K p (nF gp i))))| .two i p j q,gp,s=>(match oB l0 i,oB l0 j with|some o,some o'=>okB (qW l0 gp i&&xt l0 gp [i,j] l0 0) (s8 C hs l0 Cl i o s (jb C hs l0 LZ Cl M K p (nF gp i))/\s8 C hs l0 Cl j o' s (jb C hs l0 LZ Cl M K q (nF gp j)))|_,_=>False)| .three i p j q k r,gp,s=>(match oB l0 i,oB l0 j,oB l0 k with|some o,some o',some o2=>okB (qW l0 gp i&&xt l0 gp [i,j,k] l0 0) (s8 C hs l0 Cl i o s (jb C hs l0 LZ Cl M K p (nF gp i))/\(s8 C hs l0 Cl j o' s (jb C hs l0 LZ Cl M K q (nF gp j))/\s8 C hs l0 Cl k o2 s (jb C hs l0 LZ Cl M K r (nF gp k))))|_,_,_=>False)
variable {Γ:Env Unit} {s:AS Unit}
theorem s8.sound(aK:Γ.Ok){C:dQ}(hP:C.P=Γ.P)(aB:bp Γ.P C.tab)(fE:C.nt=Γ.nt){hs:List Nat}{l0:List Oper}{Cl:List (Option (List Nat))}{i:Nat}{o:Oper}(ho:l0.toArray[i]?=some o){next K:AS Unit->Prop}(h:s8 C hs l0 Cl i o s next)(hn:∀s,next s->K s): kL Γ l0.toArray (bW hs) Cl Cl i K s:=by
 unfold s8 at h;unfold kL;rw[ho];simp only;split at h;exact h.elim;rename_i hd;have hd:=nf hd;rw[fE]at hd;split at h;rename_i he;rw[if_pos he];split at h;rename_i hg;obtain⟨LW,h⟩:=cU h;split at h;rename_i p hp;obtain⟨c,r,hp',g1,g2,g3⟩:=EY hp h;have hcg:=N6 LW g1;rw[iw]at hcg;refine⟨hd,hg,r,hp',λvM LA e1 e2 e3=>sS LA (tab:=C.tab) (by rw[e1];exact aB) (c:=c) ?_ g2,?_,hn _ g3⟩;rw[<-g1];exact Af λx hx=>ub hx;unfold sJ;cases hc:Cl.getD i none with|none=>exact ai|some l=>have:=qp.fr _ _ _ (hcg l hc);exact⟨this.1,λq ob hq ho=>this.2 q ob (by simpa using hq) ho⟩
 exact h.elim;exact h.elim
 ·rename_i he;rw[if_neg (by rw[he];simp)];split at h
  ·rename_i hh;rw[if_pos hh];have act:∀h:(match qU Cl i with
     |none=>mo C o s next
     |some l=>wi C l o s next),LH Γ l0.toArray Cl i o s K:=by
    intro h;unfold LH;rw[iw]at h;split at h
    ·rename_i hc;rw[hc];exact mo.sound aK hP aB fE h hn
    ·rename_i l hc;rw[hc];exact wi.sound aK hP fE hd h hn
   rcases KG.cases h with⟨hg,h⟩|⟨j,want,b,hg,hb,⟨vN,h⟩|⟨vN,h⟩⟩|⟨j,want,hg,hb,h⟩;exact .inl ⟨by simp[bE,hg],act h⟩;exact .inl ⟨by simp[bE,hg,hb,vN],act h⟩;exact .inr ⟨by simp[bE,hg,hb,vN],hd,hn _ h⟩;exact .inr ⟨by simp[bE,hg,hb],hd,hn _ h⟩
  rename_i hh;rw[if_neg (by rw[hh];simp)];have ss:∀{x:AV},pj Γ l0.toArray o s x (tO [] i o.op)->pj Γ l0.toArray o s x (λhp hp'=>hp'=hp):=λh=> ⟨h.1,h.2.imp (λg=>⟨g.1,λs' g1 g2=>g.2 s' g1 (by rw[g2];exact tO.refl)⟩) id⟩;(have step:gP C none o s next->(o.guard=none\/∃j want b,o.guard=some (j,want)/\lZ l0.toArray s j=some b)->∃x,(∀s':AS Unit,(∀t,t∈o.looksAt l0.toArray->s'.tmps t=s.tmps t)->tO [] i o.op s.hp s'.hp->ny Γ o (s'.only (o.looksAt l0.toArray)) x)/\K (s.put o.dst x):= λh hg=>nA.sound (ops:=l0.toArray) (M:=[]) (k:=i) aB (gP.sound (N:=K) (R:=K) hP h hn hn) (λ_ h=>h) (λ_ h=>h) hg);rcases KG.cases h with⟨hg,h⟩|⟨j,want,b,hg,hb,⟨vN,h⟩|⟨vN,h⟩⟩|⟨j,want,hg,hb,h⟩;obtain⟨x,h3,h4⟩:=step h (.inl hg);exact⟨x,ss ⟨hd,.inl ⟨by simp[bE,hg],h3⟩⟩,h4⟩;obtain⟨x,h3,h4⟩:=step h (.inr ⟨j,want,_,hg,hb⟩);exact⟨x,ss ⟨hd,.inl ⟨by simp[bE,hg,hb,vN],h3⟩⟩,h4⟩;exact⟨_,⟨hd,.inr ⟨by simp[bE,hg,hb,vN],rfl⟩⟩,hn _ h⟩;exact⟨_,⟨hd,.inr ⟨by simp[bE,hg,hb],rfl⟩⟩,hn _ h⟩
theorem jb.sound(aK:Γ.Ok){C:dQ}(hP:C.P=Γ.P)(aB:bp Γ.P C.tab)(fE:C.nt=Γ.nt){hs:List Nat}{l0:List Oper}{Cl M:List (Option (List Nat))}{K:AS Unit->Prop}:∀(p:ox)(fuel:Nat)(gp:List Bool)(s:AS Unit),p.depth<=fuel->Shut l0.toArray gp.toArray-> jb C hs l0 (zX l0 []) Cl M K p gp s->gS Γ l0.toArray (bW hs) Cl Cl K fuel gp.toArray s:=by
 have LI:∀(i j:Nat),(List.getD (zX l0 []) j 0).testBit i=true->Reach l0.toArray i j:=by intro i j hj;cases hm:(zX l0 [])[j]? with|none=>simp[List.getD,hm]at hj|some m=>simp only[List.getD,hm,avd]at hj;exact Dd (ops:=l0.toArray) l0 [] (λj=>by simp) (λj m i hj=>by simp at hj) j m i hm hj
 intro p;induction p with
  |done=>(intro fuel gp s hf tP h;simp only[jb]at h;obtain⟨hb,h⟩:=cU h;have ZI:Region.ready .any l0.toArray gp.toArray=[]:=by apply List.eq_nil_iff_forall_not_mem.2;intro q hq;have:=px hb hq;simp at this);cases fuel with|zero=>exact⟨ZI,h⟩|succ fuel=>exact⟨λ_=>h,λq hq=>by rw[ZI]at hq;cases hq⟩
  |val i p ih=>intro fuel gp s hf tP h;simp only[ox.depth]at hf;obtain⟨f,rfl⟩:∃f,fuel=f+1:=⟨fuel-1,by omega⟩;simp only[jb]at h;split at h;exact h.elim;(rename_i o ho;rw[oC]at ho;obtain⟨hb,h⟩:=cU h;simp only[aul,au7]at hb;obtain⟨YE,sy,he,hhe,hd⟩:=hb;have uA:=mq.1 YE;have hd:=nf hd;have dv:∀s,jb C hs l0 (zX l0 []) Cl M K p (nF gp i) s->gS Γ l0.toArray (bW hs) Cl Cl K f (gp.toArray.setIfInBounds i true) s:=by intro s h;have:=ih f (nF gp i) s (by omega) (by rw[gn];exact eA tP uA) h;rwa [gn]at this);(have ic:∀(j:Nat) oj,l0.toArray[j]?=some oj->j≠i->gp.toArray.getD j true=false->Reach l0.toArray i j\/(o.apart l0.toArray oj=true/\((bW hs oj=false/\(gR oj.op=false\/∀hp hp',sJ Cl j hp hp'->tO M i o.op hp hp'))\/(bW hs oj=true/\gR oj.op=false/\∃l,Cl.getD j none=some l/\∀hp hp',ou l hp hp'->tO M i o.op hp hp'))):=by intro j oj hj Cu CG;have:=Ii sy j oj (by simpa using hj) (by rw[auO];exact Cu) (by rw[auO];exact CG);rw[auO]at this;exact this.imp (LI i j) λh=>⟨h.1,h.2.imp (λh=>⟨h.1,h.2.imp id λhm hp hp' hc=>nz hm hc⟩) λh=>⟨h.1,h.2.1,Ih h.2.2⟩⟩);(have QU:∃x,pj Γ l0.toArray o s x (tO M i o.op)/\gS Γ l0.toArray (bW hs) Cl Cl K f (gp.toArray.setIfInBounds i true) (s.put o.dst x):=by rw[fE]at hd;rcases KG.cases h with⟨hg,h⟩|⟨j,want,b,hg,hb,⟨vN,h⟩|⟨vN,h⟩⟩|⟨j,want,hg,hb,h⟩;rw[iw]at h;obtain⟨x,h3,h4⟩:=nA.sound (ops:=l0.toArray) aB (gP.sound (N:=gS Γ l0.toArray (bW hs) Cl Cl K f (gp.toArray.setIfInBounds i true)) (R:=gS Γ l0.toArray (bW hs) Cl Cl K f (gp.toArray.setIfInBounds i true)) hP h dv dv) (λ_ h=>h) (λ_ h=>h) (.inl hg);exact⟨x,⟨hd,.inl ⟨by simp[bE,hg],h3⟩⟩,h4⟩;rw[iw]at h;obtain⟨x,h3,h4⟩:=nA.sound (ops:=l0.toArray) aB (gP.sound (N:=gS Γ l0.toArray (bW hs) Cl Cl K f (gp.toArray.setIfInBounds i true)) (R:=gS Γ l0.toArray (bW hs) Cl Cl K f (gp.toArray.setIfInBounds i true)) hP h dv dv) (λ_ h=>h) (λ_ h=>h) (.inr ⟨j,want,_,hg,hb⟩);exact⟨x,⟨hd,.inl ⟨by simp[bE,hg,hb,vN],h3⟩⟩,h4⟩;exact⟨_,⟨hd,.inr ⟨by simp[bE,hg,hb,vN],rfl⟩⟩,dv _ h⟩;exact⟨_,⟨hd,.inr ⟨by simp[bE,hg,hb],rfl⟩⟩,dv _ h⟩);obtain⟨x,h3,h4⟩:=QU;cases f with|zero=>refine⟨λhn=>(by rw[hn]at uA;cases uA),λj hj=>?_⟩;by_cases Cu:j=i;subst Cu;unfold kL;rw[ho];simp only[he,hhe,auE,if_false];exact⟨x,⟨h3.1,h3.2.imp (λg=>⟨g.1,λs' g1 g2=>g.2 s' g1 (by rw[g2];exact tO.refl)⟩) id⟩,h4⟩;have h5:=ready_mono hj Cu;rw[h4.1]at h5;cases h5|succ f=>exact gS.first (R:=tO M i o.op) (λ_ _ _=>tO.trans) (λ_=>tO.refl) ho (by simp[Ai,he,hhe]) (f+1) gp.toArray s tP ic uA h3 h4
  |cS i p ih=>intro fuel gp s hf tP h;simp only[ox.depth]at hf;obtain⟨f,rfl⟩:∃f,fuel=f+1:=⟨fuel-1,by omega⟩;simp only[jb]at h;split at h;exact h.elim;rename_i o ho;rw[oC]at ho;obtain⟨hb,h⟩:=cU h;rw[aul]at hb;have uA:=mq.1 hb.1;refine⟨λhn=>(by rw[hn]at uA;cases uA),λk hk=>?_⟩;have:=px hb.2 hk;simp only[auy]at this;subst this;exact s8.sound aK hP aB fE ho h λs h=>by have:=ih f (nF gp k) s (by omega) (by rw[gn];exact eA tP uA) h;rwa [gn]at this|two i p j q ihp ihq=>intro fuel gp s hf tP h;simp only[ox.depth]at hf;obtain⟨f,rfl⟩:∃f,fuel=f+1:=⟨fuel-1,by omega⟩;simp only[jb]at h;split at h;rename_i o o' ho Cy;rw[oC]at ho Cy;obtain⟨hb,h⟩:=cU h;rw[aul]at hb;have uA:=mq.1 hb.1;have jW:p.depth<=Nat.max p.depth q.depth:=Nat.le_max_left _ _;have hq1:q.depth<=Nat.max p.depth q.depth:=Nat.le_max_right _ _;refine⟨λhn=>(by rw[hn]at uA;cases uA),λk hk=>?_⟩;have:=px hb.2 hk;simp only[auJ,avz,or_false]at this;rcases this with rfl|rfl;(exact s8.sound aK hP aB fE ho h.1 λs h=>by have:=ihp f (nF gp k) s (by omega) (by rw[gn];exact eA tP hk) h;rwa [gn]at this);(exact s8.sound aK hP aB fE Cy h.2 λs h=>by have:=ihq f (nF gp k) s (by omega) (by rw[gn];exact eA tP hk) h;rwa [gn]at this);exact h.elim
  |three i p j q k2 r ihp ihq ihr=>intro fuel gp s hf tP h;simp only[ox.depth]at hf;obtain⟨f,rfl⟩:∃f,fuel=f+1:=⟨fuel-1,by omega⟩;simp only[jb]at h;split at h;rename_i o o' o2 ho Cy ho2;rw[oC]at ho Cy ho2;obtain⟨hb,h⟩:=cU h;rw[aul]at hb;have uA:=mq.1 hb.1;have jW:p.depth<=Nat.max p.depth (Nat.max q.depth r.depth):=Nat.le_max_left _ _;have hq1:q.depth<=Nat.max p.depth (Nat.max q.depth r.depth):=auM (Nat.le_max_left _ _) (Nat.le_max_right _ _);have Ct:r.depth<=Nat.max p.depth (Nat.max q.depth r.depth):=auM (Nat.le_max_right _ _) (Nat.le_max_right _ _);refine⟨λhn=>(by rw[hn]at uA;cases uA),λk hk=>?_⟩;have:=px hb.2 hk;simp only[auJ,avz,or_false]at this;rcases this with rfl|rfl|rfl;(exact s8.sound aK hP aB fE ho h.1 λs h=>by have:=ihp f (nF gp k) s (by omega) (by rw[gn];exact eA tP hk) h;rwa [gn]at this);(exact s8.sound aK hP aB fE Cy h.2.1 λs h=>by have:=ihq f (nF gp k) s (by omega) (by rw[gn];exact eA tP hk) h;rwa [gn]at this);(exact s8.sound aK hP aB fE ho2 h.2.2 λs h=>by have:=ihr f (nF gp k) s (by omega) (by rw[gn];exact eA tP hk) h;rwa [gn]at this);exact h.elim
def s9:List Oper->List Bool
 | []=>[]|_::l=>false::s9 l
theorem Dy:∀(l:List Oper),(s9 l).toArray=Array.replicate l.length false:=by (have:∀(l:List Oper),s9 l=List.replicate l.length false:=by intro l;induction l with|nil=>rfl|cons o l ih=>simp only[s9,ih,aur,List.replicate_succ]);intro l;rw[this];simp
theorem gu.ahl(aK:Γ.Ok){C:dQ}(hP:C.P=Γ.P)(aB:bp Γ.P C.tab)(fE:C.nt=Γ.nt)(hm:Γ.P.follows .mixedOrders=true){hs:List Nat}{id:Nat}{l:List Oper}{Q:Exit->AS Unit->Prop}{Cl M:List (Option (List Nat))}{p:ox}(hd:Nat.ble p.depth l.length=true)(h:jb C hs l (zX l []) Cl M (Q .normal) p (s9 l) s):gu Γ (.region id l.toArray true) Q s:=by intro a w η hr;refine wpIn_region_any hm ?_;have h1:=jb.sound aK hP aB fE p l.length (s9 l) s (auI hd) (λk o hk=>by rw[Dy]at hk;simp only[au2,Array.getElem?_replicate]at hk;split at hk<;>simp at hk) h;rw[Dy]at h1;have h2:=Di.sound (Qc:=λe a' w'=>∃s' bh,Q e s'/\Rel Γ s' a' w' bh) aK (λs' a' w' bh h1 h2=>⟨s',bh,h1,h2⟩) _ _ _ a w.drew η (h1.any aK) (hr.same aK (ck.drew w));simpa using h2
end
section
variable {Γ:Env Unit} {w:World} {a:Act} {F:Nat->Nat->Prop} {η:List Value} {hp:List ax}
def xv(r q i:Nat):Nat:=(match Nat.beq i r with
 |true=>q
 |false=>(match Nat.beq i q with
  |true=>r
  |false=>i))
theorem L0(r q i:Nat):xv r q i=if i=r then q else if i=q then r else i:=by unfold xv;cases h:Nat.beq i r;(have h1:¬i=r:=λe=>by rw[e,Nat.beq_refl]at h;cases h);rw[if_neg h1];cases h2:Nat.beq i q;(have h3:¬i=q:=λe=>by rw[e,Nat.beq_refl]at h2;cases h2);rw[if_neg h3];rw[if_pos (auG h2)];rw[if_pos (auG h)]
theorem E8(r q i:Nat):xv r q (xv r q i)=i:=by simp only[L0];by_cases h1:i=r;subst h1;by_cases h2:q=i;simp[h2];simp[h2];by_cases h2:i=q;subst h2;simp[h1];simp[h1,h2]
theorem ZJ{r q i j:Nat}(h:xv r q i=xv r q j):i=j:=by rw[<-E8 r q i,h,E8]
def E9{α:Type}(d:α)(r q:Nat)(l:List α):List α:=(l.set r (l.getD q d)).set q (l.getD r d)
theorem On{α:Type}{d:α}{r q:Nat}{l:List α}:(E9 d r q l).length=l.length:=by simp[E9]
theorem Oo{α:Type}{d:α}{r q:Nat}{l:List α}(hr:r<l.length)(hq:q<l.length)(i:Nat):(E9 d r q l)[i]?=l[xv r q i]?:=by rw[E9,L0,avl,avl];by_cases h2:i=q;subst h2;by_cases h1:i=r;subst h1;simp[hr];simp[h1,hr,hq];by_cases h1:i=r;subst h1;have:¬q=i:=λe=>h2 e.symm;simp[this,hr,hq];have e1:¬q=i:=λe=>h2 e.symm;have e2:¬r=i:=λe=>h1 e.symm;simp[h1,h2,e1,e2]
def swS(r q:Nat)(s:AS Unit):AS Unit:=
 match Nat.blt r s.hp.length&&(Nat.blt q s.hp.length&&s.hp.all (ax.closed s.hp.length))with
 |true=>⟨λt=>(match (s.tmps t).closed s.hp.length with|true=>sY (xv r q) (s.tmps t)|false=>.top),E9 .dead r q (s.hp.map (kj (xv r q))),s.g⟩
 |false=>s
theorem aeV(aK:Γ.Ok){r q:Nat}(hr0:Γ.mU.length<=r)(hq0:Γ.mU.length<=q)(s:AS Unit):cW Γ s (swS r q s):=by unfold swS;split;(rename_i hc;rw[aul,aul]at hc;have hr:r<s.hp.length:=auI hc.1;have hq:q<s.hp.length:=auI hc.2.1;have dL:∀o∈s.hp,ax.closed s.hp.length o=true:=auB.1 hc.2.2;obtain⟨f,hp,g⟩:=s;intro a w η h;have hlen:η.length=hp.length:=h.heap.len;have gH:∀i,(E9 ax.dead r q (hp.map (kj (xv r q))))[i]?=(hp.map (kj (xv r q)))[xv r q i]?:=Oo (by simpa using hr) (by simpa using hq);have CF:∀i,(E9 undef r q η)[i]?=η[xv r q i]?:=Oo (by rw[hlen];exact hr) (by rw[hlen];exact hq);have e:yB (xv r q) η hp (E9 undef r q η) (E9 ax.dead r q (hp.map (kj (xv r q)))):=⟨λi o ho=>by rw[gH,E8,auu,ho];rfl,λi hi=>by rw[CF,E8]⟩;have back:∀{i:Nat}{o':ax},(E9 ax.dead r q (hp.map (kj (xv r q))))[i]?=some o'->∃o,hp[xv r q i]?=some o/\o'=kj (xv r q) o:=λ{i o'} ho=>by rw[gH]at ho;obtain⟨o,h1,h2⟩:=dA ho;exact⟨o,h1,h2⟩);(have iP:∀b o,bu Γ w η hp b o->bu Γ w (E9 undef r q η) (E9 ax.dead r q (hp.map (kj (xv r q)))) b o:=λb k hf=>by refine⟨hf.1,hf.2.1,hf.2.2.1,(bn b k).2 λi v h1 h2=>?_⟩;rw[CF]at h1;obtain⟨o,h3,h4⟩:=(bn b k).1 hf.2.2.2 _ v h1 h2;exact⟨kj (xv r q) o,by rw[gH,auu,h3];rfl,v8.2 h4⟩);have eD:Ext w (bu Γ w η hp) (E9 undef r q η) (E9 ax.dead r q (hp.map (kj (xv r q)))) w (bu Γ w (E9 undef r q η) (E9 ax.dead r q (hp.map (kj (xv r q))))) (E9 undef r q η) (E9 ax.dead r q (hp.map (kj (xv r q)))):= ⟨λ_ _ _ _ h=>h,λ_ _ _ _ h=>h,iP,λ_ _ h=>h,λ_ _ h=>h,λ_ _ _ h=>h⟩;(have low:∀{i:Nat},i<Γ.mU.length->xv r q i=i:=λ{i} hi=>by rw[L0,if_neg (by omega),if_neg (by omega)]);refine⟨E9 undef r q η,h.nt,λt=>?_,⟨by rw[On,On,aui,hlen],λi o' v h1 h2=>?_,λi j o1 o2 v1 v2 b bV h1 h2 l1 l2 e1 e2 hb=>?_⟩,λi o' v b h1 hl h2 hb=>?_,h.keeps,h.inv,h.marks,⟨h.ext.cell,h.ext.kH,λb o hb=>iP b o (h.ext.bC b o hb),λi x hx=>?_,λi x hx=>?_,λi n v hx=>?_⟩⟩;show bo w _ _ _ (match (f t).closed hp.length with|true=>sY (xv r q) (f t)|false=>.top) _;split;rename_i hx;exact(e.re hx (h.tmps t)).ext eD;exact .top _;obtain⟨o,h3,rfl⟩:=back h1;rw[CF]at h2;exact(e.reO (dL o (auq h3)) (h.heap.obj _ o v h3 h2)).ext eD (aum _) λ_ _ _=>rfl;obtain⟨p1,g1,rfl⟩:=back h1;obtain⟨p2,g2,rfl⟩:=back h2;rw[CF]at e1 e2;exact h.heap.sep _ _ p1 p2 v1 v2 b (λe=>bV (ZJ e)) g1 g2 (eO.1 l1) (eO.1 l2) e1 e2 hb;obtain⟨o,h3,rfl⟩:=back h1;rw[CF]at h2;exact h.cu _ o v b h3 (eO.1 hl) h2 hb;(have hi:i<Γ.mU.length:=by rw[<-aK.l0];exact(auh.1 hx).1);rw[CF,low hi];exact h.ext.ptr i x hx;(have hi:i<Γ.mU.length:=by rw[<-aK.l0];exact(auh.1 hx).1);rw[CF,low hi];exact h.ext.mp i x hx;(have hi:i<Γ.mU.length:=by refine avW λhn=>?_;unfold bk at hx;rw[auP (by omega)]at hx;exact hx);(have gM:r<hp.length:=hr;have hih:i<hp.length:=by omega);exact(ui (g:=xv r q) (j:=i) (aun hih) (by rw[gH,low hi,auu,aun hih];rfl) (by rw[CF,low hi])).1 (h.ext.own i n v hx);exact .refl _
def mvS:List (Nat×Nat)->AS Unit->AS Unit
 | [],s=>s|p::l,s=>mvS l (swS p.1 p.2 s)
def ZK(n0:Nat):List (Nat×Nat)->Bool
 | []=>true|p::l=>Nat.ble n0 p.1&&(Nat.ble n0 p.2&&ZK n0 l)
theorem Ug(aK:Γ.Ok):∀(l:List (Nat×Nat))(s:AS Unit),ZK Γ.mU.length l=true->cW Γ s (mvS l s)
 | [],s,_=>.refl _|p::l,s,h=>by simp only[ZK,aul]at h;exact(aeV aK (auI h.1) (auI h.2.1) s).trans (Ug aK l _ h.2.2)
end
section
variable {Γ:Env Unit} {s s':AS Unit} {a:Act} {w w':World} {η:List Value} {hp hp':List ax}
theorem cW.eR{f f':Nat->AV}{g:Unit}(h:∀t,aY (f t) (f' t)):cW Γ ⟨f,hp,g⟩ ⟨f',hp,g⟩:=λ_ _ η hr=>⟨η,hr.nt,λt=>h t _ _ _ _ _ (hr.tmps t),hr.heap,hr.cu,hr.keeps,hr.inv,hr.marks,hr.ext⟩
theorem QT.own{o o':ax}(h:QT o o'):(∃cs eL,o=.box cs/\o'=.box eL/\eh cs eL)\/o=o':=by
 cases o with
  |box cs=>cases o' with|box eL=>exact .inl ⟨cs,eL,rfl,rfl,h⟩|_=>cases h
  |_=>cases o'<;>first|exact .inr h|cases h
theorem fu.aeW(h:fu hp hp'){b o:Nat}(hf:ke η hp b o):ke η hp' b o:=by intro r v hr hb;have:=hf r v hr hb;rcases h.get r with⟨h1,h2⟩|⟨o1,o2,h1,h2,h3⟩;rw[h1]at this;exact this.elim;rw[h1]at this;rw[h2];rcases h3.own with⟨cs,eL,rfl,rfl,_⟩|rfl;exact this;exact this
theorem fu.ahm(h:fu hp hp'){r n:Nat}{v:Value}(hf:bk η hp r n v):bk η hp' r n v:=by unfold bk at hf ⊢;rcases h.get r with⟨h1,h2⟩|⟨o1,o2,h1,h2,h3⟩;rw[h1]at hf;exact hf.elim;rw[h1]at hf;rw[h2];rcases h3.own with⟨cs,eL,rfl,rfl,_⟩|rfl;exact hf;exact hf
theorem cW.aeX{f:Nat->AV}{g:Unit}(h:fu hp hp'):cW Γ ⟨f,hp,g⟩ ⟨f,hp',g⟩:=by intro a w η hr;have he:Ext w (bu Γ w η hp) η hp w (bu Γ w η hp') η hp':= ⟨λ_ _ _ _ h=>h,λ_ _ _ _ h=>h,λb o hf=>⟨hf.1,hf.2.1,hf.2.2.1,h.aeW hf.2.2.2⟩,λ_ _ h=>h,λ_ _ h=>h,λ_ _ _ ho=>h.ahm ho⟩;(have back:∀{r:Nat}{o':ax},hp'[r]?=some o'->∃o,hp[r]?=some o/\QT o o'/\(o'.live->o.live):=by intro r o' ho;rcases h.get r with⟨h1,h2⟩|⟨o1,o2,h1,h2,h3⟩;rw[h2]at ho;cases ho;rw[h2]at ho;obtain rfl:=auj ho;refine⟨o1,h1,h3,λhl=>?_⟩;rcases h3.own with⟨cs,eL,rfl,rfl,_⟩|rfl;exact ai;exact hl);refine⟨η,hr.nt,λt=>(hr.tmps t).ext he,⟨by rw[hr.heap.len];exact h.length,λr o' v h1 h2=>?_,λr r' o o' v v' b bV h1 h2 l1 l2 e1 e2 hb=>?_⟩,λr o v b h1 hl h2 hb=>?_,hr.keeps,hr.inv,hr.marks,hr.ext.trans he⟩;obtain⟨o,g1,g2,_⟩:=back h1;have fe:=hr.heap.obj r o v g1 h2;rcases g2.own with⟨cs,eL,rfl,rfl,hw⟩|rfl;obtain⟨b,vs,T,e1,e2,e3,e4⟩:=fe;refine⟨b,vs,T,e1,e2,by rw[e3,hw.length],λj x u hx hu=>?_⟩;obtain⟨y,hy,hyx⟩:=hw.get j x hx;have:=e4 j y u hy hu;exact⟨hyx _ _ _ _ _ (this.1.ext he),this.2⟩;exact fe.ext he (aum _) λ_ _ _=>rfl;obtain⟨o1,g1,_,g3⟩:=back h1;obtain⟨o2,g4,_,g6⟩:=back h2;exact hr.heap.sep r r' o1 o2 v v' b bV g1 g4 (g3 l1) (g6 l2) e1 e2 hb;obtain⟨o1,g1,_,g3⟩:=back h1;exact hr.cu r o1 v b g1 (g3 hl) h2 hb
def yC.cl(n:Nat):yC->Bool
 | .o r=>Nat.blt r n| .k x=>x.bc n| .q x=>x.bc n|_=>true
def Uh(n:Nat):List yC->Bool
 | []=>true|sh::l=>sh.cl n&&Uh n l
def uo.cl(n:Nat):uo->Bool
 | .c x=>x.cl n| .a l=>Uh n l
def QW(n:Nat):List uo->Bool
 | []=>true|sh::l=>sh.cl n&&QW n l
def Sh.cl(n:Nat):Sh->Bool
 | .v x=>x.cl n| .t l=>QW n l| .f _ l=>QW n l| .m _ l=>QW n l
def QX(n:Nat):List Sh->Bool
 | []=>true|sh::l=>sh.cl n&&QX n l
def mh.cl(n:Nat):mh->Bool
 | .box l=>Uh n l| .jq r=>Nat.blt r n|_=>true
def L1(n:Nat):List mh->Bool
 | []=>true|sh::l=>sh.cl n&&L1 n l
theorem Fb{n:Nat}{x:AV}(h:x.bc n=true):x.dZ n=true:=by cases x<;>first|exact h|(simp[AV.bc]at h;done)
theorem Fc{n:Nat}{x:AV}(h:x.fi n=true):x.dZ n=true:=by cases x<;>first|exact h|rfl|(simp[AV.fi]at h;done)
theorem Ij{n:Nat}{x:AV}(h:x.dZ n=true):x.closed n=true:=by cases x with|bw f cs=>exact auB.2 λx hx=>Fc (auB.1 (show cs.all (AV.fi n)=true from h) x hx)|_=>first|exact h|(simp[AV.dZ,AV.bc]at h;done)
theorem Ui{n:Nat}{lens:List Nat}{sh:yC}{t:sh.T}(h:sh.cl n=true):(mkC lens sh t).bc n=true:=by cases sh with|k x=>exact h|q x=>exact h|o r=>have:r<n:=auI (show Nat.ble (r+1) n=true from h);simp[mkC,AV.bc,this]|_=>rfl
theorem Fe{n:Nat}{lens:List Nat}:∀{l:List yC}{t:TCs l},Uh n l=true->(QO lens l t).all (AV.bc n)=true
 | [],_,_=>rfl|sh::l,t,h=>by simp only[Uh,aul]at h;simp only[QO,avI,aul];exact⟨Ui h.1,Fe h.2⟩
theorem Uj{n:Nat}{lens:List Nat}{sh:uo}{t:sh.T}(h:sh.cl n=true):(mkV lens sh t).dZ n=true:=by cases sh with|c x=>exact Fb (Ui h)|a l=>exact Fe h
theorem y9{n:Nat}{lens:List Nat}:∀{l:List uo}{t:TVs l},QW n l=true->(LX lens l t).all (AV.dZ n)=true
 | [],_,_=>rfl|sh::l,t,h=>by simp only[QW,aul]at h;simp only[LX,avI,aul];exact⟨Uj h.1,y9 h.2⟩
theorem aeY{n:Nat}{lens:List Nat}{sh:Sh}{t:sh.T}(h:sh.cl n=true):(mkS lens sh t).closed n=true:=by cases sh with|v x=>exact Ij (Uj h)|t l=>exact y9 h|f fn l=>exact y9 h|m fn l=>exact y9 h
theorem Oq{n:Nat}{lens:List Nat}:∀{l:List Sh}{t:TS l},QX n l=true->∀x∈yD lens l t,x.closed n=true
 | [],_,_,x,hx=>by cases hx|sh::l,t,h,x,hx=>by simp only[QX,aul]at h;rcases auJ.1 hx with rfl|hx;exact aeY h.1;exact Oq h.2 x hx
theorem Ff{n:Nat}{lens:List Nat}:∀{l:List mh}{t:TO l},L1 n l=true->∀o∈pw lens l t,ax.closed n o=true
 | [],_,_,x,hx=>by cases hx|sh::l,t,h,x,hx=>by simp only[L1,aul]at h;rcases auJ.1 hx with rfl|hx;(cases sh with|box l=>exact Fe h.1|jq r=>exact decide_eq_true (auI (show Nat.ble (r+1) n=true from h.1))|_=>rfl);exact Ff h.2 x hx
theorem uB{lens:List Nat}:∀{l:List mh}{t:TO l},(pw lens l t).length=l.length
 | [],_=>rfl|_::l,t=>by simp[pw,uB (l:=l)]
def wj:List Nat->List AV->Nat->AV
 |t::ts,x::xs=>Cp (wj ts xs) t x|_,_=>λ_=>.top
theorem Ik{f:Nat->AV}:∀{ts:List Nat}{ys:List AV},eh (ts.map f) ys->∀t,aY (f t) (wj ts ys t)
 | [],[],_,t=>λ_ _ _ _ v _=>.top v|t0::ts,y::ys,h,t=>by simp only[wj,gW];split;rename_i ht;subst ht;exact h.1;exact Ik h.2 t
theorem Dz{n:Nat}:∀{ts:List Nat}{ys:List AV},(∀x∈ys,x.closed n=true)->qe n (wj ts ys)
 | [],_,_=>λ_=>rfl|_::_,[],_=>λ_=>rfl|t0::ts,y::ys,h=>qe.Cp (h y auw) (Dz λx hx=>h x (auz _ hx))
def QY(eR:List Nat)(qh:List Sh)(dw:List mh)(z:TS qh×TO dw):AS Unit:=⟨wj eR (yD (ie dw z.2) qh z.1),pw (ie dw z.2) dw z.2,()⟩
def L2(eR:List Nat)(qh:List Sh)(dw:List mh)(s:AS Unit):Option (List Prop×(TS qh×TO dw)):=
 match xr (s5 (s.hp.take dw.length)) dw (s.hp.take dw.length)with
 |some (p,y)=>(match Dq (s5 (s.hp.take dw.length)) qh (eR.map s.tmps)with
  |some (q,x)=>some (p++q,(x,y))
  |none=>none)
 |none=>none
theorem Fg(aK:Γ.Ok){eR:List Nat}{qh:List Sh}{dw:List mh}{s:AS Unit}{cs:List Prop}{z:TS qh×TO dw}(h:L2 eR qh dw s=some (cs,z))(hc:eM cs)(h0:Γ.mU.length<=dw.length)(dL:(QX dw.length qh&&L1 dw.length dw)=true):cW Γ s (QY eR qh dw z):=by unfold L2 at h;split at h;rename_i p y h1;split at h;(rename_i q x h2;simp only[aug,auk]at h;obtain⟨rfl,rfl⟩:=h;rw[bU]at hc;obtain⟨h3,h4⟩:=uy (lens':=[]) h1 hc.1;have h5:=H9 h2 hc.2;rw[<-h4]at h3 h5;rw[aul]at dL;obtain⟨f,hp,g⟩:=s;have w1:cW Γ ⟨f,hp,g⟩ ⟨wj eR (yD (ie dw y) qh x),hp,g⟩:=cW.eR (Ik h5);have h6:fu hp (pw (ie dw y) dw y++hp.drop dw.length):=by have:=fu.append h3 (fu.refl (hp.drop dw.length));rwa [avi]at this);have w2:=w1.trans (cW.aeX h6);refine w2.trans (cW.cut aK dw.length h0 (λt=>.inr rfl) (Dz (Oq dL.1)) ?_ (Ff dL.2));have:=uB (lens:=ie dw y) (l:=dw) (t:=y);rw[<-this,av7];cases h;cases h
def aI(τ:Type)(x0:τ)(body:τ->(τ->Prop)->Prop):Prop:=∃(β:Type)(E:β->τ)(I:β->Prop)(μ:β->Nat)(b0:β),x0=E b0/\I b0/\∀b,I b->body (E b) (λy=>∃b',y=E b'/\I b'/\μ b' < μ b)
theorem aI.intro{τ:Type}{x0:τ}{body:τ->(τ->Prop)->Prop}{β:Type}(E:β->τ)(I:β->Prop)(μ:β->Nat)(b0:β)(h0:x0=E b0)(hI:I b0)(h:∀b,I b->∀again:τ->Prop,(∀b',I b'->μ b' < μ b->again (E b'))->body (E b) again):aI τ x0 body:=⟨β,E,I,μ,b0,h0,hI,λb hb=>h b hb _ λb' h1 h2=>⟨b',rfl,h1,h2⟩⟩
def gB(Γ:Env Unit)(c:Code)(Q:Exit->AS Unit->Prop)(s:AS Unit):Prop:=
 ∀a w η,Rel Γ s a w η->∀(f:Frame)(k:List Item)(cs:List Frame),f.roundOf=Γ.fR.round->Γ.fR.fn f.fn->Γ.fR.room (cs.length+1+0)->
  ∃e a' w',(∃s' bh,Q e s'/\Rel Γ s' a' w' bh)/\ArrivesIn (Machine.fenced Γ.P Γ.fR) Γ.P (lone (f.atR a (.code c :: .inLoop c::k)) cs w) f k cs e a' w'
theorem gB.Uk{c:Code}{Q:Exit->AS Unit->Prop}(h:gu Γ c (sH (gB Γ c Q) Q) s):gB Γ c Q s:=by intro a w η hr f k cs sk hf fp;obtain⟨e,we,wg,⟨s',bh,hq,gM⟩,gZ⟩:=h a w η hr f (.inLoop c::k) cs sk hf fp;cases e with|normal=>obtain⟨aeS,aeT,aeU,Ub,E6⟩:=hq we wg bh gM f k cs sk hf fp;exact⟨aeS,aeT,aeU,Ub,.of_steps (StepsIn.trans gZ (.one (fenced_calm hf fp rfl) stepR_inLoop)) E6⟩|exit id=>exact⟨_,we,wg,⟨s',bh,hq,gM⟩,.pass (x:=.inLoop c) rfl (λ_ _=>.inl (by simp)) gZ⟩|goto l=>exact⟨_,we,wg,⟨s',bh,hq,gM⟩,.pass (x:=.inLoop c) rfl (λ_ _=>.inl (by simp)) gZ⟩|ret=>exact⟨_,we,wg,⟨s',bh,hq,gM⟩,.pass (x:=.inLoop c) rfl (λ_ _=>.inl (by simp)) gZ⟩|panic ch=>exact⟨_,we,wg,⟨s',bh,hq,gM⟩,.pass (x:=.inLoop c) rfl (λ_ _=>.inl (by simp)) gZ⟩|outgrown=>exact⟨_,we,wg,⟨s',bh,hq,gM⟩,.pass (x:=.inLoop c) rfl (λ_ _=>.inl (by simp)) gZ⟩
theorem gB.ss{c:Code}{Q:Exit->AS Unit->Prop}(hw:cW Γ s s')(h:gB Γ c Q s'):gB Γ c Q s:=λa w η hr=>let ⟨bh,gM⟩:=hw a w η hr;h a w bh gM
theorem gB.loop{c:Code}{Q:Exit->AS Unit->Prop}{β:Type}(I:β->Prop)(st:β->AS Unit)(μ:β->Nat)(round:∀b,I b->gu Γ c (sH (λs'=>∃b',I b'/\cW Γ s' (st b')/\μ b' < μ b) Q) (st b)):∀(n:Nat)(b:β),I b->μ b=n->gB Γ c Q (st b):=by intro n;induction n using Nat.strongRecOn with|_ n ih=>intro b hIb hb;refine gB.Uk ((round b hIb).mono λe s' h=>?_);cases e with|normal=>obtain⟨b',ZL,hw,aE⟩:=h;exact gB.ss hw (ih (μ b') (hb▸aE) b' ZL rfl)|_=>exact h
theorem gu.Il{c:Code}{Q:Exit->AS Unit->Prop}(h:gB Γ c Q s):gu Γ (.loop c) Q s:=by intro a w η hr f k cs sk hf fp;obtain⟨e,a',w',hq,gZ⟩:=h a w η hr f k cs sk hf fp;exact⟨e,a',w',hq,.of_steps (.one (fenced_calm hf fp rfl) stepR_loop) gZ⟩
def ofC:AV->yC
 | .ay (.int k _)=>.i k| .ay (.bool _)=>.b| .ay (.string _)=>.s| .ay (.slice none 0 0)=>.l| .sl _=>.l| .clip _=>.c| .eo (.i _)=>.m| .eo (.s _)=>.ms| .own r _=>.o r| .ptr r o=>.k (.ptr r o)| .mp r=>.k (.mp r)| .bw f cs=>.k (.bw f cs)| .fn _=>.fn|_=>.k .top
def ahn:List AV->List yC
 | []=>[]|x::l=>ofC x::ahn l
def ofV:AV->uo
 | .agg cs=>.a (ahn cs)|x=>.c (ofC x)
def aeZ:List AV->List uo
 | []=>[]|x::l=>ofV x::aeZ l
def ofS:AV->Sh
 | .aG vs=>.t (aeZ vs)| .bw f vs=>.f f (aeZ vs)|x=>.v (ofV x)
def amN:AV->yC
 | .ay (.slice none 0 0)=>.k (.ay (.slice none 0 0))|x=>ofC x
def adw:List AV->List yC
 | []=>[]|x::l=>amN x::adw l
def ofO:ax->mh
 | .dead=>.dead| .box cs=>.box (adw cs)| .row e size _=>.row e size| .aW e size _=>.aW e size| .cJ (.i _)=>.cJ| .cJ (.s _)=>.eZ| .jq r _=>.jq r| .fC e _ _=>.fC e
def QZ:List ax->List mh
 | []=>[]|o::l=>ofO o::QZ l
def sL:List Nat->AS Unit->AS Unit
 | [],s=>s|r::l,s=>(match s.hp[r]? with|some (.cJ es)=>sL l ⟨λt=>Tt r es (s.tmps t),s.hp.set r .dead,s.g⟩|some (.aW e size els)=>sL l ⟨s.tmps,s.hp.set r (.row e size els),s.g⟩|_=>sL l s)
theorem cW.Q0(aK:Γ.Ok){f:Nat->AV}{g:Unit}{r e size:Nat}{els:List AV}(hr:hp[r]?=some (.aW e size els)):cW Γ ⟨f,hp,g⟩ ⟨f,hp.set r (.row e size els),g⟩:=by
 intro a w η h;have aE:r<η.length:=by have:=h.heap.len;simp only at this;rw[this];exact(auh.1 hr).1
 have hv:η[r]?=some η[r]:=by simp[aE]
 obtain⟨hz,xs,eH,fD⟩:=h.heap.obj r _ _ hr hv;have fL:η.set r η[r]=η:=by apply avb;intro i;by_cases hi:r=i;subst hi;rw[aD hv,hv];rw[getElem?_set_ne hi]
 have hd:=Rel.change (w':=w) (o':=.row e size els) (v':=η[r]) aK h hr ai hv (cy.refl _ w) (λb hb=>.inl hb) (λk hk=>hk.elim) (λ_ _ _ _ hk _=>hk.elim) (λ_ _ _ _ hk _=>hk.elim)
  (λn u ho=>by
   unfold bk at ho ⊢;simp only[hr]at ho;rw[fL];simp only[aD hr]
   exact ho) (λ_ _=>rfl) (λ_ _=>rfl) (λb' d fX hd=>by obtain⟨cur,h5⟩:=eH.lt fX;rw[h5]at hd;cases hd)
  (λhe=>⟨hz,xs,eH.more (aus _),λi el hi=>⟨(fD i el hi).1,λj x hj=>let ⟨u,q1,q2,q3⟩:=(fD i el hi).2 j x hj;⟨u,q1,q2.ext he.nv.ext,q3⟩⟩⟩)
 rw[fL]at hd;exact⟨η,hd⟩
theorem km(aK:Γ.Ok):∀(l:List Nat)(s:AS Unit),cW Γ s (sL l s)
 | [],s=>.refl s|r::l,s=>by simp only[sL];split;rename_i es hr;exact(cW.frz aK hr).trans (km aK l _);rename_i e size els hr;exact(cW.Q0 aK hr).trans (km aK l _);exact km aK l s
structure kM where
 key:Nat
 live:List (Nat×Option Sh)
 rows:List (Nat×Nat):=[]
 aho:List (Nat×Nat):=[]
 mr:List (Nat×Nat×Nat):=[]
 dw:List (Nat×mh):=[]
 ahp:Bool:=false
 Q0:List Nat:=[]
 mv:List (Nat×Nat):=[]
 prm:List Sh:=[]
 mb:Bool:=false
def Ot(s:AS Unit):List (Nat×Option Sh)->List Sh
 | []=>[]|(_,some sh)::l=>sh::Ot s l|(t,none)::l=>ofS (s.tmps t)::Ot s l
def slotsOf:List (Nat×Option Sh)->List Nat
 | []=>[]|(t,_)::l=>t::slotsOf l
def DA:List (Nat×mh)->List mh->List mh
 | [],l=>l|(r,o)::m,l=>DA m (l.set r o)
def te(tab:Nat->Option TD):List (Nat×Nat)->AS Unit->Option (AS Unit)
 | [],s=>some s|(t,e)::l,s=>(match s.tmps t,tab e with| .ay (.slice none 0 0),some d=>(match Nat.blt 0 d.size with|true=>te tab l ⟨Cp s.tmps t (.own s.hp.length 0),s.hp++[.row e d.size []],s.g⟩|false=>none)| .own _ _,some _=>te tab l s|_,_=>none)
theorem rV(aK:Γ.Ok){tab:Nat->Option TD}:∀{l:List (Nat×Nat)}{s s':AS Unit},te tab l s=some s'->cW Γ s s'
 | [],s,s',h=>by simp only[te,aug]at h;subst h;exact .refl _|(t,e)::l,s,s',h=>by simp only[te]at h;split at h;rename_i d ht hd;split at h;rename_i cP;exact(cW.row aK t e d.size (auI (show Nat.ble (0+1) d.size=true from cP)) ht).trans (rV aK h);cases h;exact rV aK h;cases h
def rW(tab:Nat->Option TD):List (Nat×Nat)->AS Unit->Option (AS Unit)
 | [],s=>some s|(t,e)::l,s=>(match s.tmps t,tab e with| .ay (.slice none 0 0),some d=>(match Nat.blt 0 d.size with|true=>rW tab l ⟨Cp s.tmps t (.own s.hp.length 0),s.hp++[.aW e d.size []],s.g⟩|false=>none)| .own _ _,some _=>rW tab l s|_,_=>none)
theorem th(aK:Γ.Ok){tab:Nat->Option TD}:∀{l:List (Nat×Nat)}{s s':AS Unit},rW tab l s=some s'->cW Γ s s'
 | [],s,s',h=>by simp only[rW,aug]at h;subst h;exact .refl _|(t,e)::l,s,s',h=>by simp only[rW]at h;split at h;rename_i d ht hd;split at h;rename_i cP;exact(cW.SU (M:=true) aK t e d.size (auI (show Nat.ble (0+1) d.size=true from cP)) ht).trans (th aK h);cases h;exact th aK h;cases h
def ng(M:Bool)(tab:Nat->Option TD):List (Nat×Nat×Nat)->AS Unit->Option (AS Unit)
 | [],s=>some s|(r,k,e)::l,s=>(match s.hp[r]?,tab (e % 1000000)with|some (.box cs),some d=>(match cs[k]? with|some (.ay (.slice none 0 0))=>(match Nat.blt 0 d.size with|true=>ng M tab l ⟨s.tmps,s.hp.set r (.box (cs.set k (.own s.hp.length 0)))++[fM (M||Nat.ble 1000000 e) (e % 1000000) d.size []],s.g⟩|false=>none)|some (.own _ _)=>ng M tab l s|_=>none)|_,_=>none)
theorem mu(aK:Γ.Ok){M:Bool}{tab:Nat->Option TD}:∀{l:List (Nat×Nat×Nat)}{s s':AS Unit},ng M tab l s=some s'->cW Γ s s'
 | [],s,s',h=>by simp only[ng,aug]at h;subst h;exact .refl _|(r,k,e)::l,s,s',h=>by simp only[ng]at h;split at h;rename_i cs d hb hd;split at h;rename_i hk;split at h;rename_i cP;exact(cW.aed aK r k (e % 1000000) d.size (auI (show Nat.ble (0+1) d.size=true from cP)) hb hk).trans (mu aK h);cases h;exact mu aK h;cases h;cases h
def Im:List (Nat×Nat)->AS Unit->List Prop×AS Unit
 | [],s=>([],s)|p::l,s=>(match Nat.ble 1000000 p.1 with|true=>(((s.tmps p.2).bZ s.hp).1++(Im l ⟨Cp s.tmps p.2 ((s.tmps p.2).bZ s.hp).2,s.hp,s.g⟩).1,(Im l ⟨Cp s.tmps p.2 ((s.tmps p.2).bZ s.hp).2,s.hp,s.g⟩).2)|false=>Im l s)
theorem Fh(aK:Γ.Ok):∀(l:List (Nat×Nat))(s:AS Unit),eM (Im l s).1->cW Γ s (Im l s).2
 | [],s,_=>.refl s|p::l,s,h=>by simp only[Im]at h ⊢;split at h;rename_i hp;simp only[bU]at h;refine cW.trans (λa w η hr=>?_) (Fh aK l _ h.2);refine⟨η,hr.nt,λu=>?_,hr.heap,hr.cu,hr.keeps,hr.inv,hr.marks,hr.ext⟩;show bo w _ _ _ (Cp s.tmps p.2 _ u) _;rw[gW];split;rename_i hu;subst hu;rw[<-dy h.1];exact(fN hr.heap hr.cu (hr.tmps _)).lift;exact hr.tmps u;rename_i hp;exact Fh aK l s h
def Ul(mv:List (Nat×Nat))(eR:List Nat)(qh:List Sh)(dw:List mh)(again:TS qh×TO dw->Prop)(Q:Exit->AS Unit->Prop):Exit->AS Unit->Prop
 | .normal,s=>gO (Im mv (mvS mv s)).1 (match L2 eR qh dw (Im mv (mvS mv s)).2 with|some (p,z)=>gO p (again z)|none=>False)|e,s=>Q e s
def AG(n0:Nat)(mv:List (Nat×Nat))(eR:List Nat)(qh:List Sh)(dw:List mh)(body:(Exit->AS Unit->Prop)->AS Unit->Prop)(Q:Exit->AS Unit->Prop)(s:AS Unit):Prop:=
 match Nat.ble n0 dw.length&&(QX dw.length qh&&L1 dw.length dw)&&ZK n0 mv with
 |false=>False
 |true=>(match L2 eR qh dw s with
  |some (p,z)=>gO p (aI (TS qh×TO dw) z λz again=>body (Ul mv eR qh dw again Q) (QY eR qh dw z))
  |none=>False)
def Um(l:List Nat)(Q:Exit->AS Unit->Prop)(e:Exit)(s:AS Unit):Prop:=
 match l with
 | []=>Q e s
 |_=>Q e (sL l s)
theorem gB.rX{c:Code}{Q Q':Exit->AS Unit->Prop}(h:gB Γ c Q s)(hq:∀e s,Q e s->∃s2,cW Γ s s2/\Q' e s2):gB Γ c Q' s:=
 λa w η hr f k cs h1 h2 h3=>by
  obtain⟨e,a',w',⟨s',bh,q1,q2⟩,q3⟩:=h a w η hr f k cs h1 h2 h3;obtain⟨s2,hw,q4⟩:=hq e s' q1;obtain⟨yT,q5⟩:=hw _ _ _ q2;exact⟨e,a',w',⟨s2,yT,q4,q5⟩,q3⟩
theorem gB.Q0(aK:Γ.Ok){c:Code}{l:List Nat}{Q:Exit->AS Unit->Prop}(h:gB Γ c (Um l Q) s):gB Γ c Q s:=
 h.rX λe s' hq=>by
  unfold Um at hq;split at hq
  ·exact⟨_,.refl _,hq⟩
  ·exact⟨_,km aK _ _,hq⟩
def AH(tab:Nat->Option TD)(n0:Nat)(A:kM)(body:(Exit->AS Unit->Prop)->AS Unit->Prop)(Q:Exit->AS Unit->Prop)(s:AS Unit):Prop:=
 match te tab A.rows s with
 |none=>False
 |some s0=>(match rW tab A.aho s0 with
  |none=>False
  |some s1=>(match ng A.mb tab A.mr s1 with
   |none=>False
   |some s2=>AG n0 A.mv (slotsOf A.live) (Ot s2 A.live) (DA A.dw (QZ s2.hp)) body (Um A.Q0 Q) s2))
theorem AG.sound(aK:Γ.Ok){n0:Nat}(nY:Γ.mU.length=n0){mv:List (Nat×Nat)}{eR:List Nat}{qh:List Sh}{dw:List mh}{c:Code}{body:(Exit->AS Unit->Prop)->AS Unit->Prop}{Q:Exit->AS Unit->Prop}{s:AS Unit}(hb:∀Q s,body Q s->gu Γ c Q s)(h:AG n0 mv eR qh dw body Q s):gB Γ c Q s:=by unfold AG at h;split at h;exact h.elim;(rename_i LW;rw[aul,aul]at LW;obtain⟨LW,Sl⟩:=LW;rw[<-nY]at Sl;have hn:Γ.mU.length<=dw.length:=by rw[nY];exact auI LW.1);split at h;rename_i p z hz;rw[bF]at h;obtain⟨hp,β,E,I,μ,b0,Si,hI,hr⟩:=h;have hw:=Fg aK hz hp hn LW.2;rw[Si]at hw;refine gB.ss hw (gB.loop I (λb=>QY eR qh dw (E b)) μ (λb hIb=>?_) _ b0 hI rfl);refine(hb _ _ (hr b hIb)).mono λe s1 h1=>?_;(cases e with|normal=>simp only[Ul]at h1;rw[bF]at h1;obtain⟨hd1,h1⟩:=h1;split at h1;rename_i p1 z1 Zl;rw[bF]at h1;obtain⟨jW,b',fX,ZL,aE⟩:=h1;have Lx:=((Ug aK mv s1 Sl).trans (Fh aK mv _ hd1)).trans (Fg aK Zl jW hn LW.2);rw[fX]at Lx;exact⟨b',ZL,Lx,aE⟩;exact h1.elim|_=>exact h1);exact h.elim
theorem AH.sound(aK:Γ.Ok){tab:Nat->Option TD}{n0:Nat}(nY:Γ.mU.length=n0){A:kM}{c:Code}{body:(Exit->AS Unit->Prop)->AS Unit->Prop}{Q:Exit->AS Unit->Prop}{s:AS Unit}(hb:∀Q s,body Q s->gu Γ c Q s)(h:AH tab n0 A body Q s):gB Γ c Q s:=by unfold AH at h;split at h;exact h.elim;rename_i s0 h0;split at h;exact h.elim;rename_i s1 h1;split at h;exact h.elim;rename_i s2 h2;exact gB.ss (((rV aK h0).trans (th aK h1)).trans (mu aK h2)) ((AG.sound aK nY hb h).Q0 aK)
def my:Code->Option Nat
 | .region id _ _=>some id| .seq x y=>(match my x with|some k=>some k|none=>my y)| .cond _ x y=>(match my x with|some k=>some k|none=>my y)| .block _ x=>my x| .loop x=>my x| .rangeFunc _ _ x y=>(match my x with|some k=>some k|none=>my y)|_=>none
def Ou:List kM->Nat->Option kM
 | [],_=>none|A::l,k=>(match Nat.beq A.key k with|true=>some A|false=>Ou l k)
def fO(τ α:Type)(y0:τ)(S:List α->Prop)(round:α->τ->(τ->Prop)->Prop)(after:τ->Prop):Prop:=∃(Ls:List α)(I:List α->τ->Prop),S Ls/\I Ls y0/\(∀e rest y,I (e::rest) y->round e y (I rest))/\∀y,I [] y->after y
def kU(P:Program)(gf:Nat)(caps:List AV)(prm:List Sh)(Ls:List (TS prm)):Prop:=vO P gf (λv=>v::caps) (Ls.map λe=>yD [] prm e) false
def Fi(dw:List mh)(again:TO dw->Prop)(Q:Exit->AS Unit->Prop)(f:Nat->AV):Exit->AS Unit->Prop
 | .normal,s=>(match xr (s5 (s.hp.take dw.length)) dw (s.hp.take dw.length)with|some (p,y)=>gO p (again y)|none=>False)| .ret,s=>Q .ret ⟨f,s.hp,()⟩| .exit id,s=>Q (.exit id) ⟨f,s.hp,()⟩|_,_=>False
def psB(nt:Nat):List Nat->Bool
 | []=>true|p::l=>Nat.blt p nt&&psB nt l
theorem Un{nt:Nat}:∀{l:List Nat},psB nt l=true->∀p∈l,p<nt
 | [],_,p,hp=>by cases hp|q::l,h,p,hp=>by simp only[psB,aul]at h;rcases auJ.1 hp with rfl|hp;exact auI (show Nat.ble (p+1) nt=true from h.1);exact Un h.2 p hp
def uC(C:dQ)(n0:Nat)(dw:List mh)(prm:List Sh)(g:Operand)(ps:Array Tmp)(AB body:(Exit->AS Unit->Prop)->AS Unit->Prop)(Q:Exit->AS Unit->Prop)(s:AS Unit):Prop:=
 match s.ev g with
 | .bw gf caps=>(match psB C.nt ps.toList&&(Nat.beq ps.toList.length prm.length&&(Nat.ble n0 dw.length&&(Nat.beq dw.length s.hp.length&&L1 dw.length dw)))with
  |false=>False
  |true=>(match xr (s5 s.hp) dw s.hp with
   |some (p,y)=>gO p (gO (cZ (AV.mj 0 (pw (ie dw y) dw y)) caps).1 (fO (TO dw) (TS prm) y (λLs=>kU C.P gf (cZ (AV.mj 0 (pw (ie dw y) dw y)) caps).2 prm Ls)
     (λe y again=>AB (sH (body (Fi dw again Q s.tmps)) noQ) ⟨uz ps.toList (yD [] prm e) s.tmps,pw (ie dw y) dw y,()⟩)
     (λy=>Q .normal ⟨s.tmps,pw (ie dw y) dw y,()⟩)))
   |none=>False))
 |_=>False
def AI(C:dQ)(A:kM)(n0:Nat)(g:Operand)(ps:Array Tmp)(AB body:Nat->(Exit->AS Unit->Prop)->AS Unit->Prop)(Q:Exit->AS Unit->Prop)(s:AS Unit):Prop:=
 match ng A.mb C.tab A.mr s with
 |none=>False
 |some s1=>uC C n0 (DA A.dw (QZ s1.hp)) A.prm g ps (AB (DA A.dw (QZ s1.hp)).length) (body (DA A.dw (QZ s1.hp)).length) Q s1
theorem Io:∀{l:List Sh}{t:TS l},(yD [] l t).length=l.length
 | [],_=>rfl|_::l,t=>by simp[yD,Io (l:=l)]
theorem uC.sound(aK:Γ.Ok)(ic:Γ.K1){C:dQ}(hP:C.P=Γ.P)(fE:C.nt=Γ.nt){n0:Nat}(nY:Γ.mU.length=n0){dw:List mh}{prm:List Sh}{g:Operand}{ps:Array Tmp}{ca cb:Code}{AB body:(Exit->AS Unit->Prop)->AS Unit->Prop}{Q:Exit->AS Unit->Prop}{s:AS Unit}(ha:∀mM,iZ Γ dw.length mM->∀Q s,AB Q s->gu mM ca Q s)(hb:∀mM,iZ Γ dw.length mM->∀Q s,body Q s->gu mM cb Q s)(h:uC C n0 dw prm g ps AB body Q s):gu Γ (.rangeFunc g ps ca cb) Q s:=by unfold uC at h;split at h;rename_i gf caps hg;split at h;exact h.elim;rename_i LW;simp only[aul]at LW;obtain⟨YH,Sk,hle,hln,dL⟩:=LW;have ar1:=auG hln;split at h;rename_i p y hy;rw[bF,bF]at h;obtain⟨hp,ahq,Ls,I,hS,hI,s7,ae0⟩:=h;obtain⟨f,amP,gg⟩:=s;obtain⟨h3,h4⟩:=uy (lens':=[]) hy hp;rw[<-h4]at h3;have hw:cW Γ ⟨f,amP,gg⟩ ⟨f,pw (ie dw y) dw y,()⟩:=cW.aeX h3;refine gu.ss hw ?_;have ae1:caps.map (AV.sX 0 (pw (ie dw y) dw y))=(cZ (AV.mj 0 (pw (ie dw y) dw y)) caps).2:=cE (λx=>qR) _ ahq;refine gu.range (s:=⟨f,pw (ie dw y) dw y,()⟩) aK ic (gf:=gf) (caps:=caps) (L:=Ls.map λe=>yD [] prm e) hg (by rw[ae1,<-hP];exact hS) (λx hx=>?_) (λq hq=>by rw[<-fE];exact Un YH q hq) (λrest hp=>∃Uo y,rest=Uo.map (λe=>yD [] prm e)/\I Uo y/\hp=pw (ie dw y) dw y) ⟨Ls,y,rfl,hI,rfl⟩ (λx rest hp ⟨Uo,y',he,ZL,HE⟩=>?_) λhp ⟨Uo,y',he,ZL,HE⟩=>?_;obtain⟨e,_,rfl⟩:=avg.1 hx;rw[Io,<-auG Sk];simp;(cases Uo with|nil=>cases he|cons e Uo=>simp only[auL,List.cons.injEq]at he;obtain⟨rfl,rfl⟩:=he;subst HE;have yU:(pw (ie dw y') dw y').length=dw.length:=uB;refine⟨λs1=>body (Fi dw (I Uo) Q f) s1,λmM L3=>?_,λs1 hs1 mM L3=>?_⟩;rw[yU]at L3;exact ha mM L3 _ _ (s7 e Uo y' ZL);rw[yU]at L3;refine(hb mM L3 _ _ hs1).mono λe s2 hq=>?_;cases e with|normal=>simp only[Fi]at hq;split at hq;(rename_i p2 y2 hy2;rw[bF]at hq;obtain⟨k3,k4⟩:=uy (lens':=[]) hy2 hq.1;rw[<-k4]at k3;refine⟨pw (ie dw y2) dw y2,?_,Uo,y2,rfl,hq.2,rfl⟩;obtain⟨f2,yp,g2⟩:=s2;have h6:fu yp (pw (ie dw y2) dw y2++yp.drop dw.length):=by have:=fu.append k3 (fu.refl (yp.drop dw.length));rwa [avi]at this);refine(cW.aeX (Γ:=mM) (f:=f2) (g:=g2) h6).trans (cW.cut L3.ok dw.length (by rw[L3.h0];exact aum _) Sub.nil qe.nil ?_ (Ff dL));have:=uB (lens:=ie dw y2) (l:=dw) (t:=y2);rw[<-this,av7];exact hq.elim|ret=>exact hq|exit id=>exact hq|_=>exact hq.elim);(cases Uo with|nil=>subst HE;exact ae0 y' ZL|cons e Uo=>cases he);exact h.elim;exact h.elim
theorem AI.sound(aK:Γ.Ok)(ic:Γ.K1){C:dQ}(hP:C.P=Γ.P)(fE:C.nt=Γ.nt){A:kM}{n0:Nat}(nY:Γ.mU.length=n0){g:Operand}{ps:Array Tmp}{ca cb:Code}{AB body:Nat->(Exit->AS Unit->Prop)->AS Unit->Prop}{Q:Exit->AS Unit->Prop}{s:AS Unit}(ha:∀n mM,iZ Γ n mM->∀Q s,AB n Q s->gu mM ca Q s)(hb:∀n mM,iZ Γ n mM->∀Q s,body n Q s->gu mM cb Q s)(h:AI C A n0 g ps AB body Q s):gu Γ (.rangeFunc g ps ca cb) Q s:=by unfold AI at h;split at h;exact h.elim;rename_i s1 h1;exact gu.ss (mu aK h1) (uC.sound aK ic hP fE nY (λmM hr=>ha _ mM hr) (λmM hr=>hb _ mM hr) h)
def ahr:List (Nat×ox)->Nat->Option ox
 | [],_=>none|p::l,k=>(match Nat.beq p.1 k with|true=>some p.2|false=>ahr l k)
def hcD(l:List (Nat×List Nat))(id:Nat):List Nat:=
 match ag8 l id with
 |some p=>p
 |none=>[]
def drD(l:List (Nat×List (Option (List Nat))×List (Option (List Nat))))(id:Nat):List (Option (List Nat))×List (Option (List Nat)):=
 match ag9 l id with
 |some p=>p
 |none=>([],[])
def fb(C:dQ)(L:List kM):Code->Nat->Bool->(Exit->AS Unit->Prop)->AS Unit->Prop
 | .skip,n0,fr,Q,s=>Q .normal s| .region id ops draw,n0,fr,Q,s=>(match draw with
  |false=>H7 C id ops.toList (Q .normal) s|true=>(match ahr C.br id with
  |some pl=>okB (Nat.ble pl.depth ops.toList.length) (jb C (hcD C.hc id) ops.toList (zX ops.toList []) (drD C.dr id).1 (drD C.dr id).2 (Q .normal) pl (s9 ops.toList) s)|none=>okB (yY (bW (hcD C.hc id)) (drD C.dr id).1 (drD C.dr id).2 ops.toList) (sK C (hcD C.hc id) ops.toList (drD C.dr id).1 (drD C.dr id).2 (Q .normal) 0 ops.toList s)))
 | .seq x y,n0,fr,Q,s=>fb C L x n0 fr (sH (fb C L y n0 fr Q) Q) s| .cond c x y,n0,fr,Q,s=>(match s.ev c with| .ay (.bool b)=>aA b (fb C L x n0 fr Q s) (fb C L y n0 fr Q s)|_=>False)| .block id c,n0,fr,Q,s=>fb C L c n0 fr (zU id Q) s| .loop c,n0,fr,Q,s=>(match my c with|some k=>(match Ou L k with|some A=>(match A.ahp with|false=>AH C.tab n0 A (fb C L c n0 fr) Q s|true=>fb C L c n0 fr (sH (AH C.tab n0 A (fb C L c n0 fr) Q) Q) s)|none=>False)|none=>False)| .rangeFunc g ps AB body,n0,fr,Q,s=>(match fr with|true=>(match my body with|some k=>(match Ou L k with|some A=>AI C A n0 g ps (λn=>fb C L AB n false) (λn=>fb C L body n false) Q s|none=>False)|none=>False)|false=>False)| .exit id,n0,fr,Q,s=>Q (.exit id) s| .label _,n0,fr,Q,s=>Q .normal s| .ret,n0,fr,Q,s=>Q .ret s|_,_,_,_,_=>False
theorem L4{N N':AS Unit->Prop}{Q:Exit->AS Unit->Prop}(h:∀s,N s->N' s)(e:Exit)(s:AS Unit)(hq:sH N Q e s):sH N' Q e s:=by cases e with|normal=>exact h s hq|_=>exact hq
theorem fb.sound{C:dQ}(hm:C.P.follows .mixedOrders=true){L:List kM}:∀(c:Code)(Γ:Env Unit)(_:Γ.Ok)(_:C.P=Γ.P)(_:bp Γ.P C.tab)(_:C.nt=Γ.nt)(n0:Nat)(_:Γ.mU.length=n0)(fr:Bool)(_:fr=true->Γ.K1)(Q:Exit->AS Unit->Prop)(s:AS Unit),fb C L c n0 fr Q s->gu Γ c Q s:=by
 intro c;induction c with
  |skip=>intro Γ aK hP aB fE n0 nY fr sy Q s h;exact gu.skip h|region id ops draw=>(intro Γ aK hP aB fE n0 nY fr sy Q s h;have e:ops=ops.toList.toArray:=by simp);simp only[fb]at h;rw[e];split at h;intro a w η hr;exact wpIn_region_lit (H7.sound aK hP aB fE h a w η _ (λs' a' w' bh h1 h2=>⟨s',bh,h1,h2⟩) hr);split at h;obtain⟨hd,h⟩:=cU h;exact gu.ahl aK hP aB fE (by rw[<-hP];exact hm) hd h;obtain⟨hd,h⟩:=cU h;exact gu.agU aK (by rw[<-hP];exact hm) _ _ hd (sK.sound aK hP aB fE _ 0 s h)|seq x y ihx ihy=>intro Γ aK hP aB fE n0 nY fr sy Q s h;refine gu.alZ λK hK=>(ihx Γ aK hP aB fE n0 nY fr sy _ s h).mono λe s' hq=>?_;exact L4 (λs'' h''=>hK s'' (ihy Γ aK hP aB fE n0 nY fr sy _ s'' h'')) e s' hq|cond c x y ihx ihy=>intro Γ aK hP aB fE n0 nY fr sy Q s h;simp only[fb]at h;split at h;rename_i b hb;exact gu.agI hb (λht=>ihx Γ aK hP aB fE n0 nY fr sy _ s (h.elim.1 ht)) λht=>ihy Γ aK hP aB fE n0 nY fr sy _ s (h.elim.2 ht);exact h.elim|block id c ih=>intro Γ aK hP aB fE n0 nY fr sy Q s h;exact gu.block (ih Γ aK hP aB fE n0 nY fr sy _ s h)|loop c ih=>
   intro Γ aK hP aB fE n0 nY fr sy Q s h;simp only[fb]at h;split at h;split at h
   ·split at h;exact gu.Il (AH.sound aK nY (ih Γ aK hP aB fE n0 nY fr sy) h)
    ·exact gu.Il (gB.Uk ((ih Γ aK hP aB fE n0 nY fr sy _ s h).mono λe s' hq=>by cases e with|normal=>exact AH.sound aK nY (ih Γ aK hP aB fE n0 nY fr sy) hq|_=>exact hq))
   exact h.elim;exact h.elim
  |rangeFunc g ps AB body iha ihb=>intro Γ aK hP aB fE n0 nY fr sy Q s h;simp only[fb]at h;split at h;split at h;split at h;refine AI.sound aK (sy rfl) hP fE nY (λn mM hr Q s h=>?_) (λn mM hr Q s h=>?_) h;exact iha mM hr.ok (by rw[hr.hP,hP]) (by rw[hr.hP];exact aB) (by rw[hr.nt,fE]) n hr.h0 false (λh=>by cases h) _ s h;exact ihb mM hr.ok (by rw[hr.hP,hP]) (by rw[hr.hP];exact aB) (by rw[hr.nt,fE]) n hr.h0 false (λh=>by cases h) _ s h;exact h.elim;exact h.elim;exact h.elim|exit id=>intro Γ aK hP aB fE n0 nY fr sy Q s h;exact gu.exit h|label l=>intro Γ aK hP aB fE n0 nY fr sy Q s h;exact gu.label h|ret=>intro Γ aK hP aB fE n0 nY fr sy Q s h;exact gu.ret h|_=>intro Γ aK hP aB fE n0 nY fr sy Q s h;exact h.elim
def py(k:Nat):Nat->List Nat
 |0=>[]|n+1=>k::py (k+1) n
theorem gu.rX{c:Code}{Q Q':Exit->AS Unit->Prop}(h:gu Γ c Q s)(hq:∀e s,Q e s->∃s2,cW Γ s s2/\Q' e s2):gu Γ c Q' s:=
 λa w η hr=>wpIn_mono (h a w η hr) λe a' w' ⟨s',bh,h1,h2⟩=>by
  obtain⟨s2,hw,h3⟩:=hq e s' h1;obtain⟨yT,h4⟩:=hw _ _ _ h2;exact⟨s2,yT,h3,h4⟩
def AV.AJ(hp:List ax):AV->List Prop×AV
 | .ptr r 0=>(match hp[r]? with|some (.box cs)=>((cZ (AV.jG hp) cs).1,.aV (Hu (cZ (AV.jG hp) cs).2) 0)|_=>([],.top))|x=>x.gA hp
theorem Q1{hp:List ax}{x:AV}(hc:eM (x.AJ hp).1):x.NJ hp=(x.AJ hp).2:=by
 cases x with
  |ptr r o=>
   cases o with
    |zero=>simp only[AV.NJ,AV.AJ]at hc ⊢;cases hr:hp[r]? with|none=>rfl|some o=>cases o with|box cs=>simp only[hr]at hc ⊢;rw[cE (g:=AV.eF hp) (λx=>lJ) _ hc]|_=>rfl
    |succ n=>exact jH hc
  |_=>exact jH hc
def AV.qX(hp:List ax):AV->List Prop×AV
 | .bw f cs=>((cZ (AV.AJ hp) cs).1,.bw f (cZ (AV.AJ hp) cs).2)|x=>x.bZ hp
theorem Ip{hp:List ax}{x:AV}(hc:eM (x.qX hp).1):x.rQ hp=(x.qX hp).2:=by cases x with|bw f cs=>simp only[AV.qX,AV.rQ]at hc ⊢;rw[cE (λx=>Q1) _ hc]|_=>exact dy hc
def L5(tab:Nat->Option TD)(rs:List ResultVar)(R:AV->Prop)(s:AS Unit):Prop:=
 match gd tab s rs with
 |some l=>gO ((iV l).qX s.hp).1 (R ((iV l).qX s.hp).2)
 |none=>False
def ZM(tab:Nat->Option TD)(rs:List ResultVar)(R:AV->Prop):Exit->AS Unit->Prop
 | .normal,s=>L5 tab rs R (sL (py 0 s.hp.length) s)| .ret,s=>L5 tab rs R (sL (py 0 s.hp.length) s)|_,_=>False
theorem L5.sound{tab:Nat->Option TD}{rs:List ResultVar}{R:AV->Prop}{s:AS Unit}(h:L5 tab rs R s):∃l,gd tab s rs=some l/\R ((iV l).rQ s.hp):=by unfold L5 at h;split at h;rename_i l hl;rw[bF]at h;exact⟨l,hl,by rw[Ip h.1];exact h.2⟩;exact h.elim
theorem Fj{C:dQ}(aB:bp C.P C.tab)(hm:C.P.follows .mixedOrders=true){L:List kM}{f:FuncId}{fn:Func}{c:Code}{args:List AV}{R:AV->Prop}(hf:C.P.funcs[f]?=some fn)(hb:fn.body=some c)(jB:(fn.name == "runtime.NumGoroutine")=false)(hn:Nat.ble args.length fn.ntmps=true)(fE:C.nt=fn.ntmps)(h:fb C L c 0 true (ZM C.tab fn.results.toList R) ⟨eu 0 args,[],()⟩):Pure C.P f args R:=by refine EP aB hf hb jB (auI hn) λΓ aK hP ae4 hh0 ic=>?_;refine(fb.sound hm c Γ aK hP.symm (by rw[hP];exact aB) (by rw[fE,ae4]) _ hh0 true (λ_=>ic) _ _ h).rX λe s' hq=>?_;cases e with|normal=>obtain⟨l,h1,h2⟩:=L5.sound hq;exact⟨_,km aK (py 0 s'.hp.length) s',by simp only[SQ,h1];exact h2⟩|ret=>obtain⟨l,h1,h2⟩:=L5.sound hq;exact⟨_,km aK (py 0 s'.hp.length) s',by simp only[SQ,h1];exact h2⟩|_=>exact hq.elim
def AV.DB(n:Nat)(hp:List ax)(x:AV):List Prop×AV:=
 match x.bc n with
 |true=>([],x)
 |false=>x.jG hp
def AV.DC(n:Nat)(hp:List ax):AV->List Prop×AV
 | .agg cs=>((cZ (AV.DB n hp) cs).1,.agg (cZ (AV.DB n hp) cs).2)|x=>x.DB n hp
def AV.Up(n:Nat)(hp:List ax):AV->List Prop×AV
 | .aG cs=>((cZ (AV.DC n hp) cs).1,.aG (cZ (AV.DC n hp) cs).2)|x=>x.DC n hp
theorem Iq{n:Nat}{x:AV}(hc:eM (x.DB n hp).1):x.QD n hp=(x.DB n hp).2:=by unfold AV.QD AV.DB at *;cases h:x.bc n with|true=>simp|false=>rw[h]at hc;simp only[auE,if_false];exact lJ hc
theorem Ir{n:Nat}{x:AV}(hc:eM (x.DC n hp).1):x.SY n hp=(x.DC n hp).2:=by cases x with|agg cs=>simp only[AV.DC,AV.SY]at hc ⊢;rw[cE (λx=>Iq) _ hc]|_=>exact Iq hc
theorem ZN{n:Nat}{x:AV}(hc:eM (x.Up n hp).1):x.out n hp=(x.Up n hp).2:=by cases x with|aG cs=>simp only[AV.Up,AV.out]at hc ⊢;rw[cE (λx=>Ir) _ hc]|_=>exact Ir hc
def AK(tab:Nat->Option TD)(n:Nat)(rs:List ResultVar)(R:AV->List ax->Prop)(s:AS Unit):Prop:=
 match gd tab s rs with
 |some l=>okB ((s.hp.take n).all (ax.closed n)) (gO ((iV l).Up n s.hp).1 (R ((iV l).Up n s.hp).2 (s.hp.take n)))
 |none=>False
def Ov(tab:Nat->Option TD)(n:Nat)(rs:List ResultVar)(R:AV->List ax->Prop):Exit->AS Unit->Prop
 | .normal,s=>AK tab n rs R (sL (py n (s.hp.length-n)) s)| .ret,s=>AK tab n rs R (sL (py n (s.hp.length-n)) s)|_,_=>False
theorem AK.sound{tab:Nat->Option TD}{n:Nat}{rs:List ResultVar}{R:AV->List ax->Prop}{s:AS Unit}(h:AK tab n rs R s): ∃l,gd tab s rs=some l/\(∀o∈s.hp.take n,ax.closed n o=true)/\R ((iV l).out n s.hp) (s.hp.take n):=by unfold AK at h;split at h;rename_i l hl;obtain⟨hb,h⟩:=cU h;rw[bF]at h;exact⟨l,hl,λo ho=>auB.1 hb o ho,by rw[ZN h.1];exact h.2⟩;exact h.elim
theorem yE{C:dQ}(aB:bp C.P C.tab)(hm:C.P.follows .mixedOrders=true){L:List kM}{f:FuncId}{fn:Func}{c:Code}{args:List AV}{hp:List ax}{R:AV->List ax->Prop}(m:Nat)(si:Nat.ble hp.length m=true)(hf:C.P.funcs[f]?=some fn)(hb:fn.body=some c)(jB:(fn.name == "runtime.NumGoroutine")=false)(hn:Nat.ble args.length fn.ntmps=true)(fE:C.nt=fn.ntmps)(h:fb C L c hp.length true (Ov C.tab m fn.results.toList R) ⟨eu 0 args,hp,()⟩):aZ C.P f args hp R:=by refine yz aB m (auI si) hf hb jB (auI hn) λΓ aK hP ae4 hh0 ic=>?_;refine(fb.sound hm c Γ aK hP.symm (by rw[hP];exact aB) (by rw[fE,ae4]) _ hh0 true (λ_=>ic) _ _ h).rX λe s' hq=>?_;cases e with|normal=>obtain⟨l,h1,h2,h3⟩:=AK.sound hq;exact⟨_,km aK (py m (s'.hp.length-m)) s',by simp only[SZ,h1];exact⟨h2,h3⟩⟩|ret=>obtain⟨l,h1,h2,h3⟩:=AK.sound hq;exact⟨_,km aK (py m (s'.hp.length-m)) s',by simp only[SZ,h1];exact⟨h2,h3⟩⟩|_=>exact hq.elim
def aX(l u d m s y:Int):List AV:=[.ay (.int .i64 l),.ay (.int .i64 u),.ay (.int .u32 d),.ay (.int .i32 m),.ay (.int .u32 s),.ay (.int .u32 y)]
abbrev nI(n:Int):AV:=.ay (.int .i64 n)
abbrev nB(b:Bool):AV:=.ay (.bool b)
abbrev nS(s:aw):AV:=.ay (.string s)
theorem of_eq{p q:Prop}(h:p=q)(hp:p):q:=h▸hp
end
section
variable {P:Program} {f:FuncId} {args:List AV} {hp jW:List ax} {R R':AV->List ax->Prop}
theorem L6{w:World}{F:Nat->Nat->Prop}{η:List Value}{hp:List ax}:∀{xs ys:List AV}{vs:List Value},eh xs ys->cC w F η hp xs vs->cC w F η hp ys vs
 | [],[],[],_,_=>ai|_::_,_::_,_::_,h,hr=>⟨h.1 _ _ _ _ _ hr.1,L6 h.2 hr.2⟩
theorem Pure.xw{xs ys:List AV}{R:AV->Prop}(h:eh xs ys)(hp:Pure P f ys R):Pure P f xs R:=⟨hp.1,λw F vals hF hg hv=>hp.2 w F vals hF hg (L6 h hv)⟩
theorem bX:aY (.ay (.slice none 0 0)) (.sl []):=by intro w F η hp v hv;cases hv;exact .mR _
theorem fY(l:List AV):aY (.clip l) (.sl l):=λ_ _ _ _ _ h=>h.mS
theorem aZ.xw{xs ys:List AV}(h:eh xs ys)(hf:aZ P f ys hp R):aZ P f xs hp R:=⟨hf.1,λw F η vals bz hv=>hf.2 w F η vals bz (L6 h hv)⟩
theorem aZ.res(hf:aZ P f args hp R)(h:∀r h',R r h'->∃r2,aY r r2/\R' r2 h'):aZ P f args hp R':=
 ⟨hf.1,λw F η vals bz hv=>(hf.2 w F η vals bz hv).mono λ_ _ ⟨v,r,hp',bh,h1,h2,h3⟩=>by
  obtain⟨r2,g1,g2⟩:=h r hp' h2
  exact⟨v,r2,hp',bh,h1,g2,h3.keeps,h3.ext,h3.heap,h3.cu,g1 _ _ _ _ _ h3.rep⟩⟩
end
section
variable {P:Program} {yv:Value} {J:JT} {D0:Cells} {Y0:Nat->Prop} {gL:World} {s:AS Unit} {g:Gh}
def Uq(C:dQ)(yv:Value)(o:Oper)(s:AS Unit)(g:Gh)(next:AS Unit->Gh->Prop):Option Prop:=
 match o.guard,o.op with
 |none,.call c=>(match c.callee with
  | .value x=>(match s.ev x with
   | .fn v=>some (v=yv/\gO (cZ (AV.mj 0 s.hp) (c.args.toList.map s.ev)).1 (∃more:List (List AV),g=some ((cZ (AV.mj 0 s.hp) (c.args.toList.map s.ev)).2::more)/\∀b:Bool,next (s.put o.dst (.ay (.bool b))) (gT b more)))
   | .bw f caps=>(match C.sig f o.type with
    | .y kind=>some (gO (cZ (AV.mj 0 s.hp) (c.args.toList.map s.ev++caps)).1 (∃(A:AV->List AV)(L more:List (List AV)),(cZ (AV.mj 0 s.hp) (c.args.toList.map s.ev++caps)).2=A (.fn yv)/\vO C.P f A L kind/\g=some (L++more)/\
      ∀b:Bool,next (s.put o.dst (match kind with|true=>.ay (.bool b)|false=>.top)) (gT b more)))
    |_=>none)
   |_=>none)
  |_=>none)
 |_,_=>none
theorem Uq.sound{C:dQ}(hC:Cons C.P yv J){ops:Array Oper}{K N:AS Unit->Gh->Prop}{o:Oper}{rest:List Oper}{p:Prop}(h:Uq C yv o s g N=some p)(hp:p)(hd:fq C.nt o.dst)(hn:∀s g,N s g->fS C.P J D0 Y0 gL C.nt ops K rest s g): fS C.P J D0 Y0 gL C.nt ops K (o::rest) s g:=by unfold Uq at h;split at h;rename_i c hg ho;split at h;rename_i x hx;split at h;rename_i v hv;obtain rfl:=auj h;obtain⟨rfl,hp⟩:=hp;rw[bF]at hp;obtain⟨gK,more,hgh,Dp⟩:=hp;rw[<-cE (g:=AV.sX 0 s.hp) (λx=>qR) _ gK]at hgh;exact fS.yield hC hg ho hx hv hd hgh λb=>hn _ _ (Dp b);rename_i f caps dL;split at h;rename_i kind ag5;obtain rfl:=auj h;rw[bF]at hp;obtain⟨gK,A,L,more,hA,hF,hgh,Dp⟩:=hp;rw[<-cE (g:=AV.sX 0 s.hp) (λx=>qR) _ gK]at hA;exact fS.call hC hg ho hx dL hd hF hA hgh λb=>hn _ _ (Dp b);cases h;cases h;cases h;cases h
def qi(C:dQ)(yv:Value)(l0:List Oper)(K:AS Unit->Gh->Prop):List Oper->AS Unit->Gh->Prop
 | [],s,g=>K s g|o::rest,s,g=>(match Uq C yv o s g (qi C yv l0 K rest)with|some p=>okB (Ax C.nt o.dst) p|none=>KG l0 o s (λs=>mo C o s (λs'=>qi C yv l0 K rest s' g)) (λs=>okB (Ax C.nt o.dst) (qi C yv l0 K rest (s.put o.dst (.ay (.tuple #[]))) g)))
theorem qi.sound{C:dQ}(aB:bp C.P C.tab)(hC:Cons C.P yv J){l0:List Oper}{K:AS Unit->Gh->Prop}:∀(l:List Oper)(s:AS Unit)(g:Gh),qi C yv l0 K l s g->fS C.P J D0 Y0 gL C.nt l0.toArray K l s g:=by intro l;induction l with|nil=>intro s g h;exact fS.nil h|cons o rest ih=>intro s g h;simp only[qi]at h;split at h;rename_i p hp;obtain⟨hd,h⟩:=cU h;exact Uq.sound hC hp h (nf hd) ih;have run:mo C o s (λs'=>qi C yv l0 K rest s' g)->∀Γ:Env Unit,Γ.Ok->Γ.P=C.P->Γ.nt=C.nt->Γ.mU.length=0->bT Γ o s (λs'=>qi C yv l0 K rest s' g):= λh Γ aK hP fE _=>mo.sound aK hP.symm (by rw[hP];exact aB) fE.symm h λ_ h=>h;rcases KG.cases h with⟨hg,h⟩|⟨j,want,b,hg,hb,⟨vN,h⟩|⟨vN,h⟩⟩|⟨j,want,hg,hb,h⟩;exact fS.calm (N:=qi C yv l0 K rest) (λΓ a w η _=>by simp[Region.wanted,hg]) (run h) λs' h=>ih s' g h;exact fS.calm (N:=qi C yv l0 K rest) (λΓ a w η hr=>by simp[Region.wanted,hg,eW hr hb,vN]) (run h) λs' h=>ih s' g h;obtain⟨hd,h⟩:=cU h;exact fS.skip (λΓ a w η hr=>by simp[Region.wanted,hg,eW hr hb,vN]) (nf hd) (ih _ _ h);obtain⟨hd,h⟩:=cU h;exact fS.skip (λΓ a w η hr=>by simp[Region.wanted,hg,eW hr hb]) (nf hd) (ih _ _ h)
def Ow(eR:List Nat)(qh:List Sh)(dw:List mh)(again:(TS qh×TO dw)×Gh->Prop)(Q:Exit->AS Unit->Gh->Prop):Exit->AS Unit->Gh->Prop
 | .normal,s,g=>(match L2 eR qh dw s with|some (p,z)=>gO p (again (z,g))|none=>False)|e,s,g=>Q e s g
def uD(eR:List Nat)(qh:List Sh)(dw:List mh)(body:(Exit->AS Unit->Gh->Prop)->AS Unit->Gh->Prop)(Q:Exit->AS Unit->Gh->Prop)(s:AS Unit)(g:Gh):Prop:=
 match QX dw.length qh&&L1 dw.length dw with
 |false=>False
 |true=>(match L2 eR qh dw s with
  |some (p,z)=>gO p (aI ((TS qh×TO dw)×Gh) (z,g) λz again=>body (Ow eR qh dw again Q) (QY eR qh dw z.1) z.2)
  |none=>False)
def AL(tab:Nat->Option TD)(A:kM)(body:(Exit->AS Unit->Gh->Prop)->AS Unit->Gh->Prop)(Q:Exit->AS Unit->Gh->Prop)(s:AS Unit)(g:Gh):Prop:=
 match te tab A.rows s with
 |none=>False
 |some s1=>(match ng A.mb tab A.mr s1 with
  |none=>False
  |some s2=>uD (slotsOf A.live) (Ot s2 A.live) (DA A.dw (QZ s2.hp)) body Q s2 g)
theorem uD.sound{nt:Nat}{eR:List Nat}{qh:List Sh}{dw:List mh}{c:Code}{body:(Exit->AS Unit->Gh->Prop)->AS Unit->Gh->Prop}{Q:Exit->AS Unit->Gh->Prop}(hb:∀Q s g,body Q s g->ea P J D0 Y0 gL nt c Q s g)(h:uD eR qh dw body Q s g):ea P J D0 Y0 gL nt (.loop c) Q s g:=by unfold uD at h;split at h;exact h.elim;rename_i LW;split at h;rename_i p z hz;rw[bF]at h;obtain⟨hp,β,E,I,μ,b0,Si,hI,hr⟩:=h;have ss:∀{s:AS Unit}{p:List Prop}{z:TS qh×TO dw},L2 eR qh dw s=some (p,z)->eM p->Oh s (QY eR qh dw z):= λhz hp Γ aK h0=>Fg aK hz hp (by rw[h0];exact aus _) LW;refine ea.loop I (λb=>QY eR qh dw (E b).1) (λb=>(E b).2) μ b0 hI (by rw[<-Si];exact ss hz hp) (by rw[<-Si]) λb hIb=>?_;refine(hb _ _ _ (hr b hIb)).mono λe s1 g1 h1=>?_;(cases e with|normal=>simp only[Ow]at h1;split at h1;rename_i p1 z1 Zl;rw[bF]at h1;obtain⟨jW,b',fX,ZL,aE⟩:=h1;exact⟨b',ZL,by rw[<-fX];exact ss Zl jW,by rw[<-fX],aE⟩;exact h1.elim|_=>exact h1);exact h.elim
theorem AL.sound{nt:Nat}{tab:Nat->Option TD}{A:kM}{c:Code}{body:(Exit->AS Unit->Gh->Prop)->AS Unit->Gh->Prop}{Q:Exit->AS Unit->Gh->Prop}(hb:∀Q s g,body Q s g->ea P J D0 Y0 gL nt c Q s g)(h:AL tab A body Q s g):ea P J D0 Y0 gL nt (.loop c) Q s g:=by unfold AL at h;split at h;exact h.elim;rename_i s1 h1;split at h;exact h.elim;rename_i s2 h2;exact ea.ss (λΓ aK _ a w η hr=>((rV aK h1).trans (mu aK h2)) a w η hr) (uD.sound hb h)
def hO(C:dQ)(L:List kM)(yv:Value):Code->(Exit->AS Unit->Gh->Prop)->AS Unit->Gh->Prop
 | .skip,Q,s,g=>Q .normal s g| .region id ops draw,Q,s,g=>(match draw with|false=>qi C yv ops.toList (Q .normal) ops.toList s g|true=>fb C L (.region id ops true) 0 false (λe s'=>Q e s' g) s)| .seq x y,Q,s,g=>hO C L yv x (Ua (hO C L yv y Q) Q) s g| .cond c x y,Q,s,g=>(match s.ev c with| .ay (.bool b)=>aA b (hO C L yv x Q s g) (hO C L yv y Q s g)|_=>False)| .block id c,Q,s,g=>hO C L yv c (AE id Q) s g| .loop c,Q,s,g=>(match my c with|some k=>(match Ou L k with|some A=>AL C.tab A (hO C L yv c) Q s g|none=>False)|none=>False)| .exit id,Q,s,g=>Q (.exit id) s g| .label _,Q,s,g=>Q .normal s g| .ret,Q,s,g=>Q .ret s g|_,_,_,_=>False
theorem hO.sound{C:dQ}(hm:C.P.follows .mixedOrders=true)(aB:bp C.P C.tab)(hC:Cons C.P yv J){L:List kM}:∀(c:Code)(Q:Exit->AS Unit->Gh->Prop)(s:AS Unit)(g:Gh),hO C L yv c Q s g->ea C.P J D0 Y0 gL C.nt c Q s g:=by
 intro c;induction c with
  |skip=>intro Q s g h;exact ea.skip h|region id ops draw=>(intro Q s g h;have e:ops=ops.toList.toArray:=by simp);simp only[hO]at h;split at h;rw[e];exact ea.region (qi.sound aB hC _ s g h);exact ea.of λΓ aK hP fE h0=>fb.sound hm _ Γ aK hP.symm (by rw[hP];exact aB) fE.symm 0 h0 false (λh=>by cases h) _ s h|seq x y ihx ihy=>intro Q s g h;refine ea.seq ((ihx _ s g h).mono λe s' g' hq=>?_);cases e with|normal=>exact ihy _ s' g' hq|_=>exact hq
  |cond c x y ihx ihy=>intro Q s g h;simp only[hO]at h;split at h;rename_i b hb;exact ea.cond hb (λht=>ihx _ s g (h.elim.1 ht)) λht=>ihy _ s g (h.elim.2 ht);exact h.elim|block id c ih=>intro Q s g h;exact ea.block (ih _ s g h)|loop c ih=>intro Q s g h;simp only[hO]at h;split at h;split at h;exact AL.sound ih h;exact h.elim;exact h.elim|exit id=>intro Q s g h;exact ea.exit h|label l=>intro Q s g h;exact ea.label h|ret=>intro Q s g h;exact ea.ret h|_=>intro Q s g h;exact h.elim
def RY(kind:Bool)(more:List (List AV)):Bool->Gh->Prop:=
 match kind with
 |true=>λb g=>g=gT b more
 |false=>λ_ g=>∃b,g=gT b more
def xx(tab:Nat->Option TD)(rs:List ResultVar)(kind:Bool)(R:Bool->Gh->Prop)(s:AS Unit)(g:Gh):Prop:=
 match kind with
 |true=>(match gd tab s rs with
  |some [.ay (.bool b)]=>R b g
  |_=>False)
 |false=>(match gd tab s rs with
  |some _=>R true g
  |none=>False)
def Ox(tab:Nat->Option TD)(rs:List ResultVar)(kind:Bool)(R:Bool->Gh->Prop):Exit->AS Unit->Gh->Prop
 | .normal,s,g=>xx tab rs kind R s g| .ret,s,g=>xx tab rs kind R s g|_,_,_=>False
theorem xx.sound{tab:Nat->Option TD}{rs:List ResultVar}{kind:Bool}{more:List (List AV)}(h:xx tab rs kind (RY kind more) s g):∃l,gd tab s rs=some l/\∃b,g=gT b more/\Oi kind b (iV l):=by cases kind with|true=>simp only[xx]at h;split at h;rename_i b hb;exact⟨_,hb,b,h,rfl⟩;exact h.elim|false=>simp only[xx]at h;split at h;rename_i l hl;obtain⟨b,hb⟩:=h;exact⟨_,hl,b,hb,ai⟩;exact h.elim
theorem Iu{C:dQ}(aB:bp C.P C.tab)(hm:C.P.follows .mixedOrders=true){L:List kM}{f:FuncId}{fn:Func}{c:Code}{args:AV->List AV}{Ls:List (List AV)}{kind:Bool}(hf:C.P.funcs[f]?=some fn)(hb:fn.body=some c)(jB:(fn.name == "runtime.NumGoroutine")=false)(hn:∀v,Nat.ble (args v).length fn.ntmps=true)(fE:C.nt=fn.ntmps)(h:∀(yv:Value)(more:List (List AV)),hO C L yv c (Ox C.tab fn.results.toList kind (RY kind more)) ⟨eu 0 (args (.fn yv)),[],()⟩ (some (Ls++more))):vO C.P f args Ls kind:=by refine Ib aB hf hb jB (λv=>auI (hn v)) λJ yv hC D0 Y0 gL more=>?_;rw[<-fE];refine(hO.sound hm aB hC c _ _ _ (h yv more)).mono λe s' g' hq=>?_;cases e with|normal=>obtain⟨l,h1,h2⟩:=xx.sound hq;simp only[Uc,h1];exact h2|ret=>obtain⟨l,h1,h2⟩:=xx.sound hq;simp only[Uc,h1];exact h2|_=>exact hq.elim
end
def tc(k:TK)(b:Nat)(z:Value):TD:={ flat:=false,kind:=k,size:=1,bytes:=b,zero:=z }
def ti(k:IntKind)(b:Nat):TD:=tc (.int k) b (.int k 0)
def ts(e:Nat):TD:=tc (.kY e) 24 (.slice none 0 0)
def tp(e:Nat):TD:=tc (.ptr e) 8 (.pointer none)
def tf:TD:=tc .other 8 .nilFunc
def tg(k:TK)(b:Nat)(z:List Value)(f:Bool:=false)(g:Bool:=false):TD:={ flat:=f,four:=g,kind:=k,size:=z.length,bytes:=b,zero:=.agg z.toArray }
abbrev iM:Value:=.int .i64 0
abbrev jJ:Value:=.slice none 0 0
abbrev Ur:Value:=.string ⟨#[]⟩
def td1:TD:=tf
def td2:TD:=ti .i64 8
def td3:TD:=ti .i64 8
def td4:TD:=tc (.bool) 1 (.bool false)
def td5:TD:=ti .u8 1
def L7:TD:=tc (.str) 16 (Ur)
def amS:TD:=ti .i32 4
def amT:TD:=ts 9
def amU:TD:=ts 83
def amV:TD:=tg (.cr [(0,1,false),(1,1,false)]) 48 [jJ,jJ]
def amW:TD:=ts 75
def amX:TD:=ts 86
def amY:TD:=ts 88
def amZ:TD:=ts 52
def am0:TD:=ts 69
def am1:TD:=tg (.cr [(0,2,true),(2,1,false),(3,1,false),(4,1,false),(5,1,false),(6,1,false),(7,1,false),(8,1,false)]) 216 [jJ,jJ,jJ,jJ,jJ,jJ,jJ,jJ,jJ]
def am2:TD:=ti .i64 8
def ahs:TD:=tg (.cr [(0,1,false),(1,1,false)]) 16 [iM,iM] true
def aht:TD:=tg (.cr [(0,1,false),(1,2,true),(3,1,false)]) 40 [iM,iM,iM,Ur] false true
def am3:TD:=ts 47
def am4:TD:=ts 119
def ZO:TD:=tg (.cr [(0,1,false),(1,1,false),(2,1,false),(3,1,false),(4,1,false)]) 72 [iM,jJ,jJ,iM,iM]
def am5:TD:=tg (.cr [(0,1,false),(1,1,false),(2,1,false)]) 72 [jJ,jJ,jJ]
def ae5:TD:=tg (.cr [(0,1,false),(1,1,false)]) 16 [iM,iM] true
def am6:TD:=tp 61
def am7:TD:=tc (.qo 9 116) 8 (.map none)
def am8:TD:=tg (.cr [(0,9,true),(9,1,false),(10,1,false),(11,4,true)]) 280 [jJ,jJ,jJ,jJ,jJ,jJ,jJ,jJ,jJ,Ur,.map none,iM,iM,iM,Ur]
def ahu:TD:=tg (.cr [(0,1,false),(1,1,false)]) 16 [iM,iM] true
def am9:TD:=ts 67
def Iv:TD:=tg (.cr [(0,1,false),(1,2,true),(3,1,false)]) 64 [jJ,iM,iM,jJ]
def Ut:TD:=tg (.cr [(0,1,false),(1,1,false),(2,4,true),(6,4,true),(10,1,false)]) 152 [iM,iM,jJ,iM,iM,jJ,jJ,iM,iM,jJ,iM]
def ana:TD:=tg (.cr [(0,1,false),(1,1,false),(2,1,false)]) 56 [iM,jJ,jJ]
def sA:TD:=tg (.cr [(0,1,false),(1,1,false)]) 32 [jJ,iM]
def anb:TD:=tp 79
def ane:TD:=tg (.cr [(0,3,true),(3,1,false),(4,1,false)]) 104 [jJ,jJ,jJ,jJ,iM]
def ae6:TD:=tg (.cr [(0,1,false),(1,2,true)]) 48 [Ur,jJ,iM]
def Uu:TD:=tg (.cr [(0,1,false),(1,4,true),(5,4,true)]) 144 [Ur,jJ,iM,iM,jJ,jJ,iM,iM,jJ]
def ae7:TD:=tg (.arr 2) 16 [iM,iM] true
def anf:TD:=tf
def ang:TD:=tf
def anh:TD:=tf
def ahv:TD:=tf
def ahw:TD:=tp 110
def Uv:TD:=tg (.cr [(0,1,false),(1,1,false),(2,1,false)]) 32 [iM,Ur,iM]
def ahx:TD:=tp 144
def ahy:TD:=tg (.cr [(0,1,false),(1,1,false),(2,4,true)]) 56 [.pointer none,iM,iM,iM,iM,Ur]
def ahz:TD:=tf
def ahA:TD:=tg (.cr [(0,1,false),(1,2,true)]) 24 [.bool false,iM,iM]
def ahB:TD:=tg (.cr [(0,1,false),(1,1,false),(2,1,false),(3,1,false)]) 56 [iM,Ur,iM,jJ]
def ahC:TD:=tf
def ahD:TD:=tf
def ahE:TD:=tp 134
def ahF:TD:=ts 5
def ahG:TD:=tg (.cr [(0,1,false),(1,1,false)]) 32 [.pointer none,jJ]
def ahH:TD:=tg (.cr [(0,1,false)]) 8 [.pointer none]
def ahI:TD:=ts 106
def ahJ:TD:=tg (.cr [(0,1,false),(1,1,false),(2,1,false)]) 48 [jJ,Ur,iM]
def ahK:TD:=tf
def ahL:TD:=tf
def ahM:TD:=ts 3
def ahN:TD:=tf
def ahO:TD:=tf
def ady:TD:=tg (.cr [(0,1,false),(1,1,false)]) 16 [iM,iM] true
def ahP:TD:=tc (.qo 9 4) 8 (.map none)
def ahQ:TD:=tg (.cr [(0,3,true),(3,1,false)]) 80 [jJ,jJ,jJ,.map none]
def ahR:TD:=tg (.cr [(0,1,false),(1,1,false),(2,1,false),(3,1,false),(4,1,false),(5,1,false)]) 48 [Ur,iM,iM,iM,.bool false,.bool false]
def ahS:TD:=tf
def ahT:TD:=tf
def ahU:TD:=tf
def ahV:TD:=tp 5
def ahW:TD:=ts 275
def ahX:TD:=tc (.qo 3 4) 8 (.map none)
def ahY:TD:=ts 234
def ahZ:TD:=tg (.cr [(0,1,false),(1,2,true),(3,1,false),(4,1,false)]) 72 [iM,jJ,iM,iM,jJ]
def ah0:TD:=tf
def ah1:TD:=ts 26
def ah2:TD:=tf
def ah3:TD:=ts 22
def ah4:TD:=tf
def ah5:TD:=tp 302
def adz:TD:=tg (.cr [(0,1,false),(1,1,false),(2,1,false),(3,1,false)]) 80 [iM,jJ,jJ,jJ]
def ah6:TD:=tp 3
def ah7:TD:=tg (.cr []) 0 []
def ah8:TD:=tg (.cr []) 0 []
def ah9:TD:=tg (.cr [(0,0,true),(0,0,true),(0,1,false)]) 8 [iM]
def aia:TD:=tg (.cr []) 0 []
def aib:TD:=ti .u32 4
def aic:TD:=tg (.cr [(0,0,true),(0,1,false)]) 4 [.int .u32 0]
def aid:TD:=tg (.cr [(0,1,false),(1,1,false)]) 8 [.int .i32 0,.int .u32 0]
def aie:TD:=tg (.cr [(0,0,true),(0,2,true)]) 8 [.int .i32 0,.int .u32 0]
def aif:TD:=tg (.cr [(0,0,true),(0,1,true),(1,2,true)]) 12 [.int .u32 0,.int .i32 0,.int .u32 0]
def aih:TD:=tg (.cr [(0,1,true),(1,1,true),(2,3,true),(5,1,true)]) 32 [iM,iM,.int .u32 0,.int .i32 0,.int .u32 0,.int .u32 0]
def aii:TD:=ti .u64 8
def aij:TD:=tf
def aik:TD:=tp 317
def ail:TD:=tg (.cr [(0,1,false),(1,1,false),(2,1,false)]) 24 [.pointer none,iM,iM]
def aim:TD:=tp 2
def ain:TD:=tg (.arr 20) 160 [.int .u64 0,.int .u64 0,.int .u64 0,.int .u64 0,.int .u64 0,.int .u64 0,.int .u64 0,.int .u64 0,.int .u64 0,.int .u64 0,.int .u64 0,.int .u64 0,.int .u64 0,.int .u64 0,.int .u64 0,.int .u64 0,.int .u64 0,.int .u64 0,.int .u64 0,.int .u64 0]
def aio:TD:=ti .u64 8
def aip:TD:=tf
def aiq:TD:=tg (.cr [(0,1,false),(1,1,false),(2,1,false)]) 40 [.pointer none,jJ,iM]
def air:TD:=tp 292
def ais:TD:=tp 300
def ait:TD:=tp 296
def aiu:TD:=tp 21
theorem ae8:gy aj 35 ahs:=rS (by kernel_rfl) (by kernel_rfl) (by rfl) rfl rfl (by kernel_rfl) (by kernel_rfl) (by kernel_rfl) (by kernel_rfl)
theorem ae9:gy aj 37 aht:=QB (T2:=35) (t1:=33) (t3:=9) (by kernel_rfl) (by kernel_rfl) (by rfl) rfl (by kernel_rfl) (by kernel_rfl) (by kernel_rfl) (by kernel_rfl) (by kernel_rfl) (by kernel_rfl) (by kernel_rfl) (by kernel_rfl) (by kernel_rfl)
theorem afa:gy aj 52 ae5:=rS (by kernel_rfl) (by kernel_rfl) (by rfl) rfl rfl (by kernel_rfl) (by kernel_rfl) (by kernel_rfl) (by kernel_rfl)
theorem afb:gy aj 64 ahu:=rS (by kernel_rfl) (by kernel_rfl) (by rfl) rfl rfl (by kernel_rfl) (by kernel_rfl) (by kernel_rfl) (by kernel_rfl)
theorem afc:gy aj 88 ae7:=SW (e:=3) (by kernel_rfl) (by kernel_rfl) (by rfl) rfl rfl (by kernel_rfl) (by kernel_rfl) (by kernel_rfl) (by kernel_rfl)
theorem ZP:gy aj 176 ady:=rS (by kernel_rfl) (by kernel_rfl) (by rfl) rfl rfl (by kernel_rfl) (by kernel_rfl) (by kernel_rfl) (by kernel_rfl)
def ZQ:List (Nat×TD):=[(1,td1),(2,td2),(3,td3),(4,td4),(5,td5),(9,L7),(21,amS),(22,amT),(23,amU),(25,amV),(26,amW),(27,amX),(28,amY),(29,amZ),(30,am0),(32,am1),(33,am2),(41,am3),(45,am4),(47,ZO),(49,am5),(58,am6),(59,am7),(61,am8),(65,am9),(67,Iv),(69,Ut),(72,ana),(75,sA),(77,anb),(79,ane),(83,ae6),(86,Uu),(91,anf),(92,ang),(97,anh),(101,ahv),(104,ahw),(106,Uv),(108,ahx),(110,ahy),(113,ahz),(116,ahA),(119,ahB),(122,ahC),(130,ahD),(131,ahE),(132,ahF),(134,ahG),(136,ahH),(139,ahI),(144,ahJ),(149,ahK),(157,ahL),(161,ahM),(165,ahN),(167,ahO),(187,ahP),(191,ahQ),(195,ahR),(198,ahS),(200,ahT),(208,ahU),(209,ahV),(226,ahW),(230,ahX),(232,ahY),(234,ahZ),(240,ah0),(242,ah1),(244,ah2),(245,ah3),(250,ah4),(263,ah5),(275,adz),(279,ah6),(287,ah7),(288,ah8),(290,ah9),(291,aia),(292,aib),(294,aic),(296,aid),(298,aie),(300,aif),(302,aih),(306,aii),(313,aij),(315,aik),(317,ail),(322,aim),(324,ain),(326,aio),(330,aip),(338,aiq),(349,air),(352,ais),(356,ait),(358,aiu)]
def aiv:List (Nat×TD):=ZQ++[(35,ahs),(37,aht),(52,ae5),(64,ahu),(88,ae7),(176,ady)]
def tab(T:Nat):Option TD:=(aiv.find? (λp=>p.1==T)).map (·.2)
def tyF(P:Program)(p:Nat×TD):Option (Nat×Nat×Option Value)×Option Bool×Bool×Bool:=((P.info? p.1).map (λi=>(i.size,i.bytes,i.zero)),(P.underlying p.1).map (λu=>iW P u p.2.kind),Aa p.2,p.2.flat||p.2.four)
theorem ZR:∀p∈ZQ,gy aj p.1 p.2:=λp hp=>by
 have h:ZQ.map (tyF aj)=ZQ.map λp=>(some (p.2.size,p.2.bytes,some p.2.zero),some true,true,false):=by kernel_rfl
 have h:=(List.map_inj_left.1 h) p hp;simp only[tyF,auk]at h;exact Zc h.1 h.2.1 h.2.2.1 h.2.2.2
theorem ZS:∀p∈aiv,gy aj p.1 p.2:=List.forall_mem_append.2 ⟨ZR,avC.2 ⟨ae8,avC.2 ⟨ae9,avC.2 ⟨afa,avC.2 ⟨afb,avC.2 ⟨afc,avC.2 ⟨ZP,λp h=>by cases h⟩⟩⟩⟩⟩⟩⟩
theorem afd:bp aj tab:=SX ZS
end Go.Proofs.YthnnplohnceogaaGreatDoor
