/- Lemmas. -/
import Derived.Test.YtnkjkpmbgoehkaaGreatQ26
namespace Go.Proofs.YtnkjkpmbgoehkaaGreat
open Go
set_option linter.unusedSimpArgs false
set_option linter.unusedVariables false
def oh.depth:oh->Nat
 | .done=>0
 | .val _ p=>p.depth+1
 | .dQ _ p=>p.depth+1
 | .two _ p _ q=>Nat.max p.depth q.depth+1
 | .three _ p _ q _ r=>Nat.max p.depth (Nat.max q.depth r.depth)+1
def GL (d:Bool):List Bool->Nat->Bool
 | [],_=>d
 |b::_,0=>b
 |_::l,n+1=>GL d l n
theorem yr (d:Bool):∀(l:List Bool) (n:Nat),GL d l n=l.toArray.getD n d
 | [],n=>by simp[GL]
 |b::l,0=>by simp[GL]
 |b::l,n+1=>by
  have:=yr d l n;simp only[GL,this];simp[aq3]
def ot:List Oper->Nat->Option Oper
 | [],_=>none
 |o::_,0=>some o
 |_::l,n+1=>ot l n
theorem ou:∀(l:List Oper) (n:Nat),ot l n=l.toArray[n]?
 | [],n=>by simp[ot]
 |b::l,0=>by simp[ot]
 |b::l,n+1=>by
  have:=ou l n;simp only[ot,this];simp
def ny:List Bool->Nat->List Bool
 | [],_=>[]
 |_::l,0=>true::l
 |b::l,n+1=>b::ny l n
theorem gk:∀(l:List Bool) (n:Nat),(ny l n).toArray=l.toArray.setIfInBounds n true:=by
 intro l n;have:∀(l:List Bool) (n:Nat),ny l n=l.set n true:=by
  intro l
  induction l with
  |nil=>intro n;simp[ny]
  |cons b l ih=>intro n;cases n<;>simp[ny,ih]
 rw[this];simp
def zK (gm:List Bool):List Edge->Bool
 | []=>true
 |e::l=>(!Region.binds .any e||GL false gm e.on)&&zK gm l
theorem CI {gm:List Bool}:∀{l:List Edge},zK gm l=true↔∀e∈l,Region.binds .any e=true->gm.toArray.getD e.on false=true
 | []=>by simp[zK]
 |e::l=>by
  simp only[zK,aqv,arh,arc,CI (l:=l),aqZ,forall_eq_or_imp,yr];constructor
  ·rintro⟨h1,h2⟩;exact⟨fun hb=>h1.resolve_left (by rw[hb];simp),h2⟩
  ·rintro⟨h1,h2⟩
   refine⟨?_,h2⟩
   cases hb:Region.binds .any e with
   |false=>exact .inl rfl
   |true=>exact .inr (h1 hb)
def qY (l0:List Oper) (gm:List Bool) (k:Nat):Bool:=
 match ot l0 k with
 |none=>false
 |some o=>!(GL true gm k)&&zK gm o.after.toList
theorem mo {l0:List Oper} {gm:List Bool} {k:Nat}:qY l0 gm k=true↔k∈Region.ready .any l0.toArray gm.toArray:=by
 rw[mem_ready];unfold qY;rw[ou]
 cases hk:l0.toArray[k]? with
 |none=>simp
 |some o=>
  simp only[aqv,arc,yr,CI,aqq,exists_eq_left'];constructor
  ·rintro⟨h1,h2⟩;exact⟨h1,fun e he hb=>h2 e (by simpa using he) hb⟩
  ·rintro⟨h1,h2⟩;exact⟨h1,fun e he hb=>h2 e (by simpa using he) hb⟩
def wX (l0:List Oper) (gm:List Bool) (l:List Nat):List Oper->Nat->Bool
 | [],_=>true
 |_::r,k=>(!qY l0 gm k||Ks l k)&&wX l0 gm l r (k+1)
theorem GM {l0:List Oper} {gm:List Bool} {l:List Nat}:∀{r:List Oper} {k:Nat},wX l0 gm l r k=true->∀q,k<=q->q<k+r.length->qY l0 gm q=true->q∈l
 | [],k,_,q,h1,h2,_=>by simp at h2;omega
 |o::r,k,h,q,h1,h2,h3=>by
  simp only[wX,aqv,arh,arc] at h
  by_cases hq:q=k
  ·subst hq;exact D3 (h.1.resolve_left (by rw[h3];simp))
  ·exact GM h.2 q (by omega) (by simp only[aqy] at h2;omega) h3
theorem pt {l0:List Oper} {gm:List Bool} {l:List Nat} (h:wX l0 gm l l0 0=true) {q:Nat} (hq:q∈Region.ready .any l0.toArray gm.toArray):q∈l:=by
 obtain⟨_,o,ho,_⟩:=mem_ready.1 hq;have:=(aqO.1 ho).1;exact GM h q (aqC _) (by simpa using this) (mo.2 hq)
def CJ (C M:List (Option (List Nat))) (k j:Nat) (op:Op):Bool:=
 ic op||(match qW C j,qW M k with
  |some l,some K=>Rq l K
  |_,_=>false)
def D9 (C M:List (Option (List Nat))) (k j:Nat) (op:Op):Bool:=
 match qW C j with
 |none=>false
 |some l=>ic op||(match qW M k with
  |some K=>Rq l K
  |none=>false)
theorem GN {C M:List (Option (List Nat))} {k j:Nat} {op:Op} (h:D9 C M k j op=true):∃l,C.getD j none=some l/\∀hp hp',nZ l hp hp'->rW M k op hp hp':=by
 unfold D9 at h;rw[fG] at h;split at h
 ·cases h
 ·rename_i l hl;refine⟨l,hl,fun hp hp' hf=>ki (C:=C) (j:=j) ?_ (by unfold mc;rw[hl];exact hf)⟩;unfold jc;rw[fG] at h;rw[hl];rw[arh] at h ⊢;refine h.imp id fun h=>?_;split at h
  ·rename_i K hK;rw[hK];exact h
  ·cases h
def MB (H:Oper->Bool) (l0:List Oper) (Kv:List Nat) (C M:List (Option (List Nat))) (gm:List Bool) (i:Nat) (oi:Oper):List Oper->Nat->Bool
 | [],_=>true
 |oj::r,j=>(Nat.beq j i||(GL true gm j||(((Kv.getD j 0).testBit i)||(oi.apart l0.toArray oj&&(match H oj with|false=>!cI oj.op||CJ C M i j oi.op|true=>!cI oj.op&&D9 C M i j oi.op)))))&&MB H l0 Kv C M gm i oi r (j+1)
theorem GO {H:Oper->Bool} {l0:List Oper} {Kv:List Nat} {C M:List (Option (List Nat))} {gm:List Bool} {i:Nat} {oi:Oper}:∀{r:List Oper} {k:Nat},MB H l0 Kv C M gm i oi r k=true->∀(j:Nat) oj,r[j]?=some oj->k+j≠i->gm.toArray.getD (k+j) true=false->
  (Kv.getD (k+j) 0).testBit i=true\/(oi.apart l0.toArray oj=true/\((H oj=false/\(cI oj.op=false\/jc C M i (k+j) oi.op=true))\/(H oj=true/\cI oj.op=false/\D9 C M i (k+j) oi.op=true)))
 | [],k,_,j,oj,hj,_,_=>by simp at hj
 |o::r,k,h,j,oj,hj,h1,h2=>by
  simp only[MB,aqv,arh,arc] at h
  cases j with
  |zero=>
   simp only[ari,aqq] at hj;subst hj;rcases h.1 with h3|h3|h3|h3
   ·exact(h1 (aqN h3)).elim
   ·rw[yr,show k=k+0 from rfl,h2] at h3;cases h3
   ·exact .inl h3
   ·refine .inr ⟨h3.1,?_⟩;have h4:=h3.2
    cases hH:H o with
    |false=>
     rw[hH] at h4;simp only[arh,arc] at h4;refine .inl ⟨rfl,h4.imp id fun h=>?_⟩;unfold CJ at h;unfold jc;rw[fG,fG] at h;exact h
    |true=>
     rw[hH] at h4;simp only[aqv,arc] at h4;exact .inr ⟨rfl,h4⟩
  |succ j=>
   simp only[aq2] at hj;have:=GO h.2 j oj hj (by omega) (by rw[show k+1+j=k+(j+1) from by omega];exact h2);rw[show k+1+j=k+(j+1) from by omega] at this;exact this
def vY (C:dp) (l:List Nat) (o:Oper) (s:AS Unit) (next:AS Unit->Prop):Prop:=
 match qS s o.op with
 |some (f,args)=>(match Gx C f o with
  | .fX sh=>okB (Rq (jS s.hp 100 [] args) l) (BT C (jS s.hp 100 [] args) sh f args o s next)
  |_=>False)
 |none=>False
theorem Sj {js:List Nat} {H h:List aw} (hb:qU H.length js=true) (hl:js.length<=h.length):nZ js H (kz (nw js H.length) js.length h H):=by
 refine⟨by rw[kz,um];omega,fun q o hq ho=>?_⟩;have L4:q<H.length:=(aqr.1 ho).1;rw[kz,zu (by omega)];unfold putAt;split
 ·rename_i i hi;obtain⟨h1,h2⟩:=pj hi;unfold nw at h2;split at h2
  ·rename_i aH;have aH:i<js.length:=aqQ (show Nat.ble (i+1) js.length=true from aH);exact(hq (by rw[<-h2];exact aqA (qV aH))).elim
  ·omega
 ·rw[aru,ho];rfl
theorem vY.sound {Γ:Env Unit} {s:AS Unit} (aE:Γ.Ok) {C:dp} (hP:C.P=Γ.P) (dS:C.nt=Γ.nt) {ops:Array Oper} {l:List Nat} {o:Oper} {next K:AS Unit->Prop} (hd:dC Γ.nt o.dst) (h:vY C l o s next) (hn:∀s,next s->K s):RA Γ ops o l s K:=by
 unfold vY at h;split at h
 ·rename_i f args aN;rw[lL] at aN;unfold ma at aN;split at aN
  ·rename_i c hc;split at aN
   ·rename_i x hx;split at aN
    ·rename_i f' caps dK;simp only[aqq,aqt] at aN;obtain⟨rfl,rfl⟩:=aN;split at h
     ·rename_i sh aew;generalize jS s.hp 100 [] (List.map s.ev c.args.toList++caps)=js at *;obtain⟨RE,h⟩:=cp h;unfold BT at h;obtain⟨hb,h⟩:=cp h;rw[bF] at h;obtain⟨iV,R,g1,g2⟩:=h;have aN:=cr (g:=AV.Kp js s.hp) (fun x=>zB) _ iV;rw[hP] at g1;have qt:=BT.hfn (R:=fun r h'=>R r h'/\wV js r h'=true) hb (g1.mono fun r h' hr=>⟨hr,(cp (jf (g2 r h' hr))).1⟩) (fun r h' hr=>hr.2);refine⟨fun r2 H2=>∃r h,(R r h/\wV js r h=true)/\r2=s7 (nw js s.hp.length) r/\H2=kz (nw js s.hp.length) js.length h s.hp,fun s' ht DQ K' hK'=>?_,fun r hp' hN=>?_⟩
      ·have yW:∀y,y∈o.op.operands->s'.ev y=s.ev y:=fun y hy=>by
        cases y with
        |tmp t=>
         refine ht t ?_;unfold Oper.looksAt;exact ar7 _ (List.mem_filterMap.2 ⟨.tmp t,by simpa using hy,rfl⟩)
        |_=>rfl
       have nL:s'.ev x=.bz f' caps:=by rw[<-dK];exact yW x (by rw[hc];simp[Op.operands,Call.operands,hx])
       have hm:c.args.toList.map s'.ev=c.args.toList.map s.ev:=arD fun y hy=>yW y (by rw[hc];simp only[Op.operands,Call.operands,arZ];exact .inr (by simpa using hy));exact bO.Rz aE hc hx nL (by rw[DQ];exact qt) (fun a w η us hr h=>by
        have:=uv hr js _ us h;rw[hm,DQ,aN] at this
        rw[DQ];exact this) hd hK'
      ·obtain⟨r',h',hr,rfl,rfl⟩:=hN;have ui:qU s.hp.length js=true:=by simp only[aqv] at hb;exact hb.1
       have hle:js.length<=h'.length:=by have:=hr.2;simp only[wV,aqv] at this;exact aqQ this.1
       refine⟨(Sj ui hle).mono fun q hq=>?_,hn _ (cp (jf (g2 r' h' hr.1))).2⟩;have:=aqF.1 RE q hq;simpa using this
     ·exact h.elim
    ·cases aN
   ·cases aN
  ·cases aN
 ·exact h.elim
def tj (C:dp) (hs:List Nat) (l0:List Oper) (Cl:List (Option (List Nat))) (i:Nat) (o:Oper) (s:AS Unit) (next:AS Unit->Prop):Prop:=
 match xZ C.nt o.dst with
 |false=>False
 |true=>(match cI o.op with
  |true=>(match o.guard with
   |none=>okB (R0 (qW Cl i) s.ev o.op) (match Gw C.tab s.hp s.ev o.op (fun r hp'=>next (AS.put { s with hp:=hp' } o.dst r)) with
    |some p=>p
    |none=>False)
   |some _=>False)
  |false=>(match bu hs o with
   |true=>KG l0 o s (fun s=>match qW Cl i with
     |none=>jG C o s next
     |some l=>vY C l o s next) (fun s=>next (s.put o.dst (.ax (.tuple #[]))))
   |false=>KG l0 o s (fun s=>fH C none o s next) (fun s=>next (s.put o.dst (.ax (.tuple #[]))))))
def jj (C:dp) (hs:List Nat) (l0:List Oper) (Kv:List Nat) (Cl M:List (Option (List Nat))) (K:AS Unit->Prop):oh->List Bool->AS Unit->Prop
 | .done,gm,s=>okB (wX l0 gm [] l0 0) (K s)
 | .val i p,gm,s=>(match ot l0 i with
  |none=>False
  |some o=>okB (qY l0 gm i&&(MB (bu hs) l0 Kv Cl M gm i o l0 0&&(!cI o.op&&(!bu hs o&&xZ C.nt o.dst))))
    (KG l0 o s (fun s=>fH C (qW M i) o s (jj C hs l0 Kv Cl M K p (ny gm i))) (fun s=>jj C hs l0 Kv Cl M K p (ny gm i) (s.put o.dst (.ax (.tuple #[]))))))
 | .dQ i p,gm,s=>(match ot l0 i with
  |none=>False
  |some o=>okB (qY l0 gm i&&wX l0 gm [i] l0 0) (tj C hs l0 Cl i o s (jj C hs l0 Kv Cl M K p (ny gm i))))
 | .two i p j q,gm,s=>(match ot l0 i,ot l0 j with
  |some o,some o'=>okB (qY l0 gm i&&wX l0 gm [i,j] l0 0)
    (tj C hs l0 Cl i o s (jj C hs l0 Kv Cl M K p (ny gm i))/\tj C hs l0 Cl j o' s (jj C hs l0 Kv Cl M K q (ny gm j)))
  |_,_=>False)
 | .three i p j q k r,gm,s=>(match ot l0 i,ot l0 j,ot l0 k with
  |some o,some o',some o2=>okB (qY l0 gm i&&wX l0 gm [i,j,k] l0 0)
    (tj C hs l0 Cl i o s (jj C hs l0 Kv Cl M K p (ny gm i))/\(tj C hs l0 Cl j o' s (jj C hs l0 Kv Cl M K q (ny gm j))/\tj C hs l0 Cl k o2 s (jj C hs l0 Kv Cl M K r (ny gm k))))
  |_,_,_=>False)
variable {Γ:Env Unit} {s:AS Unit}
theorem tj.sound (aE:Γ.Ok) {C:dp} (hP:C.P=Γ.P) (aA:bc Γ.P C.tab) (dS:C.nt=Γ.nt) {hs:List Nat} {l0:List Oper} {Cl:List (Option (List Nat))} {i:Nat} {o:Oper} (ho:l0.toArray[i]?=some o) {next K:AS Unit->Prop} (h:tj C hs l0 Cl i o s next) (hn:∀s,next s->K s):
  kQ Γ l0.toArray (bu hs) Cl Cl i K s:=by
 unfold tj at h;unfold kQ;rw[ho];simp only;split at h
 ·exact h.elim
 rename_i hd;have hd:=jg hd;rw[dS] at hd;split at h
 ·rename_i he;rw[if_pos he];split at h
  ·rename_i hg;obtain⟨GG,h⟩:=cp h;split at h
   ·rename_i p hp;obtain⟨c,r,hp',g1,g2,g3⟩:=rZ hp h;have hcg:=D4 GG g1;rw[fG] at hcg;refine⟨hd,hg,r,hp',fun ue DR e1 e2 e3=>jO DR (tab:=C.tab) (by rw[e1];exact aA) (c:=c) ?_ g2,?_,hn _ g3⟩
    ·rw[<-g1];exact sY fun x hx=>lg hx
    ·unfold mc
     cases hc:Cl.getD i none with
     |none=>exact True.intro
     |some l=>
      have:=oc.fr _ _ _ (hcg l hc);exact⟨this.1,fun q ob hq ho=>this.2 q ob (by simpa using hq) ho⟩
   ·exact h.elim
  ·exact h.elim
 ·rename_i he;rw[if_neg (by rw[he];simp)];split at h
  ·rename_i hh;rw[if_pos hh];have act:∀h:(match qW Cl i with
     |none=>jG C o s next
     |some l=>vY C l o s next),Kh Γ l0.toArray Cl i o s K:=by
    intro h;unfold Kh;rw[fG] at h;split at h
    ·rename_i hc;rw[hc];exact jG.sound aE hP aA dS h hn
    ·rename_i l hc;rw[hc];exact vY.sound aE hP dS hd h hn
   rcases KG.cases h with⟨hg,h⟩|⟨j,want,b,hg,hb,⟨kh,h⟩|⟨kh,h⟩⟩|⟨j,want,hg,hb,h⟩
   ·exact .inl ⟨by simp[aV,hg],act h⟩
   ·exact .inl ⟨by simp[aV,hg,hb,kh],act h⟩
   ·exact .inr ⟨by simp[aV,hg,hb,kh],hd,hn _ h⟩
   ·exact .inr ⟨by simp[aV,hg,hb],hd,hn _ h⟩
  ·rename_i hh;rw[if_neg (by rw[hh];simp)];have ua:∀{x:AV},lh Γ l0.toArray o s x (rW [] i o.op)->lh Γ l0.toArray o s x (fun hp hp'=>hp'=hp):=fun h=>
    ⟨h.1,h.2.imp (fun g=>⟨g.1,fun s' g1 g2=>g.2 s' g1 (by rw[g2];exact rW.refl)⟩) id⟩
   have step:fH C none o s next->(o.guard=none\/∃j want b,o.guard=some (j,want)/\kx l0.toArray s j=some b)->∃x,(∀s':AS Unit,(∀t,t∈o.looksAt l0.toArray->s'.tmps t=s.tmps t)->rW [] i o.op s.hp s'.hp->nu Γ o (s'.only (o.looksAt l0.toArray)) x)/\K (s.put o.dst x):=
    fun h hg=>jd.sound (ops:=l0.toArray) (M:=[]) (k:=i) aA (fH.sound (N:=K) (R:=K) hP h hn hn) (fun _ h=>h) (fun _ h=>h) hg
   rcases KG.cases h with⟨hg,h⟩|⟨j,want,b,hg,hb,⟨kh,h⟩|⟨kh,h⟩⟩|⟨j,want,hg,hb,h⟩
   ·obtain⟨x,h3,h4⟩:=step h (.inl hg);exact⟨x,ua ⟨hd,.inl ⟨by simp[aV,hg],h3⟩⟩,h4⟩
   ·obtain⟨x,h3,h4⟩:=step h (.inr ⟨j,want,_,hg,hb⟩);exact⟨x,ua ⟨hd,.inl ⟨by simp[aV,hg,hb,kh],h3⟩⟩,h4⟩
   ·exact⟨_,⟨hd,.inr ⟨by simp[aV,hg,hb,kh],rfl⟩⟩,hn _ h⟩
   ·exact⟨_,⟨hd,.inr ⟨by simp[aV,hg,hb],rfl⟩⟩,hn _ h⟩
theorem jj.sound (aE:Γ.Ok) {C:dp} (hP:C.P=Γ.P) (aA:bc Γ.P C.tab) (dS:C.nt=Γ.nt) {hs:List Nat} {l0:List Oper} {Cl M:List (Option (List Nat))} {K:AS Unit->Prop}:∀(p:oh) (fuel:Nat) (gm:List Bool) (s:AS Unit),p.depth<=fuel->qH l0.toArray gm.toArray->
  jj C hs l0 (nV l0 []) Cl M K p gm s->gR Γ l0.toArray (bu hs) Cl Cl K fuel gm.toArray s:=by
 have pc:∀(i j:Nat),(List.getD (nV l0 []) j 0).testBit i=true->Reach l0.toArray i j:=by
  intro i j hj
  cases hm:(nV l0 [])[j]? with
  |none=>simp[List.getD,hm] at hj
  |some m=>
   simp only[List.getD,hm,aq9] at hj;exact nW (ops:=l0.toArray) l0 [] (fun j=>by simp) (fun j m i hj=>by simp at hj) j m i hm hj
 intro p
 induction p with
 |done=>
  intro fuel gm s hf tN h;simp only[jj] at h;obtain⟨hb,h⟩:=cp h;have X1:Region.ready .any l0.toArray gm.toArray=[]:=by
   apply arP.2;intro q hq;have:=pt hb hq;simp at this
  cases fuel with
  |zero=>exact⟨X1,h⟩
  |succ fuel=>exact⟨fun _=>h,fun q hq=>by rw[X1] at hq;cases hq⟩
 |val i p ih=>
  intro fuel gm s hf tN h;simp only[oh.depth] at hf;obtain⟨f,rfl⟩:∃f,fuel=f+1:=⟨fuel-1,by omega⟩;simp only[jj] at h;split at h
  ·exact h.elim
  rename_i o ho;rw[ou] at ho;obtain⟨hb,h⟩:=cp h;simp only[aqv,arc] at hb;obtain⟨Cr,qt,he,hhe,hd⟩:=hb;have uD:=mo.1 Cr;have hd:=jg hd;have cB:∀s,jj C hs l0 (nV l0 []) Cl M K p (ny gm i) s->gR Γ l0.toArray (bu hs) Cl Cl K f (gm.toArray.setIfInBounds i true) s:=by
   intro s h;have:=ih f (ny gm i) s (by omega) (by rw[gk];exact cN tN uD) h
   rwa [gk] at this
  have dD:∀(j:Nat) oj,l0.toArray[j]?=some oj->j≠i->gm.toArray.getD j true=false->Reach l0.toArray i j\/(o.apart l0.toArray oj=true/\((bu hs oj=false/\(cI oj.op=false\/∀hp hp',mc Cl j hp hp'->rW M i o.op hp hp'))\/(bu hs oj=true/\cI oj.op=false/\∃l,Cl.getD j none=some l/\∀hp hp',nZ l hp hp'->rW M i o.op hp hp'))):=by
   intro j oj hj iT jA;have:=GO qt j oj (by simpa using hj) (by rw[aqV];exact iT) (by rw[aqV];exact jA);rw[aqV] at this;exact this.imp (pc i j) fun h=>⟨h.1,h.2.imp (fun h=>⟨h.1,h.2.imp id fun hm hp hp' hc=>ki hm hc⟩) fun h=>⟨h.1,h.2.1,GN h.2.2⟩⟩
  have Pc:∃x,lh Γ l0.toArray o s x (rW M i o.op)/\gR Γ l0.toArray (bu hs) Cl Cl K f (gm.toArray.setIfInBounds i true) (s.put o.dst x):=by
   rw[dS] at hd;rcases KG.cases h with⟨hg,h⟩|⟨j,want,b,hg,hb,⟨kh,h⟩|⟨kh,h⟩⟩|⟨j,want,hg,hb,h⟩
   ·rw[fG] at h;obtain⟨x,h3,h4⟩:=jd.sound (ops:=l0.toArray) aA (fH.sound (N:=gR Γ l0.toArray (bu hs) Cl Cl K f (gm.toArray.setIfInBounds i true)) (R:=gR Γ l0.toArray (bu hs) Cl Cl K f (gm.toArray.setIfInBounds i true)) hP h cB cB) (fun _ h=>h) (fun _ h=>h) (.inl hg);exact⟨x,⟨hd,.inl ⟨by simp[aV,hg],h3⟩⟩,h4⟩
   ·rw[fG] at h;obtain⟨x,h3,h4⟩:=jd.sound (ops:=l0.toArray) aA (fH.sound (N:=gR Γ l0.toArray (bu hs) Cl Cl K f (gm.toArray.setIfInBounds i true)) (R:=gR Γ l0.toArray (bu hs) Cl Cl K f (gm.toArray.setIfInBounds i true)) hP h cB cB) (fun _ h=>h) (fun _ h=>h) (.inr ⟨j,want,_,hg,hb⟩);exact⟨x,⟨hd,.inl ⟨by simp[aV,hg,hb,kh],h3⟩⟩,h4⟩
   ·exact⟨_,⟨hd,.inr ⟨by simp[aV,hg,hb,kh],rfl⟩⟩,cB _ h⟩
   ·exact⟨_,⟨hd,.inr ⟨by simp[aV,hg,hb],rfl⟩⟩,cB _ h⟩
  obtain⟨x,h3,h4⟩:=Pc
  cases f with
  |zero=>
   refine⟨fun hn=>(by rw[hn] at uD;cases uD),fun j hj=>?_⟩
   by_cases iT:j=i
   ·subst iT;unfold kQ;rw[ho];simp only[he,hhe,aqH,if_false];exact⟨x,⟨h3.1,h3.2.imp (fun g=>⟨g.1,fun s' g1 g2=>g.2 s' g1 (by rw[g2];exact rW.refl)⟩) id⟩,h4⟩
   ·have h5:=ready_mono hj iT;rw[h4.1] at h5;cases h5
  |succ f=>
   exact gR.first (R:=rW M i o.op) (fun _ _ _=>rW.trans) (fun _=>rW.refl) ho (by simp[mO,he,hhe]) (f+1) gm.toArray s tN dD uD h3 h4
 |dQ i p ih=>
  intro fuel gm s hf tN h;simp only[oh.depth] at hf;obtain⟨f,rfl⟩:∃f,fuel=f+1:=⟨fuel-1,by omega⟩;simp only[jj] at h;split at h
  ·exact h.elim
  rename_i o ho;rw[ou] at ho;obtain⟨hb,h⟩:=cp h;rw[aqv] at hb;have uD:=mo.1 hb.1;refine⟨fun hn=>(by rw[hn] at uD;cases uD),fun k hk=>?_⟩;have:=pt hb.2 hk;simp only[aqJ] at this;subst this;exact tj.sound aE hP aA dS ho h fun s h=>by
   have:=ih f (ny gm k) s (by omega) (by rw[gk];exact cN tN uD) h
   rwa [gk] at this
 |two i p j q ihp ihq=>
  intro fuel gm s hf tN h;simp only[oh.depth] at hf;obtain⟨f,rfl⟩:∃f,fuel=f+1:=⟨fuel-1,by omega⟩;simp only[jj] at h;split at h
  ·rename_i o o' ho BH;rw[ou] at ho BH;obtain⟨hb,h⟩:=cp h;rw[aqv] at hb;have uD:=mo.1 hb.1;have jC:p.depth<=Nat.max p.depth q.depth:=Nat.le_max_left _ _;have hq1:q.depth<=Nat.max p.depth q.depth:=Nat.le_max_right _ _;refine⟨fun hn=>(by rw[hn] at uD;cases uD),fun k hk=>?_⟩;have:=pt hb.2 hk;simp only[aqZ,List.not_mem_nil,or_false] at this;rcases this with rfl|rfl
   ·exact tj.sound aE hP aA dS ho h.1 fun s h=>by
     have:=ihp f (ny gm k) s (by omega) (by rw[gk];exact cN tN hk) h
     rwa [gk] at this
   ·exact tj.sound aE hP aA dS BH h.2 fun s h=>by
     have:=ihq f (ny gm k) s (by omega) (by rw[gk];exact cN tN hk) h
     rwa [gk] at this
  ·exact h.elim
 |three i p j q k2 r ihp ihq ihr=>
  intro fuel gm s hf tN h;simp only[oh.depth] at hf;obtain⟨f,rfl⟩:∃f,fuel=f+1:=⟨fuel-1,by omega⟩;simp only[jj] at h;split at h
  ·rename_i o o' o2 ho BH ho2;rw[ou] at ho BH ho2;obtain⟨hb,h⟩:=cp h;rw[aqv] at hb;have uD:=mo.1 hb.1;have jC:p.depth<=Nat.max p.depth (Nat.max q.depth r.depth):=Nat.le_max_left _ _;have hq1:q.depth<=Nat.max p.depth (Nat.max q.depth r.depth):=aqU (Nat.le_max_left _ _) (Nat.le_max_right _ _);have DP:r.depth<=Nat.max p.depth (Nat.max q.depth r.depth):=aqU (Nat.le_max_right _ _) (Nat.le_max_right _ _);refine⟨fun hn=>(by rw[hn] at uD;cases uD),fun k hk=>?_⟩;have:=pt hb.2 hk;simp only[aqZ,List.not_mem_nil,or_false] at this;rcases this with rfl|rfl|rfl
   ·exact tj.sound aE hP aA dS ho h.1 fun s h=>by
     have:=ihp f (ny gm k) s (by omega) (by rw[gk];exact cN tN hk) h
     rwa [gk] at this
   ·exact tj.sound aE hP aA dS BH h.2.1 fun s h=>by
     have:=ihq f (ny gm k) s (by omega) (by rw[gk];exact cN tN hk) h
     rwa [gk] at this
   ·exact tj.sound aE hP aA dS ho2 h.2.2 fun s h=>by
     have:=ihr f (ny gm k) s (by omega) (by rw[gk];exact cN tN hk) h
     rwa [gk] at this
  ·exact h.elim
def tk:List Oper->List Bool
 | []=>[]
 |_::l=>false::tk l
theorem CK:∀(l:List Oper),(tk l).toArray=Array.replicate l.length false:=by
 have:∀(l:List Oper),tk l=List.replicate l.length false:=by
  intro l
  induction l with
  |nil=>rfl
  |cons o l ih=>simp only[tk,ih,aqy,List.replicate_succ]
 intro l;rw[this];simp
theorem eY.aeJ (aE:Γ.Ok) {C:dp} (hP:C.P=Γ.P) (aA:bc Γ.P C.tab) (dS:C.nt=Γ.nt) (hm:Γ.P.follows .mixedOrders=true) {hs:List Nat} {id:Nat} {l:List Oper} {Q:Exit->AS Unit->Prop} {Cl M:List (Option (List Nat))} {p:oh}
  (hd:Nat.ble p.depth l.length=true) (h:jj C hs l (nV l []) Cl M (Q .normal) p (tk l) s):eY Γ (.region id l.toArray true) Q s:=by
 intro a w η hr;refine wpIn_region_any hm ?_;have h1:=jj.sound aE hP aA dS p l.length (tk l) s (aqQ hd) (fun k o hk=>by
  rw[CK] at hk;simp only[aq3,Array.getElem?_replicate] at hk
  split at hk<;>simp at hk) h
 rw[CK] at h1;have h2:=jF.sound (Qc:=fun e a' w'=>∃s' bf,Q e s'/\Rel Γ s' a' w' bf) aE (fun s' a' w' bf h1 h2=>⟨s',bf,h1,h2⟩) _ _ _ a w.drew η (h1.any aE) (hr.same aE (bV.drew w));simpa using h2
end Go.Proofs.YtnkjkpmbgoehkaaGreat
