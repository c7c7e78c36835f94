/- Texts of ours laid together for a claim: VcK. -/
import Derived.Test.YtjhanogfpkbamaaGreatDoorQ26
namespace Go.Proofs.YtjhanogfpkbamaaGreatDoor
open Go
set_option linter.unusedSimpArgs false
set_option linter.unusedVariables false
def ni.depth:ni→Nat
 | .done=>0
 | .val _ p=>p.depth+1
 | .oV _ p=>p.depth+1
 | .two _ p _ q=>Nat.max p.depth q.depth+1
 | .three _ p _ q _ r=>Nat.max p.depth (Nat.max q.depth r.depth)+1
def EO (d:Bool):List Bool→Nat→Bool
 | [],_=>d
 |b::_,0=>b
 |_::l,n+1=>EO d l n
theorem xC (d:Bool):∀(l:List Bool) (n:Nat),EO d l n=l.toArray.getD n d
 | [],n=>by simp[EO]
 |b::l,0=>by simp[EO]
 |b::l,n+1=>by
  have:=xC d l n
  simp only[EO,this]
  simp[aiu]
def nr:List Oper→Nat→Option Oper
 | [],_=>none
 |o::_,0=>some o
 |_::l,n+1=>nr l n
theorem nu:∀(l:List Oper) (n:Nat),nr l n=l.toArray[n]?
 | [],n=>by simp[nr]
 |b::l,0=>by simp[nr]
 |b::l,n+1=>by
  have:=nu l n
  simp only[nr,this]
  simp
def mF:List Bool→Nat→List Bool
 | [],_=>[]
 |_::l,0=>true::l
 |b::l,n+1=>b::mF l n
theorem fU:∀(l:List Bool) (n:Nat),(mF l n).toArray=l.toArray.setIfInBounds n true:=by
 intro l n
 have:∀(l:List Bool) (n:Nat),mF l n=l.set n true:=by
  intro l
  induction l with
  |nil=>intro n;simp[mF]
  |cons b l ih=>intro n;cases n<;>simp[mF,ih]
 rw[this];simp
def y7 (fV:List Bool):List Edge→Bool
 | []=>true
 |e::l=>(!Region.binds .any e||EO false fV e.on)&&y7 fV l
theorem AX {fV:List Bool}:∀{l:List Edge},y7 fV l=true↔∀e∈l,Region.binds .any e=true→fV.toArray.getD e.on false=true
 | []=>by simp[y7]
 |e::l=>by
  simp only[y7,ahZ,ai6,aiA,AX (l:=l),aiC,forall_eq_or_imp,xC]
  constructor
  ·rintro⟨h1,h2⟩;exact⟨fun hb=>h1.resolve_left (by rw[hb];simp),h2⟩
  ·rintro⟨h1,h2⟩
   refine⟨?_,h2⟩
   cases hb:Region.binds .any e with
   |false=>exact .inl rfl
   |true=>exact .inr (h1 hb)
def qm (l0:List Oper) (fV:List Bool) (k:Nat):Bool:=
 match nr l0 k with
 |none=>false
 |some o=>!(EO true fV k)&&y7 fV o.after.toList
theorem lq {l0:List Oper} {fV:List Bool} {k:Nat}:qm l0 fV k=true↔k∈Region.ready .any l0.toArray fV.toArray:=by
 rw[mem_ready]
 unfold qm
 rw[nu]
 cases hk:l0.toArray[k]? with
 |none=>simp
 |some o=>
  simp only[ahZ,aiA,xC,AX,Option.some.injEq,exists_eq_left']
  constructor
  ·rintro⟨h1,h2⟩;exact⟨h1,fun e he hb=>h2 e (by simpa using he) hb⟩
  ·rintro⟨h1,h2⟩;exact⟨h1,fun e he hb=>h2 e (by simpa using he) hb⟩
def vR (l0:List Oper) (fV:List Bool) (l:List Nat):List Oper→Nat→Bool
 | [],_=>true
 |_::r,k=>(!qm l0 fV k||HN l k)&&vR l0 fV l r (k+1)
theorem EP {l0:List Oper} {fV:List Bool} {l:List Nat}:∀{r:List Oper} {k:Nat},vR l0 fV l r k=true→∀q,k≤q→q<k+r.length→qm l0 fV q=true→q∈l
 | [],k,_,q,h1,h2,_=>by simp at h2;omega
 |o::r,k,h,q,h1,h2,h3=>by
  simp only[vR,ahZ,ai6,aiA] at h
  by_cases hq:q=k
  ·subst hq;exact B6 (h.1.resolve_left (by rw[h3];simp))
  ·exact EP h.2 q (by omega) (by simp only[aif] at h2;omega) h3
theorem n4 {l0:List Oper} {fV:List Bool} {l:List Nat} (h:vR l0 fV l l0 0=true) {q:Nat} (hq:q∈Region.ready .any l0.toArray fV.toArray):q∈l:=by
 obtain⟨_,o,ho,_⟩:=mem_ready.1 hq
 have:=(ail.1 ho).1
 exact EP h q (ah3 _) (by simpa using this) (lq.2 hq)
def AY (C M:List (Option (List Nat))) (k j:Nat) (op:Op):Bool:=
 gS op||(match qk C j,qk M k with
  |some l,some K=>M6 l K
  |_,_=>false)
def Cc (C M:List (Option (List Nat))) (k j:Nat) (op:Op):Bool:=
 match qk C j with
 |none=>false
 |some l=>gS op||(match qk M k with
  |some K=>M6 l K
  |none=>false)
theorem ER {C M:List (Option (List Nat))} {k j:Nat} {op:Op} (h:Cc C M k j op=true):∃l,C.getD j none=some l∧∀hp hp',mW l hp hp'→qO M k op hp hp':=by
 unfold Cc at h
 rw[fA] at h
 split at h
 ·cases h
 ·rename_i l hl
  refine⟨l,hl,fun hp hp' hf=>jO (C:=C) (j:=j) ?_ (by unfold k9;rw[hl];exact hf)⟩
  unfold iS
  rw[fA] at h
  rw[hl]
  rw[ai6] at h ⊢
  refine h.imp id fun h=>?_
  split at h
  ·rename_i K hK;rw[hK];exact h
  ·cases h
def Jt (H:Oper→Bool) (l0:List Oper) (HR:List Nat) (C M:List (Option (List Nat))) (fV:List Bool) (i:Nat) (oi:Oper):List Oper→Nat→Bool
 | [],_=>true
 |oj::r,j=>(Nat.beq j i||(EO true fV j||(((HR.getD j 0).testBit i)||(oi.apart l0.toArray oj&&(match H oj with|false=>!cF oj.op||AY C M i j oi.op|true=>!cF oj.op&&Cc C M i j oi.op)))))&&Jt H l0 HR C M fV i oi r (j+1)
theorem ES {H:Oper→Bool} {l0:List Oper} {HR:List Nat} {C M:List (Option (List Nat))} {fV:List Bool} {i:Nat} {oi:Oper}:∀{r:List Oper} {k:Nat},Jt H l0 HR C M fV i oi r k=true→∀(j:Nat) oj,r[j]?=some oj→k+j≠i→fV.toArray.getD (k+j) true=false→
  (HR.getD (k+j) 0).testBit i=true∨(oi.apart l0.toArray oj=true∧((H oj=false∧(cF oj.op=false∨iS C M i (k+j) oi.op=true))∨(H oj=true∧cF oj.op=false∧Cc C M i (k+j) oi.op=true)))
 | [],k,_,j,oj,hj,_,_=>by simp at hj
 |o::r,k,h,j,oj,hj,h1,h2=>by
  simp only[Jt,ahZ,ai6,aiA] at h
  cases j with
  |zero=>
   simp only[aiS,Option.some.injEq] at hj
   subst hj
   rcases h.1 with h3|h3|h3|h3
   ·exact(h1 (ain h3)).elim
   ·rw[xC,show k=k+0 from rfl,h2] at h3;cases h3
   ·exact .inl h3
   ·refine .inr ⟨h3.1,?_⟩
    have h4:=h3.2
    cases hH:H o with
    |false=>
     rw[hH] at h4
     simp only[ai6,aiA] at h4
     refine .inl ⟨rfl,h4.imp id fun h=>?_⟩
     unfold AY at h
     unfold iS
     rw[fA,fA] at h
     exact h
    |true=>
     rw[hH] at h4
     simp only[ahZ,aiA] at h4
     exact .inr ⟨rfl,h4⟩
  |succ j=>
   simp only[aiB] at hj
   have:=ES h.2 j oj hj (by omega) (by rw[show k+1+j=k+(j+1) from by omega];exact h2)
   rw[show k+1+j=k+(j+1) from by omega] at this
   exact this
def vc (C:cW) (l:List Nat) (o:Oper) (s:AS Unit) (next:AS Unit→Prop):Prop:=
 match qe s o.op with
 |some (f,args)=>(match EC C f o with
  | .kN sh=>okB (M6 (jD s.hp 100 [] args) l) (Ac C (jD s.hp 100 [] args) sh f args o s next)
  |_=>False)
 |none=>False
theorem NY {js:List Nat} {H h:List af} (hb:qh H.length js=true) (hl:js.length≤h.length):mW js H (jZ (nj js H.length) js.length h H):=by
 refine⟨by rw[jZ,tB];omega,fun q o hq ho=>?_⟩
 have D9:q<H.length:=(ahY.1 ho).1
 rw[jZ,yO (by omega)]
 unfold putAt
 split
 ·rename_i i hi
  obtain⟨h1,h2⟩:=nX hi
  unfold nj at h2
  split at h2
  ·rename_i ay
   have ay:i<js.length:=ait (show Nat.ble (i+1) js.length=true from ay)
   exact(hq (by rw[←h2];exact aic (qi ay))).elim
  ·omega
 ·rw[List.getD_eq_getElem?_getD,ho];rfl
theorem vc.sound {Γ:Env Unit} {s:AS Unit} (aD:Γ.Ok) {C:cW} (hP:C.P=Γ.P) (dI:C.nt=Γ.nt) {ops:Array Oper} {l:List Nat} {o:Oper} {next K:AS Unit→Prop} (hd:dB Γ.nt o.dst) (h:vc C l o s next) (hn:∀s,next s→K s):Nd Γ ops o l s K:=by
 unfold vc at h
 split at h
 ·rename_i f args aI
  rw[kS] at aI
  unfold k8 at aI
  split at aI
  ·rename_i c hc
   split at aI
   ·rename_i x hx
    split at aI
    ·rename_i f' caps eu
     simp only[Option.some.injEq,Prod.mk.injEq] at aI
     obtain⟨rfl,rfl⟩:=aI
     split at h
     ·rename_i sh Yd
      generalize jD s.hp 100 [] (List.map s.ev c.args.toList++caps)=js at *
      obtain⟨Rb,h⟩:=cu h
      unfold Ac at h
      obtain⟨hb,h⟩:=cu h
      rw[bG] at h
      obtain⟨iK,R,g1,g2⟩:=h
      have aI:=cI (g:=AV.HK js s.hp) (fun x=>yS) _ iK
      rw[hP] at g1
      have qR:=Ac.Xs (R:=fun r h'=>R r h'∧vO js r h'=true) hb (g1.mono fun r h' hr=>⟨hr,(cu (iV (g2 r h' hr))).1⟩) (fun r h' hr=>hr.2)
      refine⟨fun r2 H2=>∃r h,(R r h∧vO js r h=true)∧r2=uZ (nj js s.hp.length) r∧H2=jZ (nj js s.hp.length) js.length h s.hp,fun s' ht BP K' hK'=>?_,fun r hp' hN=>?_⟩
      ·have yf:∀y,y∈o.op.operands→s'.ev y=s.ev y:=fun y hy=>by
        cases y with
        |tmp t=>
         refine ht t ?_
         unfold Oper.looksAt
         exact aje _ (ajQ.2 ⟨.tmp t,by simpa using hy,rfl⟩)
        |_=>rfl
       have oR:s'.ev x=.ck f' caps:=by rw[←eu];exact yf x (by rw[hc];simp[Op.operands,Call.operands,hx])
       have hm:c.args.toList.map s'.ev=c.args.toList.map s.ev:=ai7 fun y hy=>yf y (by rw[hc];simp only[Op.operands,Call.operands,ajy];exact .inr (by simpa using hy))
       exact bR.Nc aD hc hx oR (by rw[BP];exact qR) (fun a w η us hr h=>by
        have:=tF hr js _ us h
        rw[hm,BP,aI] at this
        rw[BP];exact this) hd hK'
      ·obtain⟨r',h',hr,rfl,rfl⟩:=hN
       have BU:qh s.hp.length js=true:=by simp only[ahZ] at hb;exact hb.1
       have hle:js.length≤h'.length:=by have:=hr.2;simp only[vO,ahZ] at this;exact ait this.1
       refine⟨(NY BU hle).mono fun q hq=>?_,hn _ (cu (iV (g2 r' h' hr.1))).2⟩
       have:=ah4.1 Rb q hq
       simpa using this
     ·exact h.elim
    ·cases aI
   ·cases aI
  ·cases aI
 ·exact h.elim
def sB (C:cW) (hs:List Nat) (l0:List Oper) (Cl:List (Option (List Nat))) (i:Nat) (o:Oper) (s:AS Unit) (next:AS Unit→Prop):Prop:=
 match wU C.nt o.dst with
 |false=>False
 |true=>(match cF o.op with
  |true=>(match o.guard with
   |none=>okB (NB (qk Cl i) s.ev o.op) (match EB C.az s.hp s.ev o.op (fun r hp'=>next (AS.put { s with hp:=hp' } o.dst r)) with
    |some p=>p
    |none=>False)
   |some _=>False)
  |false=>(match bf hs o with
   |true=>KG l0 o s (fun s=>match qk Cl i with
     |none=>jw C o s next
     |some l=>vc C l o s next) (fun s=>next (s.put o.dst (.ah (.tuple #[]))))
   |false=>KG l0 o s (fun s=>fB C none o s next) (fun s=>next (s.put o.dst (.ah (.tuple #[]))))))
def iZ (C:cW) (hs:List Nat) (l0:List Oper) (HR:List Nat) (Cl M:List (Option (List Nat))) (K:AS Unit→Prop):ni→List Bool→AS Unit→Prop
 | .done,fV,s=>okB (vR l0 fV [] l0 0) (K s)
 | .val i p,fV,s=>(match nr l0 i with
  |none=>False
  |some o=>okB (qm l0 fV i&&(Jt (bf hs) l0 HR Cl M fV i o l0 0&&(!cF o.op&&(!bf hs o&&wU C.nt o.dst))))
    (KG l0 o s (fun s=>fB C (qk M i) o s (iZ C hs l0 HR Cl M K p (mF fV i))) (fun s=>iZ C hs l0 HR Cl M K p (mF fV i) (s.put o.dst (.ah (.tuple #[]))))))
 | .oV i p,fV,s=>(match nr l0 i with
  |none=>False
  |some o=>okB (qm l0 fV i&&vR l0 fV [i] l0 0) (sB C hs l0 Cl i o s (iZ C hs l0 HR Cl M K p (mF fV i))))
 | .two i p j q,fV,s=>(match nr l0 i,nr l0 j with
  |some o,some o'=>okB (qm l0 fV i&&vR l0 fV [i,j] l0 0)
    (sB C hs l0 Cl i o s (iZ C hs l0 HR Cl M K p (mF fV i))∧sB C hs l0 Cl j o' s (iZ C hs l0 HR Cl M K q (mF fV j)))
  |_,_=>False)
 | .three i p j q k r,fV,s=>(match nr l0 i,nr l0 j,nr l0 k with
  |some o,some o',some o2=>okB (qm l0 fV i&&vR l0 fV [i,j,k] l0 0)
    (sB C hs l0 Cl i o s (iZ C hs l0 HR Cl M K p (mF fV i))∧(sB C hs l0 Cl j o' s (iZ C hs l0 HR Cl M K q (mF fV j))∧sB C hs l0 Cl k o2 s (iZ C hs l0 HR Cl M K r (mF fV k))))
  |_,_,_=>False)
variable {Γ:Env Unit} {s:AS Unit}
theorem sB.sound (aD:Γ.Ok) {C:cW} (hP:C.P=Γ.P) (au:aT Γ.P C.az) (dI:C.nt=Γ.nt) {hs:List Nat} {l0:List Oper} {Cl:List (Option (List Nat))} {i:Nat} {o:Oper} (ho:l0.toArray[i]?=some o) {next K:AS Unit→Prop} (h:sB C hs l0 Cl i o s next) (hn:∀s,next s→K s):
  kq Γ l0.toArray (bf hs) Cl Cl i K s:=by
 unfold sB at h
 unfold kq
 rw[ho]
 simp only
 split at h
 ·exact h.elim
 rename_i hd
 have hd:=iW hd
 rw[dI] at hd
 split at h
 ·rename_i he
  rw[if_pos he]
  split at h
  ·rename_i hg
   obtain⟨HO,h⟩:=cu h
   split at h
   ·rename_i p hp
    obtain⟨c,r,hp',g1,g2,g3⟩:=qQ hp h
    have hcg:=B7 HO g1
    rw[fA] at hcg
    refine⟨hd,hg,r,hp',fun tr BQ e1 e2 e3=>jy BQ (az:=C.az) (by rw[e1];exact au) (c:=c) ?_ g2,?_,hn _ g3⟩
    ·rw[←g1];exact r9 fun x hx=>kL hx
    ·unfold k9
     cases hc:Cl.getD i none with
     |none=>exact True.intro
     |some l=>
      have:=mY.fr _ _ _ (hcg l hc)
      exact⟨this.1,fun q ob hq ho=>this.2 q ob (by simpa using hq) ho⟩
   ·exact h.elim
  ·exact h.elim
 ·rename_i he
  rw[if_neg (by rw[he];simp)]
  split at h
  ·rename_i hh
   rw[if_pos hh]
   have act:∀h:(match qk Cl i with
     |none=>jw C o s next
     |some l=>vc C l o s next),HC Γ l0.toArray Cl i o s K:=by
    intro h
    unfold HC
    rw[fA] at h
    split at h
    ·rename_i hc;rw[hc];exact jw.sound aD hP au dI h hn
    ·rename_i l hc;rw[hc];exact vc.sound aD hP dI hd h hn
   rcases KG.cases h with⟨hg,h⟩|⟨j,want,b,hg,hb,⟨jX,h⟩|⟨jX,h⟩⟩|⟨j,want,hg,hb,h⟩
   ·exact .inl ⟨by simp[aM,hg],act h⟩
   ·exact .inl ⟨by simp[aM,hg,hb,jX],act h⟩
   ·exact .inr ⟨by simp[aM,hg,hb,jX],hd,hn _ h⟩
   ·exact .inr ⟨by simp[aM,hg,hb],hd,hn _ h⟩
  ·rename_i hh
   rw[if_neg (by rw[hh];simp)]
   have tj:∀{x:AV},kM Γ l0.toArray o s x (qO [] i o.op)→kM Γ l0.toArray o s x (fun hp hp'=>hp'=hp):=fun h=>
    ⟨h.1,h.2.imp (fun g=>⟨g.1,fun s' g1 g2=>g.2 s' g1 (by rw[g2];exact qO.refl)⟩) id⟩
   have step:fB C none o s next→(o.guard=none∨∃j want b,o.guard=some (j,want)∧jW l0.toArray s j=some b)→∃x,(∀s':AS Unit,(∀t,t∈o.looksAt l0.toArray→s'.tmps t=s.tmps t)→qO [] i o.op s.hp s'.hp→mE Γ o (s'.only (o.looksAt l0.toArray)) x)∧K (s.put o.dst x):=
    fun h hg=>iT.sound (ops:=l0.toArray) (M:=[]) (k:=i) au (fB.sound (N:=K) (R:=K) hP h hn hn) (fun _ h=>h) (fun _ h=>h) hg
   rcases KG.cases h with⟨hg,h⟩|⟨j,want,b,hg,hb,⟨jX,h⟩|⟨jX,h⟩⟩|⟨j,want,hg,hb,h⟩
   ·obtain⟨x,h3,h4⟩:=step h (.inl hg)
    exact⟨x,tj ⟨hd,.inl ⟨by simp[aM,hg],h3⟩⟩,h4⟩
   ·obtain⟨x,h3,h4⟩:=step h (.inr ⟨j,want,_,hg,hb⟩)
    exact⟨x,tj ⟨hd,.inl ⟨by simp[aM,hg,hb,jX],h3⟩⟩,h4⟩
   ·exact⟨_,⟨hd,.inr ⟨by simp[aM,hg,hb,jX],rfl⟩⟩,hn _ h⟩
   ·exact⟨_,⟨hd,.inr ⟨by simp[aM,hg,hb],rfl⟩⟩,hn _ h⟩
theorem iZ.sound (aD:Γ.Ok) {C:cW} (hP:C.P=Γ.P) (au:aT Γ.P C.az) (dI:C.nt=Γ.nt) {hs:List Nat} {l0:List Oper} {Cl M:List (Option (List Nat))} {K:AS Unit→Prop}:∀(p:ni) (fuel:Nat) (fV:List Bool) (s:AS Unit),p.depth≤fuel→pY l0.toArray fV.toArray→
  iZ C hs l0 (mS l0 []) Cl M K p fV s→gK Γ l0.toArray (bf hs) Cl Cl K fuel fV.toArray s:=by
 have nQ:∀(i j:Nat),(List.getD (mS l0 []) j 0).testBit i=true→Reach l0.toArray i j:=by
  intro i j hj
  cases hm:(mS l0 [])[j]? with
  |none=>simp[List.getD,hm] at hj
  |some m=>
   simp only[List.getD,hm,aiP] at hj
   exact mT (ops:=l0.toArray) l0 [] (fun j=>by simp) (fun j m i hj=>by simp at hj) j m i hm hj
 intro p
 induction p with
 |done=>
  intro fuel fV s hf Mm h
  simp only[iZ] at h
  obtain⟨hb,h⟩:=cu h
  have Yr:Region.ready .any l0.toArray fV.toArray=[]:=by
   apply ajp.2
   intro q hq
   have:=n4 hb hq
   simp at this
  cases fuel with
  |zero=>exact⟨Yr,h⟩
  |succ fuel=>exact⟨fun _=>h,fun q hq=>by rw[Yr] at hq;cases hq⟩
 |val i p ih=>
  intro fuel fV s hf Mm h
  simp only[ni.depth] at hf
  obtain⟨f,rfl⟩:∃f,fuel=f+1:=⟨fuel-1,by omega⟩
  simp only[iZ] at h
  split at h
  ·exact h.elim
  rename_i o ho
  rw[nu] at ho
  obtain⟨hb,h⟩:=cu h
  simp only[ahZ,aiA] at hb
  obtain⟨qM,qR,he,hhe,hd⟩:=hb
  have tN:=lq.1 qM
  have hd:=iW hd
  have aV:∀s,iZ C hs l0 (mS l0 []) Cl M K p (mF fV i) s→gK Γ l0.toArray (bf hs) Cl Cl K f (fV.toArray.setIfInBounds i true) s:=by
   intro s h
   have:=ih f (mF fV i) s (by omega) (by rw[fU];exact cK Mm tN) h
   rwa [fU] at this
  have cU:∀(j:Nat) oj,l0.toArray[j]?=some oj→j≠i→fV.toArray.getD j true=false→Reach l0.toArray i j∨(o.apart l0.toArray oj=true∧((bf hs oj=false∧(cF oj.op=false∨∀hp hp',k9 Cl j hp hp'→qO M i o.op hp hp'))∨(bf hs oj=true∧cF oj.op=false∧∃l,Cl.getD j none=some l∧∀hp hp',mW l hp hp'→qO M i o.op hp hp'))):=by
   intro j oj hj iE kE
   have:=ES qR j oj (by simpa using hj) (by rw[aiw];exact iE) (by rw[aiw];exact kE)
   rw[aiw] at this
   exact this.imp (nQ i j) fun h=>⟨h.1,h.2.imp (fun h=>⟨h.1,h.2.imp id fun hm hp hp' hc=>jO hm hc⟩) fun h=>⟨h.1,h.2.1,ER h.2.2⟩⟩
  have Lb:∃x,kM Γ l0.toArray o s x (qO M i o.op)∧gK Γ l0.toArray (bf hs) Cl Cl K f (fV.toArray.setIfInBounds i true) (s.put o.dst x):=by
   rw[dI] at hd
   rcases KG.cases h with⟨hg,h⟩|⟨j,want,b,hg,hb,⟨jX,h⟩|⟨jX,h⟩⟩|⟨j,want,hg,hb,h⟩
   ·rw[fA] at h
    obtain⟨x,h3,h4⟩:=iT.sound (ops:=l0.toArray) au (fB.sound (N:=gK Γ l0.toArray (bf hs) Cl Cl K f (fV.toArray.setIfInBounds i true)) (R:=gK Γ l0.toArray (bf hs) Cl Cl K f (fV.toArray.setIfInBounds i true)) hP h aV aV) (fun _ h=>h) (fun _ h=>h) (.inl hg)
    exact⟨x,⟨hd,.inl ⟨by simp[aM,hg],h3⟩⟩,h4⟩
   ·rw[fA] at h
    obtain⟨x,h3,h4⟩:=iT.sound (ops:=l0.toArray) au (fB.sound (N:=gK Γ l0.toArray (bf hs) Cl Cl K f (fV.toArray.setIfInBounds i true)) (R:=gK Γ l0.toArray (bf hs) Cl Cl K f (fV.toArray.setIfInBounds i true)) hP h aV aV) (fun _ h=>h) (fun _ h=>h) (.inr ⟨j,want,_,hg,hb⟩)
    exact⟨x,⟨hd,.inl ⟨by simp[aM,hg,hb,jX],h3⟩⟩,h4⟩
   ·exact⟨_,⟨hd,.inr ⟨by simp[aM,hg,hb,jX],rfl⟩⟩,aV _ h⟩
   ·exact⟨_,⟨hd,.inr ⟨by simp[aM,hg,hb],rfl⟩⟩,aV _ h⟩
  obtain⟨x,h3,h4⟩:=Lb
  cases f with
  |zero=>
   refine⟨fun hn=>(by rw[hn] at tN;cases tN),fun j hj=>?_⟩
   by_cases iE:j=i
   ·subst iE
    unfold kq
    rw[ho]
    simp only[he,hhe,aij,if_false]
    exact⟨x,⟨h3.1,h3.2.imp (fun g=>⟨g.1,fun s' g1 g2=>g.2 s' g1 (by rw[g2];exact qO.refl)⟩) id⟩,h4⟩
   ·have h5:=ready_mono hj iE
    rw[h4.1] at h5
    cases h5
  |succ f=>
   exact gK.first (R:=qO M i o.op) (fun _ _ _=>qO.trans) (fun _=>qO.refl) ho (by simp[lP,he,hhe]) (f+1) fV.toArray s Mm cU tN h3 h4
 |oV i p ih=>
  intro fuel fV s hf Mm h
  simp only[ni.depth] at hf
  obtain⟨f,rfl⟩:∃f,fuel=f+1:=⟨fuel-1,by omega⟩
  simp only[iZ] at h
  split at h
  ·exact h.elim
  rename_i o ho
  rw[nu] at ho
  obtain⟨hb,h⟩:=cu h
  rw[ahZ] at hb
  have tN:=lq.1 hb.1
  refine⟨fun hn=>(by rw[hn] at tN;cases tN),fun k hk=>?_⟩
  have:=n4 hb.2 hk
  simp only[air] at this
  subst this
  exact sB.sound aD hP au dI ho h fun s h=>by
   have:=ih f (mF fV k) s (by omega) (by rw[fU];exact cK Mm tN) h
   rwa [fU] at this
 |two i p j q ihp ihq=>
  intro fuel fV s hf Mm h
  simp only[ni.depth] at hf
  obtain⟨f,rfl⟩:∃f,fuel=f+1:=⟨fuel-1,by omega⟩
  simp only[iZ] at h
  split at h
  ·rename_i o o' ho xZ
   rw[nu] at ho xZ
   obtain⟨hb,h⟩:=cu h
   rw[ahZ] at hb
   have tN:=lq.1 hb.1
   have iM:p.depth≤Nat.max p.depth q.depth:=Nat.le_max_left _ _
   have hq1:q.depth≤Nat.max p.depth q.depth:=Nat.le_max_right _ _
   refine⟨fun hn=>(by rw[hn] at tN;cases tN),fun k hk=>?_⟩
   have:=n4 hb.2 hk
   simp only[aiC,List.not_mem_nil,or_false] at this
   rcases this with rfl|rfl
   ·exact sB.sound aD hP au dI ho h.1 fun s h=>by
     have:=ihp f (mF fV k) s (by omega) (by rw[fU];exact cK Mm hk) h
     rwa [fU] at this
   ·exact sB.sound aD hP au dI xZ h.2 fun s h=>by
     have:=ihq f (mF fV k) s (by omega) (by rw[fU];exact cK Mm hk) h
     rwa [fU] at this
  ·exact h.elim
 |three i p j q k2 r ihp ihq ihr=>
  intro fuel fV s hf Mm h
  simp only[ni.depth] at hf
  obtain⟨f,rfl⟩:∃f,fuel=f+1:=⟨fuel-1,by omega⟩
  simp only[iZ] at h
  split at h
  ·rename_i o o' o2 ho xZ ho2
   rw[nu] at ho xZ ho2
   obtain⟨hb,h⟩:=cu h
   rw[ahZ] at hb
   have tN:=lq.1 hb.1
   have iM:p.depth≤Nat.max p.depth (Nat.max q.depth r.depth):=Nat.le_max_left _ _
   have hq1:q.depth≤Nat.max p.depth (Nat.max q.depth r.depth):=aiy (Nat.le_max_left _ _) (Nat.le_max_right _ _)
   have GY:r.depth≤Nat.max p.depth (Nat.max q.depth r.depth):=aiy (Nat.le_max_right _ _) (Nat.le_max_right _ _)
   refine⟨fun hn=>(by rw[hn] at tN;cases tN),fun k hk=>?_⟩
   have:=n4 hb.2 hk
   simp only[aiC,List.not_mem_nil,or_false] at this
   rcases this with rfl|rfl|rfl
   ·exact sB.sound aD hP au dI ho h.1 fun s h=>by
     have:=ihp f (mF fV k) s (by omega) (by rw[fU];exact cK Mm hk) h
     rwa [fU] at this
   ·exact sB.sound aD hP au dI xZ h.2.1 fun s h=>by
     have:=ihq f (mF fV k) s (by omega) (by rw[fU];exact cK Mm hk) h
     rwa [fU] at this
   ·exact sB.sound aD hP au dI ho2 h.2.2 fun s h=>by
     have:=ihr f (mF fV k) s (by omega) (by rw[fU];exact cK Mm hk) h
     rwa [fU] at this
  ·exact h.elim
def sC:List Oper→List Bool
 | []=>[]
 |_::l=>false::sC l
theorem AZ:∀(l:List Oper),(sC l).toArray=Array.replicate l.length false:=by
 have:∀(l:List Oper),sC l=List.replicate l.length false:=by
  intro l
  induction l with
  |nil=>rfl
  |cons o l ih=>simp only[sC,ih,aif,List.replicate_succ]
 intro l
 rw[this];simp
theorem eM.Ys (aD:Γ.Ok) {C:cW} (hP:C.P=Γ.P) (au:aT Γ.P C.az) (dI:C.nt=Γ.nt) (hm:Γ.P.follows .mixedOrders=true) {hs:List Nat} {id:Nat} {l:List Oper} {Q:Exit→AS Unit→Prop} {Cl M:List (Option (List Nat))} {p:ni}
  (hd:Nat.ble p.depth l.length=true) (h:iZ C hs l (mS l []) Cl M (Q .normal) p (sC l) s):eM Γ (.region id l.toArray true) Q s:=by
 intro a w η hr
 refine wpIn_region_any hm ?_
 have h1:=iZ.sound aD hP au dI p l.length (sC l) s (ait hd) (fun k o hk=>by
  rw[AZ] at hk
  simp only[aiu,ajT] at hk
  split at hk<;>simp at hk) h
 rw[AZ] at h1
 have h2:=jv.sound (Qc:=fun e a' w'=>∃s' aU,Q e s'∧Rel Γ s' a' w' aU) aD (fun s' a' w' aU h1 h2=>⟨s',aU,h1,h2⟩) _ _ _ a w.drew η (h1.any aD) (hr.same aD (bX.drew w))
 simpa using h2
end Go.Proofs.YtjhanogfpkbamaaGreatDoor
