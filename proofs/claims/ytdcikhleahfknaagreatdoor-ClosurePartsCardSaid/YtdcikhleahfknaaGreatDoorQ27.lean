/- Texts of ours laid together for a claim: VcK. -/
import Derived.Test.YtdcikhleahfknaaGreatDoorQ26
namespace Go.Proofs.YtdcikhleahfknaaGreatDoor
open Go
set_option linter.unusedSimpArgs false
set_option linter.unusedVariables false
def kz.depth:kz→Nat
 | .done=>0
 | .val _ p=>p.depth+1
 | .zB _ p=>p.depth+1
 | .two _ p _ q=>Nat.max p.depth q.depth+1
 | .three _ p _ q _ r=>Nat.max p.depth (Nat.max q.depth r.depth)+1
def Ap (d:Bool):List Bool→Nat→Bool
 | [],_=>d
 |b::_,0=>b
 |_::l,n+1=>Ap d l n
theorem sQ (d:Bool):∀(l:List Bool) (n:Nat),Ap d l n=l.toArray.getD n d
 | [],n=>by simp[Ap]
 |b::l,0=>by simp[Ap]
 |b::l,n+1=>by
  have:=sQ d l n
  simp only[Ap,this]
  simp[Array.getD_eq_getD_getElem?]
def kE:List Oper→Nat→Option Oper
 | [],_=>none
 |o::_,0=>some o
 |_::l,n+1=>kE l n
theorem kF:∀(l:List Oper) (n:Nat),kE l n=l.toArray[n]?
 | [],n=>by simp[kE]
 |b::l,0=>by simp[kE]
 |b::l,n+1=>by
  have:=kF l n
  simp only[kE,this]
  simp
def jF:List Bool→Nat→List Bool
 | [],_=>[]
 |_::l,0=>true::l
 |b::l,n+1=>b::jF l n
theorem dX:∀(l:List Bool) (n:Nat),(jF l n).toArray=l.toArray.setIfInBounds n true:=by
 intro l n
 have:∀(l:List Bool) (n:Nat),jF l n=l.set n true:=by
  intro l
  induction l with
  |nil=>intro n;simp[jF]
  |cons b l ih=>intro n;cases n<;>simp[jF,ih]
 rw[this];simp
def uh (dY:List Bool):List Edge→Bool
 | []=>true
 |e::l=>(!Region.binds .any e||Ap false dY e.on)&&uh dY l
theorem wq {dY:List Bool}:∀{l:List Edge},uh dY l=true↔∀e∈l,Region.binds .any e=true→dY.toArray.getD e.on false=true
 | []=>by simp[uh]
 |e::l=>by
  simp only[uh,Bool.and_eq_true,Bool.or_eq_true,Bool.not_eq_true',wq (l:=l),List.mem_cons,forall_eq_or_imp,sQ]
  constructor
  ·rintro⟨h1,h2⟩;exact⟨fun hb=>h1.resolve_left (by rw[hb];simp),h2⟩
  ·rintro⟨h1,h2⟩
   refine⟨?_,h2⟩
   cases hb:Region.binds .any e with
   |false=>exact .inl rfl
   |true=>exact .inr (h1 hb)
def mH (l0:List Oper) (dY:List Bool) (k:Nat):Bool:=
 match kE l0 k with
 |none=>false
 |some o=>!(Ap true dY k)&&uh dY o.after.toList
theorem iJ {l0:List Oper} {dY:List Bool} {k:Nat}:mH l0 dY k=true↔k∈Region.ready .any l0.toArray dY.toArray:=by
 rw[mem_ready]
 unfold mH
 rw[kF]
 cases hk:l0.toArray[k]? with
 |none=>simp
 |some o=>
  simp only[Bool.and_eq_true,Bool.not_eq_true',sQ,wq,Option.some.injEq,exists_eq_left']
  constructor
  ·rintro⟨h1,h2⟩;exact⟨h1,fun e he hb=>h2 e (by simpa using he) hb⟩
  ·rintro⟨h1,h2⟩;exact⟨h1,fun e he hb=>h2 e (by simpa using he) hb⟩
def rD (l0:List Oper) (dY:List Bool) (l:List Nat):List Oper→Nat→Bool
 | [],_=>true
 |_::r,k=>(!mH l0 dY k||C5 l k)&&rD l0 dY l r (k+1)
theorem Aq {l0:List Oper} {dY:List Bool} {l:List Nat}:∀{r:List Oper} {k:Nat},rD l0 dY l r k=true→∀q,k≤q→q<k+r.length→mH l0 dY q=true→q∈l
 | [],k,_,q,h1,h2,_=>by simp at h2;omega
 |o::r,k,h,q,h1,h2,h3=>by
  simp only[rD,Bool.and_eq_true,Bool.or_eq_true,Bool.not_eq_true'] at h
  by_cases hq:q=k
  ·subst hq;exact xG (h.1.resolve_left (by rw[h3];simp))
  ·exact Aq h.2 q (by omega) (by simp only[List.length_cons] at h2;omega) h3
theorem lj {l0:List Oper} {dY:List Bool} {l:List Nat} (h:rD l0 dY l l0 0=true) {q:Nat} (hq:q∈Region.ready .any l0.toArray dY.toArray):q∈l:=by
 obtain⟨_,o,ho,_⟩:=mem_ready.1 hq
 have:=(Array.getElem?_eq_some_iff.1 ho).1
 exact Aq h q (Nat.zero_le _) (by simpa using this) (iJ.2 hq)
def wu (C M:List (Option (List Nat))) (k j:Nat) (op:Op):Bool:=
 eL op||(match mF C j,mF M k with
  |some l,some K=>HT l K
  |_,_=>false)
def xM (C M:List (Option (List Nat))) (k j:Nat) (op:Op):Bool:=
 match mF C j with
 |none=>false
 |some l=>eL op||(match mF M k with
  |some K=>HT l K
  |none=>false)
theorem Ar {C M:List (Option (List Nat))} {k j:Nat} {op:Op} (h:xM C M k j op=true):∃l,C.getD j none=some l∧∀hp hp',kj l hp hp'→nx M k op hp hp':=by
 unfold xM at h
 rw[dH] at h
 split at h
 ·cases h
 ·rename_i l hl
  refine⟨l,hl,fun hp hp' hf=>gu (C:=C) (j:=j) ?_ (by unfold iE;rw[hl];exact hf)⟩
  unfold fB
  rw[dH] at h
  rw[hl]
  rw[Bool.or_eq_true] at h ⊢
  refine h.imp id fun h=>?_
  split at h
  ·rename_i K hK;rw[hK];exact h
  ·cases h
def EU (H:Oper→Bool) (l0:List Oper) (C8:List Nat) (C M:List (Option (List Nat))) (dY:List Bool) (i:Nat) (oi:Oper):List Oper→Nat→Bool
 | [],_=>true
 |oj::r,j=>(Nat.beq j i||(Ap true dY j||(((C8.getD j 0).testBit i)||(oi.apart l0.toArray oj&&(match H oj with|false=>!bL oj.op||wu C M i j oi.op|true=>!bL oj.op&&xM C M i j oi.op)))))&&EU H l0 C8 C M dY i oi r (j+1)
theorem As {H:Oper→Bool} {l0:List Oper} {C8:List Nat} {C M:List (Option (List Nat))} {dY:List Bool} {i:Nat} {oi:Oper}:∀{r:List Oper} {k:Nat},EU H l0 C8 C M dY i oi r k=true→∀(j:Nat) oj,r[j]?=some oj→k+j≠i→dY.toArray.getD (k+j) true=false→
  (C8.getD (k+j) 0).testBit i=true∨(oi.apart l0.toArray oj=true∧((H oj=false∧(bL oj.op=false∨fB C M i (k+j) oi.op=true))∨(H oj=true∧bL oj.op=false∧xM C M i (k+j) oi.op=true)))
 | [],k,_,j,oj,hj,_,_=>by simp at hj
 |o::r,k,h,j,oj,hj,h1,h2=>by
  simp only[EU,Bool.and_eq_true,Bool.or_eq_true,Bool.not_eq_true'] at h
  cases j with
  |zero=>
   simp only[List.getElem?_cons_zero,Option.some.injEq] at hj
   subst hj
   rcases h.1 with h3|h3|h3|h3
   ·exact(h1 (Nat.eq_of_beq_eq_true h3)).elim
   ·rw[sQ,show k=k+0 from rfl,h2] at h3;cases h3
   ·exact .inl h3
   ·refine .inr ⟨h3.1,?_⟩
    have h4:=h3.2
    cases hH:H o with
    |false=>
     rw[hH] at h4
     simp only[Bool.or_eq_true,Bool.not_eq_true'] at h4
     refine .inl ⟨rfl,h4.imp id fun h=>?_⟩
     unfold wu at h
     unfold fB
     rw[dH,dH] at h
     exact h
    |true=>
     rw[hH] at h4
     simp only[Bool.and_eq_true,Bool.not_eq_true'] at h4
     exact .inr ⟨rfl,h4⟩
  |succ j=>
   simp only[List.getElem?_cons_succ] at hj
   have:=As h.2 j oj hj (by omega) (by rw[show k+1+j=k+(j+1) from by omega];exact h2)
   rw[show k+1+j=k+(j+1) from by omega] at this
   exact this
def qQ (C:ck) (l:List Nat) (o:Oper) (s:AS Unit) (next:AS Unit→Prop):Prop:=
 match mB s o.op with
 |some (f,args)=>(match Ac C f o with
  | .fU sh=>okB (HT (gb s.hp 100 [] args) l) (vy C (gb s.hp 100 [] args) sh f args o s next)
  |_=>False)
 |none=>False
theorem IQ {js:List Nat} {H h:List af} (hb:mD H.length js=true) (hl:js.length≤h.length):kj js H (gE (jD js H.length) js.length h H):=by
 refine⟨by rw[gE,pB];omega,fun q o hq ho=>?_⟩
 have zF:q<H.length:=(List.getElem?_eq_some_iff.1 ho).1
 rw[gE,tT (by omega)]
 unfold putAt
 split
 ·rename_i i hi
  obtain⟨h1,h2⟩:=lf hi
  unfold jD at h2
  split at h2
  ·rename_i al
   have al:i<js.length:=Nat.le_of_ble_eq_true (show Nat.ble (i+1) js.length=true from al)
   exact(hq (by rw[←h2];exact List.mem_of_getElem? (mE al))).elim
  ·omega
 ·rw[List.getD_eq_getElem?_getD,ho];rfl
theorem qQ.sound {Γ:Env Unit} {s:AS Unit} (aq:Γ.Ok) {C:ck} (hP:C.P=Γ.P) (cC:C.nt=Γ.nt) {ops:Array Oper} {l:List Nat} {o:Oper} {next K:AS Unit→Prop} (hd:cw Γ.nt o.dst) (h:qQ C l o s next) (hn:∀s,next s→K s):HZ Γ ops o l s K:=by
 unfold qQ at h
 split at h
 ·rename_i f args ax
  rw[ij] at ax
  unfold iD at ax
  split at ax
  ·rename_i c hc
   split at ax
   ·rename_i x hx
    split at ax
    ·rename_i f' caps cS
     simp only[Option.some.injEq,Prod.mk.injEq] at ax
     obtain⟨rfl,rfl⟩:=ax
     split at h
     ·rename_i sh SH
      generalize gb s.hp 100 [] (List.map s.ev c.args.toList++caps)=js at *
      obtain⟨H8,h⟩:=bD h
      unfold vy at h
      obtain⟨hb,h⟩:=bD h
      rw[bg] at h
      obtain⟨eS,R,g1,g2⟩:=h
      have ax:=bI (g:=AV.C2 js s.hp) (fun x=>tX) _ eS
      rw[hP] at g1
      have nZ:=vy.RM (R:=fun r h'=>R r h'∧rB js r h'=true) hb (g1.mono fun r h' hr=>⟨hr,(bD (fE (g2 r h' hr))).1⟩) (fun r h' hr=>hr.2)
      refine⟨fun r2 H2=>∃r h,(R r h∧rB js r h=true)∧r2=oG (jD js s.hp.length) r∧H2=gE (jD js s.hp.length) js.length h s.hp,fun s' ht xw K' hK'=>?_,fun r hp' hN=>?_⟩
      ·have tn:∀y,y∈o.op.operands→s'.ev y=s.ev y:=fun y hy=>by
        cases y with
        |tmp t=>
         refine ht t ?_
         unfold Oper.looksAt
         exact List.mem_append_left _ (List.mem_filterMap.2 ⟨.tmp t,by simpa using hy,rfl⟩)
        |_=>rfl
       have lH:s'.ev x=.aS f' caps:=by rw[←cS];exact tn x (by rw[hc];simp[Op.operands,Call.operands,hx])
       have hm:c.args.toList.map s'.ev=c.args.toList.map s.ev:=List.map_congr_left fun y hy=>tn y (by rw[hc];simp only[Op.operands,Call.operands,Array.mem_append];exact .inr (by simpa using hy))
       exact bn.HY aq hc hx lH (by rw[xw];exact nZ) (fun a w η us hr h=>by
        have:=pG hr js _ us h
        rw[hm,xw,ax] at this
        rw[xw];exact this) hd hK'
      ·obtain⟨r',h',hr,rfl,rfl⟩:=hN
       have vt:mD s.hp.length js=true:=by simp only[Bool.and_eq_true] at hb;exact hb.1
       have hle:js.length≤h'.length:=by have:=hr.2;simp only[rB,Bool.and_eq_true] at this;exact Nat.le_of_ble_eq_true this.1
       refine⟨(IQ vt hle).mono fun q hq=>?_,hn _ (bD (fE (g2 r' h' hr.1))).2⟩
       have:=List.all_eq_true.1 H8 q hq
       simpa using this
     ·exact h.elim
    ·cases ax
   ·cases ax
  ·cases ax
 ·exact h.elim
def oL (C:ck) (hs:List Nat) (l0:List Oper) (Cl:List (Option (List Nat))) (i:Nat) (o:Oper) (s:AS Unit) (next:AS Unit→Prop):Prop:=
 match sx C.nt o.dst with
 |false=>False
 |true=>(match bL o.op with
  |true=>(match o.guard with
   |none=>okB (Iw (mF Cl i) s.ev o.op) (match Aa C.tab s.hp s.ev o.op (fun r hp'=>next (AS.put { s with hp:=hp' } o.dst r)) with
    |some p=>p
    |none=>False)
   |some _=>False)
  |false=>(match aW hs o with
   |true=>KG l0 o s (fun s=>match mF Cl i with
     |none=>fV C o s next
     |some l=>qQ C l o s next) (fun s=>next (s.put o.dst (.ae (.tuple #[]))))
   |false=>KG l0 o s (fun s=>dI C none o s next) (fun s=>next (s.put o.dst (.ae (.tuple #[]))))))
def fI (C:ck) (hs:List Nat) (l0:List Oper) (C8:List Nat) (Cl M:List (Option (List Nat))) (K:AS Unit→Prop):kz→List Bool→AS Unit→Prop
 | .done,dY,s=>okB (rD l0 dY [] l0 0) (K s)
 | .val i p,dY,s=>(match kE l0 i with
  |none=>False
  |some o=>okB (mH l0 dY i&&(EU (aW hs) l0 C8 Cl M dY i o l0 0&&(!bL o.op&&(!aW hs o&&sx C.nt o.dst))))
    (KG l0 o s (fun s=>dI C (mF M i) o s (fI C hs l0 C8 Cl M K p (jF dY i))) (fun s=>fI C hs l0 C8 Cl M K p (jF dY i) (s.put o.dst (.ae (.tuple #[]))))))
 | .zB i p,dY,s=>(match kE l0 i with
  |none=>False
  |some o=>okB (mH l0 dY i&&rD l0 dY [i] l0 0) (oL C hs l0 Cl i o s (fI C hs l0 C8 Cl M K p (jF dY i))))
 | .two i p j q,dY,s=>(match kE l0 i,kE l0 j with
  |some o,some o'=>okB (mH l0 dY i&&rD l0 dY [i,j] l0 0)
    (oL C hs l0 Cl i o s (fI C hs l0 C8 Cl M K p (jF dY i))∧oL C hs l0 Cl j o' s (fI C hs l0 C8 Cl M K q (jF dY j)))
  |_,_=>False)
 | .three i p j q k r,dY,s=>(match kE l0 i,kE l0 j,kE l0 k with
  |some o,some o',some o2=>okB (mH l0 dY i&&rD l0 dY [i,j,k] l0 0)
    (oL C hs l0 Cl i o s (fI C hs l0 C8 Cl M K p (jF dY i))∧(oL C hs l0 Cl j o' s (fI C hs l0 C8 Cl M K q (jF dY j))∧oL C hs l0 Cl k o2 s (fI C hs l0 C8 Cl M K r (jF dY k))))
  |_,_,_=>False)
variable {Γ:Env Unit} {s:AS Unit}
theorem oL.sound (aq:Γ.Ok) {C:ck} (hP:C.P=Γ.P) (ah:aL Γ.P C.tab) (cC:C.nt=Γ.nt) {hs:List Nat} {l0:List Oper} {Cl:List (Option (List Nat))} {i:Nat} {o:Oper} (ho:l0.toArray[i]?=some o) {next K:AS Unit→Prop} (h:oL C hs l0 Cl i o s next) (hn:∀s,next s→K s):
  gP Γ l0.toArray (aW hs) Cl Cl i K s:=by
 unfold oL at h
 unfold gP
 rw[ho]
 simp only
 split at h
 ·exact h.elim
 rename_i hd
 have hd:=fF hd
 rw[cC] at hd
 split at h
 ·rename_i he
  rw[if_pos he]
  split at h
  ·rename_i hg
   obtain⟨Ak,h⟩:=bD h
   split at h
   ·rename_i p hp
    obtain⟨c,r,hp',g1,g2,g3⟩:=nz hp h
    have Zz:=xH Ak g1
    rw[dH] at Zz
    refine⟨hd,hg,r,hp',fun pq xx e1 e2 e3=>fY xx (tab:=C.tab) (by rw[e1];exact ah) (c:=c) ?_ g2,?_,hn _ g3⟩
    ·rw[←g1];exact oC fun x hx=>gZ hx
    ·unfold iE
     cases hc:Cl.getD i none with
     |none=>exact True.intro
     |some l=>
      have:=ko.fr _ _ _ (Zz l hc)
      exact⟨this.1,fun q ob hq ho=>this.2 q ob (by simpa using hq) ho⟩
   ·exact h.elim
  ·exact h.elim
 ·rename_i he
  rw[if_neg (by rw[he];simp)]
  split at h
  ·rename_i hh
   rw[if_pos hh]
   have act:∀h:(match mF Cl i with
     |none=>fV C o s next
     |some l=>qQ C l o s next),CT Γ l0.toArray Cl i o s K:=by
    intro h
    unfold CT
    rw[dH] at h
    split at h
    ·rename_i hc;rw[hc];exact fV.sound aq hP ah cC h hn
    ·rename_i l hc;rw[hc];exact qQ.sound aq hP cC hd h hn
   rcases KG.cases h with⟨hg,h⟩|⟨j,want,b,hg,hb,⟨gq,h⟩|⟨gq,h⟩⟩|⟨j,want,hg,hb,h⟩
   ·exact .inl ⟨by simp[aD,hg],act h⟩
   ·exact .inl ⟨by simp[aD,hg,hb,gq],act h⟩
   ·exact .inr ⟨by simp[aD,hg,hb,gq],hd,hn _ h⟩
   ·exact .inr ⟨by simp[aD,hg,hb],hd,hn _ h⟩
  ·rename_i hh
   rw[if_neg (by rw[hh];simp)]
   have pn:∀{x:AV},hG Γ l0.toArray o s x (nx [] i o.op)→hG Γ l0.toArray o s x (fun hp hp'=>hp'=hp):=fun h=>
    ⟨h.1,h.2.imp (fun g=>⟨g.1,fun s' g1 g2=>g.2 s' g1 (by rw[g2];exact nx.refl)⟩) id⟩
   have step:dI C none o s next→(o.guard=none∨∃j want b,o.guard=some (j,want)∧gA l0.toArray s j=some b)→∃x,(∀s':AS Unit,(∀t,t∈o.looksAt l0.toArray→s'.tmps t=s.tmps t)→nx [] i o.op s.hp s'.hp→jB Γ o (s'.only (o.looksAt l0.toArray)) x)∧K (s.put o.dst x):=
    fun h hg=>fC.sound (ops:=l0.toArray) (M:=[]) (k:=i) ah (dI.sound (N:=K) (R:=K) hP h hn hn) (fun _ h=>h) (fun _ h=>h) hg
   rcases KG.cases h with⟨hg,h⟩|⟨j,want,b,hg,hb,⟨gq,h⟩|⟨gq,h⟩⟩|⟨j,want,hg,hb,h⟩
   ·obtain⟨x,h3,h4⟩:=step h (.inl hg)
    exact⟨x,pn ⟨hd,.inl ⟨by simp[aD,hg],h3⟩⟩,h4⟩
   ·obtain⟨x,h3,h4⟩:=step h (.inr ⟨j,want,_,hg,hb⟩)
    exact⟨x,pn ⟨hd,.inl ⟨by simp[aD,hg,hb,gq],h3⟩⟩,h4⟩
   ·exact⟨_,⟨hd,.inr ⟨by simp[aD,hg,hb,gq],rfl⟩⟩,hn _ h⟩
   ·exact⟨_,⟨hd,.inr ⟨by simp[aD,hg,hb],rfl⟩⟩,hn _ h⟩
theorem fI.sound (aq:Γ.Ok) {C:ck} (hP:C.P=Γ.P) (ah:aL Γ.P C.tab) (cC:C.nt=Γ.nt) {hs:List Nat} {l0:List Oper} {Cl M:List (Option (List Nat))} {K:AS Unit→Prop}:∀(p:kz) (fuel:Nat) (dY:List Bool) (s:AS Unit),p.depth≤fuel→mj l0.toArray dY.toArray→
  fI C hs l0 (kb l0 []) Cl M K p dY s→eD Γ l0.toArray (aW hs) Cl Cl K fuel dY.toArray s:=by
 have kY:∀(i j:Nat),(List.getD (kb l0 []) j 0).testBit i=true→Reach l0.toArray i j:=by
  intro i j hj
  cases hm:(kb l0 [])[j]? with
  |none=>simp[List.getD,hm] at hj
  |some m=>
   simp only[List.getD,hm,Option.getD_some] at hj
   exact kc (ops:=l0.toArray) l0 [] (fun j=>by simp) (fun j m i hj=>by simp at hj) j m i hm hj
 intro p
 induction p with
 |done=>
  intro fuel dY s hf EV h
  simp only[fI] at h
  obtain⟨hb,h⟩:=bD h
  have Mr:Region.ready .any l0.toArray dY.toArray=[]:=by
   apply List.eq_nil_iff_forall_not_mem.2
   intro q hq
   have:=lj hb hq
   simp at this
  cases fuel with
  |zero=>exact⟨Mr,h⟩
  |succ fuel=>exact⟨fun _=>h,fun q hq=>by rw[Mr] at hq;cases hq⟩
 |val i p ih=>
  intro fuel dY s hf EV h
  simp only[kz.depth] at hf
  obtain⟨f,rfl⟩:∃f,fuel=f+1:=⟨fuel-1,by omega⟩
  simp only[fI] at h
  split at h
  ·exact h.elim
  rename_i o ho
  rw[kF] at ho
  obtain⟨hb,h⟩:=bD h
  simp only[Bool.and_eq_true,Bool.not_eq_true'] at hb
  obtain⟨vY,nZ,he,ZA,hd⟩:=hb
  have pQ:=iJ.1 vY
  have hd:=fF hd
  have bC:∀s,fI C hs l0 (kb l0 []) Cl M K p (jF dY i) s→eD Γ l0.toArray (aW hs) Cl Cl K f (dY.toArray.setIfInBounds i true) s:=by
   intro s h
   have:=ih f (jF dY i) s (by omega) (by rw[dX];exact bR EV pQ) h
   rwa [dX] at this
  have cf:∀(j:Nat) oj,l0.toArray[j]?=some oj→j≠i→dY.toArray.getD j true=false→Reach l0.toArray i j∨(o.apart l0.toArray oj=true∧((aW hs oj=false∧(bL oj.op=false∨∀hp hp',iE Cl j hp hp'→nx M i o.op hp hp'))∨(aW hs oj=true∧bL oj.op=false∧∃l,Cl.getD j none=some l∧∀hp hp',kj l hp hp'→nx M i o.op hp hp'))):=by
   intro j oj hj fl iU
   have:=As nZ j oj (by simpa using hj) (by rw[Nat.zero_add];exact fl) (by rw[Nat.zero_add];exact iU)
   rw[Nat.zero_add] at this
   exact this.imp (kY i j) fun h=>⟨h.1,h.2.imp (fun h=>⟨h.1,h.2.imp id fun hm hp hp' hc=>gu hm hc⟩) fun h=>⟨h.1,h.2.1,Ar h.2.2⟩⟩
  have Ga:∃x,hG Γ l0.toArray o s x (nx M i o.op)∧eD Γ l0.toArray (aW hs) Cl Cl K f (dY.toArray.setIfInBounds i true) (s.put o.dst x):=by
   rw[cC] at hd
   rcases KG.cases h with⟨hg,h⟩|⟨j,want,b,hg,hb,⟨gq,h⟩|⟨gq,h⟩⟩|⟨j,want,hg,hb,h⟩
   ·rw[dH] at h
    obtain⟨x,h3,h4⟩:=fC.sound (ops:=l0.toArray) ah (dI.sound (N:=eD Γ l0.toArray (aW hs) Cl Cl K f (dY.toArray.setIfInBounds i true)) (R:=eD Γ l0.toArray (aW hs) Cl Cl K f (dY.toArray.setIfInBounds i true)) hP h bC bC) (fun _ h=>h) (fun _ h=>h) (.inl hg)
    exact⟨x,⟨hd,.inl ⟨by simp[aD,hg],h3⟩⟩,h4⟩
   ·rw[dH] at h
    obtain⟨x,h3,h4⟩:=fC.sound (ops:=l0.toArray) ah (dI.sound (N:=eD Γ l0.toArray (aW hs) Cl Cl K f (dY.toArray.setIfInBounds i true)) (R:=eD Γ l0.toArray (aW hs) Cl Cl K f (dY.toArray.setIfInBounds i true)) hP h bC bC) (fun _ h=>h) (fun _ h=>h) (.inr ⟨j,want,_,hg,hb⟩)
    exact⟨x,⟨hd,.inl ⟨by simp[aD,hg,hb,gq],h3⟩⟩,h4⟩
   ·exact⟨_,⟨hd,.inr ⟨by simp[aD,hg,hb,gq],rfl⟩⟩,bC _ h⟩
   ·exact⟨_,⟨hd,.inr ⟨by simp[aD,hg,hb],rfl⟩⟩,bC _ h⟩
  obtain⟨x,h3,h4⟩:=Ga
  cases f with
  |zero=>
   refine⟨fun hn=>(by rw[hn] at pQ;cases pQ),fun j hj=>?_⟩
   by_cases fl:j=i
   ·subst fl
    unfold gP
    rw[ho]
    simp only[he,ZA,Bool.false_eq_true,if_false]
    exact⟨x,⟨h3.1,h3.2.imp (fun g=>⟨g.1,fun s' g1 g2=>g.2 s' g1 (by rw[g2];exact nx.refl)⟩) id⟩,h4⟩
   ·have h5:=ready_mono hj fl
    rw[h4.1] at h5
    cases h5
  |succ f=>
   exact eD.first (R:=nx M i o.op) (fun _ _ _=>nx.trans) (fun _=>nx.refl) ho (by simp[iV,he,ZA]) (f+1) dY.toArray s EV cf pQ h3 h4
 |zB i p ih=>
  intro fuel dY s hf EV h
  simp only[kz.depth] at hf
  obtain⟨f,rfl⟩:∃f,fuel=f+1:=⟨fuel-1,by omega⟩
  simp only[fI] at h
  split at h
  ·exact h.elim
  rename_i o ho
  rw[kF] at ho
  obtain⟨hb,h⟩:=bD h
  rw[Bool.and_eq_true] at hb
  have pQ:=iJ.1 hb.1
  refine⟨fun hn=>(by rw[hn] at pQ;cases pQ),fun k hk=>?_⟩
  have:=lj hb.2 hk
  simp only[List.mem_singleton] at this
  subst this
  exact oL.sound aq hP ah cC ho h fun s h=>by
   have:=ih f (jF dY k) s (by omega) (by rw[dX];exact bR EV pQ) h
   rwa [dX] at this
 |two i p j q WZ W0=>
  intro fuel dY s hf EV h
  simp only[kz.depth] at hf
  obtain⟨f,rfl⟩:∃f,fuel=f+1:=⟨fuel-1,by omega⟩
  simp only[fI] at h
  split at h
  ·rename_i o o' ho s9
   rw[kF] at ho s9
   obtain⟨hb,h⟩:=bD h
   rw[Bool.and_eq_true] at hb
   have pQ:=iJ.1 hb.1
   have eG:p.depth≤Nat.max p.depth q.depth:=Nat.le_max_left _ _
   have hq1:q.depth≤Nat.max p.depth q.depth:=Nat.le_max_right _ _
   refine⟨fun hn=>(by rw[hn] at pQ;cases pQ),fun k hk=>?_⟩
   have:=lj hb.2 hk
   simp only[List.mem_cons,List.not_mem_nil,or_false] at this
   rcases this with rfl|rfl
   ·exact oL.sound aq hP ah cC ho h.1 fun s h=>by
     have:=WZ f (jF dY k) s (by omega) (by rw[dX];exact bR EV hk) h
     rwa [dX] at this
   ·exact oL.sound aq hP ah cC s9 h.2 fun s h=>by
     have:=W0 f (jF dY k) s (by omega) (by rw[dX];exact bR EV hk) h
     rwa [dX] at this
  ·exact h.elim
 |three i p j q k2 r WZ W0 ihr=>
  intro fuel dY s hf EV h
  simp only[kz.depth] at hf
  obtain⟨f,rfl⟩:∃f,fuel=f+1:=⟨fuel-1,by omega⟩
  simp only[fI] at h
  split at h
  ·rename_i o o' o2 ho s9 ZB
   rw[kF] at ho s9 ZB
   obtain⟨hb,h⟩:=bD h
   rw[Bool.and_eq_true] at hb
   have pQ:=iJ.1 hb.1
   have eG:p.depth≤Nat.max p.depth (Nat.max q.depth r.depth):=Nat.le_max_left _ _
   have hq1:q.depth≤Nat.max p.depth (Nat.max q.depth r.depth):=Nat.le_trans (Nat.le_max_left _ _) (Nat.le_max_right _ _)
   have Cj:r.depth≤Nat.max p.depth (Nat.max q.depth r.depth):=Nat.le_trans (Nat.le_max_right _ _) (Nat.le_max_right _ _)
   refine⟨fun hn=>(by rw[hn] at pQ;cases pQ),fun k hk=>?_⟩
   have:=lj hb.2 hk
   simp only[List.mem_cons,List.not_mem_nil,or_false] at this
   rcases this with rfl|rfl|rfl
   ·exact oL.sound aq hP ah cC ho h.1 fun s h=>by
     have:=WZ f (jF dY k) s (by omega) (by rw[dX];exact bR EV hk) h
     rwa [dX] at this
   ·exact oL.sound aq hP ah cC s9 h.2.1 fun s h=>by
     have:=W0 f (jF dY k) s (by omega) (by rw[dX];exact bR EV hk) h
     rwa [dX] at this
   ·exact oL.sound aq hP ah cC ZB h.2.2 fun s h=>by
     have:=ihr f (jF dY k) s (by omega) (by rw[dX];exact bR EV hk) h
     rwa [dX] at this
  ·exact h.elim
def oM:List Oper→List Bool
 | []=>[]
 |_::l=>false::oM l
theorem wv:∀(l:List Oper),(oM l).toArray=Array.replicate l.length false:=by
 have:∀(l:List Oper),oM l=List.replicate l.length false:=by
  intro l
  induction l with
  |nil=>rfl
  |cons o l ih=>simp only[oM,ih,List.length_cons,List.replicate_succ]
 intro l
 rw[this];simp
theorem dq.SW (aq:Γ.Ok) {C:ck} (hP:C.P=Γ.P) (ah:aL Γ.P C.tab) (cC:C.nt=Γ.nt) (hm:Γ.P.follows .mixedOrders=true) {hs:List Nat} {id:Nat} {l:List Oper} {Q:Exit→AS Unit→Prop} {Cl M:List (Option (List Nat))} {p:kz}
  (hd:Nat.ble p.depth l.length=true) (h:fI C hs l (kb l []) Cl M (Q .normal) p (oM l) s):dq Γ (.region id l.toArray true) Q s:=by
 intro a w η hr
 refine wpIn_region_any hm ?_
 have h1:=fI.sound aq hP ah cC p l.length (oM l) s (Nat.le_of_ble_eq_true hd) (fun k o hk=>by
  rw[wv] at hk
  simp only[Array.getD_eq_getD_getElem?,Array.getElem?_replicate] at hk
  split at hk<;>simp at hk) h
 rw[wv] at h1
 have h2:=fT.sound (Qc:=fun e a' w'=>∃s' aM,Q e s'∧Rel Γ s' a' w' aM) aq (fun s' a' w' aM h1 h2=>⟨s',aM,h1,h2⟩) _ _ _ a w.drew η (h1.any aq) (hr.same aq (bt.drew w))
 simpa using h2
end Go.Proofs.YtdcikhleahfknaaGreatDoor
