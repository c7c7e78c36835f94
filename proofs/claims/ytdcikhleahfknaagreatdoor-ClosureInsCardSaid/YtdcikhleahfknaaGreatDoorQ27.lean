/- Texts of ours laid together for a claim: VcK. -/
import Derived.Test.YtdcikhleahfknaaGreatDoorQ26
namespace Go.Proofs.YtdcikhleahfknaaGreatDoor
open Go
set_option linter.unusedSimpArgs false
set_option linter.unusedVariables false
def kY.depth:kY→Nat
 | .done=>0
 | .val _ p=>p.depth+1
 | .ya _ p=>p.depth+1
 | .two _ p _ q=>Nat.max p.depth q.depth+1
 | .three _ p _ q _ r=>Nat.max p.depth (Nat.max q.depth r.depth)+1
def BA (d:Bool):List Bool→Nat→Bool
 | [],_=>d
 |b::_,0=>b
 |_::l,n+1=>BA d l n
theorem tI (d:Bool):∀(l:List Bool) (n:Nat),BA d l n=l.toArray.getD n d
 | [],n=>by simp[BA]
 |b::l,0=>by simp[BA]
 |b::l,n+1=>by
  have:=tI d l n
  simp only[BA,this]
  simp[Array.getD_eq_getD_getElem?]
def lb:List Oper→Nat→Option Oper
 | [],_=>none
 |o::_,0=>some o
 |_::l,n+1=>lb l n
theorem ld:∀(l:List Oper) (n:Nat),lb l n=l.toArray[n]?
 | [],n=>by simp[lb]
 |b::l,0=>by simp[lb]
 |b::l,n+1=>by
  have:=ld l n
  simp only[lb,this]
  simp
def j6:List Bool→Nat→List Bool
 | [],_=>[]
 |_::l,0=>true::l
 |b::l,n+1=>b::j6 l n
theorem eE:∀(l:List Bool) (n:Nat),(j6 l n).toArray=l.toArray.setIfInBounds n true:=by
 intro l n
 have:∀(l:List Bool) (n:Nat),j6 l n=l.set n true:=by
  intro l
  induction l with
  |nil=>intro n;simp[j6]
  |cons b l ih=>intro n;cases n<;>simp[j6,ih]
 rw[this];simp
def uX (eF:List Bool):List Edge→Bool
 | []=>true
 |e::l=>(!Region.binds .any e||BA false eF e.on)&&uX eF l
theorem xf {eF:List Bool}:∀{l:List Edge},uX eF l=true↔∀e∈l,Region.binds .any e=true→eF.toArray.getD e.on false=true
 | []=>by simp[uX]
 |e::l=>by
  simp only[uX,Bool.and_eq_true,Bool.or_eq_true,Bool.not_eq_true',xf (l:=l),List.mem_cons,forall_eq_or_imp,tI]
  constructor
  ·rintro⟨h1,h2⟩;exact⟨fun hb=>h1.resolve_left (by rw[hb];simp),h2⟩
  ·rintro⟨h1,h2⟩
   refine⟨?_,h2⟩
   cases hb:Region.binds .any e with
   |false=>exact .inl rfl
   |true=>exact .inr (h1 hb)
def np (l0:List Oper) (eF:List Bool) (k:Nat):Bool:=
 match lb l0 k with
 |none=>false
 |some o=>!(BA true eF k)&&uX eF o.after.toList
theorem jk {l0:List Oper} {eF:List Bool} {k:Nat}:np l0 eF k=true↔k∈Region.ready .any l0.toArray eF.toArray:=by
 rw[mem_ready]
 unfold np
 rw[ld]
 cases hk:l0.toArray[k]? with
 |none=>simp
 |some o=>
  simp only[Bool.and_eq_true,Bool.not_eq_true',tI,xf,Option.some.injEq,exists_eq_left']
  constructor
  ·rintro⟨h1,h2⟩;exact⟨h1,fun e he hb=>h2 e (by simpa using he) hb⟩
  ·rintro⟨h1,h2⟩;exact⟨h1,fun e he hb=>h2 e (by simpa using he) hb⟩
def r8 (l0:List Oper) (eF:List Bool) (l:List Nat):List Oper→Nat→Bool
 | [],_=>true
 |_::r,k=>(!np l0 eF k||Eo l k)&&r8 l0 eF l r (k+1)
theorem BB {l0:List Oper} {eF:List Bool} {l:List Nat}:∀{r:List Oper} {k:Nat},r8 l0 eF l r k=true→∀q,k≤q→q<k+r.length→np l0 eF q=true→q∈l
 | [],k,_,q,h1,h2,_=>by simp at h2;omega
 |o::r,k,h,q,h1,h2,h3=>by
  simp only[r8,Bool.and_eq_true,Bool.or_eq_true,Bool.not_eq_true'] at h
  by_cases hq:q=k
  ·subst hq;exact yr (h.1.resolve_left (by rw[h3];simp))
  ·exact BB h.2 q (by omega) (by simp only[List.length_cons] at h2;omega) h3
theorem lO {l0:List Oper} {eF:List Bool} {l:List Nat} (h:r8 l0 eF l l0 0=true) {q:Nat} (hq:q∈Region.ready .any l0.toArray eF.toArray):q∈l:=by
 obtain⟨_,o,ho,_⟩:=mem_ready.1 hq
 have:=(Array.getElem?_eq_some_iff.1 ho).1
 exact BB h q (Nat.zero_le _) (by simpa using this) (jk.2 hq)
def xg (C M:List (Option (List Nat))) (k j:Nat) (op:Op):Bool:=
 fj op||(match nm C j,nm M k with
  |some l,some K=>Jv l K
  |_,_=>false)
def yz (C M:List (Option (List Nat))) (k j:Nat) (op:Op):Bool:=
 match nm C j with
 |none=>false
 |some l=>fj op||(match nm M k with
  |some K=>Jv l K
  |none=>false)
theorem BC {C M:List (Option (List Nat))} {k j:Nat} {op:Op} (h:yz C M k j op=true):∃l,C.getD j none=some l∧∀hp hp',kP l hp hp'→nW M k op hp hp':=by
 unfold yz at h
 rw[dW] at h
 split at h
 ·cases h
 ·rename_i l hl
  refine⟨l,hl,fun hp hp' hf=>gN (C:=C) (j:=j) ?_ (by unfold jf;rw[hl];exact hf)⟩
  unfold fT
  rw[dW] at h
  rw[hl]
  rw[Bool.or_eq_true] at h ⊢
  refine h.imp id fun h=>?_
  split at h
  ·rename_i K hK;rw[hK];exact h
  ·cases h
def Gc (H:Oper→Bool) (l0:List Oper) (Es:List Nat) (C M:List (Option (List Nat))) (eF:List Bool) (i:Nat) (oi:Oper):List Oper→Nat→Bool
 | [],_=>true
 |oj::r,j=>(Nat.beq j i||(BA true eF j||(((Es.getD j 0).testBit i)||(oi.apart l0.toArray oj&&(match H oj with|false=>!bP oj.op||xg C M i j oi.op|true=>!bP oj.op&&yz C M i j oi.op)))))&&Gc H l0 Es C M eF i oi r (j+1)
theorem BD {H:Oper→Bool} {l0:List Oper} {Es:List Nat} {C M:List (Option (List Nat))} {eF:List Bool} {i:Nat} {oi:Oper}:∀{r:List Oper} {k:Nat},Gc H l0 Es C M eF i oi r k=true→∀(j:Nat) oj,r[j]?=some oj→k+j≠i→eF.toArray.getD (k+j) true=false→
  (Es.getD (k+j) 0).testBit i=true∨(oi.apart l0.toArray oj=true∧((H oj=false∧(bP oj.op=false∨fT C M i (k+j) oi.op=true))∨(H oj=true∧bP oj.op=false∧yz C M i (k+j) oi.op=true)))
 | [],k,_,j,oj,hj,_,_=>by simp at hj
 |o::r,k,h,j,oj,hj,h1,h2=>by
  simp only[Gc,Bool.and_eq_true,Bool.or_eq_true,Bool.not_eq_true'] at h
  cases j with
  |zero=>
   simp only[List.getElem?_cons_zero,Option.some.injEq] at hj
   subst hj
   rcases h.1 with h3|h3|h3|h3
   ·exact(h1 (Nat.eq_of_beq_eq_true h3)).elim
   ·rw[tI,show k=k+0 from rfl,h2] at h3;cases h3
   ·exact .inl h3
   ·refine .inr ⟨h3.1,?_⟩
    have h4:=h3.2
    cases hH:H o with
    |false=>
     rw[hH] at h4
     simp only[Bool.or_eq_true,Bool.not_eq_true'] at h4
     refine .inl ⟨rfl,h4.imp id fun h=>?_⟩
     unfold xg at h
     unfold fT
     rw[dW,dW] at h
     exact h
    |true=>
     rw[hH] at h4
     simp only[Bool.and_eq_true,Bool.not_eq_true'] at h4
     exact .inr ⟨rfl,h4⟩
  |succ j=>
   simp only[List.getElem?_cons_succ] at hj
   have:=BD h.2 j oj hj (by omega) (by rw[show k+1+j=k+(j+1) from by omega];exact h2)
   rw[show k+1+j=k+(j+1) from by omega] at this
   exact this
def ry (C:cm) (l:List Nat) (o:Oper) (s:AS Unit) (next:AS Unit→Prop):Prop:=
 match nh s o.op with
 |some (f,args)=>(match Bn C f o with
  | .eJ sh=>okB (Jv (gE s.hp 100 [] args) l) (wq C (gE s.hp 100 [] args) sh f args o s next)
  |_=>False)
 |none=>False
theorem Kk {js:List Nat} {H h:List af} (hb:nj H.length js=true) (hl:js.length≤h.length):kP js H (gX (jY js H.length) js.length h H):=by
 refine⟨by rw[gX,p6];omega,fun q o hq ho=>?_⟩
 have AU:q<H.length:=(List.getElem?_eq_some_iff.1 ho).1
 rw[gX,uJ (by omega)]
 unfold putAt
 split
 ·rename_i i hi
  obtain⟨h1,h2⟩:=lL hi
  unfold jY at h2
  split at h2
  ·rename_i ak
   have ak:i<js.length:=Nat.le_of_ble_eq_true (show Nat.ble (i+1) js.length=true from ak)
   exact(hq (by rw[←h2];exact List.mem_of_getElem? (nk ak))).elim
  ·omega
 ·rw[List.getD_eq_getElem?_getD,ho];rfl
theorem ry.sound {Γ:Env Unit} {s:AS Unit} (ao:Γ.Ok) {C:cm} (hP:C.P=Γ.P) (cC:C.nt=Γ.nt) {ops:Array Oper} {l:List Nat} {o:Oper} {next K:AS Unit→Prop} (hd:cx Γ.nt o.dst) (h:ry C l o s next) (hn:∀s,next s→K s):JB Γ ops o l s K:=by
 unfold ry at h
 split at h
 ·rename_i f args aw
  rw[iR] at aw
  unfold je at aw
  split at aw
  ·rename_i c hc
   split at aw
   ·rename_i x hx
    split at aw
    ·rename_i f' caps cS
     simp only[Option.some.injEq,Prod.mk.injEq] at aw
     obtain⟨rfl,rfl⟩:=aw
     split at h
     ·rename_i sh Uq
      generalize gE s.hp 100 [] (List.map s.ev c.args.toList++caps)=js at *
      obtain⟨JF,h⟩:=bE h
      unfold wq at h
      obtain⟨hb,h⟩:=bE h
      rw[bf] at h
      obtain⟨fq,R,g1,g2⟩:=h
      have aw:=bO (g:=AV.El js s.hp) (fun x=>uN) _ fq
      rw[hP] at g1
      have oE:=wq.Tu (R:=fun r h'=>R r h'∧r6 js r h'=true) hb (g1.mono fun r h' hr=>⟨hr,(bE (fW (g2 r h' hr))).1⟩) (fun r h' hr=>hr.2)
      refine⟨fun r2 H2=>∃r h,(R r h∧r6 js r h=true)∧r2=o5 (jY js s.hp.length) r∧H2=gX (jY js s.hp.length) js.length h s.hp,fun s' ht yg K' hK'=>?_,fun r hp' hN=>?_⟩
      ·have uc:∀y,y∈o.op.operands→s'.ev y=s.ev y:=fun y hy=>by
        cases y with
        |tmp t=>
         refine ht t ?_
         unfold Oper.looksAt
         exact List.mem_append_left _ (List.mem_filterMap.2 ⟨.tmp t,by simpa using hy,rfl⟩)
        |_=>rfl
       have mm:s'.ev x=.aK f' caps:=by rw[←cS];exact uc x (by rw[hc];simp[Op.operands,Call.operands,hx])
       have hm:c.args.toList.map s'.ev=c.args.toList.map s.ev:=List.map_congr_left fun y hy=>uc y (by rw[hc];simp only[Op.operands,Call.operands,Array.mem_append];exact .inr (by simpa using hy))
       exact bn.JA ao hc hx mm (by rw[yg];exact oE) (fun a w η us hr h=>by
        have:=qb hr js _ us h
        rw[hm,yg,aw] at this
        rw[yg];exact this) hd hK'
      ·obtain⟨r',h',hr,rfl,rfl⟩:=hN
       have wj:nj s.hp.length js=true:=by simp only[Bool.and_eq_true] at hb;exact hb.1
       have hle:js.length≤h'.length:=by have:=hr.2;simp only[r6,Bool.and_eq_true] at this;exact Nat.le_of_ble_eq_true this.1
       refine⟨(Kk wj hle).mono fun q hq=>?_,hn _ (bE (fW (g2 r' h' hr.1))).2⟩
       have:=List.all_eq_true.1 JF q hq
       simpa using this
     ·exact h.elim
    ·cases aw
   ·cases aw
  ·cases aw
 ·exact h.elim
def pa (C:cm) (hs:List Nat) (l0:List Oper) (Cl:List (Option (List Nat))) (i:Nat) (o:Oper) (s:AS Unit) (next:AS Unit→Prop):Prop:=
 match tk C.nt o.dst with
 |false=>False
 |true=>(match bP o.op with
  |true=>(match o.guard with
   |none=>okB (J1 (nm Cl i) s.ev o.op) (match Bm C.tab s.hp s.ev o.op (fun r hp'=>next (AS.put { s with hp:=hp' } o.dst r)) with
    |some p=>p
    |none=>False)
   |some _=>False)
  |false=>(match aZ hs o with
   |true=>KG l0 o s (fun s=>match nm Cl i with
     |none=>gu C o s next
     |some l=>ry C l o s next) (fun s=>next (s.put o.dst (.ae (.tuple #[]))))
   |false=>KG l0 o s (fun s=>dX C none o s next) (fun s=>next (s.put o.dst (.ae (.tuple #[]))))))
def ga (C:cm) (hs:List Nat) (l0:List Oper) (Es:List Nat) (Cl M:List (Option (List Nat))) (K:AS Unit→Prop):kY→List Bool→AS Unit→Prop
 | .done,eF,s=>okB (r8 l0 eF [] l0 0) (K s)
 | .val i p,eF,s=>(match lb l0 i with
  |none=>False
  |some o=>okB (np l0 eF i&&(Gc (aZ hs) l0 Es Cl M eF i o l0 0&&(!bP o.op&&(!aZ hs o&&tk C.nt o.dst))))
    (KG l0 o s (fun s=>dX C (nm M i) o s (ga C hs l0 Es Cl M K p (j6 eF i))) (fun s=>ga C hs l0 Es Cl M K p (j6 eF i) (s.put o.dst (.ae (.tuple #[]))))))
 | .ya i p,eF,s=>(match lb l0 i with
  |none=>False
  |some o=>okB (np l0 eF i&&r8 l0 eF [i] l0 0) (pa C hs l0 Cl i o s (ga C hs l0 Es Cl M K p (j6 eF i))))
 | .two i p j q,eF,s=>(match lb l0 i,lb l0 j with
  |some o,some o'=>okB (np l0 eF i&&r8 l0 eF [i,j] l0 0)
    (pa C hs l0 Cl i o s (ga C hs l0 Es Cl M K p (j6 eF i))∧pa C hs l0 Cl j o' s (ga C hs l0 Es Cl M K q (j6 eF j)))
  |_,_=>False)
 | .three i p j q k r,eF,s=>(match lb l0 i,lb l0 j,lb l0 k with
  |some o,some o',some o2=>okB (np l0 eF i&&r8 l0 eF [i,j,k] l0 0)
    (pa C hs l0 Cl i o s (ga C hs l0 Es Cl M K p (j6 eF i))∧(pa C hs l0 Cl j o' s (ga C hs l0 Es Cl M K q (j6 eF j))∧pa C hs l0 Cl k o2 s (ga C hs l0 Es Cl M K r (j6 eF k))))
  |_,_,_=>False)
variable {Γ:Env Unit} {s:AS Unit}
theorem pa.sound (ao:Γ.Ok) {C:cm} (hP:C.P=Γ.P) (ah:aQ Γ.P C.tab) (cC:C.nt=Γ.nt) {hs:List Nat} {l0:List Oper} {Cl:List (Option (List Nat))} {i:Nat} {o:Oper} (ho:l0.toArray[i]?=some o) {next K:AS Unit→Prop} (h:pa C hs l0 Cl i o s next) (hn:∀s,next s→K s):
  iy Γ l0.toArray (aZ hs) Cl Cl i K s:=by
 unfold pa at h
 unfold iy
 rw[ho]
 simp only
 split at h
 ·exact h.elim
 rename_i hd
 have hd:=fX hd
 rw[cC] at hd
 split at h
 ·rename_i he
  rw[if_pos he]
  split at h
  ·rename_i hg
   obtain⟨Bv,h⟩:=bE h
   split at h
   ·rename_i p hp
    obtain⟨c,r,hp',g1,g2,g3⟩:=nY hp h
    have hcg:=yt Bv g1
    rw[dW] at hcg
    refine⟨hd,hg,r,hp',fun pU yh e1 e2 e3=>gB yh (tab:=C.tab) (by rw[e1];exact ah) (c:=c) ?_ g2,?_,hn _ g3⟩
    ·rw[←g1];exact oW fun x hx=>iJ hx
    ·unfold jf
     cases hc:Cl.getD i none with
     |none=>exact True.intro
     |some l=>
      have:=kR.fr _ _ _ (hcg l hc)
      exact⟨this.1,fun q ob hq ho=>this.2 q ob (by simpa using hq) ho⟩
   ·exact h.elim
  ·exact h.elim
 ·rename_i he
  rw[if_neg (by rw[he];simp)]
  split at h
  ·rename_i hh
   rw[if_pos hh]
   have act:∀h:(match nm Cl i with
     |none=>gu C o s next
     |some l=>ry C l o s next),Ed Γ l0.toArray Cl i o s K:=by
    intro h
    unfold Ed
    rw[dW] at h
    split at h
    ·rename_i hc;rw[hc];exact gu.sound ao hP ah cC h hn
    ·rename_i l hc;rw[hc];exact ry.sound ao hP cC hd h hn
   rcases KG.cases h with⟨hg,h⟩|⟨j,want,b,hg,hb,⟨gM,h⟩|⟨gM,h⟩⟩|⟨j,want,hg,hb,h⟩
   ·exact .inl ⟨by simp[aG,hg],act h⟩
   ·exact .inl ⟨by simp[aG,hg,hb,gM],act h⟩
   ·exact .inr ⟨by simp[aG,hg,hb,gM],hd,hn _ h⟩
   ·exact .inr ⟨by simp[aG,hg,hb],hd,hn _ h⟩
  ·rename_i hh
   rw[if_neg (by rw[hh];simp)]
   have pS:∀{x:AV},iK Γ l0.toArray o s x (nW [] i o.op)→iK Γ l0.toArray o s x (fun hp hp'=>hp'=hp):=fun h=>
    ⟨h.1,h.2.imp (fun g=>⟨g.1,fun s' g1 g2=>g.2 s' g1 (by rw[g2];exact nW.refl)⟩) id⟩
   have step:dX C none o s next→(o.guard=none∨∃j want b,o.guard=some (j,want)∧gS l0.toArray s j=some b)→∃x,(∀s':AS Unit,(∀t,t∈o.looksAt l0.toArray→s'.tmps t=s.tmps t)→nW [] i o.op s.hp s'.hp→jW Γ o (s'.only (o.looksAt l0.toArray)) x)∧K (s.put o.dst x):=
    fun h hg=>fU.sound (ops:=l0.toArray) (M:=[]) (k:=i) ah (dX.sound (N:=K) (R:=K) hP h hn hn) (fun _ h=>h) (fun _ h=>h) hg
   rcases KG.cases h with⟨hg,h⟩|⟨j,want,b,hg,hb,⟨gM,h⟩|⟨gM,h⟩⟩|⟨j,want,hg,hb,h⟩
   ·obtain⟨x,h3,h4⟩:=step h (.inl hg)
    exact⟨x,pS ⟨hd,.inl ⟨by simp[aG,hg],h3⟩⟩,h4⟩
   ·obtain⟨x,h3,h4⟩:=step h (.inr ⟨j,want,_,hg,hb⟩)
    exact⟨x,pS ⟨hd,.inl ⟨by simp[aG,hg,hb,gM],h3⟩⟩,h4⟩
   ·exact⟨_,⟨hd,.inr ⟨by simp[aG,hg,hb,gM],rfl⟩⟩,hn _ h⟩
   ·exact⟨_,⟨hd,.inr ⟨by simp[aG,hg,hb],rfl⟩⟩,hn _ h⟩
theorem ga.sound (ao:Γ.Ok) {C:cm} (hP:C.P=Γ.P) (ah:aQ Γ.P C.tab) (cC:C.nt=Γ.nt) {hs:List Nat} {l0:List Oper} {Cl M:List (Option (List Nat))} {K:AS Unit→Prop}:∀(p:kY) (fuel:Nat) (eF:List Bool) (s:AS Unit),p.depth≤fuel→mR l0.toArray eF.toArray→
  ga C hs l0 (kK l0 []) Cl M K p eF s→fb Γ l0.toArray (aZ hs) Cl Cl K fuel eF.toArray s:=by
 have lF:∀(i j:Nat),(List.getD (kK l0 []) j 0).testBit i=true→Reach l0.toArray i j:=by
  intro i j hj
  cases hm:(kK l0 [])[j]? with
  |none=>simp[List.getD,hm] at hj
  |some m=>
   simp only[List.getD,hm,Option.getD_some] at hj
   exact kL (ops:=l0.toArray) l0 [] (fun j=>by simp) (fun j m i hj=>by simp at hj) j m i hm hj
 intro p
 induction p with
 |done=>
  intro fuel eF s hf Gd h
  simp only[ga] at h
  obtain⟨hb,h⟩:=bE h
  have N2:Region.ready .any l0.toArray eF.toArray=[]:=by
   apply List.eq_nil_iff_forall_not_mem.2
   intro q hq
   have:=lO hb hq
   simp at this
  cases fuel with
  |zero=>exact⟨N2,h⟩
  |succ fuel=>exact⟨fun _=>h,fun q hq=>by rw[N2] at hq;cases hq⟩
 |val i p ih=>
  intro fuel eF s hf Gd h
  simp only[kY.depth] at hf
  obtain⟨f,rfl⟩:∃f,fuel=f+1:=⟨fuel-1,by omega⟩
  simp only[ga] at h
  split at h
  ·exact h.elim
  rename_i o ho
  rw[ld] at ho
  obtain⟨hb,h⟩:=bE h
  simp only[Bool.and_eq_true,Bool.not_eq_true'] at hb
  obtain⟨wW,oE,he,hhe,hd⟩:=hb
  have qk:=jk.1 wW
  have hd:=fX hd
  have bD:∀s,ga C hs l0 (kK l0 []) Cl M K p (j6 eF i) s→fb Γ l0.toArray (aZ hs) Cl Cl K f (eF.toArray.setIfInBounds i true) s:=by
   intro s h
   have:=ih f (j6 eF i) s (by omega) (by rw[eE];exact bT Gd qk) h
   rwa [eE] at this
  have cg:∀(j:Nat) oj,l0.toArray[j]?=some oj→j≠i→eF.toArray.getD j true=false→Reach l0.toArray i j∨(o.apart l0.toArray oj=true∧((aZ hs oj=false∧(bP oj.op=false∨∀hp hp',jf Cl j hp hp'→nW M i o.op hp hp'))∨(aZ hs oj=true∧bP oj.op=false∧∃l,Cl.getD j none=some l∧∀hp hp',kP l hp hp'→nW M i o.op hp hp'))):=by
   intro j oj hj fK jA
   have:=BD oE j oj (by simpa using hj) (by rw[Nat.zero_add];exact fK) (by rw[Nat.zero_add];exact jA)
   rw[Nat.zero_add] at this
   exact this.imp (lF i j) fun h=>⟨h.1,h.2.imp (fun h=>⟨h.1,h.2.imp id fun hm hp hp' hc=>gN hm hc⟩) fun h=>⟨h.1,h.2.1,BC h.2.2⟩⟩
  have Hp:∃x,iK Γ l0.toArray o s x (nW M i o.op)∧fb Γ l0.toArray (aZ hs) Cl Cl K f (eF.toArray.setIfInBounds i true) (s.put o.dst x):=by
   rw[cC] at hd
   rcases KG.cases h with⟨hg,h⟩|⟨j,want,b,hg,hb,⟨gM,h⟩|⟨gM,h⟩⟩|⟨j,want,hg,hb,h⟩
   ·rw[dW] at h
    obtain⟨x,h3,h4⟩:=fU.sound (ops:=l0.toArray) ah (dX.sound (N:=fb Γ l0.toArray (aZ hs) Cl Cl K f (eF.toArray.setIfInBounds i true)) (R:=fb Γ l0.toArray (aZ hs) Cl Cl K f (eF.toArray.setIfInBounds i true)) hP h bD bD) (fun _ h=>h) (fun _ h=>h) (.inl hg)
    exact⟨x,⟨hd,.inl ⟨by simp[aG,hg],h3⟩⟩,h4⟩
   ·rw[dW] at h
    obtain⟨x,h3,h4⟩:=fU.sound (ops:=l0.toArray) ah (dX.sound (N:=fb Γ l0.toArray (aZ hs) Cl Cl K f (eF.toArray.setIfInBounds i true)) (R:=fb Γ l0.toArray (aZ hs) Cl Cl K f (eF.toArray.setIfInBounds i true)) hP h bD bD) (fun _ h=>h) (fun _ h=>h) (.inr ⟨j,want,_,hg,hb⟩)
    exact⟨x,⟨hd,.inl ⟨by simp[aG,hg,hb,gM],h3⟩⟩,h4⟩
   ·exact⟨_,⟨hd,.inr ⟨by simp[aG,hg,hb,gM],rfl⟩⟩,bD _ h⟩
   ·exact⟨_,⟨hd,.inr ⟨by simp[aG,hg,hb],rfl⟩⟩,bD _ h⟩
  obtain⟨x,h3,h4⟩:=Hp
  cases f with
  |zero=>
   refine⟨fun hn=>(by rw[hn] at qk;cases qk),fun j hj=>?_⟩
   by_cases fK:j=i
   ·subst fK
    unfold iy
    rw[ho]
    simp only[he,hhe,Bool.false_eq_true,if_false]
    exact⟨x,⟨h3.1,h3.2.imp (fun g=>⟨g.1,fun s' g1 g2=>g.2 s' g1 (by rw[g2];exact nW.refl)⟩) id⟩,h4⟩
   ·have h5:=ready_mono hj fK
    rw[h4.1] at h5
    cases h5
  |succ f=>
   exact fb.first (R:=nW M i o.op) (fun _ _ _=>nW.trans) (fun _=>nW.refl) ho (by simp[jB,he,hhe]) (f+1) eF.toArray s Gd cg qk h3 h4
 |ya i p ih=>
  intro fuel eF s hf Gd h
  simp only[kY.depth] at hf
  obtain⟨f,rfl⟩:∃f,fuel=f+1:=⟨fuel-1,by omega⟩
  simp only[ga] at h
  split at h
  ·exact h.elim
  rename_i o ho
  rw[ld] at ho
  obtain⟨hb,h⟩:=bE h
  rw[Bool.and_eq_true] at hb
  have qk:=jk.1 hb.1
  refine⟨fun hn=>(by rw[hn] at qk;cases qk),fun k hk=>?_⟩
  have:=lO hb.2 hk
  simp only[List.mem_singleton] at this
  subst this
  exact pa.sound ao hP ah cC ho h fun s h=>by
   have:=ih f (j6 eF k) s (by omega) (by rw[eE];exact bT Gd qk) h
   rwa [eE] at this
 |two i p j q YB YC=>
  intro fuel eF s hf Gd h
  simp only[kY.depth] at hf
  obtain⟨f,rfl⟩:∃f,fuel=f+1:=⟨fuel-1,by omega⟩
  simp only[ga] at h
  split at h
  ·rename_i o o' ho tW
   rw[ld] at ho tW
   obtain⟨hb,h⟩:=bE h
   rw[Bool.and_eq_true] at hb
   have qk:=jk.1 hb.1
   have ff:p.depth≤Nat.max p.depth q.depth:=Nat.le_max_left _ _
   have hq1:q.depth≤Nat.max p.depth q.depth:=Nat.le_max_right _ _
   refine⟨fun hn=>(by rw[hn] at qk;cases qk),fun k hk=>?_⟩
   have:=lO hb.2 hk
   simp only[List.mem_cons,List.not_mem_nil,or_false] at this
   rcases this with rfl|rfl
   ·exact pa.sound ao hP ah cC ho h.1 fun s h=>by
     have:=YB f (j6 eF k) s (by omega) (by rw[eE];exact bT Gd hk) h
     rwa [eE] at this
   ·exact pa.sound ao hP ah cC tW h.2 fun s h=>by
     have:=YC f (j6 eF k) s (by omega) (by rw[eE];exact bT Gd hk) h
     rwa [eE] at this
  ·exact h.elim
 |three i p j q k2 r YB YC ihr=>
  intro fuel eF s hf Gd h
  simp only[kY.depth] at hf
  obtain⟨f,rfl⟩:∃f,fuel=f+1:=⟨fuel-1,by omega⟩
  simp only[ga] at h
  split at h
  ·rename_i o o' o2 ho tW ho2
   rw[ld] at ho tW ho2
   obtain⟨hb,h⟩:=bE h
   rw[Bool.and_eq_true] at hb
   have qk:=jk.1 hb.1
   have ff:p.depth≤Nat.max p.depth (Nat.max q.depth r.depth):=Nat.le_max_left _ _
   have hq1:q.depth≤Nat.max p.depth (Nat.max q.depth r.depth):=Nat.le_trans (Nat.le_max_left _ _) (Nat.le_max_right _ _)
   have DC:r.depth≤Nat.max p.depth (Nat.max q.depth r.depth):=Nat.le_trans (Nat.le_max_right _ _) (Nat.le_max_right _ _)
   refine⟨fun hn=>(by rw[hn] at qk;cases qk),fun k hk=>?_⟩
   have:=lO hb.2 hk
   simp only[List.mem_cons,List.not_mem_nil,or_false] at this
   rcases this with rfl|rfl|rfl
   ·exact pa.sound ao hP ah cC ho h.1 fun s h=>by
     have:=YB f (j6 eF k) s (by omega) (by rw[eE];exact bT Gd hk) h
     rwa [eE] at this
   ·exact pa.sound ao hP ah cC tW h.2.1 fun s h=>by
     have:=YC f (j6 eF k) s (by omega) (by rw[eE];exact bT Gd hk) h
     rwa [eE] at this
   ·exact pa.sound ao hP ah cC ho2 h.2.2 fun s h=>by
     have:=ihr f (j6 eF k) s (by omega) (by rw[eE];exact bT Gd hk) h
     rwa [eE] at this
  ·exact h.elim
def pd:List Oper→List Bool
 | []=>[]
 |_::l=>false::pd l
theorem xh:∀(l:List Oper),(pd l).toArray=Array.replicate l.length false:=by
 have:∀(l:List Oper),pd l=List.replicate l.length false:=by
  intro l
  induction l with
  |nil=>rfl
  |cons o l ih=>simp only[pd,ih,List.length_cons,List.replicate_succ]
 intro l
 rw[this];simp
theorem dG.UE (ao:Γ.Ok) {C:cm} (hP:C.P=Γ.P) (ah:aQ Γ.P C.tab) (cC:C.nt=Γ.nt) (hm:Γ.P.follows .mixedOrders=true) {hs:List Nat} {id:Nat} {l:List Oper} {Q:Exit→AS Unit→Prop} {Cl M:List (Option (List Nat))} {p:kY}
  (hd:Nat.ble p.depth l.length=true) (h:ga C hs l (kK l []) Cl M (Q .normal) p (pd l) s):dG Γ (.region id l.toArray true) Q s:=by
 intro a w η hr
 refine wpIn_region_any hm ?_
 have h1:=ga.sound ao hP ah cC p l.length (pd l) s (Nat.le_of_ble_eq_true hd) (fun k o hk=>by
  rw[xh] at hk
  simp only[Array.getD_eq_getD_getElem?,Array.getElem?_replicate] at hk
  split at hk<;>simp at hk) h
 rw[xh] at h1
 have h2:=gq.sound (Qc:=fun e a' w'=>∃s' aH,Q e s'∧Rel Γ s' a' w' aH) ao (fun s' a' w' aH h1 h2=>⟨s',aH,h1,h2⟩) _ _ _ a w.drew η (h1.any ao) (hr.same ao (bu.drew w))
 simpa using h2
end Go.Proofs.YtdcikhleahfknaaGreatDoor
