/- Texts of ours laid together for a claim: VcK. -/
import Derived.Test.YtjhanogfpkbamaaGreatDoorQ25
namespace Go.Proofs.YtjhanogfpkbamaaGreatDoor
open Go
set_option linter.unusedSimpArgs false
set_option linter.unusedVariables false
def Plan.depth:Plan→Nat
 | .done=>0
 | .val _ p=>p.depth+1
 | .eff _ p=>p.depth+1
 | .two _ p _ q=>Nat.max p.depth q.depth+1
 | .three _ p _ q _ r=>Nat.max p.depth (Nat.max q.depth r.depth)+1
def nthB (d:Bool):List Bool→Nat→Bool
 | [],_=>d
 |b::_,0=>b
 |_::l,n+1=>nthB d l n
theorem nthB_eq (d:Bool):∀(l:List Bool) (n:Nat),nthB d l n=l.toArray.getD n d
 | [],n=>by simp[nthB]
 |b::l,0=>by simp[nthB]
 |b::l,n+1=>by
  have:=nthB_eq d l n
  simp only[nthB,this]
  simp[Array.getD_eq_getD_getElem?]
def nthOp:List Oper→Nat→Option Oper
 | [],_=>none
 |o::_,0=>some o
 |_::l,n+1=>nthOp l n
theorem nthOp_eq:∀(l:List Oper) (n:Nat),nthOp l n=l.toArray[n]?
 | [],n=>by simp[nthOp]
 |b::l,0=>by simp[nthOp]
 |b::l,n+1=>by
  have:=nthOp_eq l n
  simp only[nthOp,this]
  simp
def setB:List Bool→Nat→List Bool
 | [],_=>[]
 |_::l,0=>true::l
 |b::l,n+1=>b::setB l n
theorem setB_eq:∀(l:List Bool) (n:Nat),(setB l n).toArray=l.toArray.setIfInBounds n true:=by
 intro l n
 have:∀(l:List Bool) (n:Nat),setB l n=l.set n true:=by
  intro l
  induction l with
  |nil=>intro n;simp[setB]
  |cons b l ih=>intro n;cases n<;>simp[setB,ih]
 rw[this];simp
def edgesB (lst:List Bool):List Edge→Bool
 | []=>true
 |e::l=>(!Region.binds .any e||nthB false lst e.on)&&edgesB lst l
theorem edgesB_ok {lst:List Bool}:∀{l:List Edge},edgesB lst l=true↔∀e∈l,Region.binds .any e=true→lst.toArray.getD e.on false=true
 | []=>by simp[edgesB]
 |e::l=>by
  simp only[edgesB,Bool.and_eq_true,Bool.or_eq_true,Bool.not_eq_true',edgesB_ok (l:=l),List.mem_cons,forall_eq_or_imp,nthB_eq]
  constructor
  ·rintro⟨h1,h2⟩;exact⟨fun hb=>h1.resolve_left (by rw[hb];simp),h2⟩
  ·rintro⟨h1,h2⟩
   refine⟨?_,h2⟩
   cases hb:Region.binds .any e with
   |false=>exact .inl rfl
   |true=>exact .inr (h1 hb)
def readyB (l0:List Oper) (lst:List Bool) (k:Nat):Bool:=
 match nthOp l0 k with
 |none=>false
 |some o=>!(nthB true lst k)&&edgesB lst o.after.toList
theorem readyB_iff {l0:List Oper} {lst:List Bool} {k:Nat}:readyB l0 lst k=true↔k∈Region.ready .any l0.toArray lst.toArray:=by
 rw[mem_ready]
 unfold readyB
 rw[nthOp_eq]
 cases hk:l0.toArray[k]? with
 |none=>simp
 |some o=>
  simp only[Bool.and_eq_true,Bool.not_eq_true',nthB_eq,edgesB_ok,Option.some.injEq,exists_eq_left']
  constructor
  ·rintro⟨h1,h2⟩;exact⟨h1,fun e he hb=>h2 e (by simpa using he) hb⟩
  ·rintro⟨h1,h2⟩;exact⟨h1,fun e he hb=>h2 e (by simpa using he) hb⟩
def onlyB (l0:List Oper) (lst:List Bool) (l:List Nat):List Oper→Nat→Bool
 | [],_=>true
 |_::r,k=>(!readyB l0 lst k||memN l k)&&onlyB l0 lst l r (k+1)
theorem onlyB_ok {l0:List Oper} {lst:List Bool} {l:List Nat}:∀{r:List Oper} {k:Nat},onlyB l0 lst l r k=true→∀q,k≤q→q<k+r.length→readyB l0 lst q=true→q∈l
 | [],k,_,q,h1,h2,_=>by simp at h2;omega
 |o::r,k,h,q,h1,h2,h3=>by
  simp only[onlyB,Bool.and_eq_true,Bool.or_eq_true,Bool.not_eq_true'] at h
  by_cases hq:q=k
  ·subst hq;exact memN_ok (h.1.resolve_left (by rw[h3];simp))
  ·exact onlyB_ok h.2 q (by omega) (by simp only[List.length_cons] at h2;omega) h3
theorem only_ready {l0:List Oper} {lst:List Bool} {l:List Nat} (h:onlyB l0 lst l l0 0=true) {q:Nat} (hq:q∈Region.ready .any l0.toArray lst.toArray):q∈l:=by
 obtain⟨_,o,ho,_⟩:=mem_ready.1 hq
 have:=(Array.getElem?_eq_some_iff.1 ho).1
 exact onlyB_ok h q (Nat.zero_le _) (by simpa using this) (readyB_iff.2 hq)
def mayAheadB (C M:List (Option (List Nat))) (k j:Nat) (op:Op):Bool:=
 heapless op||(match nthO C j,nthO M k with
  |some l,some K=>subL l K
  |_,_=>false)
def hAhead (C M:List (Option (List Nat))) (k j:Nat) (op:Op):Bool:=
 match nthO C j with
 |none=>false
 |some l=>heapless op||(match nthO M k with
  |some K=>subL l K
  |none=>false)
theorem hAhead_spec {C M:List (Option (List Nat))} {k j:Nat} {op:Op} (h:hAhead C M k j op=true):∃l,C.getD j none=some l∧∀hp hp',HpFr l hp hp'→Rof M k op hp hp':=by
 unfold hAhead at h
 rw[nthO_eq] at h
 split at h
 ·cases h
 ·rename_i l hl
  refine⟨l,hl,fun hp hp' hf=>mayAhead_spec (C:=C) (j:=j) ?_ (by unfold ChgAt;rw[hl];exact hf)⟩
  unfold mayAhead
  rw[nthO_eq] at h
  rw[hl]
  rw[Bool.or_eq_true] at h ⊢
  refine h.imp id fun h=>?_
  split at h
  ·rename_i K hK;rw[hK];exact h
  ·cases h
def freeB (H:Oper→Bool) (l0:List Oper) (anc:List Nat) (C M:List (Option (List Nat))) (lst:List Bool) (i:Nat) (oi:Oper):List Oper→Nat→Bool
 | [],_=>true
 |oj::r,j=>(Nat.beq j i||(nthB true lst j||(((anc.getD j 0).testBit i)||(oi.apart l0.toArray oj&&(match H oj with|false=>!isEff oj.op||mayAheadB C M i j oi.op|true=>!isEff oj.op&&hAhead C M i j oi.op)))))&&freeB H l0 anc C M lst i oi r (j+1)
theorem freeB_ok {H:Oper→Bool} {l0:List Oper} {anc:List Nat} {C M:List (Option (List Nat))} {lst:List Bool} {i:Nat} {oi:Oper}:∀{r:List Oper} {k:Nat},freeB H l0 anc C M lst i oi r k=true→∀(j:Nat) oj,r[j]?=some oj→k+j≠i→lst.toArray.getD (k+j) true=false→
  (anc.getD (k+j) 0).testBit i=true∨(oi.apart l0.toArray oj=true∧((H oj=false∧(isEff oj.op=false∨mayAhead C M i (k+j) oi.op=true))∨(H oj=true∧isEff oj.op=false∧hAhead C M i (k+j) oi.op=true)))
 | [],k,_,j,oj,hj,_,_=>by simp at hj
 |o::r,k,h,j,oj,hj,h1,h2=>by
  simp only[freeB,Bool.and_eq_true,Bool.or_eq_true,Bool.not_eq_true'] at h
  cases j with
  |zero=>
   simp only[List.getElem?_cons_zero,Option.some.injEq] at hj
   subst hj
   rcases h.1 with h3|h3|h3|h3
   ·exact(h1 (Nat.eq_of_beq_eq_true h3)).elim
   ·rw[nthB_eq,show k=k+0 from rfl,h2] at h3;cases h3
   ·exact .inl h3
   ·refine .inr ⟨h3.1,?_⟩
    have h4:=h3.2
    cases hH:H o with
    |false=>
     rw[hH] at h4
     simp only[Bool.or_eq_true,Bool.not_eq_true'] at h4
     refine .inl ⟨rfl,h4.imp id fun h=>?_⟩
     unfold mayAheadB at h
     unfold mayAhead
     rw[nthO_eq,nthO_eq] at h
     exact h
    |true=>
     rw[hH] at h4
     simp only[Bool.and_eq_true,Bool.not_eq_true'] at h4
     exact .inr ⟨rfl,h4⟩
  |succ j=>
   simp only[List.getElem?_cons_succ] at hj
   have:=freeB_ok h.2 j oj hj (by omega) (by rw[show k+1+j=k+(j+1) from by omega];exact h2)
   rw[show k+1+j=k+(j+1) from by omega] at this
   exact this
def KStepX (C:VCfg) (l:List Nat) (o:Oper) (s:AS Unit) (next:AS Unit→Prop):Prop:=
 match callOf s o.op with
 |some (f,args)=>(match sigAt C f o with
  | .emb sh=>okB (subL (reachL s.hp 100 [] args) l) (VEmb C (reachL s.hp 100 [] args) sh f args o s next)
  |_=>False)
 |none=>False
theorem backO_fr {js:List Nat} {H h:List AObj} (hb:jsOk H.length js=true) (hl:js.length≤h.length):HpFr js H (backO (embG js H.length) js.length h H):=by
 refine⟨by rw[backO,putL_len];omega,fun q o hq ho=>?_⟩
 have hql:q<H.length:=(List.getElem?_eq_some_iff.1 ho).1
 rw[backO,putL_get (by omega)]
 unfold putAt
 split
 ·rename_i i hi
  obtain⟨h1,h2⟩:=findI_some hi
  unfold embG at h2
  split at h2
  ·rename_i hlt
   have hlt:i<js.length:=Nat.le_of_ble_eq_true (show Nat.ble (i+1) js.length=true from hlt)
   exact(hq (by rw[←h2];exact List.mem_of_getElem? (nthN_get hlt))).elim
  ·omega
 ·rw[List.getD_eq_getElem?_getD,ho];rfl
theorem KStepX.sound {Γ:Env Unit} {s:AS Unit} (hok:Γ.Ok) {C:VCfg} (hP:C.P=Γ.P) (hnt:C.nt=Γ.nt) {ops:Array Oper} {l:List Nat} {o:Oper} {next K:AS Unit→Prop} (hd:dstOk Γ.nt o.dst) (h:KStepX C l o s next) (hn:∀s,next s→K s):HCallX Γ ops o l s K:=by
 unfold KStepX at h
 split at h
 ·rename_i f args hargs
  rw[callOf_eq] at hargs
  unfold callArgs at hargs
  split at hargs
  ·rename_i c hc
   split at hargs
   ·rename_i x hx
    split at hargs
    ·rename_i f' caps hcl
     simp only[Option.some.injEq,Prod.mk.injEq] at hargs
     obtain⟨rfl,rfl⟩:=hargs
     split at h
     ·rename_i sh hsig
      generalize reachL s.hp 100 [] (List.map s.ev c.args.toList++caps)=js at *
      obtain⟨hsub,h⟩:=okB_ok h
      unfold VEmb at h
      obtain⟨hb,h⟩:=okB_ok h
      rw[conj_iff] at h
      obtain⟨hcs,R,g1,g2⟩:=h
      have hargs:=mapD_ok (g:=AV.argJ js s.hp) (fun x=>argJ'_ok) _ hcs
      rw[hP] at g1
      have hfr:=VEmb.hfn (R:=fun r h'=>R r h'∧embOk js r h'=true) hb (g1.mono fun r h' hr=>⟨hr,(okB_ok (KAlts_ok (g2 r h' hr))).1⟩) (fun r h' hr=>hr.2)
      refine⟨fun r2 H2=>∃r h,(R r h∧embOk js r h=true)∧r2=renA (embG js s.hp.length) r∧H2=backO (embG js s.hp.length) js.length h s.hp,fun s' ht hhp K' hK'=>?_,fun r hp' hN=>?_⟩
      ·have hev:∀y,y∈o.op.operands→s'.ev y=s.ev y:=fun y hy=>by
        cases y with
        |tmp t=>
         refine ht t ?_
         unfold Oper.looksAt
         exact List.mem_append_left _ (List.mem_filterMap.2 ⟨.tmp t,by simpa using hy,rfl⟩)
        |_=>rfl
       have hx':s'.ev x=.clo f' caps:=by rw[←hcl];exact hev x (by rw[hc];simp[Op.operands,Call.operands,hx])
       have hm:c.args.toList.map s'.ev=c.args.toList.map s.ev:=List.map_congr_left fun y hy=>hev y (by rw[hc];simp only[Op.operands,Call.operands,Array.mem_append];exact .inr (by simpa using hy))
       exact ACall.heapW hok hc hx hx' (by rw[hhp];exact hfr) (fun a w η us hr h=>by
        have:=argJ_rep hr js _ us h
        rw[hm,hhp,hargs] at this
        rw[hhp];exact this) hd hK'
      ·obtain⟨r',h',hr,rfl,rfl⟩:=hN
       have hb1:jsOk s.hp.length js=true:=by simp only[Bool.and_eq_true] at hb;exact hb.1
       have hle:js.length≤h'.length:=by have:=hr.2;simp only[embOk,Bool.and_eq_true] at this;exact Nat.le_of_ble_eq_true this.1
       refine⟨(backO_fr hb1 hle).mono fun q hq=>?_,hn _ (okB_ok (KAlts_ok (g2 r' h' hr.1))).2⟩
       have:=List.all_eq_true.1 hsub q hq
       simpa using this
     ·exact h.elim
    ·cases hargs
   ·cases hargs
  ·cases hargs
 ·exact h.elim
def KOne (C:VCfg) (hs:List Nat) (l0:List Oper) (Cl:List (Option (List Nat))) (i:Nat) (o:Oper) (s:AS Unit) (next:AS Unit→Prop):Prop:=
 match dstB C.nt o.dst with
 |false=>False
 |true=>(match isEff o.op with
  |true=>(match o.guard with
   |none=>okB (chgB (nthO Cl i) s.ev o.op) (match VEff C.tab s.hp s.ev o.op (fun r hp'=>next (AS.put { s with hp:=hp' } o.dst r)) with
    |some p=>p
    |none=>False)
   |some _=>False)
  |false=>(match heapCallee hs o with
   |true=>KG l0 o s (fun s=>match nthO Cl i with
     |none=>KStep C o s next
     |some l=>KStepX C l o s next) (fun s=>next (s.put o.dst (.prim (.tuple #[]))))
   |false=>KG l0 o s (fun s=>KDStepU C none o s next) (fun s=>next (s.put o.dst (.prim (.tuple #[]))))))
def KPlan (C:VCfg) (hs:List Nat) (l0:List Oper) (anc:List Nat) (Cl M:List (Option (List Nat))) (K:AS Unit→Prop):Plan→List Bool→AS Unit→Prop
 | .done,lst,s=>okB (onlyB l0 lst [] l0 0) (K s)
 | .val i p,lst,s=>(match nthOp l0 i with
  |none=>False
  |some o=>okB (readyB l0 lst i&&(freeB (heapCallee hs) l0 anc Cl M lst i o l0 0&&(!isEff o.op&&(!heapCallee hs o&&dstB C.nt o.dst))))
    (KG l0 o s (fun s=>KDStepU C (nthO M i) o s (KPlan C hs l0 anc Cl M K p (setB lst i))) (fun s=>KPlan C hs l0 anc Cl M K p (setB lst i) (s.put o.dst (.prim (.tuple #[]))))))
 | .eff i p,lst,s=>(match nthOp l0 i with
  |none=>False
  |some o=>okB (readyB l0 lst i&&onlyB l0 lst [i] l0 0) (KOne C hs l0 Cl i o s (KPlan C hs l0 anc Cl M K p (setB lst i))))
 | .two i p j q,lst,s=>(match nthOp l0 i,nthOp l0 j with
  |some o,some o'=>okB (readyB l0 lst i&&onlyB l0 lst [i,j] l0 0)
    (KOne C hs l0 Cl i o s (KPlan C hs l0 anc Cl M K p (setB lst i))∧KOne C hs l0 Cl j o' s (KPlan C hs l0 anc Cl M K q (setB lst j)))
  |_,_=>False)
 | .three i p j q k r,lst,s=>(match nthOp l0 i,nthOp l0 j,nthOp l0 k with
  |some o,some o',some o2=>okB (readyB l0 lst i&&onlyB l0 lst [i,j,k] l0 0)
    (KOne C hs l0 Cl i o s (KPlan C hs l0 anc Cl M K p (setB lst i))∧(KOne C hs l0 Cl j o' s (KPlan C hs l0 anc Cl M K q (setB lst j))∧KOne C hs l0 Cl k o2 s (KPlan C hs l0 anc Cl M K r (setB lst k))))
  |_,_,_=>False)
variable {Γ:Env Unit} {s:AS Unit}
theorem KOne.sound (hok:Γ.Ok) {C:VCfg} (hP:C.P=Γ.P) (htab:TabOk Γ.P C.tab) (hnt:C.nt=Γ.nt) {hs:List Nat} {l0:List Oper} {Cl:List (Option (List Nat))} {i:Nat} {o:Oper} (ho:l0.toArray[i]?=some o) {next K:AS Unit→Prop} (h:KOne C hs l0 Cl i o s next) (hn:∀s,next s→K s):
  AOpAtW Γ l0.toArray (heapCallee hs) Cl Cl i K s:=by
 unfold KOne at h
 unfold AOpAtW
 rw[ho]
 simp only
 split at h
 ·exact h.elim
 rename_i hd
 have hd:=dstB_ok hd
 rw[hnt] at hd
 split at h
 ·rename_i he
  rw[if_pos he]
  split at h
  ·rename_i hg
   obtain⟨hch,h⟩:=okB_ok h
   split at h
   ·rename_i p hp
    obtain⟨c,r,hp',g1,g2,g3⟩:=VEff_ok hp h
    have hcg:=chgB_ok hch g1
    rw[nthO_eq] at hcg
    refine⟨hd,hg,r,hp',fun Γ' hok' e1 e2 e3=>heff_sound hok' (tab:=C.tab) (by rw[e1];exact htab) (c:=c) ?_ g2,?_,hn _ g3⟩
    ·rw[←g1];exact heff_congr fun x hx=>only_ev hx
    ·unfold ChgAt
     cases hc:Cl.getD i none with
     |none=>exact True.intro
     |some l=>
      have:=ChgL.fr _ _ _ (hcg l hc)
      exact⟨this.1,fun q ob hq ho=>this.2 q ob (by simpa using hq) ho⟩
   ·exact h.elim
  ·exact h.elim
 ·rename_i he
  rw[if_neg (by rw[he];simp)]
  split at h
  ·rename_i hh
   rw[if_pos hh]
   have act:∀h:(match nthO Cl i with
     |none=>KStep C o s next
     |some l=>KStepX C l o s next),HAtW Γ l0.toArray Cl i o s K:=by
    intro h
    unfold HAtW
    rw[nthO_eq] at h
    split at h
    ·rename_i hc;rw[hc];exact KStep.sound hok hP htab hnt h hn
    ·rename_i l hc;rw[hc];exact KStepX.sound hok hP hnt hd h hn
   rcases KG.cases h with⟨hg,h⟩|⟨j,want,b,hg,hb,⟨hbw,h⟩|⟨hbw,h⟩⟩|⟨j,want,hg,hb,h⟩
   ·exact .inl ⟨by simp[guardVal,hg],act h⟩
   ·exact .inl ⟨by simp[guardVal,hg,hb,hbw],act h⟩
   ·exact .inr ⟨by simp[guardVal,hg,hb,hbw],hd,hn _ h⟩
   ·exact .inr ⟨by simp[guardVal,hg,hb],hd,hn _ h⟩
  ·rename_i hh
   rw[if_neg (by rw[hh];simp)]
   have weak:∀{x:AV},Stab Γ l0.toArray o s x (Rof [] i o.op)→Stab Γ l0.toArray o s x (fun hp hp'=>hp'=hp):=fun h=>
    ⟨h.1,h.2.imp (fun g=>⟨g.1,fun s' g1 g2=>g.2 s' g1 (by rw[g2];exact Rof.refl)⟩) id⟩
   have step:KDStepU C none o s next→(o.guard=none∨∃j want b,o.guard=some (j,want)∧gslot l0.toArray s j=some b)→∃x,(∀s':AS Unit,(∀t,t∈o.looksAt l0.toArray→s'.tmps t=s.tmps t)→Rof [] i o.op s.hp s'.hp→VStepU Γ o (s'.only (o.looksAt l0.toArray)) x)∧K (s.put o.dst x):=
    fun h hg=>DStepU.sound (ops:=l0.toArray) (M:=[]) (k:=i) htab (KDStepU.sound (N:=K) (R:=K) hP h hn hn) (fun _ h=>h) (fun _ h=>h) hg
   rcases KG.cases h with⟨hg,h⟩|⟨j,want,b,hg,hb,⟨hbw,h⟩|⟨hbw,h⟩⟩|⟨j,want,hg,hb,h⟩
   ·obtain⟨x,h3,h4⟩:=step h (.inl hg)
    exact⟨x,weak ⟨hd,.inl ⟨by simp[guardVal,hg],h3⟩⟩,h4⟩
   ·obtain⟨x,h3,h4⟩:=step h (.inr ⟨j,want,_,hg,hb⟩)
    exact⟨x,weak ⟨hd,.inl ⟨by simp[guardVal,hg,hb,hbw],h3⟩⟩,h4⟩
   ·exact⟨_,⟨hd,.inr ⟨by simp[guardVal,hg,hb,hbw],rfl⟩⟩,hn _ h⟩
   ·exact⟨_,⟨hd,.inr ⟨by simp[guardVal,hg,hb],rfl⟩⟩,hn _ h⟩
theorem KPlan.sound (hok:Γ.Ok) {C:VCfg} (hP:C.P=Γ.P) (htab:TabOk Γ.P C.tab) (hnt:C.nt=Γ.nt) {hs:List Nat} {l0:List Oper} {Cl M:List (Option (List Nat))} {K:AS Unit→Prop}:∀(p:Plan) (fuel:Nat) (lst:List Bool) (s:AS Unit),p.depth≤fuel→Shut l0.toArray lst.toArray→
  KPlan C hs l0 (ancL l0 []) Cl M K p lst s→AAnyW Γ l0.toArray (heapCallee hs) Cl Cl K fuel lst.toArray s:=by
 have hreach:∀(i j:Nat),(List.getD (ancL l0 []) j 0).testBit i=true→Reach l0.toArray i j:=by
  intro i j hj
  cases hm:(ancL l0 [])[j]? with
  |none=>simp[List.getD,hm] at hj
  |some m=>
   simp only[List.getD,hm,Option.getD_some] at hj
   exact ancL_spec (ops:=l0.toArray) l0 [] (fun j=>by simp) (fun j m i hj=>by simp at hj) j m i hm hj
 intro p
 induction p with
 |done=>
  intro fuel lst s hf hsh h
  simp only[KPlan] at h
  obtain⟨hb,h⟩:=okB_ok h
  have hnil:Region.ready .any l0.toArray lst.toArray=[]:=by
   apply List.eq_nil_iff_forall_not_mem.2
   intro q hq
   have:=only_ready hb hq
   simp at this
  cases fuel with
  |zero=>exact⟨hnil,h⟩
  |succ fuel=>exact⟨fun _=>h,fun q hq=>by rw[hnil] at hq;cases hq⟩
 |val i p ih=>
  intro fuel lst s hf hsh h
  simp only[Plan.depth] at hf
  obtain⟨f,rfl⟩:∃f,fuel=f+1:=⟨fuel-1,by omega⟩
  simp only[KPlan] at h
  split at h
  ·exact h.elim
  rename_i o ho
  rw[nthOp_eq] at ho
  obtain⟨hb,h⟩:=okB_ok h
  simp only[Bool.and_eq_true,Bool.not_eq_true'] at hb
  obtain⟨hrd,hfr,he,hhe,hd⟩:=hb
  have hrd':=readyB_iff.1 hrd
  have hd:=dstB_ok hd
  have hnext:∀s,KPlan C hs l0 (ancL l0 []) Cl M K p (setB lst i) s→AAnyW Γ l0.toArray (heapCallee hs) Cl Cl K f (lst.toArray.setIfInBounds i true) s:=by
   intro s h
   have:=ih f (setB lst i) s (by omega) (by rw[setB_eq];exact shut_ready hsh hrd') h
   rwa [setB_eq] at this
  have hfree:∀(j:Nat) oj,l0.toArray[j]?=some oj→j≠i→lst.toArray.getD j true=false→Reach l0.toArray i j∨(o.apart l0.toArray oj=true∧((heapCallee hs oj=false∧(isEff oj.op=false∨∀hp hp',ChgAt Cl j hp hp'→Rof M i o.op hp hp'))∨(heapCallee hs oj=true∧isEff oj.op=false∧∃l,Cl.getD j none=some l∧∀hp hp',HpFr l hp hp'→Rof M i o.op hp hp'))):=by
   intro j oj hj hji hun
   have:=freeB_ok hfr j oj (by simpa using hj) (by rw[Nat.zero_add];exact hji) (by rw[Nat.zero_add];exact hun)
   rw[Nat.zero_add] at this
   exact this.imp (hreach i j) fun h=>⟨h.1,h.2.imp (fun h=>⟨h.1,h.2.imp id fun hm hp hp' hc=>mayAhead_spec hm hc⟩) fun h=>⟨h.1,h.2.1,hAhead_spec h.2.2⟩⟩
  have stab:∃x,Stab Γ l0.toArray o s x (Rof M i o.op)∧AAnyW Γ l0.toArray (heapCallee hs) Cl Cl K f (lst.toArray.setIfInBounds i true) (s.put o.dst x):=by
   rw[hnt] at hd
   rcases KG.cases h with⟨hg,h⟩|⟨j,want,b,hg,hb,⟨hbw,h⟩|⟨hbw,h⟩⟩|⟨j,want,hg,hb,h⟩
   ·rw[nthO_eq] at h
    obtain⟨x,h3,h4⟩:=DStepU.sound (ops:=l0.toArray) htab (KDStepU.sound (N:=AAnyW Γ l0.toArray (heapCallee hs) Cl Cl K f (lst.toArray.setIfInBounds i true)) (R:=AAnyW Γ l0.toArray (heapCallee hs) Cl Cl K f (lst.toArray.setIfInBounds i true)) hP h hnext hnext) (fun _ h=>h) (fun _ h=>h) (.inl hg)
    exact⟨x,⟨hd,.inl ⟨by simp[guardVal,hg],h3⟩⟩,h4⟩
   ·rw[nthO_eq] at h
    obtain⟨x,h3,h4⟩:=DStepU.sound (ops:=l0.toArray) htab (KDStepU.sound (N:=AAnyW Γ l0.toArray (heapCallee hs) Cl Cl K f (lst.toArray.setIfInBounds i true)) (R:=AAnyW Γ l0.toArray (heapCallee hs) Cl Cl K f (lst.toArray.setIfInBounds i true)) hP h hnext hnext) (fun _ h=>h) (fun _ h=>h) (.inr ⟨j,want,_,hg,hb⟩)
    exact⟨x,⟨hd,.inl ⟨by simp[guardVal,hg,hb,hbw],h3⟩⟩,h4⟩
   ·exact⟨_,⟨hd,.inr ⟨by simp[guardVal,hg,hb,hbw],rfl⟩⟩,hnext _ h⟩
   ·exact⟨_,⟨hd,.inr ⟨by simp[guardVal,hg,hb],rfl⟩⟩,hnext _ h⟩
  obtain⟨x,h3,h4⟩:=stab
  cases f with
  |zero=>
   refine⟨fun hn=>(by rw[hn] at hrd';cases hrd'),fun j hj=>?_⟩
   by_cases hji:j=i
   ·subst hji
    unfold AOpAtW
    rw[ho]
    simp only[he,hhe,Bool.false_eq_true,if_false]
    exact⟨x,⟨h3.1,h3.2.imp (fun g=>⟨g.1,fun s' g1 g2=>g.2 s' g1 (by rw[g2];exact Rof.refl)⟩) id⟩,h4⟩
   ·have h5:=ready_mono hj hji
    rw[h4.1] at h5
    cases h5
  |succ f=>
   exact AAnyW.first (R:=Rof M i o.op) (fun _ _ _=>Rof.trans) (fun _=>Rof.refl) ho (by simp[effH,he,hhe]) (f+1) lst.toArray s hsh hfree hrd' h3 h4
 |eff i p ih=>
  intro fuel lst s hf hsh h
  simp only[Plan.depth] at hf
  obtain⟨f,rfl⟩:∃f,fuel=f+1:=⟨fuel-1,by omega⟩
  simp only[KPlan] at h
  split at h
  ·exact h.elim
  rename_i o ho
  rw[nthOp_eq] at ho
  obtain⟨hb,h⟩:=okB_ok h
  rw[Bool.and_eq_true] at hb
  have hrd':=readyB_iff.1 hb.1
  refine⟨fun hn=>(by rw[hn] at hrd';cases hrd'),fun k hk=>?_⟩
  have:=only_ready hb.2 hk
  simp only[List.mem_singleton] at this
  subst this
  exact KOne.sound hok hP htab hnt ho h fun s h=>by
   have:=ih f (setB lst k) s (by omega) (by rw[setB_eq];exact shut_ready hsh hrd') h
   rwa [setB_eq] at this
 |two i p j q ihp ihq=>
  intro fuel lst s hf hsh h
  simp only[Plan.depth] at hf
  obtain⟨f,rfl⟩:∃f,fuel=f+1:=⟨fuel-1,by omega⟩
  simp only[KPlan] at h
  split at h
  ·rename_i o o' ho ho'
   rw[nthOp_eq] at ho ho'
   obtain⟨hb,h⟩:=okB_ok h
   rw[Bool.and_eq_true] at hb
   have hrd':=readyB_iff.1 hb.1
   have hp1:p.depth≤Nat.max p.depth q.depth:=Nat.le_max_left _ _
   have hq1:q.depth≤Nat.max p.depth q.depth:=Nat.le_max_right _ _
   refine⟨fun hn=>(by rw[hn] at hrd';cases hrd'),fun k hk=>?_⟩
   have:=only_ready hb.2 hk
   simp only[List.mem_cons,List.not_mem_nil,or_false] at this
   rcases this with rfl|rfl
   ·exact KOne.sound hok hP htab hnt ho h.1 fun s h=>by
     have:=ihp f (setB lst k) s (by omega) (by rw[setB_eq];exact shut_ready hsh hk) h
     rwa [setB_eq] at this
   ·exact KOne.sound hok hP htab hnt ho' h.2 fun s h=>by
     have:=ihq f (setB lst k) s (by omega) (by rw[setB_eq];exact shut_ready hsh hk) h
     rwa [setB_eq] at this
  ·exact h.elim
 |three i p j q k2 r ihp ihq ihr=>
  intro fuel lst s hf hsh h
  simp only[Plan.depth] at hf
  obtain⟨f,rfl⟩:∃f,fuel=f+1:=⟨fuel-1,by omega⟩
  simp only[KPlan] at h
  split at h
  ·rename_i o o' o2 ho ho' ho2
   rw[nthOp_eq] at ho ho' ho2
   obtain⟨hb,h⟩:=okB_ok h
   rw[Bool.and_eq_true] at hb
   have hrd':=readyB_iff.1 hb.1
   have hp1:p.depth≤Nat.max p.depth (Nat.max q.depth r.depth):=Nat.le_max_left _ _
   have hq1:q.depth≤Nat.max p.depth (Nat.max q.depth r.depth):=Nat.le_trans (Nat.le_max_left _ _) (Nat.le_max_right _ _)
   have hr1:r.depth≤Nat.max p.depth (Nat.max q.depth r.depth):=Nat.le_trans (Nat.le_max_right _ _) (Nat.le_max_right _ _)
   refine⟨fun hn=>(by rw[hn] at hrd';cases hrd'),fun k hk=>?_⟩
   have:=only_ready hb.2 hk
   simp only[List.mem_cons,List.not_mem_nil,or_false] at this
   rcases this with rfl|rfl|rfl
   ·exact KOne.sound hok hP htab hnt ho h.1 fun s h=>by
     have:=ihp f (setB lst k) s (by omega) (by rw[setB_eq];exact shut_ready hsh hk) h
     rwa [setB_eq] at this
   ·exact KOne.sound hok hP htab hnt ho' h.2.1 fun s h=>by
     have:=ihq f (setB lst k) s (by omega) (by rw[setB_eq];exact shut_ready hsh hk) h
     rwa [setB_eq] at this
   ·exact KOne.sound hok hP htab hnt ho2 h.2.2 fun s h=>by
     have:=ihr f (setB lst k) s (by omega) (by rw[setB_eq];exact shut_ready hsh hk) h
     rwa [setB_eq] at this
  ·exact h.elim
def falses:List Oper→List Bool
 | []=>[]
 |_::l=>false::falses l
theorem falses_eq:∀(l:List Oper),(falses l).toArray=Array.replicate l.length false:=by
 have:∀(l:List Oper),falses l=List.replicate l.length false:=by
  intro l
  induction l with
  |nil=>rfl
  |cons o l ih=>simp only[falses,ih,List.length_cons,List.replicate_succ]
 intro l
 rw[this];simp
theorem AWp.drawB (hok:Γ.Ok) {C:VCfg} (hP:C.P=Γ.P) (htab:TabOk Γ.P C.tab) (hnt:C.nt=Γ.nt) (hm:Γ.P.follows .mixedOrders=true) {hs:List Nat} {id:Nat} {l:List Oper} {Q:Exit→AS Unit→Prop} {Cl M:List (Option (List Nat))} {p:Plan}
  (hd:Nat.ble p.depth l.length=true) (h:KPlan C hs l (ancL l []) Cl M (Q .normal) p (falses l) s):AWp Γ (.region id l.toArray true) Q s:=by
 intro a w η hr
 refine wpIn_region_any hm ?_
 have h1:=KPlan.sound hok hP htab hnt p l.length (falses l) s (Nat.le_of_ble_eq_true hd) (fun k o hk=>by
  rw[falses_eq] at hk
  simp only[Array.getD_eq_getD_getElem?,Array.getElem?_replicate] at hk
  split at hk<;>simp at hk) h
 rw[falses_eq] at h1
 have h2:=AAnyH.sound (Qc:=fun e a' w'=>∃s' η',Q e s'∧Rel Γ s' a' w' η') hok (fun s' a' w' η' h1 h2=>⟨s',η',h1,h2⟩) _ _ _ a w.drew η (h1.any hok) (hr.same hok (Same.drew w))
 simpa using h2
end Go.Proofs.YtjhanogfpkbamaaGreatDoor
