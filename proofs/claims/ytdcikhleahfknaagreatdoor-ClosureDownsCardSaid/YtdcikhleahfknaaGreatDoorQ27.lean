/- Texts of ours laid together for a claim: VcK. -/
import Derived.Test.YtdcikhleahfknaaGreatDoorQ26
namespace Go.Proofs.YtdcikhleahfknaaGreatDoor
open Go
set_option linter.unusedSimpArgs false
set_option linter.unusedVariables false
def mq.depth:mq->Nat
 | .done=>0
 | .val _ p=>p.depth+1
 | .jY _ p=>p.depth+1
 | .two _ p _ q=>Nat.max p.depth q.depth+1
 | .three _ p _ q _ r=>Nat.max p.depth (Nat.max q.depth r.depth)+1
def Eu (d:Bool):List Bool->Nat->Bool
 | [],_=>d
 |b::_,0=>b
 |_::l,n+1=>Eu d l n
theorem we (d:Bool):∀(l:List Bool) (n:Nat),Eu d l n=l.toArray.getD n d
 | [],n=>by simp[Eu]
 |b::l,0=>by simp[Eu]
 |b::l,n+1=>by
  have:=we d l n;simp only[Eu,this];simp[al9]
def my:List Oper->Nat->Option Oper
 | [],_=>none
 |o::_,0=>some o
 |_::l,n+1=>my l n
theorem mz:∀(l:List Oper) (n:Nat),my l n=l.toArray[n]?
 | [],n=>by simp[my]
 |b::l,0=>by simp[my]
 |b::l,n+1=>by
  have:=mz l n;simp only[my,this];simp
def lE:List Bool->Nat->List Bool
 | [],_=>[]
 |_::l,0=>true::l
 |b::l,n+1=>b::lE l n
theorem eX:∀(l:List Bool) (n:Nat),(lE l n).toArray=l.toArray.setIfInBounds n true:=by
 intro l n;have:∀(l:List Bool) (n:Nat),lE l n=l.set n true:=by
  intro l
  induction l with
  |nil=>intro n;simp[lE]
  |cons b l ih=>intro n;cases n<;>simp[lE,ih]
 rw[this];simp
def xy (eY:List Bool):List Edge->Bool
 | []=>true
 |e::l=>(!Region.binds .any e||Eu false eY e.on)&&xy eY l
theorem Aa {eY:List Bool}:∀{l:List Edge},xy eY l=true↔∀e∈l,Region.binds .any e=true->eY.toArray.getD e.on false=true
 | []=>by simp[xy]
 |e::l=>by
  simp only[xy,alB,amo,ame,Aa (l:=l),al6,forall_eq_or_imp,we];constructor
  ·rintro⟨h1,h2⟩;exact⟨fun hb=>h1.resolve_left (by rw[hb];simp),h2⟩
  ·rintro⟨h1,h2⟩
   refine⟨?_,h2⟩
   cases hb:Region.binds .any e with
   |false=>exact .inl rfl
   |true=>exact .inr (h1 hb)
def oY (l0:List Oper) (eY:List Bool) (k:Nat):Bool:=
 match my l0 k with
 |none=>false
 |some o=>!(Eu true eY k)&&xy eY o.after.toList
theorem kj {l0:List Oper} {eY:List Bool} {k:Nat}:oY l0 eY k=true↔k∈Region.ready .any l0.toArray eY.toArray:=by
 rw[mem_ready];unfold oY;rw[mz]
 cases hk:l0.toArray[k]? with
 |none=>simp
 |some o=>
  simp only[alB,ame,we,Aa,als,exists_eq_left'];constructor
  ·rintro⟨h1,h2⟩;exact⟨h1,fun e he hb=>h2 e (by simpa using he) hb⟩
  ·rintro⟨h1,h2⟩;exact⟨h1,fun e he hb=>h2 e (by simpa using he) hb⟩
def uO (l0:List Oper) (eY:List Bool) (l:List Nat):List Oper->Nat->Bool
 | [],_=>true
 |_::r,k=>(!oY l0 eY k||HL l k)&&uO l0 eY l r (k+1)
theorem Ev {l0:List Oper} {eY:List Bool} {l:List Nat}:∀{r:List Oper} {k:Nat},uO l0 eY l r k=true->∀q,k<=q->q<k+r.length->oY l0 eY q=true->q∈l
 | [],k,_,q,h1,h2,_=>by simp at h2;omega
 |o::r,k,h,q,h1,h2,h3=>by
  simp only[uO,alB,amo,ame] at h
  by_cases hq:q=k
  ·subst hq;exact BB (h.1.resolve_left (by rw[h3];simp))
  ·exact Ev h.2 q (by omega) (by simp only[alJ] at h2;omega) h3
theorem nj {l0:List Oper} {eY:List Bool} {l:List Nat} (h:uO l0 eY l l0 0=true) {q:Nat} (hq:q∈Region.ready .any l0.toArray eY.toArray):q∈l:=by
 obtain⟨_,o,ho,_⟩:=mem_ready.1 hq;have:=(alY.1 ho).1;exact Ev h q (alE _) (by simpa using this) (kj.2 hq)
def Ab (C M:List (Option (List Nat))) (k j:Nat) (op:Op):Bool:=
 fP op||(match oV C j,oV M k with
  |some l,some K=>NF l K
  |_,_=>false)
def BH (C M:List (Option (List Nat))) (k j:Nat) (op:Op):Bool:=
 match oV C j with
 |none=>false
 |some l=>fP op||(match oV M k with
  |some K=>NF l K
  |none=>false)
theorem Ew {C M:List (Option (List Nat))} {k j:Nat} {op:Op} (h:BH C M k j op=true):∃l,C.getD j none=some l/\∀hp hp',mh l hp hp'->pL M k op hp hp':=by
 unfold BH at h;rw[eD] at h;split at h
 ·cases h
 ·rename_i l hl;refine⟨l,hl,fun hp hp' hf=>iO (C:=C) (j:=j) ?_ (by unfold kb;rw[hl];exact hf)⟩;unfold gV;rw[eD] at h;rw[hl];rw[amo] at h ⊢;refine h.imp id fun h=>?_;split at h
  ·rename_i K hK;rw[hK];exact h
  ·cases h
def J7 (H:Oper->Bool) (l0:List Oper) (HO:List Nat) (C M:List (Option (List Nat))) (eY:List Bool) (i:Nat) (oi:Oper):List Oper->Nat->Bool
 | [],_=>true
 |oj::r,j=>(Nat.beq j i||(Eu true eY j||(((HO.getD j 0).testBit i)||(oi.apart l0.toArray oj&&(match H oj with|false=>!cj oj.op||Ab C M i j oi.op|true=>!cj oj.op&&BH C M i j oi.op)))))&&J7 H l0 HO C M eY i oi r (j+1)
theorem Ex {H:Oper->Bool} {l0:List Oper} {HO:List Nat} {C M:List (Option (List Nat))} {eY:List Bool} {i:Nat} {oi:Oper}:∀{r:List Oper} {k:Nat},J7 H l0 HO C M eY i oi r k=true->∀(j:Nat) oj,r[j]?=some oj->k+j≠i->eY.toArray.getD (k+j) true=false->
  (HO.getD (k+j) 0).testBit i=true\/(oi.apart l0.toArray oj=true/\((H oj=false/\(cj oj.op=false\/gV C M i (k+j) oi.op=true))\/(H oj=true/\cj oj.op=false/\BH C M i (k+j) oi.op=true)))
 | [],k,_,j,oj,hj,_,_=>by simp at hj
 |o::r,k,h,j,oj,hj,h1,h2=>by
  simp only[J7,alB,amo,ame] at h
  cases j with
  |zero=>
   simp only[amp,als] at hj;subst hj;rcases h.1 with h3|h3|h3|h3
   ·exact(h1 (alT h3)).elim
   ·rw[we,show k=k+0 from rfl,h2] at h3;cases h3
   ·exact .inl h3
   ·refine .inr ⟨h3.1,?_⟩;have h4:=h3.2
    cases hH:H o with
    |false=>
     rw[hH] at h4;simp only[amo,ame] at h4;refine .inl ⟨rfl,h4.imp id fun h=>?_⟩;unfold Ab at h;unfold gV;rw[eD,eD] at h;exact h
    |true=>
     rw[hH] at h4;simp only[alB,ame] at h4;exact .inr ⟨rfl,h4⟩
  |succ j=>
   simp only[al5] at hj;have:=Ex h.2 j oj hj (by omega) (by rw[show k+1+j=k+(j+1) from by omega];exact h2);rw[show k+1+j=k+(j+1) from by omega] at this;exact this
def tW (C:cJ) (l:List Nat) (o:Oper) (s:AS Unit) (next:AS Unit->Prop):Prop:=
 match oR s o.op with
 |some (f,args)=>(match Eg C f o with
  | .fK sh=>okB (NF (iE s.hp 100 [] args) l) (vO C (iE s.hp 100 [] args) sh f args o s next)
  |_=>False)
 |none=>False
theorem Ox {js:List Nat} {H h:List af} (hb:oT H.length js=true) (hl:js.length<=h.length):mh js H (iZ (lC js H.length) js.length h H):=by
 refine⟨by rw[iZ,rY];omega,fun q o hq ho=>?_⟩;have Bq:q<H.length:=(alu.1 ho).1;rw[iZ,xj (by omega)];unfold putAt;split
 ·rename_i i hi;obtain⟨h1,h2⟩:=ng hi;unfold lC at h2;split at h2
  ·rename_i ak;have ak:i<js.length:=alZ (show Nat.ble (i+1) js.length=true from ak);exact(hq (by rw[<-h2];exact alF (oU ak))).elim
  ·omega
 ·rw[amB,ho];rfl
theorem tW.sound {Γ:Env Unit} {s:AS Unit} (ax:Γ.Ok) {C:cJ} (hP:C.P=Γ.P) (cW:C.nt=Γ.nt) {ops:Array Oper} {l:List Nat} {o:Oper} {next K:AS Unit->Prop} (hd:cR Γ.nt o.dst) (h:tW C l o s next) (hn:∀s,next s->K s):NL Γ ops o l s K:=by
 unfold tW at h;split at h
 ·rename_i f args aF;rw[jN] at aF;unfold j7 at aF;split at aF
  ·rename_i c hc;split at aF
   ·rename_i x hx;split at aF
    ·rename_i f' caps dx;simp only[als,alx] at aF;obtain⟨rfl,rfl⟩:=aF;split at h
     ·rename_i sh aaI;generalize iE s.hp 100 [] (List.map s.ev c.args.toList++caps)=js at *;obtain⟨NQ,h⟩:=bT h;unfold vO at h;obtain⟨hb,h⟩:=bT h;rw[bt] at h;obtain⟨fO,R,g1,g2⟩:=h;have aF:=cf (g:=AV.HI js s.hp) (fun x=>xn) _ fO;rw[hP] at g1;have qq:=vO.Xk (R:=fun r h'=>R r h'/\uM js r h'=true) hb (g1.mono fun r h' hr=>⟨hr,(bT (gY (g2 r h' hr))).1⟩) (fun r h' hr=>hr.2);refine⟨fun r2 H2=>∃r h,(R r h/\uM js r h=true)/\r2=qR (lC js s.hp.length) r/\H2=iZ (lC js s.hp.length) js.length h s.hp,fun s' ht Br K' hK'=>?_,fun r hp' hN=>?_⟩
      ·have wL:∀y,y∈o.op.operands->s'.ev y=s.ev y:=fun y hy=>by
        cases y with
        |tmp t=>
         refine ht t ?_;unfold Oper.looksAt;exact amD _ (List.mem_filterMap.2 ⟨.tmp t,by simpa using hy,rfl⟩)
        |_=>rfl
       have kD:s'.ev x=.aY f' caps:=by rw[<-dx];exact wL x (by rw[hc];simp[Op.operands,Call.operands,hx])
       have hm:c.args.toList.map s'.ev=c.args.toList.map s.ev:=amM fun y hy=>wL y (by rw[hc];simp only[Op.operands,Call.operands,am3];exact .inr (by simpa using hy));exact bD.NK ax hc hx kD (by rw[Br];exact qq) (fun a w η us hr h=>by
        have:=r7 hr js _ us h;rw[hm,Br,aF] at this
        rw[Br];exact this) hd hK'
      ·obtain⟨r',h',hr,rfl,rfl⟩:=hN;have y6:oT s.hp.length js=true:=by simp only[alB] at hb;exact hb.1
       have hle:js.length<=h'.length:=by have:=hr.2;simp only[uM,alB] at this;exact alZ this.1
       refine⟨(Ox y6 hle).mono fun q hq=>?_,hn _ (bT (gY (g2 r' h' hr.1))).2⟩;have:=alK.1 NQ q hq;simpa using this
     ·exact h.elim
    ·cases aF
   ·cases aF
  ·cases aF
 ·exact h.elim
def qW (C:cJ) (hs:List Nat) (l0:List Oper) (Cl:List (Option (List Nat))) (i:Nat) (o:Oper) (s:AS Unit) (next:AS Unit->Prop):Prop:=
 match vP C.nt o.dst with
 |false=>False
 |true=>(match cj o.op with
  |true=>(match o.guard with
   |none=>okB (Oc (oV Cl i) s.ev o.op) (match Ef C.tab s.hp s.ev o.op (fun r hp'=>next (AS.put { s with hp:=hp' } o.dst r)) with
    |some p=>p
    |none=>False)
   |some _=>False)
  |false=>(match bn hs o with
   |true=>KG l0 o s (fun s=>match oV Cl i with
     |none=>iz C o s next
     |some l=>tW C l o s next) (fun s=>next (s.put o.dst (.ae (.tuple #[]))))
   |false=>KG l0 o s (fun s=>eE C none o s next) (fun s=>next (s.put o.dst (.ae (.tuple #[]))))))
def ib (C:cJ) (hs:List Nat) (l0:List Oper) (HO:List Nat) (Cl M:List (Option (List Nat))) (K:AS Unit->Prop):mq->List Bool->AS Unit->Prop
 | .done,eY,s=>okB (uO l0 eY [] l0 0) (K s)
 | .val i p,eY,s=>(match my l0 i with
  |none=>False
  |some o=>okB (oY l0 eY i&&(J7 (bn hs) l0 HO Cl M eY i o l0 0&&(!cj o.op&&(!bn hs o&&vP C.nt o.dst))))
    (KG l0 o s (fun s=>eE C (oV M i) o s (ib C hs l0 HO Cl M K p (lE eY i))) (fun s=>ib C hs l0 HO Cl M K p (lE eY i) (s.put o.dst (.ae (.tuple #[]))))))
 | .jY i p,eY,s=>(match my l0 i with
  |none=>False
  |some o=>okB (oY l0 eY i&&uO l0 eY [i] l0 0) (qW C hs l0 Cl i o s (ib C hs l0 HO Cl M K p (lE eY i))))
 | .two i p j q,eY,s=>(match my l0 i,my l0 j with
  |some o,some o'=>okB (oY l0 eY i&&uO l0 eY [i,j] l0 0)
    (qW C hs l0 Cl i o s (ib C hs l0 HO Cl M K p (lE eY i))/\qW C hs l0 Cl j o' s (ib C hs l0 HO Cl M K q (lE eY j)))
  |_,_=>False)
 | .three i p j q k r,eY,s=>(match my l0 i,my l0 j,my l0 k with
  |some o,some o',some o2=>okB (oY l0 eY i&&uO l0 eY [i,j,k] l0 0)
    (qW C hs l0 Cl i o s (ib C hs l0 HO Cl M K p (lE eY i))/\(qW C hs l0 Cl j o' s (ib C hs l0 HO Cl M K q (lE eY j))/\qW C hs l0 Cl k o2 s (ib C hs l0 HO Cl M K r (lE eY k))))
  |_,_,_=>False)
variable {Γ:Env Unit} {s:AS Unit}
theorem qW.sound (ax:Γ.Ok) {C:cJ} (hP:C.P=Γ.P) (aj:aZ Γ.P C.tab) (cW:C.nt=Γ.nt) {hs:List Nat} {l0:List Oper} {Cl:List (Option (List Nat))} {i:Nat} {o:Oper} (ho:l0.toArray[i]?=some o) {next K:AS Unit->Prop} (h:qW C hs l0 Cl i o s next) (hn:∀s,next s->K s):
  jr Γ l0.toArray (bn hs) Cl Cl i K s:=by
 unfold qW at h;unfold jr;rw[ho];simp only;split at h
 ·exact h.elim
 rename_i hd;have hd:=gZ hd;rw[cW] at hd;split at h
 ·rename_i he;rw[if_pos he];split at h
  ·rename_i hg;obtain⟨Eo,h⟩:=bT h;split at h
   ·rename_i p hp;obtain⟨c,r,hp',g1,g2,g3⟩:=pN hp h;have hcg:=BC Eo g1;rw[eD] at hcg;refine⟨hd,hg,r,hp',fun rR Bs e1 e2 e3=>iB Bs (tab:=C.tab) (by rw[e1];exact aj) (c:=c) ?_ g2,?_,hn _ g3⟩
    ·rw[<-g1];exact qN fun x hx=>jG hx
    ·unfold kb
     cases hc:Cl.getD i none with
     |none=>exact True.intro
     |some l=>
      have:=mj.fr _ _ _ (hcg l hc);exact⟨this.1,fun q ob hq ho=>this.2 q ob (by simpa using hq) ho⟩
   ·exact h.elim
  ·exact h.elim
 ·rename_i he;rw[if_neg (by rw[he];simp)];split at h
  ·rename_i hh;rw[if_pos hh];have act:∀h:(match oV Cl i with
     |none=>iz C o s next
     |some l=>tW C l o s next),HA Γ l0.toArray Cl i o s K:=by
    intro h;unfold HA;rw[eD] at h;split at h
    ·rename_i hc;rw[hc];exact iz.sound ax hP aj cW h hn
    ·rename_i l hc;rw[hc];exact tW.sound ax hP cW hd h hn
   rcases KG.cases h with⟨hg,h⟩|⟨j,want,b,hg,hb,⟨iN,h⟩|⟨iN,h⟩⟩|⟨j,want,hg,hb,h⟩
   ·exact .inl ⟨by simp[aO,hg],act h⟩
   ·exact .inl ⟨by simp[aO,hg,hb,iN],act h⟩
   ·exact .inr ⟨by simp[aO,hg,hb,iN],hd,hn _ h⟩
   ·exact .inr ⟨by simp[aO,hg,hb],hd,hn _ h⟩
  ·rename_i hh;rw[if_neg (by rw[hh];simp)];have oE:∀{x:AV},jH Γ l0.toArray o s x (pL [] i o.op)->jH Γ l0.toArray o s x (fun hp hp'=>hp'=hp):=fun h=>
    ⟨h.1,h.2.imp (fun g=>⟨g.1,fun s' g1 g2=>g.2 s' g1 (by rw[g2];exact pL.refl)⟩) id⟩
   have step:eE C none o s next->(o.guard=none\/∃j want b,o.guard=some (j,want)/\iV l0.toArray s j=some b)->∃x,(∀s':AS Unit,(∀t,t∈o.looksAt l0.toArray->s'.tmps t=s.tmps t)->pL [] i o.op s.hp s'.hp->lA Γ o (s'.only (o.looksAt l0.toArray)) x)/\K (s.put o.dst x):=
    fun h hg=>gW.sound (ops:=l0.toArray) (M:=[]) (k:=i) aj (eE.sound (N:=K) (R:=K) hP h hn hn) (fun _ h=>h) (fun _ h=>h) hg
   rcases KG.cases h with⟨hg,h⟩|⟨j,want,b,hg,hb,⟨iN,h⟩|⟨iN,h⟩⟩|⟨j,want,hg,hb,h⟩
   ·obtain⟨x,h3,h4⟩:=step h (.inl hg);exact⟨x,oE ⟨hd,.inl ⟨by simp[aO,hg],h3⟩⟩,h4⟩
   ·obtain⟨x,h3,h4⟩:=step h (.inr ⟨j,want,_,hg,hb⟩);exact⟨x,oE ⟨hd,.inl ⟨by simp[aO,hg,hb,iN],h3⟩⟩,h4⟩
   ·exact⟨_,⟨hd,.inr ⟨by simp[aO,hg,hb,iN],rfl⟩⟩,hn _ h⟩
   ·exact⟨_,⟨hd,.inr ⟨by simp[aO,hg,hb],rfl⟩⟩,hn _ h⟩
theorem ib.sound (ax:Γ.Ok) {C:cJ} (hP:C.P=Γ.P) (aj:aZ Γ.P C.tab) (cW:C.nt=Γ.nt) {hs:List Nat} {l0:List Oper} {Cl M:List (Option (List Nat))} {K:AS Unit->Prop}:∀(p:mq) (fuel:Nat) (eY:List Bool) (s:AS Unit),p.depth<=fuel->oF l0.toArray eY.toArray->
  ib C hs l0 (l9 l0 []) Cl M K p eY s->fE Γ l0.toArray (bn hs) Cl Cl K fuel eY.toArray s:=by
 have mZ:∀(i j:Nat),(List.getD (l9 l0 []) j 0).testBit i=true->Reach l0.toArray i j:=by
  intro i j hj
  cases hm:(l9 l0 [])[j]? with
  |none=>simp[List.getD,hm] at hj
  |some m=>
   simp only[List.getD,hm,amt] at hj;exact ma (ops:=l0.toArray) l0 [] (fun j=>by simp) (fun j m i hj=>by simp at hj) j m i hm hj
 intro p
 induction p with
 |done=>
  intro fuel eY s hf J8 h;simp only[ib] at h;obtain⟨hb,h⟩:=bT h;have Tx:Region.ready .any l0.toArray eY.toArray=[]:=by
   apply amV.2;intro q hq;have:=nj hb hq;simp at this
  cases fuel with
  |zero=>exact⟨Tx,h⟩
  |succ fuel=>exact⟨fun _=>h,fun q hq=>by rw[Tx] at hq;cases hq⟩
 |val i p ih=>
  intro fuel eY s hf J8 h;simp only[mq.depth] at hf;obtain⟨f,rfl⟩:∃f,fuel=f+1:=⟨fuel-1,by omega⟩;simp only[ib] at h;split at h
  ·exact h.elim
  rename_i o ho;rw[mz] at ho;obtain⟨hb,h⟩:=bT h;simp only[alB,ame] at hb;obtain⟨zO,qq,he,hhe,hd⟩:=hb;have sk:=kj.1 zO;have hd:=gZ hd;have bS:∀s,ib C hs l0 (l9 l0 []) Cl M K p (lE eY i) s->fE Γ l0.toArray (bn hs) Cl Cl K f (eY.toArray.setIfInBounds i true) s:=by
   intro s h;have:=ih f (lE eY i) s (by omega) (by rw[eX];exact cu J8 sk) h
   rwa [eX] at this
  have cG:∀(j:Nat) oj,l0.toArray[j]?=some oj->j≠i->eY.toArray.getD j true=false->Reach l0.toArray i j\/(o.apart l0.toArray oj=true/\((bn hs oj=false/\(cj oj.op=false\/∀hp hp',kb Cl j hp hp'->pL M i o.op hp hp'))\/(bn hs oj=true/\cj oj.op=false/\∃l,Cl.getD j none=some l/\∀hp hp',mh l hp hp'->pL M i o.op hp hp'))):=by
   intro j oj hj gJ jF;have:=Ex qq j oj (by simpa using hj) (by rw[al2];exact gJ) (by rw[al2];exact jF);rw[al2] at this;exact this.imp (mZ i j) fun h=>⟨h.1,h.2.imp (fun h=>⟨h.1,h.2.imp id fun hm hp hp' hc=>iO hm hc⟩) fun h=>⟨h.1,h.2.1,Ew h.2.2⟩⟩
  have Lz:∃x,jH Γ l0.toArray o s x (pL M i o.op)/\fE Γ l0.toArray (bn hs) Cl Cl K f (eY.toArray.setIfInBounds i true) (s.put o.dst x):=by
   rw[cW] at hd;rcases KG.cases h with⟨hg,h⟩|⟨j,want,b,hg,hb,⟨iN,h⟩|⟨iN,h⟩⟩|⟨j,want,hg,hb,h⟩
   ·rw[eD] at h;obtain⟨x,h3,h4⟩:=gW.sound (ops:=l0.toArray) aj (eE.sound (N:=fE Γ l0.toArray (bn hs) Cl Cl K f (eY.toArray.setIfInBounds i true)) (R:=fE Γ l0.toArray (bn hs) Cl Cl K f (eY.toArray.setIfInBounds i true)) hP h bS bS) (fun _ h=>h) (fun _ h=>h) (.inl hg);exact⟨x,⟨hd,.inl ⟨by simp[aO,hg],h3⟩⟩,h4⟩
   ·rw[eD] at h;obtain⟨x,h3,h4⟩:=gW.sound (ops:=l0.toArray) aj (eE.sound (N:=fE Γ l0.toArray (bn hs) Cl Cl K f (eY.toArray.setIfInBounds i true)) (R:=fE Γ l0.toArray (bn hs) Cl Cl K f (eY.toArray.setIfInBounds i true)) hP h bS bS) (fun _ h=>h) (fun _ h=>h) (.inr ⟨j,want,_,hg,hb⟩);exact⟨x,⟨hd,.inl ⟨by simp[aO,hg,hb,iN],h3⟩⟩,h4⟩
   ·exact⟨_,⟨hd,.inr ⟨by simp[aO,hg,hb,iN],rfl⟩⟩,bS _ h⟩
   ·exact⟨_,⟨hd,.inr ⟨by simp[aO,hg,hb],rfl⟩⟩,bS _ h⟩
  obtain⟨x,h3,h4⟩:=Lz
  cases f with
  |zero=>
   refine⟨fun hn=>(by rw[hn] at sk;cases sk),fun j hj=>?_⟩
   by_cases gJ:j=i
   ·subst gJ;unfold jr;rw[ho];simp only[he,hhe,alQ,if_false];exact⟨x,⟨h3.1,h3.2.imp (fun g=>⟨g.1,fun s' g1 g2=>g.2 s' g1 (by rw[g2];exact pL.refl)⟩) id⟩,h4⟩
   ·have h5:=ready_mono hj gJ;rw[h4.1] at h5;cases h5
  |succ f=>
   exact fE.first (R:=pL M i o.op) (fun _ _ _=>pL.trans) (fun _=>pL.refl) ho (by simp[kF,he,hhe]) (f+1) eY.toArray s J8 cG sk h3 h4
 |jY i p ih=>
  intro fuel eY s hf J8 h;simp only[mq.depth] at hf;obtain⟨f,rfl⟩:∃f,fuel=f+1:=⟨fuel-1,by omega⟩;simp only[ib] at h;split at h
  ·exact h.elim
  rename_i o ho;rw[mz] at ho;obtain⟨hb,h⟩:=bT h;rw[alB] at hb;have sk:=kj.1 hb.1;refine⟨fun hn=>(by rw[hn] at sk;cases sk),fun k hk=>?_⟩;have:=nj hb.2 hk;simp only[amc] at this;subst this;exact qW.sound ax hP aj cW ho h fun s h=>by
   have:=ih f (lE eY k) s (by omega) (by rw[eX];exact cu J8 sk) h
   rwa [eX] at this
 |two i p j q ihp ihq=>
  intro fuel eY s hf J8 h;simp only[mq.depth] at hf;obtain⟨f,rfl⟩:∃f,fuel=f+1:=⟨fuel-1,by omega⟩;simp only[ib] at h;split at h
  ·rename_i o o' ho wF;rw[mz] at ho wF;obtain⟨hb,h⟩:=bT h;rw[alB] at hb;have sk:=kj.1 hb.1;have fG:p.depth<=Nat.max p.depth q.depth:=Nat.le_max_left _ _;have hq1:q.depth<=Nat.max p.depth q.depth:=Nat.le_max_right _ _;refine⟨fun hn=>(by rw[hn] at sk;cases sk),fun k hk=>?_⟩;have:=nj hb.2 hk;simp only[al6,List.not_mem_nil,or_false] at this;rcases this with rfl|rfl
   ·exact qW.sound ax hP aj cW ho h.1 fun s h=>by
     have:=ihp f (lE eY k) s (by omega) (by rw[eX];exact cu J8 hk) h
     rwa [eX] at this
   ·exact qW.sound ax hP aj cW wF h.2 fun s h=>by
     have:=ihq f (lE eY k) s (by omega) (by rw[eX];exact cu J8 hk) h
     rwa [eX] at this
  ·exact h.elim
 |three i p j q k2 r ihp ihq ihr=>
  intro fuel eY s hf J8 h;simp only[mq.depth] at hf;obtain⟨f,rfl⟩:∃f,fuel=f+1:=⟨fuel-1,by omega⟩;simp only[ib] at h;split at h
  ·rename_i o o' o2 ho wF ho2;rw[mz] at ho wF ho2;obtain⟨hb,h⟩:=bT h;rw[alB] at hb;have sk:=kj.1 hb.1;have fG:p.depth<=Nat.max p.depth (Nat.max q.depth r.depth):=Nat.le_max_left _ _;have hq1:q.depth<=Nat.max p.depth (Nat.max q.depth r.depth):=amf (Nat.le_max_left _ _) (Nat.le_max_right _ _);have DR:r.depth<=Nat.max p.depth (Nat.max q.depth r.depth):=amf (Nat.le_max_right _ _) (Nat.le_max_right _ _);refine⟨fun hn=>(by rw[hn] at sk;cases sk),fun k hk=>?_⟩;have:=nj hb.2 hk;simp only[al6,List.not_mem_nil,or_false] at this;rcases this with rfl|rfl|rfl
   ·exact qW.sound ax hP aj cW ho h.1 fun s h=>by
     have:=ihp f (lE eY k) s (by omega) (by rw[eX];exact cu J8 hk) h
     rwa [eX] at this
   ·exact qW.sound ax hP aj cW wF h.2.1 fun s h=>by
     have:=ihq f (lE eY k) s (by omega) (by rw[eX];exact cu J8 hk) h
     rwa [eX] at this
   ·exact qW.sound ax hP aj cW ho2 h.2.2 fun s h=>by
     have:=ihr f (lE eY k) s (by omega) (by rw[eX];exact cu J8 hk) h
     rwa [eX] at this
  ·exact h.elim
def qX:List Oper->List Bool
 | []=>[]
 |_::l=>false::qX l
theorem Ac:∀(l:List Oper),(qX l).toArray=Array.replicate l.length false:=by
 have:∀(l:List Oper),qX l=List.replicate l.length false:=by
  intro l
  induction l with
  |nil=>rfl
  |cons o l ih=>simp only[qX,ih,alJ,List.replicate_succ]
 intro l;rw[this];simp
theorem dT.aaV (ax:Γ.Ok) {C:cJ} (hP:C.P=Γ.P) (aj:aZ Γ.P C.tab) (cW:C.nt=Γ.nt) (hm:Γ.P.follows .mixedOrders=true) {hs:List Nat} {id:Nat} {l:List Oper} {Q:Exit->AS Unit->Prop} {Cl M:List (Option (List Nat))} {p:mq}
  (hd:Nat.ble p.depth l.length=true) (h:ib C hs l (l9 l []) Cl M (Q .normal) p (qX l) s):dT Γ (.region id l.toArray true) Q s:=by
 intro a w η hr;refine wpIn_region_any hm ?_;have h1:=ib.sound ax hP aj cW p l.length (qX l) s (alZ hd) (fun k o hk=>by
  rw[Ac] at hk;simp only[al9,anm] at hk
  split at hk<;>simp at hk) h
 rw[Ac] at h1;have h2:=iy.sound (Qc:=fun e a' w'=>∃s' aN,Q e s'/\Rel Γ s' a' w' aN) ax (fun s' a' w' aN h1 h2=>⟨s',aN,h1,h2⟩) _ _ _ a w.drew η (h1.any ax) (hr.same ax (bI.drew w));simpa using h2
end Go.Proofs.YtdcikhleahfknaaGreatDoor
