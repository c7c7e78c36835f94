/- Texts of ours laid together for a claim: VcK. -/
import Derived.Test.YtnkjkpmbgoehkaaGreatQ26
namespace Go.Proofs.YtnkjkpmbgoehkaaGreat
open Go
set_option linter.unusedSimpArgs false
set_option linter.unusedVariables false
def mJ.depth:mJ->Nat
 | .done=>0
 | .val _ p=>p.depth+1
 | .di _ p=>p.depth+1
 | .two _ p _ q=>Nat.max p.depth q.depth+1
 | .three _ p _ q _ r=>Nat.max p.depth (Nat.max q.depth r.depth)+1
def D3 (d:Bool):List Bool->Nat->Bool
 | [],_=>d
 |b::_,0=>b
 |_::l,n+1=>D3 d l n
theorem wg (d:Bool):∀(l:List Bool) (n:Nat),D3 d l n=l.toArray.getD n d
 | [],n=>by simp[D3]
 |b::l,0=>by simp[D3]
 |b::l,n+1=>by
  have:=wg d l n;simp only[D3,this];simp[alR]
def mM:List Oper->Nat->Option Oper
 | [],_=>none
 |o::_,0=>some o
 |_::l,n+1=>mM l n
theorem mN:∀(l:List Oper) (n:Nat),mM l n=l.toArray[n]?
 | [],n=>by simp[mM]
 |b::l,0=>by simp[mM]
 |b::l,n+1=>by
  have:=mN l n;simp only[mM,this];simp
def lR:List Bool->Nat->List Bool
 | [],_=>[]
 |_::l,0=>true::l
 |b::l,n+1=>b::lR l n
theorem fB:∀(l:List Bool) (n:Nat),(lR l n).toArray=l.toArray.setIfInBounds n true:=by
 intro l n;have:∀(l:List Bool) (n:Nat),lR l n=l.set n true:=by
  intro l
  induction l with
  |nil=>intro n;simp[lR]
  |cons b l ih=>intro n;cases n<;>simp[lR,ih]
 rw[this];simp
def xA (fC:List Bool):List Edge->Bool
 | []=>true
 |e::l=>(!Region.binds .any e||D3 false fC e.on)&&xA fC l
theorem Ao {fC:List Bool}:∀{l:List Edge},xA fC l=true↔∀e∈l,Region.binds .any e=true->fC.toArray.getD e.on false=true
 | []=>by simp[xA]
 |e::l=>by
  simp only[xA,aln,al7,al0,Ao (l:=l),alW,forall_eq_or_imp,wg];constructor
  ·rintro⟨h1,h2⟩;exact⟨fun hb=>h1.resolve_left (by rw[hb];simp),h2⟩
  ·rintro⟨h1,h2⟩
   refine⟨?_,h2⟩
   cases hb:Region.binds .any e with
   |false=>exact .inl rfl
   |true=>exact .inr (h1 hb)
def ph (l0:List Oper) (fC:List Bool) (k:Nat):Bool:=
 match mM l0 k with
 |none=>false
 |some o=>!(D3 true fC k)&&xA fC o.after.toList
theorem kP {l0:List Oper} {fC:List Bool} {k:Nat}:ph l0 fC k=true↔k∈Region.ready .any l0.toArray fC.toArray:=by
 rw[mem_ready];unfold ph;rw[mN]
 cases hk:l0.toArray[k]? with
 |none=>simp
 |some o=>
  simp only[aln,al0,wg,Ao,alh,exists_eq_left'];constructor
  ·rintro⟨h1,h2⟩;exact⟨h1,fun e he hb=>h2 e (by simpa using he) hb⟩
  ·rintro⟨h1,h2⟩;exact⟨h1,fun e he hb=>h2 e (by simpa using he) hb⟩
def uR (l0:List Oper) (fC:List Bool) (l:List Nat):List Oper->Nat->Bool
 | [],_=>true
 |_::r,k=>(!ph l0 fC k||Hu l k)&&uR l0 fC l r (k+1)
theorem D4 {l0:List Oper} {fC:List Bool} {l:List Nat}:∀{r:List Oper} {k:Nat},uR l0 fC l r k=true->∀q,k<=q->q<k+r.length->ph l0 fC q=true->q∈l
 | [],k,_,q,h1,h2,_=>by simp at h2;omega
 |o::r,k,h,q,h1,h2,h3=>by
  simp only[uR,aln,al7,al0] at h
  by_cases hq:q=k
  ·subst hq;exact Bv (h.1.resolve_left (by rw[h3];simp))
  ·exact D4 h.2 q (by omega) (by simp only[als] at h2;omega) h3
theorem nA {l0:List Oper} {fC:List Bool} {l:List Nat} (h:uR l0 fC l l0 0=true) {q:Nat} (hq:q∈Region.ready .any l0.toArray fC.toArray):q∈l:=by
 obtain⟨_,o,ho,_⟩:=mem_ready.1 hq;have:=(alE.1 ho).1;exact D4 h q (aly _) (by simpa using this) (kP.2 hq)
def Ap (C M:List (Option (List Nat))) (k j:Nat) (op:Op):Bool:=
 gb op||(match pf C j,pf M k with
  |some l,some K=>ND l K
  |_,_=>false)
def BB (C M:List (Option (List Nat))) (k j:Nat) (op:Op):Bool:=
 match pf C j with
 |none=>false
 |some l=>gb op||(match pf M k with
  |some K=>ND l K
  |none=>false)
theorem D5 {C M:List (Option (List Nat))} {k j:Nat} {op:Op} (h:BB C M k j op=true):∃l,C.getD j none=some l/\∀hp hp',mD l hp hp'->pY M k op hp hp':=by
 unfold BB at h;rw[eR] at h;split at h
 ·cases h
 ·rename_i l hl;refine⟨l,hl,fun hp hp' hf=>iX (C:=C) (j:=j) ?_ (by unfold kJ;rw[hl];exact hf)⟩;unfold gW;rw[eR] at h;rw[hl];rw[al7] at h ⊢;refine h.imp id fun h=>?_;split at h
  ·rename_i K hK;rw[hK];exact h
  ·cases h
def JB (H:Oper->Bool) (l0:List Oper) (Hy:List Nat) (C M:List (Option (List Nat))) (fC:List Bool) (i:Nat) (oi:Oper):List Oper->Nat->Bool
 | [],_=>true
 |oj::r,j=>(Nat.beq j i||(D3 true fC j||(((Hy.getD j 0).testBit i)||(oi.apart l0.toArray oj&&(match H oj with|false=>!cf oj.op||Ap C M i j oi.op|true=>!cf oj.op&&BB C M i j oi.op)))))&&JB H l0 Hy C M fC i oi r (j+1)
theorem D6 {H:Oper->Bool} {l0:List Oper} {Hy:List Nat} {C M:List (Option (List Nat))} {fC:List Bool} {i:Nat} {oi:Oper}:∀{r:List Oper} {k:Nat},JB H l0 Hy C M fC i oi r k=true->∀(j:Nat) oj,r[j]?=some oj->k+j≠i->fC.toArray.getD (k+j) true=false->
  (Hy.getD (k+j) 0).testBit i=true\/(oi.apart l0.toArray oj=true/\((H oj=false/\(cf oj.op=false\/gW C M i (k+j) oi.op=true))\/(H oj=true/\cf oj.op=false/\BB C M i (k+j) oi.op=true)))
 | [],k,_,j,oj,hj,_,_=>by simp at hj
 |o::r,k,h,j,oj,hj,h1,h2=>by
  simp only[JB,aln,al7,al0] at h
  cases j with
  |zero=>
   simp only[al8,alh] at hj;subst hj;rcases h.1 with h3|h3|h3|h3
   ·exact(h1 (alB h3)).elim
   ·rw[wg,show k=k+0 from rfl,h2] at h3;cases h3
   ·exact .inl h3
   ·refine .inr ⟨h3.1,?_⟩;have h4:=h3.2
    cases hH:H o with
    |false=>
     rw[hH] at h4;simp only[al7,al0] at h4;refine .inl ⟨rfl,h4.imp id fun h=>?_⟩;unfold Ap at h;unfold gW;rw[eR,eR] at h;exact h
    |true=>
     rw[hH] at h4;simp only[aln,al0] at h4;exact .inr ⟨rfl,h4⟩
  |succ j=>
   simp only[alP] at hj;have:=D6 h.2 j oj hj (by omega) (by rw[show k+1+j=k+(j+1) from by omega];exact h2);rw[show k+1+j=k+(j+1) from by omega] at this;exact this
def tX (C:cD) (l:List Nat) (o:Oper) (s:AS Unit) (next:AS Unit->Prop):Prop:=
 match pa s o.op with
 |some (f,args)=>(match DO C f o with
  | .fu sh=>okB (ND (iP s.hp 100 [] args) l) (zv C (iP s.hp 100 [] args) sh f args o s next)
  |_=>False)
 |none=>False
theorem Oz {js:List Nat} {H h:List ab} (hb:pc H.length js=true) (hl:js.length<=h.length):mD js H (jj (lP js H.length) js.length h H):=by
 refine⟨by rw[jj,sf];omega,fun q o hq ho=>?_⟩;have I8:q<H.length:=(ali.1 ho).1;rw[jj,xh (by omega)];unfold putAt;split
 ·rename_i i hi;obtain⟨h1,h2⟩:=nx hi;unfold lP at h2;split at h2
  ·rename_i aq;have aq:i<js.length:=alF (show Nat.ble (i+1) js.length=true from aq);exact(hq (by rw[<-h2];exact alq (pd aq))).elim
  ·omega
 ·rw[amG,ho];rfl
theorem tX.sound {Γ:Env Unit} {s:AS Unit} (al:Γ.Ok) {C:cD} (hP:C.P=Γ.P) (dj:C.nt=Γ.nt) {ops:Array Oper} {l:List Nat} {o:Oper} {next K:AS Unit->Prop} (hd:cP Γ.nt o.dst) (h:tX C l o s next) (hn:∀s,next s->K s):NN Γ ops o l s K:=by
 unfold tX at h;split at h
 ·rename_i f args aw;rw[kp] at aw;unfold kI at aw;split at aw
  ·rename_i c hc;split at aw
   ·rename_i x hx;split at aw
    ·rename_i f' caps cY;simp only[alh,alk] at aw;obtain⟨rfl,rfl⟩:=aw;split at h
     ·rename_i sh ZF;generalize iP s.hp 100 [] (List.map s.ev c.args.toList++caps)=js at *;obtain⟨NS,h⟩:=bM h;unfold zv at h;obtain⟨hb,h⟩:=bM h;rw[bh] at h;obtain⟨gO,R,g1,g2⟩:=h;have aw:=bP (g:=AV.Hr js s.hp) (fun x=>xo) _ gO;rw[hP] at g1;have qx:=zv.hfn (R:=fun r h'=>R r h'/\uO js r h'=true) hb (g1.mono fun r h' hr=>⟨hr,(bM (gZ (g2 r h' hr))).1⟩) (fun r h' hr=>hr.2);refine⟨fun r2 H2=>∃r h,(R r h/\uO js r h=true)/\r2=rb (lP js s.hp.length) r/\H2=jj (lP js s.hp.length) js.length h s.hp,fun s' ht Bj K' hK'=>?_,fun r hp' hN=>?_⟩
      ·have wJ:∀y,y∈o.op.operands->s'.ev y=s.ev y:=fun y hy=>by
        cases y with
        |tmp t=>
         refine ht t ?_;unfold Oper.looksAt;exact am1 _ (List.mem_filterMap.2 ⟨.tmp t,by simpa using hy,rfl⟩)
        |_=>rfl
       have mg:s'.ev x=.bf f' caps:=by rw[<-cY];exact wJ x (by rw[hc];simp[Op.operands,Call.operands,hx])
       have hm:c.args.toList.map s'.ev=c.args.toList.map s.ev:=amx fun y hy=>wJ y (by rw[hc];simp only[Op.operands,Call.operands,amJ];exact .inr (by simpa using hy));exact bq.NM al hc hx mg (by rw[Bj];exact qx) (fun a w η us hr h=>by
        have:=sq hr js _ us h;rw[hm,Bj,aw] at this
        rw[Bj];exact this) hd hK'
      ·obtain⟨r',h',hr,rfl,rfl⟩:=hN;have vG:pc s.hp.length js=true:=by simp only[aln] at hb;exact hb.1
       have hle:js.length<=h'.length:=by have:=hr.2;simp only[uO,aln] at this;exact alF this.1
       refine⟨(Oz vG hle).mono fun q hq=>?_,hn _ (bM (gZ (g2 r' h' hr.1))).2⟩;have:=alv.1 NS q hq;simpa using this
     ·exact h.elim
    ·cases aw
   ·cases aw
  ·cases aw
 ·exact h.elim
def rk (C:cD) (hs:List Nat) (l0:List Oper) (Cl:List (Option (List Nat))) (i:Nat) (o:Oper) (s:AS Unit) (next:AS Unit->Prop):Prop:=
 match vK C.nt o.dst with
 |false=>False
 |true=>(match cf o.op with
  |true=>(match o.guard with
   |none=>okB (Oe (pf Cl i) s.ev o.op) (match DN C.tab s.hp s.ev o.op (fun r hp'=>next (AS.put { s with hp:=hp' } o.dst r)) with
    |some p=>p
    |none=>False)
   |some _=>False)
  |false=>(match aX hs o with
   |true=>KG l0 o s (fun s=>match pf Cl i with
     |none=>iG C o s next
     |some l=>tX C l o s next) (fun s=>next (s.put o.dst (.ae (.tuple #[]))))
   |false=>KG l0 o s (fun s=>eS C none o s next) (fun s=>next (s.put o.dst (.ae (.tuple #[]))))))
def ic (C:cD) (hs:List Nat) (l0:List Oper) (Hy:List Nat) (Cl M:List (Option (List Nat))) (K:AS Unit->Prop):mJ->List Bool->AS Unit->Prop
 | .done,fC,s=>okB (uR l0 fC [] l0 0) (K s)
 | .val i p,fC,s=>(match mM l0 i with
  |none=>False
  |some o=>okB (ph l0 fC i&&(JB (aX hs) l0 Hy Cl M fC i o l0 0&&(!cf o.op&&(!aX hs o&&vK C.nt o.dst))))
    (KG l0 o s (fun s=>eS C (pf M i) o s (ic C hs l0 Hy Cl M K p (lR fC i))) (fun s=>ic C hs l0 Hy Cl M K p (lR fC i) (s.put o.dst (.ae (.tuple #[]))))))
 | .di i p,fC,s=>(match mM l0 i with
  |none=>False
  |some o=>okB (ph l0 fC i&&uR l0 fC [i] l0 0) (rk C hs l0 Cl i o s (ic C hs l0 Hy Cl M K p (lR fC i))))
 | .two i p j q,fC,s=>(match mM l0 i,mM l0 j with
  |some o,some o'=>okB (ph l0 fC i&&uR l0 fC [i,j] l0 0)
    (rk C hs l0 Cl i o s (ic C hs l0 Hy Cl M K p (lR fC i))/\rk C hs l0 Cl j o' s (ic C hs l0 Hy Cl M K q (lR fC j)))
  |_,_=>False)
 | .three i p j q k r,fC,s=>(match mM l0 i,mM l0 j,mM l0 k with
  |some o,some o',some o2=>okB (ph l0 fC i&&uR l0 fC [i,j,k] l0 0)
    (rk C hs l0 Cl i o s (ic C hs l0 Hy Cl M K p (lR fC i))/\(rk C hs l0 Cl j o' s (ic C hs l0 Hy Cl M K q (lR fC j))/\rk C hs l0 Cl k o2 s (ic C hs l0 Hy Cl M K r (lR fC k))))
  |_,_,_=>False)
variable {Γ:Env Unit} {s:AS Unit}
theorem rk.sound (al:Γ.Ok) {C:cD} (hP:C.P=Γ.P) (ah:aL Γ.P C.tab) (dj:C.nt=Γ.nt) {hs:List Nat} {l0:List Oper} {Cl:List (Option (List Nat))} {i:Nat} {o:Oper} (ho:l0.toArray[i]?=some o) {next K:AS Unit->Prop} (h:rk C hs l0 Cl i o s next) (hn:∀s,next s->K s):
  jx Γ l0.toArray (aX hs) Cl Cl i K s:=by
 unfold rk at h;unfold jx;rw[ho];simp only;split at h
 ·exact h.elim
 rename_i hd;have hd:=hO hd;rw[dj] at hd;split at h
 ·rename_i he;rw[if_pos he];split at h
  ·rename_i hg;obtain⟨DW,h⟩:=bM h;split at h
   ·rename_i p hp;obtain⟨c,r,hp',g1,g2,g3⟩:=p7 hp h;have hcg:=Bw DW g1;rw[eR] at hcg;refine⟨hd,hg,r,hp',fun r6 Bk e1 e2 e3=>iL Bk (tab:=C.tab) (by rw[e1];exact ah) (c:=c) ?_ g2,?_,hn _ g3⟩
    ·rw[<-g1];exact q6 fun x hx=>jP hx
    ·unfold kJ
     cases hc:Cl.getD i none with
     |none=>exact True.intro
     |some l=>
      have:=mF.fr _ _ _ (hcg l hc);exact⟨this.1,fun q ob hq ho=>this.2 q ob (by simpa using hq) ho⟩
   ·exact h.elim
  ·exact h.elim
 ·rename_i he;rw[if_neg (by rw[he];simp)];split at h
  ·rename_i hh;rw[if_pos hh];have act:∀h:(match pf Cl i with
     |none=>iG C o s next
     |some l=>tX C l o s next),Hj Γ l0.toArray Cl i o s K:=by
    intro h;unfold Hj;rw[eR] at h;split at h
    ·rename_i hc;rw[hc];exact iG.sound al hP ah dj h hn
    ·rename_i l hc;rw[hc];exact tX.sound al hP dj hd h hn
   rcases KG.cases h with⟨hg,h⟩|⟨j,want,b,hg,hb,⟨iW,h⟩|⟨iW,h⟩⟩|⟨j,want,hg,hb,h⟩
   ·exact .inl ⟨by simp[aC,hg],act h⟩
   ·exact .inl ⟨by simp[aC,hg,hb,iW],act h⟩
   ·exact .inr ⟨by simp[aC,hg,hb,iW],hd,hn _ h⟩
   ·exact .inr ⟨by simp[aC,hg,hb],hd,hn _ h⟩
  ·rename_i hh;rw[if_neg (by rw[hh];simp)];have rZ:∀{x:AV},jQ Γ l0.toArray o s x (pY [] i o.op)->jQ Γ l0.toArray o s x (fun hp hp'=>hp'=hp):=fun h=>
    ⟨h.1,h.2.imp (fun g=>⟨g.1,fun s' g1 g2=>g.2 s' g1 (by rw[g2];exact pY.refl)⟩) id⟩
   have step:eS C none o s next->(o.guard=none\/∃j want b,o.guard=some (j,want)/\jh l0.toArray s j=some b)->∃x,(∀s':AS Unit,(∀t,t∈o.looksAt l0.toArray->s'.tmps t=s.tmps t)->pY [] i o.op s.hp s'.hp->lN Γ o (s'.only (o.looksAt l0.toArray)) x)/\K (s.put o.dst x):=
    fun h hg=>gX.sound (ops:=l0.toArray) (M:=[]) (k:=i) ah (eS.sound (N:=K) (R:=K) hP h hn hn) (fun _ h=>h) (fun _ h=>h) hg
   rcases KG.cases h with⟨hg,h⟩|⟨j,want,b,hg,hb,⟨iW,h⟩|⟨iW,h⟩⟩|⟨j,want,hg,hb,h⟩
   ·obtain⟨x,h3,h4⟩:=step h (.inl hg);exact⟨x,rZ ⟨hd,.inl ⟨by simp[aC,hg],h3⟩⟩,h4⟩
   ·obtain⟨x,h3,h4⟩:=step h (.inr ⟨j,want,_,hg,hb⟩);exact⟨x,rZ ⟨hd,.inl ⟨by simp[aC,hg,hb,iW],h3⟩⟩,h4⟩
   ·exact⟨_,⟨hd,.inr ⟨by simp[aC,hg,hb,iW],rfl⟩⟩,hn _ h⟩
   ·exact⟨_,⟨hd,.inr ⟨by simp[aC,hg,hb],rfl⟩⟩,hn _ h⟩
theorem ic.sound (al:Γ.Ok) {C:cD} (hP:C.P=Γ.P) (ah:aL Γ.P C.tab) (dj:C.nt=Γ.nt) {hs:List Nat} {l0:List Oper} {Cl M:List (Option (List Nat))} {K:AS Unit->Prop}:∀(p:mJ) (fuel:Nat) (fC:List Bool) (s:AS Unit),p.depth<=fuel->oP l0.toArray fC.toArray->
  ic C hs l0 (mz l0 []) Cl M K p fC s->fW Γ l0.toArray (aX hs) Cl Cl K fuel fC.toArray s:=by
 have nq:∀(i j:Nat),(List.getD (mz l0 []) j 0).testBit i=true->Reach l0.toArray i j:=by
  intro i j hj
  cases hm:(mz l0 [])[j]? with
  |none=>simp[List.getD,hm] at hj
  |some m=>
   simp only[List.getD,hm,al1] at hj;exact mA (ops:=l0.toArray) l0 [] (fun j=>by simp) (fun j m i hj=>by simp at hj) j m i hm hj
 intro p
 induction p with
 |done=>
  intro fuel fC s hf tC h;simp only[ic] at h;obtain⟨hb,h⟩:=bM h;have TZ:Region.ready .any l0.toArray fC.toArray=[]:=by
   apply amB.2;intro q hq;have:=nA hb hq;simp at this
  cases fuel with
  |zero=>exact⟨TZ,h⟩
  |succ fuel=>exact⟨fun _=>h,fun q hq=>by rw[TZ] at hq;cases hq⟩
 |val i p ih=>
  intro fuel fC s hf tC h;simp only[mJ.depth] at hf;obtain⟨f,rfl⟩:∃f,fuel=f+1:=⟨fuel-1,by omega⟩;simp only[ic] at h;split at h
  ·exact h.elim
  rename_i o ho;rw[mN] at ho;obtain⟨hb,h⟩:=bM h;simp only[aln,al0] at hb;obtain⟨z7,qx,he,hhe,hd⟩:=hb;have sB:=kP.1 z7;have hd:=hO hd;have bV:∀s,ic C hs l0 (mz l0 []) Cl M K p (lR fC i) s->fW Γ l0.toArray (aX hs) Cl Cl K f (fC.toArray.setIfInBounds i true) s:=by
   intro s h;have:=ih f (lR fC i) s (by omega) (by rw[fB];exact cg tC sB) h
   rwa [fB] at this
  have cQ:∀(j:Nat) oj,l0.toArray[j]?=some oj->j≠i->fC.toArray.getD j true=false->Reach l0.toArray i j\/(o.apart l0.toArray oj=true/\((aX hs oj=false/\(cf oj.op=false\/∀hp hp',kJ Cl j hp hp'->pY M i o.op hp hp'))\/(aX hs oj=true/\cf oj.op=false/\∃l,Cl.getD j none=some l/\∀hp hp',mD l hp hp'->pY M i o.op hp hp'))):=by
   intro j oj hj gM jE;have:=D6 qx j oj (by simpa using hj) (by rw[alM];exact gM) (by rw[alM];exact jE);rw[alM] at this;exact this.imp (nq i j) fun h=>⟨h.1,h.2.imp (fun h=>⟨h.1,h.2.imp id fun hm hp hp' hc=>iX hm hc⟩) fun h=>⟨h.1,h.2.1,D5 h.2.2⟩⟩
  have Lh:∃x,jQ Γ l0.toArray o s x (pY M i o.op)/\fW Γ l0.toArray (aX hs) Cl Cl K f (fC.toArray.setIfInBounds i true) (s.put o.dst x):=by
   rw[dj] at hd;rcases KG.cases h with⟨hg,h⟩|⟨j,want,b,hg,hb,⟨iW,h⟩|⟨iW,h⟩⟩|⟨j,want,hg,hb,h⟩
   ·rw[eR] at h;obtain⟨x,h3,h4⟩:=gX.sound (ops:=l0.toArray) ah (eS.sound (N:=fW Γ l0.toArray (aX hs) Cl Cl K f (fC.toArray.setIfInBounds i true)) (R:=fW Γ l0.toArray (aX hs) Cl Cl K f (fC.toArray.setIfInBounds i true)) hP h bV bV) (fun _ h=>h) (fun _ h=>h) (.inl hg);exact⟨x,⟨hd,.inl ⟨by simp[aC,hg],h3⟩⟩,h4⟩
   ·rw[eR] at h;obtain⟨x,h3,h4⟩:=gX.sound (ops:=l0.toArray) ah (eS.sound (N:=fW Γ l0.toArray (aX hs) Cl Cl K f (fC.toArray.setIfInBounds i true)) (R:=fW Γ l0.toArray (aX hs) Cl Cl K f (fC.toArray.setIfInBounds i true)) hP h bV bV) (fun _ h=>h) (fun _ h=>h) (.inr ⟨j,want,_,hg,hb⟩);exact⟨x,⟨hd,.inl ⟨by simp[aC,hg,hb,iW],h3⟩⟩,h4⟩
   ·exact⟨_,⟨hd,.inr ⟨by simp[aC,hg,hb,iW],rfl⟩⟩,bV _ h⟩
   ·exact⟨_,⟨hd,.inr ⟨by simp[aC,hg,hb],rfl⟩⟩,bV _ h⟩
  obtain⟨x,h3,h4⟩:=Lh
  cases f with
  |zero=>
   refine⟨fun hn=>(by rw[hn] at sB;cases sB),fun j hj=>?_⟩
   by_cases gM:j=i
   ·subst gM;unfold jx;rw[ho];simp only[he,hhe,alx,if_false];exact⟨x,⟨h3.1,h3.2.imp (fun g=>⟨g.1,fun s' g1 g2=>g.2 s' g1 (by rw[g2];exact pY.refl)⟩) id⟩,h4⟩
   ·have h5:=ready_mono hj gM;rw[h4.1] at h5;cases h5
  |succ f=>
   exact fW.first (R:=pY M i o.op) (fun _ _ _=>pY.trans) (fun _=>pY.refl) ho (by simp[lp,he,hhe]) (f+1) fC.toArray s tC cQ sB h3 h4
 |di i p ih=>
  intro fuel fC s hf tC h;simp only[mJ.depth] at hf;obtain⟨f,rfl⟩:∃f,fuel=f+1:=⟨fuel-1,by omega⟩;simp only[ic] at h;split at h
  ·exact h.elim
  rename_i o ho;rw[mN] at ho;obtain⟨hb,h⟩:=bM h;rw[aln] at hb;have sB:=kP.1 hb.1;refine⟨fun hn=>(by rw[hn] at sB;cases sB),fun k hk=>?_⟩;have:=nA hb.2 hk;simp only[alG] at this;subst this;exact rk.sound al hP ah dj ho h fun s h=>by
   have:=ih f (lR fC k) s (by omega) (by rw[fB];exact cg tC sB) h
   rwa [fB] at this
 |two i p j q ihp ihq=>
  intro fuel fC s hf tC h;simp only[mJ.depth] at hf;obtain⟨f,rfl⟩:∃f,fuel=f+1:=⟨fuel-1,by omega⟩;simp only[ic] at h;split at h
  ·rename_i o o' ho zh;rw[mN] at ho zh;obtain⟨hb,h⟩:=bM h;rw[aln] at hb;have sB:=kP.1 hb.1;have iC:p.depth<=Nat.max p.depth q.depth:=Nat.le_max_left _ _;have hq1:q.depth<=Nat.max p.depth q.depth:=Nat.le_max_right _ _;refine⟨fun hn=>(by rw[hn] at sB;cases sB),fun k hk=>?_⟩;have:=nA hb.2 hk;simp only[alW,List.not_mem_nil,or_false] at this;rcases this with rfl|rfl
   ·exact rk.sound al hP ah dj ho h.1 fun s h=>by
     have:=ihp f (lR fC k) s (by omega) (by rw[fB];exact cg tC hk) h
     rwa [fB] at this
   ·exact rk.sound al hP ah dj zh h.2 fun s h=>by
     have:=ihq f (lR fC k) s (by omega) (by rw[fB];exact cg tC hk) h
     rwa [fB] at this
  ·exact h.elim
 |three i p j q k2 r ihp ihq ihr=>
  intro fuel fC s hf tC h;simp only[mJ.depth] at hf;obtain⟨f,rfl⟩:∃f,fuel=f+1:=⟨fuel-1,by omega⟩;simp only[ic] at h;split at h
  ·rename_i o o' o2 ho zh ho2;rw[mN] at ho zh ho2;obtain⟨hb,h⟩:=bM h;rw[aln] at hb;have sB:=kP.1 hb.1;have iC:p.depth<=Nat.max p.depth (Nat.max q.depth r.depth):=Nat.le_max_left _ _;have hq1:q.depth<=Nat.max p.depth (Nat.max q.depth r.depth):=alT (Nat.le_max_left _ _) (Nat.le_max_right _ _);have Bi:r.depth<=Nat.max p.depth (Nat.max q.depth r.depth):=alT (Nat.le_max_right _ _) (Nat.le_max_right _ _);refine⟨fun hn=>(by rw[hn] at sB;cases sB),fun k hk=>?_⟩;have:=nA hb.2 hk;simp only[alW,List.not_mem_nil,or_false] at this;rcases this with rfl|rfl|rfl
   ·exact rk.sound al hP ah dj ho h.1 fun s h=>by
     have:=ihp f (lR fC k) s (by omega) (by rw[fB];exact cg tC hk) h
     rwa [fB] at this
   ·exact rk.sound al hP ah dj zh h.2.1 fun s h=>by
     have:=ihq f (lR fC k) s (by omega) (by rw[fB];exact cg tC hk) h
     rwa [fB] at this
   ·exact rk.sound al hP ah dj ho2 h.2.2 fun s h=>by
     have:=ihr f (lR fC k) s (by omega) (by rw[fB];exact cg tC hk) h
     rwa [fB] at this
  ·exact h.elim
def rn:List Oper->List Bool
 | []=>[]
 |_::l=>false::rn l
theorem Aq:∀(l:List Oper),(rn l).toArray=Array.replicate l.length false:=by
 have:∀(l:List Oper),rn l=List.replicate l.length false:=by
  intro l
  induction l with
  |nil=>rfl
  |cons o l ih=>simp only[rn,ih,als,List.replicate_succ]
 intro l;rw[this];simp
theorem ej.ZS (al:Γ.Ok) {C:cD} (hP:C.P=Γ.P) (ah:aL Γ.P C.tab) (dj:C.nt=Γ.nt) (hm:Γ.P.follows .mixedOrders=true) {hs:List Nat} {id:Nat} {l:List Oper} {Q:Exit->AS Unit->Prop} {Cl M:List (Option (List Nat))} {p:mJ}
  (hd:Nat.ble p.depth l.length=true) (h:ic C hs l (mz l []) Cl M (Q .normal) p (rn l) s):ej Γ (.region id l.toArray true) Q s:=by
 intro a w η hr;refine wpIn_region_any hm ?_;have h1:=ic.sound al hP ah dj p l.length (rn l) s (alF hd) (fun k o hk=>by
  rw[Aq] at hk;simp only[alR,Array.getElem?_replicate] at hk
  split at hk<;>simp at hk) h
 rw[Aq] at h1;have h2:=iF.sound (Qc:=fun e a' w'=>∃s' aO,Q e s'/\Rel Γ s' a' w' aO) al (fun s' a' w' aO h1 h2=>⟨s',aO,h1,h2⟩) _ _ _ a w.drew η (h1.any al) (hr.same al (bD.drew w));simpa using h2
end Go.Proofs.YtnkjkpmbgoehkaaGreat
