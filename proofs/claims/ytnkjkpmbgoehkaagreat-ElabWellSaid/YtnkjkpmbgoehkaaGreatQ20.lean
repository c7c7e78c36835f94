/- Lemmas. -/
import Derived.Lib.ConvBytes
import Derived.Laws.LoneSync
import Derived.Laws.Pointers
import Derived.Laws.Entries
import Derived.Laws.BytesArg
import Derived.Test.YtnkjkpmbgoehkaaGreatQ19
namespace Go.Proofs.YtnkjkpmbgoehkaaGreat
open Go
open Go.Result renaming andThen_ok->al
open Go.Sem renaming run_bind->ao,run_pure->aq
set_option linter.unusedSimpArgs false
set_option linter.unusedVariables false
inductive W6 where
 |load (k:IntKind)
 |store
 |add (k:IntKind)
 |cas (k:IntKind)
 |same
def W6.run:W6->Array Value->Sem Value
 | .load k=>Extern.Atomic.loadT (.int k)
 | .store=>Extern.Atomic.storeT
 | .add k=>Extern.Atomic.update (Op.intArith .add) k true
 | .cas k=>Extern.Atomic.casT (.int k)
 | .same=>Extern.AbiNoEscape.same
def XOk (P:Program) (f:Nat) (x:W6):Prop:=
 ∃fn,P.funcs[f]?=some fn/\(fn.name == "runtime.NumGoroutine")=false/\fn.body.isNone=true/\Extern.findNext fn=none/\Extern.find fn=some x.run
def aaH (hp:List aw) (r off:Nat):W6->Option (AV×List aw)
 | .load k=>(match hp[r]? with
  |some (.box cs)=>(match cs[off]? with
   |some (.ax (.int k' n))=>if k'=k then some (.ax (.int k n),hp) else none
   |_=>none)
  |_=>none)
 | .same=>some (.ptr r off,hp)
 |_=>none
def aaI (hp:List aw) (r off:Nat) (k1:IntKind) (y:Int):W6->Option (AV×List aw)
 | .store=>(match hp[r]? with
  |some (.box cs)=>if off<cs.length then some (.ax (.tuple #[]),hp.set r (.box (cs.set off (.ax (.int k1 y))))) else none
  |_=>none)
 | .add k=>(match hp[r]? with
  |some (.box cs)=>(match cs[off]? with
   |some (.ax (.int k' n))=>if k'=k/\k1=k then some (.ax (.int k (k.wrap (n+y))),hp.set r (.box (cs.set off (.ax (.int k (k.wrap (n+y))))))) else none
   |_=>none)
  |_=>none)
 |_=>none
def aaJ (hp:List aw) (r off:Nat) (k1:IntKind) (y:Int) (k2:IntKind) (z:Int):W6->Option (AV×List aw)
 | .cas k=>(match hp[r]? with
  |some (.box cs)=>(match cs[off]? with
   |some (.ax (.int k' n))=>if k'=k/\k1=k/\k2=k then some (.ax (.bool (decide (n=y))),hp.set r (.box (cs.set off (.ax (.int k (if n=y then z else n)))))) else none
   |_=>none)
  |_=>none)
 |_=>none
def abV (x:W6) (hp:List aw):List AV->Option (AV×List aw)
 | [.ptr r off]=>aaH hp r off x
 | [.ptr r off,.ax (.int k1 y)]=>aaI hp r off k1 y x
 | [.ptr r off,.ax (.int k1 y),.ax (.int k2 z)]=>aaJ hp r off k1 y k2 z x
 |_=>none
variable {G:Type} {Γ:Env G} {s s':AS G} {a:Act} {w w':World} {η:List Value} {hp:List aw} {P:Program}
theorem zp (hr:Rel Γ s a w η) {r off b:Nat} {cs:List AV} {v:Value} (hb:s.hp[r]?=some (.box cs)) (fF:η[r]?=some (.pointer (some ⟨b,0,none⟩))) (hc:cs[off]?=some (.ax v)):
  w.cell? ⟨b,off,none⟩=some v/\w.frozen? ⟨b,off,none⟩=false:=by
 obtain⟨b',ws,T,he,hg,cx,iV⟩:=hr.heap.obj r _ _ hb fF;simp only[Value.pointer.injEq,aqq,Addr.mk.injEq,and_true] at he;subst he;have aH:off<ws.size:=by rw[cx];exact(aqr.1 hc).1
 have hu:ws[off]?=some ws[off]:=by simp[aH]
 have:=(iV off _ _ hc hu).1.aC;refine⟨?_,frozen_of_row w b off ws T hg⟩;rw[cell_of_row w b off ws T (0,0) hg,hu,this]
theorem Ki (aE:Γ.Ok) {f:Nat} {x:W6} (hX:XOk Γ.P f x) {o:Oper} {c:Call} {y:Operand} (ho:o.op=.call c) (hc:c.callee=.value y) {caps:List AV} (dK:s.ev y=.bz f caps) {r:AV} {hp':List aw}
  (h:abV x s.hp (c.args.toList.map s.ev++caps)=some (r,hp')):gL Γ o s r hp':=by
 intro a w η hr;obtain⟨fn,hf,jD,kY,cB,qC⟩:=hX;have hyr:=hr.ev y;rw[dK] at hyr;generalize hv:a.eval y=v at hyr
 cases hyr with
 |bz _ _ vs hl eR=>
  have aN:(c.args.map a.eval++vs)=(c.args.toList.map a.eval++vs.toList).toArray:=by apply arL;simp
  have JH:cu w (bt Γ w η s.hp) η s.hp caps vs.toList:=dL (by simpa using hl) fun j y u hy hu=>eR j y u hy (by simpa using hu);have iH:=eH _ _ (iA hr c.args.toList) JH;have qc:(execOp a.eval o).run Γ.P w=(callFunc f (c.args.toList.map a.eval++vs.toList).toArray).run Γ.P w:=by
   rw[<-aN];simp[execOp,ho,resolve,hc,hv,Deferred.ofValue,invoke]
  generalize c.args.toList.map a.eval++vs.toList=bE at iH qc;have one:∀{r1 off:Nat} {l:List AV} {bE:List Value},cu w (bt Γ w η s.hp) η s.hp (.ptr r1 off::l) bE->∃b us,bE=.pointer (some ⟨b,off,none⟩)::us/\η[r1]?=some (.pointer (some ⟨b,0,none⟩))/\cu w (bt Γ w η s.hp) η s.hp l us:=by
   intro r1 off l bE h
   match bE,h with
   |u::us,h=>
    cases h.1 with
    |ptr _ _ b fF=>exact⟨b,us,rfl,fF,h.2⟩
  have ax:∀{u:Value} {l:List AV} {bE:List Value},cu w (bt Γ w η s.hp) η s.hp (.ax u::l) bE->∃us,bE=u::us/\cu w (bt Γ w η s.hp) η s.hp l us:=by
   intro u l bE h
   match bE,h with
   |u'::us,h=>exact⟨us,by rw[h.1.aC],h.2⟩
  have nil:∀{bE:List Value},cu w (bt Γ w η s.hp) η s.hp [] bE->bE=[]:=by
   intro bE h
   match bE,h with
   | [],_=>rfl
  unfold abV at h;split at h
  ·rename_i r1 off hL;rw[hL] at iH;obtain⟨b,us,rfl,fF,oe⟩:=one iH;obtain rfl:=nil oe;unfold aaH at h;split at h
   ·rename_i k;split at h
    ·rename_i cs hb;split at h
     ·rename_i k' n aR;split at h
      ·rename_i hk;subst hk;simp only[aqq,aqt] at h;obtain⟨rfl,rfl⟩:=h;have wP:=(zp hr hb fF aR).1;exact⟨_,w,η,.inl (qc.trans (run_call_load hf jD kY cB _ qC wP)),hr,.ax _⟩
      ·cases h
     ·cases h
    ·cases h
   ·simp only[aqq,aqt] at h;obtain⟨rfl,rfl⟩:=h;refine⟨.pointer (some ⟨b,off,none⟩),w,η,.inl (qc.trans ?_),hr,.ptr _ _ b fF⟩;rw[run_callFunc_extern hf jD kY cB qC];rfl
   ·cases h
  ·rename_i r1 off k1 y1 hL;rw[hL] at iH;obtain⟨b,us,rfl,fF,oe⟩:=one iH;obtain⟨us',rfl,Kj⟩:=ax oe;obtain rfl:=nil Kj;unfold aaI at h;split at h
   ·split at h
    ·rename_i cs hb;split at h
     ·rename_i aH;simp only[aqq,aqt] at h;obtain⟨rfl,rfl⟩:=h;obtain⟨h1,h2,u',h3⟩:=hr.write aE (off:=off) (v:=.int k1 y1) (x:=.ax (.int k1 y1)) hb fF aH rfl (.ax _);exact⟨_,_,η,.inl (qc.trans (run_call_store hf jD kY cB qC h3 h2)),h1,.ax _⟩
     ·cases h
    ·cases h
   ·rename_i k;split at h
    ·rename_i cs hb;split at h
     ·rename_i k' n aR;split at h
      ·rename_i hk;obtain⟨rfl,rfl⟩:=hk;simp only[aqq,aqt] at h;obtain⟨rfl,rfl⟩:=h;have wP:=(zp hr hb fF aR).1;obtain⟨h1,h2,_⟩:=hr.write aE (off:=off) (v:=.int k1 (k1.wrap (n+y1))) (x:=.ax (.int k1 (k1.wrap (n+y1)))) hb fF (aqr.1 aR).1 rfl (.ax _);exact⟨_,_,η,.inl (qc.trans (run_call_add hf jD kY cB _ qC wP h2 rfl)),h1,.ax _⟩
      ·cases h
     ·cases h
    ·cases h
   ·cases h
  ·rename_i r1 off k1 y1 k2 z1 hL;rw[hL] at iH;obtain⟨b,us,rfl,fF,oe⟩:=one iH;obtain⟨us',rfl,Kj⟩:=ax oe;obtain⟨aoh,rfl,abW⟩:=ax Kj;obtain rfl:=nil abW;unfold aaJ at h;split at h
   ·rename_i k;split at h
    ·rename_i cs hb;split at h
     ·rename_i k' n aR;split at h
      ·rename_i hk;obtain⟨rfl,rfl,rfl⟩:=hk;simp only[aqq,aqt] at h;obtain⟨rfl,rfl⟩:=h;obtain⟨wP,hfz⟩:=zp hr hb fF aR
       by_cases hn:n=y1
       ·subst hn;obtain⟨h1,h2,_⟩:=hr.write aE (off:=off) (v:=.int k2 z1) (x:=.ax (.int k2 z1)) hb fF (aqr.1 aR).1 rfl (.ax _);rw[if_pos rfl,decide_eq_true rfl];exact⟨_,_,η,.inl (qc.trans (run_call_cas_hit hf jD kY cB _ qC wP hfz)),h1,.ax _⟩
       ·rw[if_neg hn,decide_eq_false hn];have xN:s.hp.set r1 (.box (cs.set off (.ax (.int k2 n))))=s.hp:=by
         have:cs.set off (.ax (.int k2 n))=cs:=by
          apply ark;intro i
          by_cases hi:off=i
          ·subst hi;rw[aB aR,aR]
          ·rw[getElem?_set_ne hi]
         rw[this];apply ark;intro i
         by_cases hi:r1=i
         ·subst hi;rw[aB hb,hb]
         ·rw[getElem?_set_ne hi]
        rw[xN];exact⟨_,w,η,.inl (qc.trans (run_call_cas_miss hf jD kY cB _ qC wP hfz hn)),hr,.ax _⟩
      ·cases h
     ·cases h
    ·cases h
   ·cases h
  ·cases h
def RI:AV->Bool
 | .ax (.pointer none)=>true
 |_=>false
def abX (tab:Nat->Option TD) (ρ:Operand->AV):Op->Option AV
 | .binOp op T x y _=>(match tab T,DC (ρ x),RI (ρ y) with
  |some d,some b,true=>(match d.kind with
   | .ptr _=>(match op with
    | .eql=>some (.ax (.bool b))
    | .neq=>some (.ax (.bool (!b)))
    |_=>none)
   |_=>none)
  |_,_,_=>none)
 | .convert S D x=>(match tab S,tab D,ρ x with
  |some _,some d,.ax (.int _ n)=>(match d.kind with
   | .int k=>some (.ax (.int k (k.wrap n)))
   |_=>none)
  |_,_,_=>none)
 |_=>none
theorem Kk {tab:Nat->Option TD} (aA:bc Γ.P tab) {o:Oper} {r:AV} (h:abX tab s.ev o.op=some r):gq Γ o s r:=by
 generalize ho:o.op=op at h;unfold abX at h;split at h
 ·rename_i bop T x y T';split at h
  ·rename_i d b hd hb hy;have DG:s.ev y=.ax (.pointer none):=by
    unfold RI at hy;split at hy
    ·assumption
    ·cases hy
   split at h
   ·rename_i e hk;have hu:Γ.P.underlying T=some (.pointer (Γ.P.pointee T)):=by
     obtain⟨u,q2,q3⟩:=(aA T d hd).mK;rw[hk] at q3;have:Γ.P.underlying T=some (.pointer e):=by rw[q2];exact congrArg some q3
     rw[this,Program.pointee,this]
    split at h
    ·obtain rfl:=aqs h;refine aZ fun a w η hr=>?_;obtain⟨p,hp,Xr⟩:=rT hb (hr.ev x);have h2:=hr.ev y;rw[DG] at h2;have h2:=h2.aC;refine⟨.bool b,?_,.ax _⟩;simp only[execOp,ho,hp,h2,eqGuard,arC,aqH,if_false,ao,aq,al,run_eql_pointer_nil w T p hu,Xr]
    ·obtain rfl:=aqs h;refine aZ fun a w η hr=>?_;obtain⟨p,hp,Xr⟩:=rT hb (hr.ev x);have h2:=hr.ev y;rw[DG] at h2;have h2:=h2.aC;refine⟨.bool (!b),?_,.ax _⟩;simp only[execOp,ho,hp,h2,eqGuard,arC,aqH,if_false,ao,aq,al,run_neq_pointer_nil w T p hu,Xr]
    ·cases h
   ·cases h
  ·cases h
 ·rename_i S D x;split at h
  ·rename_i d1 d k n hS hD hx;split at h
   ·rename_i k2 hk;obtain rfl:=aqs h;refine aZ fun a w η hr=>?_;have h1:=hr.ev x;rw[hx] at h1;have h1:=h1.aC;obtain⟨u1,q1,_⟩:=(aA S d1 hS).mK;have hu:Γ.P.underlying D=some (.int k2):=by
     obtain⟨u,q2,q3⟩:=(aA D d hD).mK;rw[hk] at q3;rw[q2];exact congrArg some q3
    refine⟨.int k2 (k2.wrap n),?_,.ax _⟩;simp only[execOp,ho,h1,convert,ao,run_underlying q1,run_underlying hu,al];rfl
   ·cases h
  ·cases h
 ·cases h
def vR:List AV->Option (List Int)
 | []=>some []
 | .ax (.int .u8 n)::l=>(match vR l with|some zs=>some (n::zs)|none=>none)
 |_=>none
theorem zq:∀{l:List AV} {zs:List Int},vR l=some zs->zs.length=l.length/\∀i,i<l.length->l[i]?=some (.ax (.int .u8 (zs.getD i 0)))
 | [],zs,h=>by cases h;exact⟨rfl,fun i hi=>by simp at hi⟩
 |x::l,zs,h=>by
  unfold vR at h;split at h
  ·rename_i e;cases e
  ·rename_i n l' e;obtain⟨rfl,rfl⟩:=List.cons.inj e;split at h
   ·rename_i ys hy;obtain rfl:=aqs h;obtain⟨h1,h2⟩:=zq hy;refine⟨by simp[h1],fun i hi=>?_⟩
    cases i with
    |zero=>rfl
    |succ i=>simpa using h2 i (by simpa using hi)
   ·cases h
  ·cases h
def zr:AV->Option (List Int)
 | .clip (x::l)=>vR (x::l)
 | .sl (x::l)=>vR (x::l)
 |_=>none
def RL (tab:Nat->Option TD) (hp:List aw) (ρ:Operand->AV):Op->Option (List Prop×AV×List aw)
 | .convert S D x=>(match tab S,tab D with
  |some d,some du=>(match d.kind,du.kind with
   | .lU e,.str=>(match tab e with
    |some de=>(match de.kind with
     | .int .u8=>(match zr (ρ x) with
      |some zs=>some ([],.ax (.string (strOfNums zs)),hp)
      |none=>none)
     |_=>none)
    |none=>none)
   | .str,.lU e=>(match tab e,ρ x with
    |some de,.ax (.string u)=>(match de.kind with
     | .int .u8=>some ([u.size<=140737488355328],.sl (jB u),hp)
     |_=>none)
    |_,_=>none)
   |_,_=>none)
  |_,_=>none)
 | .call c=>(match c.callee,c.args.toList,c.argTypes.toList with
  | .builtin .append,[b,x],[T,T']=>(match tab T,tab T',ρ b,ρ x with
   |some d,some du,.own r n,.ax (.string s)=>(match d.kind,du.kind,hp[r]? with
    | .lU e,.str,some (.row e' size els)=>(match tab e with
     |some d'=>(match d'.zero with
      | .int .u8 0=>if e'=e/\size=d'.size/\d'.size=1/\d'.bytes=1 then some ([n=els.length,els.length+s.size<=140737488355328],.own r (els++jB s).length,hp.set r (.row e size (els++jB s))) else none
      |_=>none)
     |none=>none)
    |_,_,_=>none)
   |_,_,_,_=>none)
  |_,_,_=>none)
 | .load T p=>(match tab T,ρ p with
  |some d,.ptr r 1=>(match d.kind,hp[r]? with
   | .lU _,some (.jy q n)=>if d.size=1 then some ([],.own q n,hp) else none
   |_,_=>none)
  |_,_=>none)
 | .store T p x=>(match tab T,ρ p,ρ x with
  |some d,.ptr r 1,.own q m=>(match d.kind,hp[r]? with
   | .lU _,some (.jy q' _)=>if d.size=1/\q'=q then some ([m≠0],.top,hp.set r (.jy q m)) else none
   |_,_=>none)
  |_,_,_=>none)
 | .box T x=>if T=BE then(match ρ x with
  | .agg [.ax (.pointer none),.ax (.slice none 0 0)]=>(match tab 5 with
   |some d=>(match d.zero with
    | .int .u8 0=>if d.size=1 then some ([],.ptr hp.length 0,hp++[.jy (hp.length+1) ([]:List AV).length,.row 5 1 []]) else none
    |_=>none)
   |none=>none)
  |_=>none) else none
 |_=>none
theorem Gp (aE:Γ.Ok) {tab:Nat->Option TD} (aA:bc Γ.P tab) {o:Oper} {c:Call} (ho:o.op=.call c) (hb:c.callee=.builtin .append) {b x:Operand} (hl:c.args.toList=[b,x]) {T T' e r:Nat} (hT:c.argTypes.toList=[T,T']) {d du d':TD} (hd:tab T=some d)
  (W7:tab T'=some du) (hk:d.kind=.lU e) (RM:du.kind=.str) (ef:tab e=some d') (hz:d'.zero=.int .u8 0) (h1:d'.size=1) (h2:d'.bytes=1) {els:List AV} {u:ByteArray} (qD:s.ev b=.own r els.length) (hx:s.ev x=.ax (.string u)) (eQ:s.hp[r]?=some (.row e d'.size els)) (hm:els.length+u.size<=140737488355328):
  gL Γ o s (.own r (els++jB u).length) (s.hp.set r (.row e d'.size (els++jB u))):=by
 intro a w η hr;have hu:Γ.P.underlying T=some (.slice e):=by
  obtain⟨u,q2,q3⟩:=(aA T d hd).mK;rw[hk] at q3;rw[q2];exact congrArg some q3
 have BN:Γ.P.underlying T'=some .string:=by
  obtain⟨u,q2,q3⟩:=(aA T' du W7).mK;rw[RM] at q3;rw[q2];exact congrArg some q3
 have eP:=hr.ev x;rw[hx] at eP;have vD:=eP.aC;have LZ:=hr.ev b;rw[qD] at LZ;have vF:bl η s.hp r els.length (a.eval b):=by cases LZ;assumption
 have qE:c.argTypes=#[T,T']:=by rw[<-aq8 (xs:=c.argTypes),hT]
 have aN:c.args=#[b,x]:=by rw[<-aq8 (xs:=c.args),hl]
 have hn:=JI (w:=w) (F:=bt Γ w η s.hp) (ty:=o.type) hu BN (aA e d' ef) h1 hz u;have BA:=vH u;obtain⟨v',w',bf,g1,g2,g3,g4⟩:=yT (M:=false) aE hr (aA e d' ef) eQ vF hn (fun y hy=>by
  rw[h1];simp only[jB,arx] at hy;obtain⟨q,_,rfl⟩:=hy
  rfl) (by rw[BA];unfold maxLen;omega) (by rw[BA,h2];omega)
 refine⟨v',w',bf,.inl ?_,g2,.own _ _ _ g3 ?_⟩
 ·rw[<-vD] at g1;simp only[execOp,ho,resolve,hb,ao,aq,al,invoke,builtin,qE,aN,arY,aqS,arl,g1]
 ·unfold bl;rw[aB eQ];exact⟨aqw _,fun _=>g4⟩
theorem O0 (aE:Γ.Ok) {tab:Nat->Option TD} (aA:bc Γ.P tab) {o:Oper} {S D e:TypeId} {x:Operand} (ho:o.op=.convert S D x) {d du de:TD} (hd:tab S=some d) (W7:tab D=some du) (hk:d.kind=.lU e) (RM:du.kind=.str) (FO:tab e=some de) (XG:de.kind=.int .u8) {zs:List Int} (hx:zr (s.ev x)=some zs):
  gL Γ o s (.ax (.string (strOfNums zs))) s.hp:=by
 intro a w η hr;have hs:Γ.P.underlying S=some (.slice e):=by
  obtain⟨u,q2,q3⟩:=(aA S d hd).mK;rw[hk] at q3;rw[q2];exact congrArg some q3
 have hD:Γ.P.underlying D=some .string:=by
  obtain⟨u,q2,q3⟩:=(aA D du W7).mK;rw[RM] at q3;rw[q2];exact congrArg some q3
 have hE:Γ.P.underlying e=some (.int .u8):=by
  obtain⟨u,q2,q3⟩:=(aA e de FO).mK;rw[XG] at q3;rw[q2];exact congrArg some q3
 have hrx:=hr.ev x;obtain⟨y,l,XE,hz⟩:∃y l,bB w (bt Γ w η s.hp) η s.hp (.sl (y::l)) (a.eval x)/\vR (y::l)=some zs:=by
  unfold zr at hx;split at hx
  ·rename_i y l e;rw[e] at hrx;exact⟨y,l,hrx.oT,hx⟩
  ·rename_i y l e;rw[e] at hrx;exact⟨y,l,hrx,hx⟩
  ·cases hx
 obtain⟨hz1,W4⟩:=zq hz;generalize hv:a.eval x=v at XE
 cases XE with
 |sl size els b o c f hc hm hl aR W2=>
  have h0:size=1:=by
   have:=hl 0 _ (W4 0 (by simp));exact this.symm
  subst h0;have cell:∀i,i<(y::l).length->w.cell? ⟨b,o+i,none⟩=some (.int .u8 (zs.getD i 0)):=fun i hi=>by
   have h1:=(aR i _ 0 _ (W4 i hi) rfl).1;have h2:=(W2 i _ 0 _ (W4 i hi) rfl).aC;rw[h2] at h1;simpa using h1
  have gX:=run_convert_bytes_arg (P:=Γ.P) w S e hs hE b o (y::l).length c zs hz1 cell D hD;refine⟨.string (strOfNums zs),w,η,.inl ?_,hr,.ax _⟩;simp only[execOp,ho,hv,ao,gX,al];rfl
theorem Kl (aE:Γ.Ok) {tab:Nat->Option TD} (aA:bc Γ.P tab) {o:Oper} {S D e:TypeId} {x:Operand} (ho:o.op=.convert S D x) {d du de:TD} (hd:tab S=some d) (W7:tab D=some du) (hk:d.kind=.str) (RM:du.kind=.lU e) (FO:tab e=some de) (XG:de.kind=.int .u8) {u:ByteArray}
  (hx:s.ev x=.ax (.string u)) (hm:u.size<=140737488355328):gL Γ o s (.sl (jB u)) s.hp:=by
 intro a w η hr;have hs:Γ.P.underlying S=some .string:=by
  obtain⟨u,q2,q3⟩:=(aA S d hd).mK;rw[hk] at q3;rw[q2];exact congrArg some q3
 have hD:Γ.P.underlying D=some (.slice e):=by
  obtain⟨u,q2,q3⟩:=(aA D du W7).mK;rw[RM] at q3;rw[q2];exact congrArg some q3
 have hE:Γ.P.underlying e=some (.int .u8):=by
  obtain⟨u,q2,q3⟩:=(aA e de FO).mK;rw[XG] at q3;rw[q2];exact congrArg some q3
 have hrx:=hr.ev x;rw[hx] at hrx;have vD:=hrx.aC;have gX:=Lib.run_convert_string_bytes (P:=Γ.P) w S D e u hs hD hE;have wN:bV w (Lib.bytesWorld w e u):=⟨by unfold Lib.bytesWorld World.freeze;split<;>rfl,by unfold Lib.bytesWorld World.freeze;split<;>rfl,by unfold Lib.bytesWorld World.freeze;split<;>rfl,by rw[Lib.bytesWorld_size];omega,fun k hk=>Lib.bytesWorld_at_old w e u k hk⟩;refine⟨_,_,η,.inl (by simp only[execOp,ho,vD,ao,gX,al];rfl),hr.same aE wN,?_⟩;have hl:=vH u;have kp:∀k,bt Γ (Lib.bytesWorld w e u) η s.hp w.heap.size k:=fun k=>
  ⟨.inr (.inl hr.keeps.size),by rw[Lib.bytesWorld_size];omega,(LY (T:=e) (cs:=#[]) hr k (fun _ _=>aE.no)).2.2⟩
 have tU:∀(i:Nat) (y:AV),(jB u)[i]?=some y->∃c:UInt8,i<u.size/\u.data.toList.getD i 0=c/\y=.ax (.int .u8 c.toNat):=fun i y hi=>by
  simp only[jB,aqE] at hi;obtain⟨c,hc,rfl⟩:=aro.1 hi;have aH:=(aqr.1 hc).1;exact⟨c,by simpa using aH,by rw[aru,hc];rfl,rfl⟩
 have:=bB.sl (w:=Lib.bytesWorld w e u) (F:=bt Γ (Lib.bytesWorld w e u) η s.hp) (η:=η) (hp:=s.hp) 1 (jB u) w.heap.size 0 (grownCap w u.size 0 e) (fun i j=>.int .u8 (u.data.toList.getD i 0).toNat) (by rw[hl];exact grownCap_ge _ _ _ _) (grownCap_le_maxLen _ _ _ _ (by unfold maxLen;omega))
  (fun i y hi=>by obtain⟨c,_,_,rfl⟩:=tU i y hi;rfl) (fun i y j z hi hj=>by
   obtain⟨c,h1,h2,rfl⟩:=tU i y hi;have hj0:j=0:=by(have:=(aqr.1 hj).1;simp[AV.cells] at this;omega)
   subst hj0;refine⟨?_,kp _,rfl⟩;rw[aqV,arG,arw];exact Lib.bytesWorld_cell w e u i h1) (fun i y j z hi hj=>by
   obtain⟨c,h1,h2,rfl⟩:=tU i y hi;have hj0:j=0:=by(have:=(aqr.1 hj).1;simp[AV.cells] at this;omega)
   subst hj0;rw[h2];obtain rfl:AV.ax (.int .u8 c.toNat)=z:=by simpa [AV.cells] using hj
   exact .ax _)
 rw[hl] at this;exact this
theorem RN (aE:Γ.Ok) {o:Oper} {x:Operand} (ho:o.op=.box BE x) (hx:s.ev x=.agg [.ax (.pointer none),.ax (.slice none 0 0)]):gL Γ o s (.ptr s.hp.length 0) (s.hp++[.jy (s.hp.length+1) 0,.row 5 1 []]):=by
 intro a w η hr;have eP:=hr.ev x;rw[hx] at eP;generalize hv:a.eval x=v at eP
 cases eP with
 |agg _ vs hl h1 W2=>
  have e0:vs[0]?=some (.pointer none):=by
   have:0<vs.size:=by rw[hl];simp
   have h2:=W2 0 _ _ rfl (arf this);rw[arf this,h2.aC]
  have e1:vs[1]?=some (.slice none 0 0):=by
   have:1<vs.size:=by rw[hl];simp
   have h2:=W2 1 _ _ rfl (arf this);rw[arf this,h2.aC]
  have wN:=bV.alloc w (.cells vs BE);have Xj:=hr.heap.len;have hn:∀{r:Nat} {u:Value} {b:Nat},(η++[.pointer (some ⟨w.heap.size,0,none⟩),.slice none 0 0])[r]?=some u->dO u=some b->(η[r]?=some u/\r<s.hp.length)\/(r=s.hp.length/\b=w.heap.size):=by
   intro r u b hu hb
   by_cases aH:r<η.length
   ·rw[aqD aH] at hu;exact .inl ⟨hu,by omega⟩
   ·rw[aq5 (by omega)] at hu
    cases hk:r-η.length with
    |zero=>
     rw[hk] at hu;simp only[ari,aqq] at hu;subst hu;simp only[dO,aqq] at hb;exact .inr ⟨by omega,hb.symm⟩
    |succ k=>
     rw[hk] at hu
     cases k with
     |zero=>simp at hu;subst hu;simp[dO] at hb
     |succ k=>simp at hu
  have ho0:∀{r:Nat} {ob:aw},(s.hp++[aw.jy (s.hp.length+1) 0,.row 5 1 []])[r]?=some ob->(s.hp[r]?=some ob/\r<s.hp.length)\/(r=s.hp.length/\ob=.jy (s.hp.length+1) 0)\/(r=s.hp.length+1/\ob=.row 5 1 []):=by
   intro r ob eX
   by_cases aH:r<s.hp.length
   ·rw[aqD aH] at eX;exact .inl ⟨eX,aH⟩
   ·rw[aq5 (by omega)] at eX
    cases hk:r-s.hp.length with
    |zero=>rw[hk] at eX;simp at eX;exact .inr (.inl ⟨by omega,eX.symm⟩)
    |succ k=>
     rw[hk] at eX
     cases k with
     |zero=>simp at eX;exact .inr (.inr ⟨by omega,eX.symm⟩)
     |succ k=>simp at eX
  have BQ:(η++[Value.pointer (some ⟨w.heap.size,0,none⟩),.slice none 0 0])[s.hp.length]?=some (.pointer (some ⟨w.heap.size,0,none⟩)):=by
   rw[<-Xj,aq5 (aqw _)];simp
  have aem:(η++[Value.pointer (some ⟨w.heap.size,0,none⟩),.slice none 0 0])[s.hp.length+1]?=some (.slice none 0 0):=by
   rw[<-Xj,aq5 (by omega)];simp
  have gh1:(s.hp++[aw.jy (s.hp.length+1) 0,.row 5 1 []])[s.hp.length+1]?=some (.row 5 1 []):=by
   rw[aq5 (by omega)];simp
  have hold:∀{r:Nat} {u:Value},η[r]?=some u->(η++[Value.pointer (some ⟨w.heap.size,0,none⟩),.slice none 0 0])[r]?=some u:=fun hu=>by
   rw[aqD (aqr.1 hu).1];exact hu
  have he:Ext w (bt Γ w η s.hp) η s.hp (w.alloc (.cells vs BE)) (bt Γ (w.alloc (.cells vs BE)) (η++[.pointer (some ⟨w.heap.size,0,none⟩),.slice none 0 0]) (s.hp++[.jy (s.hp.length+1) 0,.row 5 1 []])) (η++[.pointer (some ⟨w.heap.size,0,none⟩),.slice none 0 0]) (s.hp++[.jy (s.hp.length+1) 0,.row 5 1 []]):=by
   refine⟨fun b k u hf hc=>by rw[World.cell?_of_block (wN.block b (fh hf))];exact hc,fun b es c hf hc=>by rw[wN.block b (fh hf)];exact hc,fun b k hf=>⟨hf.1,aqX hf.2.1 wN.size,hf.2.2.1,(bm b k).2 fun r u hu hb=>?_⟩,fun _ _ h=>hold h,fun _ _ h=>hold h,fun r n u ho=>?_⟩
   ·rcases hn hu hb with⟨g1,g2⟩|⟨_,g2⟩
    ·obtain⟨ob,q1,q2⟩:=(bm b k).1 hf.2.2.2 r u g1 hb;exact⟨ob,by rw[aqD g2];exact q1,q2⟩
    ·have:=fh hf;omega
   ·unfold bl at ho ⊢
    cases DP:s.hp[r]? with
    |none=>simp[DP] at ho
    |some ob=>
     rw[aqD (aqr.1 DP).1,DP];rw[DP] at ho
     cases ob with
     |row e z els=>exact⟨ho.1,fun Xl=>hold (ho.2 Xl)⟩
     |bj e z els=>exact⟨ho.1,fun Xl=>hold (ho.2 Xl)⟩
     |fz e m ns=>exact⟨ho.1,fun Xl=>hold (ho.2 Xl)⟩
     |_=>exact ho
  refine⟨.pointer (some ⟨w.heap.size,0,none⟩),_,η++[.pointer (some ⟨w.heap.size,0,none⟩),.slice none 0 0],.inl (by simp[execOp,ho,hv,Instr.box,newVar,newRow,Value.cells];rfl),?_,.ptr _ 0 w.heap.size BQ⟩;have mM:∀(r:Nat) (ob:aw) (u:Value) (b:Nat),s.hp[r]?=some ob->ob.live->η[r]?=some u->dO u=some b->b<w.heap.size:=fun r ob u b g1 g2 g3 g4=>hr.heap.block g1 g2 g3 g4;refine⟨hr.nt,fun t=>(hr.tmps t).ext he,⟨by simp[Xj],fun r ob u g1 g2=>?_,fun r r' o1 o2 u u' b cg g1 g2 l1 l2 g3 g4 hb gz=>?_⟩,fun r ob u b g1 g2 g3 g4=>?_,hr.keeps.Dx wN,aE.qv _ _ _ (fun b hb=>wN.block b (aqX (aE.x b hb) hr.keeps.size)) wN.size hr.inv,(wN.keeps fun _=>False).marks hr.marks fun _ hf=>hf.elim,hr.ext.trans he⟩
  ·rcases ho0 g1 with⟨g3,g4⟩|⟨rfl,rfl⟩|⟨rfl,rfl⟩
   ·rw[aqD (by omega)] at g2;exact(hr.heap.obj r ob u g3 g2).ext he wN.size fun b _ aH=>wN.block b aH
   ·rw[BQ] at g2;obtain rfl:=aqs g2;exact⟨w.heap.size,vs,rfl,heap_alloc_new w _,⟨hl,fun _=>e1⟩,.inl e0,_,e1,.own _ 0 _ rfl (by unfold bl;rw[gh1];exact⟨aqw _,fun _=>aem⟩)⟩
   ·rw[aem] at g2;obtain rfl:=aqs g2;exact⟨Nat.one_pos,[],⟨by simp,.inl ⟨rfl,.inl rfl⟩⟩,fun i el hi=>by simp at hi⟩
  ·rcases hn g3 hb with⟨p1,p2⟩|⟨p1,p2⟩
   ·rcases hn g4 gz with⟨q1,q2⟩|⟨q1,q2⟩
    ·rw[aqD p2] at g1;rw[aqD q2] at g2;exact hr.heap.sep r r' o1 o2 u u' b cg g1 g2 l1 l2 p1 q1 hb gz
    ·rw[aqD p2] at g1;have:=mM r o1 u b g1 l1 p1 hb;omega
   ·rcases hn g4 gz with⟨q1,q2⟩|⟨q1,q2⟩
    ·rw[aqD q2] at g2;have:=mM r' o2 u' b g2 l2 q1 gz;omega
    ·omega
  ·rcases hn g3 g4 with⟨p1,p2⟩|⟨p1,p2⟩
   ·rw[aqD p2] at g1;exact hr.cq r ob u b g1 g2 p1 g4
   ·subst p2;exact⟨.inl hr.keeps.size,fun k hx=>by have:=aE.no hx;have:=hr.keeps.size;omega⟩
theorem DV (aE:Γ.Ok) {tab:Nat->Option TD} (aA:bc Γ.P tab) {o:Oper} {T r q n:Nat} {p:Operand} (ho:o.op=.load T p) {d:TD} (hd:tab T=some d) (ha:d.kind.agg=false) (hp:s.ev p=.ptr r 1) (hb:s.hp[r]?=some (.jy q n)):gL Γ o s (.own q n) s.hp:=by
 intro a w η hr;have hx:=hr.ev p;rw[hp] at hx;generalize hv:a.eval p=v at hx
 cases hx with
 |ptr _ _ b fF=>
  obtain⟨b',vs,he,hg,⟨cx,_⟩,_,u,hu,eR⟩:=hr.heap.obj r _ _ hb fF;simp only[Value.pointer.injEq,aqq,Addr.mk.injEq,and_true] at he;subst he;have h1:u.oneCell'=true:=by cases eR;assumption
  have QI:=aA.sz hd ha;have aaK:=lY (P:=Γ.P) (aA T d hd) (o:=1) (vM hg) (by rw[QI,ara,cx];decide);have e:((vs.toList.drop 1).take d.size).headD undef=u:=by
   rw[QI];have h2:vs.toList[1]?=some u:=by simpa using hu
   cases hl:vs.toList with
   |nil=>rw[hl] at h2;simp at h2
   |cons x l=>
    rw[hl] at h2
    cases l with
    |nil=>simp at h2
    |cons y l=>simp at h2;subst h2;rfl
  rw[ha,e] at aaK;refine⟨u,w,η,.inl ?_,hr,eR⟩;simp only[execOp,ho,hv,Instr.loadAt,Instr.sureAddr,ao,aq,al];rw[aaK];rfl
theorem Rel.RP (aE:Γ.Ok) (h:Rel Γ s a w η) {r q n m b:Nat} {v:Value} (hm:m≠0) (hr:s.hp[r]?=some (.jy q n)) (hv:η[r]?=some (.pointer (some ⟨b,0,none⟩))) (hx:bB w (bt Γ w η s.hp) η s.hp (.own q m) v):
  Rel Γ { s with hp:=s.hp.set r (.jy q m) } a (w.setCell ⟨b,1,none⟩ v) η/\w.frozen? ⟨b,1,none⟩=false/\∃u,w.cell? ⟨b,1,none⟩=some u:=by
 obtain⟨b',vs,he,hg,⟨cx,_⟩,h0,u,hu,eR⟩:=h.heap.obj r _ _ hr hv;simp only[Value.pointer.injEq,aqq,Addr.mk.injEq,and_true] at he;subst he;have xN:(w.setCell ⟨b,1,none⟩ v).heap[b]?=some (.cells (vs.setIfInBounds 1 v) BE (0,0)):=Go.heap_setCell_same w b 1 vs BE v hg;have fF:η.set r (.pointer (some ⟨b,0,none⟩))=η:=by
  apply ark;intro i
  by_cases hi:r=i
  ·subst hi;rw[aB hv,hv]
  ·rw[getElem?_set_ne hi]
 refine⟨?_,frozen_of_row w b 1 vs BE hg,?_⟩
 ·have:=Rel.change (w':=w.setCell ⟨b,1,none⟩ v) (o':=.jy q m) (v':=.pointer (some ⟨b,0,none⟩)) aE h hr True.intro hv
   ⟨rfl,rfl,rfl,by simp[World.setCell],fun k hk hb=>ar5 w _ k v (by intro e;exact hb (by rw[e];rfl))⟩
   (fun c hc=>.inl hc) (fun k hk=>hk.elim) (fun _ _ _ _ hk=>hk.elim) (fun _ _ _ _ hk=>hk.elim)
   (fun n u ho=>by simp[bl,hr] at ho)
   (fun _ _=>rfl) (fun _ hx=>by cases hx)
   (fun c d hb hd=>by simp only[dO,aqq] at hb;subst hb;rw[hg] at hd;cases hd)
   (fun he=>⟨b,vs.setIfInBounds 1 v,rfl,xN,⟨by simp[cx],fun e=>(hm e).elim⟩,by rw[arU];simpa using h0,v,by rw[arU];simp[cx],hx.ext he⟩)
  rw[fF] at this;exact this
 ·rw[cell_of_row w b 1 vs BE (0,0) hg];exact⟨u,hu⟩
theorem BR (aE:Γ.Ok) {tab:Nat->Option TD} (aA:bc Γ.P tab) {o:Oper} {T r q n m:Nat} {p x:Operand} (ho:o.op=.store T p x) {d:TD} (hd:tab T=some d) (h1:d.size=1) (hm:m≠0) (hp:s.ev p=.ptr r 1) (hx:s.ev x=.own q m) (hb:s.hp[r]?=some (.jy q n)):gL Γ o s .top (s.hp.set r (.jy q m)):=by
 intro a w η hr;have su:=hr.ev p;rw[hp] at su;have eP:=hr.ev x;rw[hx] at eP;generalize hv:a.eval p=v at su
 cases su with
 |ptr _ _ b fF=>
  obtain⟨g1,g2,u,g3⟩:=hr.RP aE hm hb fF eP;have BJ:(a.eval x).oneCell'=true:=by cases eP;assumption
  have ab0:(a.eval x).cells=#[a.eval x]:=by cases hq:a.eval x<;>simp_all [Value.cells,Value.oneCell']
  refine⟨undef,_,η,.inr ⟨?_,rfl⟩,g1,.top _⟩;simp only[execOp,ho,hv,Instr.storeAt,Instr.sureAddr,ao,aq,al,storeVar,(aA T d hd).run_sizeOf,h1,ab0,List.size_toArray,aqy,aqW,aqV,ne_eq,not_true_eq_false,if_false,storeCells,Addr.add_lit];rw[run_store _ _ _ _ _ BJ,arw,g3];simp only[g2,aqH,if_false,al]
theorem RQ (aE:Γ.Ok) {tab:Nat->Option TD} (aA:bc Γ.P tab) {o:Oper} {l:List Prop} {r:AV} {hp':List aw} (h:RL tab s.hp s.ev o.op=some (l,r,hp')) (hc:∀p∈l,p):gL Γ o s r hp':=by
 generalize ho:o.op=op at h;unfold RL at h;split at h
 ·rename_i S D x;split at h
  ·rename_i d du hd W7;split at h
   ·rename_i e hk RM;split at h
    ·rename_i de FO;split at h
     ·rename_i XG;split at h
      ·rename_i zs hz;simp only[aqq,aqt] at h;obtain⟨_,rfl,rfl⟩:=h;exact O0 aE aA ho hd W7 hk RM FO XG hz
      ·cases h
     ·cases h
    ·cases h
   ·rename_i e hk RM;split at h
    ·rename_i de u FO hx;split at h
     ·rename_i XG;simp only[aqq,aqt] at h;obtain⟨rfl,rfl,rfl⟩:=h;exact Kl aE aA ho hd W7 hk RM FO XG hx (hc _ aqG)
     ·cases h
    ·cases h
   ·cases h
  ·cases h
 ·rename_i c;split at h
  ·rename_i b x T T' DW aN dJ;split at h
   ·rename_i d du r' n u hd W7 qD hx;split at h
    ·rename_i e e' size els hk RM eQ;split at h
     ·rename_i d' ef;split at h
      ·rename_i hz;split at h
       ·rename_i oX;obtain⟨rfl,rfl,h1,h2⟩:=oX;simp only[aqq,aqt] at h;obtain⟨rfl,rfl,rfl⟩:=h;have e1:=hc _ (aqG);have e2:=hc _ (aqI _ aqG);rw[e1] at qD;exact Gp aE aA ho DW aN dJ hd W7 hk RM ef hz h1 h2 qD hx eQ e2
       ·cases h
      ·cases h
     ·cases h
    ·cases h
   ·cases h
  ·cases h
 ·rename_i T p;split at h
  ·rename_i d r' hd hp;split at h
   ·rename_i e q n hk hb;split at h
    ·simp only[aqq,aqt] at h;obtain⟨_,rfl,rfl⟩:=h;exact DV aE aA ho hd (by rw[hk];rfl) hp hb
    ·cases h
   ·cases h
  ·cases h
 ·rename_i T p x;split at h
  ·rename_i d r' q m hd hp hx;split at h
   ·rename_i e q' n hk hb;split at h
    ·rename_i oX;obtain⟨h1,rfl⟩:=oX;simp only[aqq,aqt] at h;obtain⟨rfl,rfl,rfl⟩:=h;exact BR aE aA ho hd h1 (hc _ aqG) hp hx hb
    ·cases h
   ·cases h
  ·cases h
 ·rename_i T x;split at h
  ·rename_i hT;subst hT;split at h
   ·rename_i hx;split at h
    ·split at h
     ·split at h
      ·simp only[aqq,aqt] at h;obtain⟨_,rfl,rfl⟩:=h;exact RN aE ho hx
      ·cases h
     ·cases h
    ·cases h
   ·cases h
  ·cases h
 ·cases h
end Go.Proofs.YtnkjkpmbgoehkaaGreat
