/- Texts of ours laid together for a claim: VcO. -/
import Derived.Lib.ConvBytes
import Derived.Laws.LoneSync
import Derived.Laws.Pointers
import Derived.Laws.Entries
import Derived.Laws.BytesArg
import Derived.Test.YtnkjkpmbgoehkaaGreatQ19
namespace Go.Proofs.YtnkjkpmbgoehkaaGreat
open Go
set_option linter.unusedSimpArgs false
set_option linter.unusedVariables false
inductive SV where
 |load (k:IntKind)
 |store
 |add (k:IntKind)
 |cas (k:IntKind)
 |same
def SV.run:SV->Array Value->Sem Value
 | .load k=>Extern.Atomic.loadT (.int k)
 | .store=>Extern.Atomic.storeT
 | .add k=>Extern.Atomic.update (Op.intArith .add) k true
 | .cas k=>Extern.Atomic.casT (.int k)
 | .same=>Extern.AbiNoEscape.same
def XOk (P:Program) (f:Nat) (x:SV):Prop:=
 ∃fn,P.funcs[f]?=some fn/\(fn.name == "runtime.NumGoroutine")=false/\fn.body.isNone=true/\Extern.findNext fn=none/\Extern.find fn=some x.run
def Wf (hp:List ab) (r off:Nat):SV->Option (AV×List ab)
 | .load k=>(match hp[r]? with
  |some (.box cs)=>(match cs[off]? with
   |some (.ae (.int k' n))=>if k'=k then some (.ae (.int k n),hp) else none
   |_=>none)
  |_=>none)
 | .same=>some (.ptr r off,hp)
 |_=>none
def Wg (hp:List ab) (r off:Nat) (k1:IntKind) (y:Int):SV->Option (AV×List ab)
 | .store=>(match hp[r]? with
  |some (.box cs)=>if off<cs.length then some (.ae (.tuple #[]),hp.set r (.box (cs.set off (.ae (.int k1 y))))) else none
  |_=>none)
 | .add k=>(match hp[r]? with
  |some (.box cs)=>(match cs[off]? with
   |some (.ae (.int k' n))=>if k'=k/\k1=k then some (.ae (.int k (k.wrap (n+y))),hp.set r (.box (cs.set off (.ae (.int k (k.wrap (n+y))))))) else none
   |_=>none)
  |_=>none)
 |_=>none
def Wh (hp:List ab) (r off:Nat) (k1:IntKind) (y:Int) (k2:IntKind) (z:Int):SV->Option (AV×List ab)
 | .cas k=>(match hp[r]? with
  |some (.box cs)=>(match cs[off]? with
   |some (.ae (.int k' n))=>if k'=k/\k1=k/\k2=k then some (.ae (.bool (decide (n=y))),hp.set r (.box (cs.set off (.ae (.int k (if n=y then z else n)))))) else none
   |_=>none)
  |_=>none)
 |_=>none
def Xq (x:SV) (hp:List ab):List AV->Option (AV×List ab)
 | [.ptr r off]=>Wf hp r off x
 | [.ptr r off,.ae (.int k1 y)]=>Wg hp r off k1 y x
 | [.ptr r off,.ae (.int k1 y),.ae (.int k2 z)]=>Wh hp r off k1 y k2 z x
 |_=>none
variable {G:Type} {Γ:Env G} {s s':AS G} {a:Act} {w w':World} {η:List Value} {hp:List ab} {P:Program}
theorem xa (hr:Rel Γ s a w η) {r off b:Nat} {cs:List AV} {v:Value} (hb:s.hp[r]?=some (.box cs)) (eP:η[r]?=some (.pointer (some ⟨b,0,none⟩))) (hc:cs[off]?=some (.ae v)):
  w.cell? ⟨b,off,none⟩=some v/\w.frozen? ⟨b,off,none⟩=false:=by
 obtain⟨b',ws,T,he,hg,bO,gO⟩:=hr.heap.obj r _ _ hb eP;simp only[Value.pointer.injEq,alh,Addr.mk.injEq,and_true] at he;subst he;have aq:off<ws.size:=by rw[bO];exact(ali.1 hc).1
 have hu:ws[off]?=some ws[off]:=by simp[aq]
 have:=(gO off _ _ hc hu).1.aj;refine⟨?_,frozen_of_row w b off ws T hg⟩;rw[cell_of_row w b off ws T (0,0) hg,hu,this]
theorem Hk (al:Γ.Ok) {f:Nat} {x:SV} (hX:XOk Γ.P f x) {o:Oper} {c:Call} {y:Operand} (ho:o.op=.call c) (hc:c.callee=.value y) {caps:List AV} (cY:s.ev y=.bf f caps) {r:AV} {hp':List ab}
  (h:Xq x s.hp (c.args.toList.map s.ev++caps)=some (r,hp')):fS Γ o s r hp':=by
 intro a w η hr;obtain⟨fn,hf,iD,jD,bV,oJ⟩:=hX;have hyr:=hr.ev y;rw[cY] at hyr;generalize hv:a.eval y=v at hyr
 cases hyr with
 |bf _ _ vs hl dG=>
  have aw:(c.args.map a.eval++vs)=(c.args.toList.map a.eval++vs.toList).toArray:=by apply amy;simp
  have GH:bS w (aW Γ w η s.hp) η s.hp caps vs.toList:=cU (by simpa using hl) fun j y u hy hu=>dG j y u hy (by simpa using hu);have gA:=dR _ _ (gn hr c.args.toList) GH;have og:(execOp a.eval o).run Γ.P w=(callFunc f (c.args.toList.map a.eval++vs.toList).toArray).run Γ.P w:=by
   rw[<-aw];simp[execOp,ho,resolve,hc,hv,Deferred.ofValue,invoke]
  generalize c.args.toList.map a.eval++vs.toList=bg at gA og;have one:∀{r1 off:Nat} {l:List AV} {bg:List Value},bS w (aW Γ w η s.hp) η s.hp (.ptr r1 off::l) bg->∃b us,bg=.pointer (some ⟨b,off,none⟩)::us/\η[r1]?=some (.pointer (some ⟨b,0,none⟩))/\bS w (aW Γ w η s.hp) η s.hp l us:=by
   intro r1 off l bg h
   match bg,h with
   |u::us,h=>
    cases h.1 with
    |ptr _ _ b eP=>exact⟨b,us,rfl,eP,h.2⟩
  have ae:∀{u:Value} {l:List AV} {bg:List Value},bS w (aW Γ w η s.hp) η s.hp (.ae u::l) bg->∃us,bg=u::us/\bS w (aW Γ w η s.hp) η s.hp l us:=by
   intro u l bg h
   match bg,h with
   |u'::us,h=>exact⟨us,by rw[h.1.aj],h.2⟩
  have nil:∀{bg:List Value},bS w (aW Γ w η s.hp) η s.hp [] bg->bg=[]:=by
   intro bg h
   match bg,h with
   | [],_=>rfl
  unfold Xq at h;split at h
  ·rename_i r1 off hL;rw[hL] at gA;obtain⟨b,us,rfl,eP,mH⟩:=one gA;obtain rfl:=nil mH;unfold Wf at h;split at h
   ·rename_i k;split at h
    ·rename_i cs hb;split at h
     ·rename_i k' n aA;split at h
      ·rename_i hk;subst hk;simp only[alh,alk] at h;obtain⟨rfl,rfl⟩:=h;have uH:=(xa hr hb eP aA).1;exact⟨_,w,η,.inl (og.trans (run_call_load hf iD jD bV _ oJ uH)),hr,.ae _⟩
      ·cases h
     ·cases h
    ·cases h
   ·simp only[alh,alk] at h;obtain⟨rfl,rfl⟩:=h;refine⟨.pointer (some ⟨b,off,none⟩),w,η,.inl (og.trans ?_),hr,.ptr _ _ b eP⟩;rw[run_callFunc_extern hf iD jD bV oJ];rfl
   ·cases h
  ·rename_i r1 off k1 y1 hL;rw[hL] at gA;obtain⟨b,us,rfl,eP,mH⟩:=one gA;obtain⟨us',rfl,Hl⟩:=ae mH;obtain rfl:=nil Hl;unfold Wg at h;split at h
   ·split at h
    ·rename_i cs hb;split at h
     ·rename_i aq;simp only[alh,alk] at h;obtain⟨rfl,rfl⟩:=h;obtain⟨h1,h2,u',h3⟩:=hr.write al (off:=off) (v:=.int k1 y1) (x:=.ae (.int k1 y1)) hb eP aq rfl (.ae _);exact⟨_,_,η,.inl (og.trans (run_call_store hf iD jD bV oJ h3 h2)),h1,.ae _⟩
     ·cases h
    ·cases h
   ·rename_i k;split at h
    ·rename_i cs hb;split at h
     ·rename_i k' n aA;split at h
      ·rename_i hk;obtain⟨rfl,rfl⟩:=hk;simp only[alh,alk] at h;obtain⟨rfl,rfl⟩:=h;have uH:=(xa hr hb eP aA).1;obtain⟨h1,h2,_⟩:=hr.write al (off:=off) (v:=.int k1 (k1.wrap (n+y1))) (x:=.ae (.int k1 (k1.wrap (n+y1)))) hb eP (ali.1 aA).1 rfl (.ae _);exact⟨_,_,η,.inl (og.trans (run_call_add hf iD jD bV _ oJ uH h2 rfl)),h1,.ae _⟩
      ·cases h
     ·cases h
    ·cases h
   ·cases h
  ·rename_i r1 off k1 y1 k2 z1 hL;rw[hL] at gA;obtain⟨b,us,rfl,eP,mH⟩:=one gA;obtain⟨us',rfl,Hl⟩:=ae mH;obtain⟨ajg,rfl,Xr⟩:=ae Hl;obtain rfl:=nil Xr;unfold Wh at h;split at h
   ·rename_i k;split at h
    ·rename_i cs hb;split at h
     ·rename_i k' n aA;split at h
      ·rename_i hk;obtain⟨rfl,rfl,rfl⟩:=hk;simp only[alh,alk] at h;obtain⟨rfl,rfl⟩:=h;obtain⟨uH,hfz⟩:=xa hr hb eP aA
       by_cases hn:n=y1
       ·subst hn;obtain⟨h1,h2,_⟩:=hr.write al (off:=off) (v:=.int k2 z1) (x:=.ae (.int k2 z1)) hb eP (ali.1 aA).1 rfl (.ae _);rw[if_pos rfl,decide_eq_true rfl];exact⟨_,_,η,.inl (og.trans (run_call_cas_hit hf iD jD bV _ oJ uH hfz)),h1,.ae _⟩
       ·rw[if_neg hn,decide_eq_false hn];have vw:s.hp.set r1 (.box (cs.set off (.ae (.int k2 n))))=s.hp:=by
         have:cs.set off (.ae (.int k2 n))=cs:=by
          apply al9;intro i
          by_cases hi:off=i
          ·subst hi;rw[ai aA,aA]
          ·rw[getElem?_set_ne hi]
         rw[this];apply al9;intro i
         by_cases hi:r1=i
         ·subst hi;rw[ai hb,hb]
         ·rw[getElem?_set_ne hi]
        rw[vw];exact⟨_,w,η,.inl (og.trans (run_call_cas_miss hf iD jD bV _ oJ uH hfz hn)),hr,.ae _⟩
      ·cases h
     ·cases h
    ·cases h
   ·cases h
  ·cases h
def NW:AV->Bool
 | .ae (.pointer none)=>true
 |_=>false
def Xs (tab:Nat->Option TD) (ρ:Operand->AV):Op->Option AV
 | .binOp op T x y _=>(match tab T,A7 (ρ x),NW (ρ y) with
  |some d,some b,true=>(match d.kind with
   | .ptr _=>(match op with
    | .eql=>some (.ae (.bool b))
    | .neq=>some (.ae (.bool (!b)))
    |_=>none)
   |_=>none)
  |_,_,_=>none)
 | .convert S D x=>(match tab S,tab D,ρ x with
  |some _,some d,.ae (.int _ n)=>(match d.kind with
   | .int k=>some (.ae (.int k (k.wrap n)))
   |_=>none)
  |_,_,_=>none)
 |_=>none
theorem Hm {tab:Nat->Option TD} (ah:aL Γ.P tab) {o:Oper} {r:AV} (h:Xs tab s.ev o.op=some r):fE Γ o s r:=by
 generalize ho:o.op=op at h;unfold Xs at h;split at h
 ·rename_i bop T x y T';split at h
  ·rename_i d b hd hb hy;have Ba:s.ev y=.ae (.pointer none):=by
    unfold NW at hy;split at hy
    ·assumption
    ·cases hy
   split at h
   ·rename_i e hk;have hu:Γ.P.underlying T=some (.pointer (Γ.P.pointee T)):=by
     obtain⟨u,q2,q3⟩:=(ah T d hd).lj;rw[hk] at q3;have:Γ.P.underlying T=some (.pointer e):=by rw[q2];exact congrArg some q3
     rw[this,Program.pointee,this]
    split at h
    ·obtain rfl:=alj h;refine aH fun a w η hr=>?_;obtain⟨p,hp,Tg⟩:=pV hb (hr.ev x);have h2:=hr.ev y;rw[Ba] at h2;have h2:=h2.aj;refine⟨.bool b,?_,.ae _⟩;simp only[execOp,ho,hp,h2,eqGuard,aml,alx,if_false,Sem.run_bind,Sem.run_pure,Result.andThen_ok,run_eql_pointer_nil w T p hu,Tg]
    ·obtain rfl:=alj h;refine aH fun a w η hr=>?_;obtain⟨p,hp,Tg⟩:=pV hb (hr.ev x);have h2:=hr.ev y;rw[Ba] at h2;have h2:=h2.aj;refine⟨.bool (!b),?_,.ae _⟩;simp only[execOp,ho,hp,h2,eqGuard,aml,alx,if_false,Sem.run_bind,Sem.run_pure,Result.andThen_ok,run_neq_pointer_nil w T p hu,Tg]
    ·cases h
   ·cases h
  ·cases h
 ·rename_i S D x;split at h
  ·rename_i d1 d k n hS hD hx;split at h
   ·rename_i k2 hk;obtain rfl:=alj h;refine aH fun a w η hr=>?_;have h1:=hr.ev x;rw[hx] at h1;have h1:=h1.aj;obtain⟨u1,q1,_⟩:=(ah S d1 hS).lj;have hu:Γ.P.underlying D=some (.int k2):=by
     obtain⟨u,q2,q3⟩:=(ah D d hD).lj;rw[hk] at q3;rw[q2];exact congrArg some q3
    refine⟨.int k2 (k2.wrap n),?_,.ae _⟩;simp only[execOp,ho,h1,convert,Sem.run_bind,run_underlying q1,run_underlying hu,Result.andThen_ok];rfl
   ·cases h
  ·cases h
 ·cases h
def tQ:List AV->Option (List Int)
 | []=>some []
 | .ae (.int .u8 n)::l=>(match tQ l with|some zs=>some (n::zs)|none=>none)
 |_=>none
theorem xb:∀{l:List AV} {zs:List Int},tQ l=some zs->zs.length=l.length/\∀i,i<l.length->l[i]?=some (.ae (.int .u8 (zs.getD i 0)))
 | [],zs,h=>by cases h;exact⟨rfl,fun i hi=>by simp at hi⟩
 |x::l,zs,h=>by
  unfold tQ at h;split at h
  ·rename_i e;cases e
  ·rename_i n l' e;obtain⟨rfl,rfl⟩:=List.cons.inj e;split at h
   ·rename_i ys hy;obtain rfl:=alj h;obtain⟨h1,h2⟩:=xb hy;refine⟨by simp[h1],fun i hi=>?_⟩
    cases i with
    |zero=>rfl
    |succ i=>simpa using h2 i (by simpa using hi)
   ·cases h
  ·cases h
def xf:AV->Option (List Int)
 | .clip (x::l)=>tQ (x::l)
 | .sl (x::l)=>tQ (x::l)
 |_=>none
def NY (tab:Nat->Option TD) (hp:List ab) (ρ:Operand->AV):Op->Option (List Prop×AV×List ab)
 | .convert S D x=>(match tab S,tab D with
  |some d,some du=>(match d.kind,du.kind with
   | .kC e,.str=>(match tab e with
    |some de=>(match de.kind with
     | .int .u8=>(match xf (ρ x) with
      |some zs=>some ([],.ae (.string (strOfNums zs)),hp)
      |none=>none)
     |_=>none)
    |none=>none)
   | .str,.kC e=>(match tab e,ρ x with
    |some de,.ae (.string u)=>(match de.kind with
     | .int .u8=>some ([u.size<=140737488355328],.sl (iB u),hp)
     |_=>none)
    |_,_=>none)
   |_,_=>none)
  |_,_=>none)
 | .call c=>(match c.callee,c.args.toList,c.argTypes.toList with
  | .builtin .append,[b,x],[T,T']=>(match tab T,tab T',ρ b,ρ x with
   |some d,some du,.own r n,.ae (.string s)=>(match d.kind,du.kind,hp[r]? with
    | .kC e,.str,some (.row e' size els)=>(match tab e with
     |some d'=>(match d'.zero with
      | .int .u8 0=>if e'=e/\size=d'.size/\d'.size=1/\d'.bytes=1 then some ([n=els.length,els.length+s.size<=140737488355328],.own r (els++iB s).length,hp.set r (.row e size (els++iB s))) else none
      |_=>none)
     |none=>none)
    |_,_,_=>none)
   |_,_,_,_=>none)
  |_,_,_=>none)
 | .load T p=>(match tab T,ρ p with
  |some d,.ptr r 1=>(match d.kind,hp[r]? with
   | .kC _,some (.iz q n)=>if d.size=1 then some ([],.own q n,hp) else none
   |_,_=>none)
  |_,_=>none)
 | .store T p x=>(match tab T,ρ p,ρ x with
  |some d,.ptr r 1,.own q m=>(match d.kind,hp[r]? with
   | .kC _,some (.iz q' _)=>if d.size=1/\q'=q then some ([m≠0],.top,hp.set r (.iz q m)) else none
   |_,_=>none)
  |_,_,_=>none)
 | .box T x=>if T=zf then(match ρ x with
  | .agg [.ae (.pointer none),.ae (.slice none 0 0)]=>(match tab 5 with
   |some d=>(match d.zero with
    | .int .u8 0=>if d.size=1 then some ([],.ptr hp.length 0,hp++[.iz (hp.length+1) ([]:List AV).length,.row 5 1 []]) else none
    |_=>none)
   |none=>none)
  |_=>none) else none
 |_=>none
theorem DG (al:Γ.Ok) {tab:Nat->Option TD} (ah:aL Γ.P tab) {o:Oper} {c:Call} (ho:o.op=.call c) (hb:c.callee=.builtin .append) {b x:Operand} (hl:c.args.toList=[b,x]) {T T' e r:Nat} (hT:c.argTypes.toList=[T,T']) {d du d':TD} (hd:tab T=some d)
  (SW:tab T'=some du) (hk:d.kind=.kC e) (NZ:du.kind=.str) (dy:tab e=some d') (hz:d'.zero=.int .u8 0) (h1:d'.size=1) (h2:d'.bytes=1) {els:List AV} {u:ByteArray} (oL:s.ev b=.own r els.length) (hx:s.ev x=.ae (.string u)) (ea:s.hp[r]?=some (.row e d'.size els)) (hm:els.length+u.size<=140737488355328):
  fS Γ o s (.own r (els++iB u).length) (s.hp.set r (.row e d'.size (els++iB u))):=by
 intro a w η hr;have hu:Γ.P.underlying T=some (.slice e):=by
  obtain⟨u,q2,q3⟩:=(ah T d hd).lj;rw[hk] at q3;rw[q2];exact congrArg some q3
 have zo:Γ.P.underlying T'=some .string:=by
  obtain⟨u,q2,q3⟩:=(ah T' du SW).lj;rw[NZ] at q3;rw[q2];exact congrArg some q3
 have eo:=hr.ev x;rw[hx] at eo;have tB:=eo.aj;have I3:=hr.ev b;rw[oL] at I3;have tD:aR η s.hp r els.length (a.eval b):=by cases I3;assumption
 have oM:c.argTypes=#[T,T']:=by rw[<-alV (xs:=c.argTypes),hT]
 have aw:c.args=#[b,x]:=by rw[<-alV (xs:=c.args),hl]
 have hn:=GI (w:=w) (F:=aW Γ w η s.hp) (ty:=o.type) hu zo (ah e d' dy) h1 hz u;have zc:=tG u;obtain⟨v',w',aO,g1,g2,g3,g4⟩:=wG (M:=false) al hr (ah e d' dy) ea tD hn (fun y hy=>by
  rw[h1];simp only[iB,amg] at hy;obtain⟨q,_,rfl⟩:=hy
  rfl) (by rw[zc];unfold maxLen;omega) (by rw[zc,h2];omega)
 refine⟨v',w',aO,.inl ?_,g2,.own _ _ _ g3 ?_⟩
 ·rw[<-tB] at g1;simp only[execOp,ho,resolve,hb,Sem.run_bind,Sem.run_pure,Result.andThen_ok,invoke,builtin,oM,aw,amI,alQ,ama,g1]
 ·unfold aR;rw[ai ea];exact⟨alp _,fun _=>g4⟩
theorem K5 (al:Γ.Ok) {tab:Nat->Option TD} (ah:aL Γ.P tab) {o:Oper} {S D e:TypeId} {x:Operand} (ho:o.op=.convert S D x) {d du de:TD} (hd:tab S=some d) (SW:tab D=some du) (hk:d.kind=.kC e) (NZ:du.kind=.str) (Dc:tab e=some de) (N2:de.kind=.int .u8) {zs:List Int} (hx:xf (s.ev x)=some zs):
  fS Γ o s (.ae (.string (strOfNums zs))) s.hp:=by
 intro a w η hr;have hs:Γ.P.underlying S=some (.slice e):=by
  obtain⟨u,q2,q3⟩:=(ah S d hd).lj;rw[hk] at q3;rw[q2];exact congrArg some q3
 have hD:Γ.P.underlying D=some .string:=by
  obtain⟨u,q2,q3⟩:=(ah D du SW).lj;rw[NZ] at q3;rw[q2];exact congrArg some q3
 have hE:Γ.P.underlying e=some (.int .u8):=by
  obtain⟨u,q2,q3⟩:=(ah e de Dc).lj;rw[N2] at q3;rw[q2];exact congrArg some q3
 have Xt:=hr.ev x;obtain⟨y,l,Tw,hz⟩:∃y l,ba w (aW Γ w η s.hp) η s.hp (.sl (y::l)) (a.eval x)/\tQ (y::l)=some zs:=by
  unfold xf at hx;split at hx
  ·rename_i y l e;rw[e] at Xt;exact⟨y,l,Xt.ng,hx⟩
  ·rename_i y l e;rw[e] at Xt;exact⟨y,l,Xt,hx⟩
  ·cases hx
 obtain⟨Zu,SU⟩:=xb hz;generalize hv:a.eval x=v at Tw
 cases Tw with
 |sl size els b o c f hc hm hl aA SR=>
  have h0:size=1:=by
   have:=hl 0 _ (SU 0 (by simp));exact this.symm
  subst h0;have cell:∀i,i<(y::l).length->w.cell? ⟨b,o+i,none⟩=some (.int .u8 (zs.getD i 0)):=fun i hi=>by
   have h1:=(aA i _ 0 _ (SU i hi) rfl).1;have h2:=(SR i _ 0 _ (SU i hi) rfl).aj;rw[h2] at h1;simpa using h1
  have fY:=run_convert_bytes_arg (P:=Γ.P) w S e hs hE b o (y::l).length c zs Zu cell D hD;refine⟨.string (strOfNums zs),w,η,.inl ?_,hr,.ae _⟩;simp only[execOp,ho,hv,Sem.run_bind,fY,Result.andThen_ok];rfl
theorem Hn (al:Γ.Ok) {tab:Nat->Option TD} (ah:aL Γ.P tab) {o:Oper} {S D e:TypeId} {x:Operand} (ho:o.op=.convert S D x) {d du de:TD} (hd:tab S=some d) (SW:tab D=some du) (hk:d.kind=.str) (NZ:du.kind=.kC e) (Dc:tab e=some de) (N2:de.kind=.int .u8) {u:ByteArray}
  (hx:s.ev x=.ae (.string u)) (hm:u.size<=140737488355328):fS Γ o s (.sl (iB u)) s.hp:=by
 intro a w η hr;have hs:Γ.P.underlying S=some .string:=by
  obtain⟨u,q2,q3⟩:=(ah S d hd).lj;rw[hk] at q3;rw[q2];exact congrArg some q3
 have hD:Γ.P.underlying D=some (.slice e):=by
  obtain⟨u,q2,q3⟩:=(ah D du SW).lj;rw[NZ] at q3;rw[q2];exact congrArg some q3
 have hE:Γ.P.underlying e=some (.int .u8):=by
  obtain⟨u,q2,q3⟩:=(ah e de Dc).lj;rw[N2] at q3;rw[q2];exact congrArg some q3
 have Xt:=hr.ev x;rw[hx] at Xt;have tB:=Xt.aj;have fY:=Lib.run_convert_string_bytes (P:=Γ.P) w S D e u hs hD hE;have uE:bD w (Lib.bytesWorld w e u):=⟨by unfold Lib.bytesWorld World.freeze;split<;>rfl,by unfold Lib.bytesWorld World.freeze;split<;>rfl,by unfold Lib.bytesWorld World.freeze;split<;>rfl,by rw[Lib.bytesWorld_size];omega,fun k hk=>Lib.bytesWorld_at_old w e u k hk⟩;refine⟨_,_,η,.inl (by simp only[execOp,ho,tB,Sem.run_bind,fY,Result.andThen_ok];rfl),hr.same al uE,?_⟩;have hl:=tG u;have jc:∀k,aW Γ (Lib.bytesWorld w e u) η s.hp w.heap.size k:=fun k=>
  ⟨.inr (.inl hr.keeps.size),by rw[Lib.bytesWorld_size];omega,(IZ (T:=e) (cs:=#[]) hr k (fun _ _=>al.no)).2.2⟩
 have zd:∀(i:Nat) (y:AV),(iB u)[i]?=some y->∃c:UInt8,i<u.size/\u.data.toList.getD i 0=c/\y=.ae (.int .u8 c.toNat):=fun i y hi=>by
  simp only[iB,alu] at hi;obtain⟨c,hc,rfl⟩:=amb.1 hi;have aq:=(ali.1 hc).1;exact⟨c,by simpa using aq,by rw[amG,hc];rfl,rfl⟩
 have:=ba.sl (w:=Lib.bytesWorld w e u) (F:=aW Γ (Lib.bytesWorld w e u) η s.hp) (η:=η) (hp:=s.hp) 1 (iB u) w.heap.size 0 (grownCap w u.size 0 e) (fun i j=>.int .u8 (u.data.toList.getD i 0).toNat) (by rw[hl];exact grownCap_ge _ _ _ _) (grownCap_le_maxLen _ _ _ _ (by unfold maxLen;omega))
  (fun i y hi=>by obtain⟨c,_,_,rfl⟩:=zd i y hi;rfl) (fun i y j z hi hj=>by
   obtain⟨c,h1,h2,rfl⟩:=zd i y hi;have hj0:j=0:=by(have:=(ali.1 hj).1;simp[AV.cells] at this;omega)
   subst hj0;refine⟨?_,jc _,rfl⟩;rw[alM,amu,amh];exact Lib.bytesWorld_cell w e u i h1) (fun i y j z hi hj=>by
   obtain⟨c,h1,h2,rfl⟩:=zd i y hi;have hj0:j=0:=by(have:=(ali.1 hj).1;simp[AV.cells] at this;omega)
   subst hj0;rw[h2];obtain rfl:AV.ae (.int .u8 c.toNat)=z:=by simpa [AV.cells] using hj
   exact .ae _)
 rw[hl] at this;exact this
theorem N3 (al:Γ.Ok) {o:Oper} {x:Operand} (ho:o.op=.box zf x) (hx:s.ev x=.agg [.ae (.pointer none),.ae (.slice none 0 0)]):fS Γ o s (.ptr s.hp.length 0) (s.hp++[.iz (s.hp.length+1) 0,.row 5 1 []]):=by
 intro a w η hr;have eo:=hr.ev x;rw[hx] at eo;generalize hv:a.eval x=v at eo
 cases eo with
 |agg _ vs hl h1 SR=>
  have e0:vs[0]?=some (.pointer none):=by
   have:0<vs.size:=by rw[hl];simp
   have h2:=SR 0 _ _ rfl (al4 this);rw[al4 this,h2.aj]
  have e1:vs[1]?=some (.slice none 0 0):=by
   have:1<vs.size:=by rw[hl];simp
   have h2:=SR 1 _ _ rfl (al4 this);rw[al4 this,h2.aj]
  have uE:=bD.alloc w (.cells vs zf);have M0:=hr.heap.len;have hn:∀{r:Nat} {u:Value} {b:Nat},(η++[.pointer (some ⟨w.heap.size,0,none⟩),.slice none 0 0])[r]?=some u->cZ u=some b->(η[r]?=some u/\r<s.hp.length)\/(r=s.hp.length/\b=w.heap.size):=by
   intro r u b hu hb
   by_cases aq:r<η.length
   ·rw[alr aq] at hu;exact .inl ⟨hu,by omega⟩
   ·rw[alO (by omega)] at hu
    cases hk:r-η.length with
    |zero=>
     rw[hk] at hu;simp only[al8,alh] at hu;subst hu;simp only[cZ,alh] at hb;exact .inr ⟨by omega,hb.symm⟩
    |succ k=>
     rw[hk] at hu
     cases k with
     |zero=>simp at hu;subst hu;simp[cZ] at hb
     |succ k=>simp at hu
  have ho0:∀{r:Nat} {ob:ab},(s.hp++[ab.iz (s.hp.length+1) 0,.row 5 1 []])[r]?=some ob->(s.hp[r]?=some ob/\r<s.hp.length)\/(r=s.hp.length/\ob=.iz (s.hp.length+1) 0)\/(r=s.hp.length+1/\ob=.row 5 1 []):=by
   intro r ob ei
   by_cases aq:r<s.hp.length
   ·rw[alr aq] at ei;exact .inl ⟨ei,aq⟩
   ·rw[alO (by omega)] at ei
    cases hk:r-s.hp.length with
    |zero=>rw[hk] at ei;simp at ei;exact .inr (.inl ⟨by omega,ei.symm⟩)
    |succ k=>
     rw[hk] at ei
     cases k with
     |zero=>simp at ei;exact .inr (.inr ⟨by omega,ei.symm⟩)
     |succ k=>simp at ei
  have zr:(η++[Value.pointer (some ⟨w.heap.size,0,none⟩),.slice none 0 0])[s.hp.length]?=some (.pointer (some ⟨w.heap.size,0,none⟩)):=by
   rw[<-M0,alO (alp _)];simp
  have Zv:(η++[Value.pointer (some ⟨w.heap.size,0,none⟩),.slice none 0 0])[s.hp.length+1]?=some (.slice none 0 0):=by
   rw[<-M0,alO (by omega)];simp
  have gh1:(s.hp++[ab.iz (s.hp.length+1) 0,.row 5 1 []])[s.hp.length+1]?=some (.row 5 1 []):=by
   rw[alO (by omega)];simp
  have hold:∀{r:Nat} {u:Value},η[r]?=some u->(η++[Value.pointer (some ⟨w.heap.size,0,none⟩),.slice none 0 0])[r]?=some u:=fun hu=>by
   rw[alr (ali.1 hu).1];exact hu
  have he:Ext w (aW Γ w η s.hp) η s.hp (w.alloc (.cells vs zf)) (aW Γ (w.alloc (.cells vs zf)) (η++[.pointer (some ⟨w.heap.size,0,none⟩),.slice none 0 0]) (s.hp++[.iz (s.hp.length+1) 0,.row 5 1 []])) (η++[.pointer (some ⟨w.heap.size,0,none⟩),.slice none 0 0]) (s.hp++[.iz (s.hp.length+1) 0,.row 5 1 []]):=by
   refine⟨fun b k u hf hc=>by rw[World.cell?_of_block (uE.block b (eu hf))];exact hc,fun b es c hf hc=>by rw[uE.block b (eu hf)];exact hc,fun b k hf=>⟨hf.1,alJ hf.2.1 uE.size,hf.2.2.1,(aS b k).2 fun r u hu hb=>?_⟩,fun _ _ h=>hold h,fun _ _ h=>hold h,fun r n u ho=>?_⟩
   ·rcases hn hu hb with⟨g1,g2⟩|⟨_,g2⟩
    ·obtain⟨ob,q1,q2⟩:=(aS b k).1 hf.2.2.2 r u g1 hb;exact⟨ob,by rw[alr g2];exact q1,q2⟩
    ·have:=eu hf;omega
   ·unfold aR at ho ⊢
    cases Bi:s.hp[r]? with
    |none=>simp[Bi] at ho
    |some ob=>
     rw[alr (ali.1 Bi).1,Bi];rw[Bi] at ho
     cases ob with
     |row e z els=>exact⟨ho.1,fun Ta=>hold (ho.2 Ta)⟩
     |aQ e z els=>exact⟨ho.1,fun Ta=>hold (ho.2 Ta)⟩
     |eI e m ns=>exact⟨ho.1,fun Ta=>hold (ho.2 Ta)⟩
     |_=>exact ho
  refine⟨.pointer (some ⟨w.heap.size,0,none⟩),_,η++[.pointer (some ⟨w.heap.size,0,none⟩),.slice none 0 0],.inl (by simp[execOp,ho,hv,Instr.box,newVar,newRow,Value.cells];rfl),?_,.ptr _ 0 w.heap.size zr⟩;have ln:∀(r:Nat) (ob:ab) (u:Value) (b:Nat),s.hp[r]?=some ob->ob.live->η[r]?=some u->cZ u=some b->b<w.heap.size:=fun r ob u b g1 g2 g3 g4=>hr.heap.block g1 g2 g3 g4;refine⟨hr.nt,fun t=>(hr.tmps t).ext he,⟨by simp[M0],fun r ob u g1 g2=>?_,fun r r' o1 o2 u u' b bL g1 g2 l1 l2 g3 g4 hb fJ=>?_⟩,fun r ob u b g1 g2 g3 g4=>?_,hr.keeps.A2 uE,al.oC _ _ _ (fun b hb=>uE.block b (alJ (al.x b hb) hr.keeps.size)) uE.size hr.inv,(uE.keeps fun _=>False).marks hr.marks fun _ hf=>hf.elim,hr.ext.trans he⟩
  ·rcases ho0 g1 with⟨g3,g4⟩|⟨rfl,rfl⟩|⟨rfl,rfl⟩
   ·rw[alr (by omega)] at g2;exact(hr.heap.obj r ob u g3 g2).ext he uE.size fun b _ aq=>uE.block b aq
   ·rw[zr] at g2;obtain rfl:=alj g2;exact⟨w.heap.size,vs,rfl,heap_alloc_new w _,⟨hl,fun _=>e1⟩,.inl e0,_,e1,.own _ 0 _ rfl (by unfold aR;rw[gh1];exact⟨alp _,fun _=>Zv⟩)⟩
   ·rw[Zv] at g2;obtain rfl:=alj g2;exact⟨Nat.one_pos,[],⟨by simp,.inl ⟨rfl,.inl rfl⟩⟩,fun i el hi=>by simp at hi⟩
  ·rcases hn g3 hb with⟨p1,p2⟩|⟨p1,p2⟩
   ·rcases hn g4 fJ with⟨q1,q2⟩|⟨q1,q2⟩
    ·rw[alr p2] at g1;rw[alr q2] at g2;exact hr.heap.sep r r' o1 o2 u u' b bL g1 g2 l1 l2 p1 q1 hb fJ
    ·rw[alr p2] at g1;have:=ln r o1 u b g1 l1 p1 hb;omega
   ·rcases hn g4 fJ with⟨q1,q2⟩|⟨q1,q2⟩
    ·rw[alr q2] at g2;have:=ln r' o2 u' b g2 l2 q1 fJ;omega
    ·omega
  ·rcases hn g3 g4 with⟨p1,p2⟩|⟨p1,p2⟩
   ·rw[alr p2] at g1;exact hr.bN r ob u b g1 g2 p1 g4
   ·subst p2;exact⟨.inl hr.keeps.size,fun k hx=>by have:=al.no hx;have:=hr.keeps.size;omega⟩
theorem Bo (al:Γ.Ok) {tab:Nat->Option TD} (ah:aL Γ.P tab) {o:Oper} {T r q n:Nat} {p:Operand} (ho:o.op=.load T p) {d:TD} (hd:tab T=some d) (ha:d.kind.agg=false) (hp:s.ev p=.ptr r 1) (hb:s.hp[r]?=some (.iz q n)):fS Γ o s (.own q n) s.hp:=by
 intro a w η hr;have hx:=hr.ev p;rw[hp] at hx;generalize hv:a.eval p=v at hx
 cases hx with
 |ptr _ _ b eP=>
  obtain⟨b',vs,he,hg,⟨bO,_⟩,_,u,hu,dG⟩:=hr.heap.obj r _ _ hb eP;simp only[Value.pointer.injEq,alh,Addr.mk.injEq,and_true] at he;subst he;have h1:u.oneCell'=true:=by cases dG;assumption
  have MH:=ah.sz hd ha;have Wi:=kG (P:=Γ.P) (ah T d hd) (o:=1) (tL hg) (by rw[MH,alY,bO];decide);have e:((vs.toList.drop 1).take d.size).headD undef=u:=by
   rw[MH];have h2:vs.toList[1]?=some u:=by simpa using hu
   cases hl:vs.toList with
   |nil=>rw[hl] at h2;simp at h2
   |cons x l=>
    rw[hl] at h2
    cases l with
    |nil=>simp at h2
    |cons y l=>simp at h2;subst h2;rfl
  rw[ha,e] at Wi;refine⟨u,w,η,.inl ?_,hr,dG⟩;simp only[execOp,ho,hv,Instr.loadAt,Instr.sureAddr,Sem.run_bind,Sem.run_pure,Result.andThen_ok];rw[Wi];rfl
theorem Rel.N4 (al:Γ.Ok) (h:Rel Γ s a w η) {r q n m b:Nat} {v:Value} (hm:m≠0) (hr:s.hp[r]?=some (.iz q n)) (hv:η[r]?=some (.pointer (some ⟨b,0,none⟩))) (hx:ba w (aW Γ w η s.hp) η s.hp (.own q m) v):
  Rel Γ { s with hp:=s.hp.set r (.iz q m) } a (w.setCell ⟨b,1,none⟩ v) η/\w.frozen? ⟨b,1,none⟩=false/\∃u,w.cell? ⟨b,1,none⟩=some u:=by
 obtain⟨b',vs,he,hg,⟨bO,_⟩,h0,u,hu,dG⟩:=h.heap.obj r _ _ hr hv;simp only[Value.pointer.injEq,alh,Addr.mk.injEq,and_true] at he;subst he;have vw:(w.setCell ⟨b,1,none⟩ v).heap[b]?=some (.cells (vs.setIfInBounds 1 v) zf (0,0)):=Go.heap_setCell_same w b 1 vs zf v hg;have eP:η.set r (.pointer (some ⟨b,0,none⟩))=η:=by
  apply al9;intro i
  by_cases hi:r=i
  ·subst hi;rw[ai hv,hv]
  ·rw[getElem?_set_ne hi]
 refine⟨?_,frozen_of_row w b 1 vs zf hg,?_⟩
 ·have:=Rel.change (w':=w.setCell ⟨b,1,none⟩ v) (o':=.iz q m) (v':=.pointer (some ⟨b,0,none⟩)) al h hr True.intro hv
   ⟨rfl,rfl,rfl,by simp[World.setCell],fun k hk hb=>amN w _ k v (by intro e;exact hb (by rw[e];rfl))⟩
   (fun c hc=>.inl hc) (fun k hk=>hk.elim) (fun _ _ _ _ hk=>hk.elim) (fun _ _ _ _ hk=>hk.elim)
   (fun n u ho=>by simp[aR,hr] at ho)
   (fun _ _=>rfl) (fun _ hx=>by cases hx)
   (fun c d hb hd=>by simp only[cZ,alh] at hb;subst hb;rw[hg] at hd;cases hd)
   (fun he=>⟨b,vs.setIfInBounds 1 v,rfl,vw,⟨by simp[bO],fun e=>(hm e).elim⟩,by rw[amE];simpa using h0,v,by rw[amE];simp[bO],hx.ext he⟩)
  rw[eP] at this;exact this
 ·rw[cell_of_row w b 1 vs zf (0,0) hg];exact⟨u,hu⟩
theorem zt (al:Γ.Ok) {tab:Nat->Option TD} (ah:aL Γ.P tab) {o:Oper} {T r q n m:Nat} {p x:Operand} (ho:o.op=.store T p x) {d:TD} (hd:tab T=some d) (h1:d.size=1) (hm:m≠0) (hp:s.ev p=.ptr r 1) (hx:s.ev x=.own q m) (hb:s.hp[r]?=some (.iz q n)):fS Γ o s .top (s.hp.set r (.iz q m)):=by
 intro a w η hr;have qq:=hr.ev p;rw[hp] at qq;have eo:=hr.ev x;rw[hx] at eo;generalize hv:a.eval p=v at qq
 cases qq with
 |ptr _ _ b eP=>
  obtain⟨g1,g2,u,g3⟩:=hr.N4 al hm hb eP eo;have zk:(a.eval x).oneCell'=true:=by cases eo;assumption
  have Bp:(a.eval x).cells=#[a.eval x]:=by cases hq:a.eval x<;>simp_all [Value.cells,Value.oneCell']
  refine⟨undef,_,η,.inr ⟨?_,rfl⟩,g1,.top _⟩;simp only[execOp,ho,hv,Instr.storeAt,Instr.sureAddr,Sem.run_bind,Sem.run_pure,Result.andThen_ok,storeVar,(ah T d hd).run_sizeOf,h1,Bp,List.size_toArray,als,al5,alM,ne_eq,not_true_eq_false,if_false,storeCells,Addr.add_lit];rw[run_store _ _ _ _ _ zk,amh,g3];simp only[g2,alx,if_false,Result.andThen_ok]
theorem N5 (al:Γ.Ok) {tab:Nat->Option TD} (ah:aL Γ.P tab) {o:Oper} {l:List Prop} {r:AV} {hp':List ab} (h:NY tab s.hp s.ev o.op=some (l,r,hp')) (hc:∀p∈l,p):fS Γ o s r hp':=by
 generalize ho:o.op=op at h;unfold NY at h;split at h
 ·rename_i S D x;split at h
  ·rename_i d du hd SW;split at h
   ·rename_i e hk NZ;split at h
    ·rename_i de Dc;split at h
     ·rename_i N2;split at h
      ·rename_i zs hz;simp only[alh,alk] at h;obtain⟨_,rfl,rfl⟩:=h;exact K5 al ah ho hd SW hk NZ Dc N2 hz
      ·cases h
     ·cases h
    ·cases h
   ·rename_i e hk NZ;split at h
    ·rename_i de u Dc hx;split at h
     ·rename_i N2;simp only[alh,alk] at h;obtain⟨rfl,rfl,rfl⟩:=h;exact Hn al ah ho hd SW hk NZ Dc N2 hx (hc _ alD)
     ·cases h
    ·cases h
   ·cases h
  ·cases h
 ·rename_i c;split at h
  ·rename_i b x T T' Bq aw dZ;split at h
   ·rename_i d du r' n u hd SW oL hx;split at h
    ·rename_i e e' size els hk NZ ea;split at h
     ·rename_i d' dy;split at h
      ·rename_i hz;split at h
       ·rename_i oK;obtain⟨rfl,rfl,h1,h2⟩:=oK;simp only[alh,alk] at h;obtain⟨rfl,rfl,rfl⟩:=h;have e1:=hc _ (alD);have e2:=hc _ (alK _ alD);rw[e1] at oL;exact DG al ah ho Bq aw dZ hd SW hk NZ dy hz h1 h2 oL hx ea e2
       ·cases h
      ·cases h
     ·cases h
    ·cases h
   ·cases h
  ·cases h
 ·rename_i T p;split at h
  ·rename_i d r' hd hp;split at h
   ·rename_i e q n hk hb;split at h
    ·simp only[alh,alk] at h;obtain⟨_,rfl,rfl⟩:=h;exact Bo al ah ho hd (by rw[hk];rfl) hp hb
    ·cases h
   ·cases h
  ·cases h
 ·rename_i T p x;split at h
  ·rename_i d r' q m hd hp hx;split at h
   ·rename_i e q' n hk hb;split at h
    ·rename_i oK;obtain⟨h1,rfl⟩:=oK;simp only[alh,alk] at h;obtain⟨rfl,rfl,rfl⟩:=h;exact zt al ah ho hd h1 (hc _ alD) hp hx hb
    ·cases h
   ·cases h
  ·cases h
 ·rename_i T x;split at h
  ·rename_i hT;subst hT;split at h
   ·rename_i hx;split at h
    ·split at h
     ·split at h
      ·simp only[alh,alk] at h;obtain⟨_,rfl,rfl⟩:=h;exact N3 al ho hx
      ·cases h
     ·cases h
    ·cases h
   ·cases h
  ·cases h
 ·cases h
end Go.Proofs.YtnkjkpmbgoehkaaGreat
