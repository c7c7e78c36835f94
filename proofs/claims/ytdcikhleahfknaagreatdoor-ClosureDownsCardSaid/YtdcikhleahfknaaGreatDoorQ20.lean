/- Texts of ours laid together for a claim: VcO. -/
import Derived.Lib.ConvBytes
import Derived.Laws.LoneSync
import Derived.Laws.Pointers
import Derived.Laws.Entries
import Derived.Laws.BytesArg
import Derived.Test.YtdcikhleahfknaaGreatDoorQ19
namespace Go.Proofs.YtdcikhleahfknaaGreatDoor
open Go
set_option linter.unusedSimpArgs false
set_option linter.unusedVariables false
inductive SB where
 |load (k:IntKind)
 |store
 |add (k:IntKind)
 |cas (k:IntKind)
 |same
def SB.run:SB->Array Value->Sem Value
 | .load k=>Extern.Atomic.loadT (.int k)
 | .store=>Extern.Atomic.storeT
 | .add k=>Extern.Atomic.update (Op.intArith .add) k true
 | .cas k=>Extern.Atomic.casT (.int k)
 | .same=>Extern.AbiNoEscape.same
def XOk (P:Program) (f:Nat) (x:SB):Prop:=
 ∃fn,P.funcs[f]?=some fn/\(fn.name == "runtime.NumGoroutine")=false/\fn.body.isNone=true/\Extern.findNext fn=none/\Extern.find fn=some x.run
def Xb (hp:List af) (r off:Nat):SB->Option (AV×List af)
 | .load k=>(match hp[r]? with
  |some (.box cs)=>(match cs[off]? with
   |some (.ae (.int k' n))=>if k'=k then some (.ae (.int k n),hp) else none
   |_=>none)
  |_=>none)
 | .same=>some (.ptr r off,hp)
 |_=>none
def Xc (hp:List af) (r off:Nat) (k1:IntKind) (y:Int):SB->Option (AV×List af)
 | .store=>(match hp[r]? with
  |some (.box cs)=>if off<cs.length then some (.ae (.tuple #[]),hp.set r (.box (cs.set off (.ae (.int k1 y))))) else none
  |_=>none)
 | .add k=>(match hp[r]? with
  |some (.box cs)=>(match cs[off]? with
   |some (.ae (.int k' n))=>if k'=k/\k1=k then some (.ae (.int k (k.wrap (n+y))),hp.set r (.box (cs.set off (.ae (.int k (k.wrap (n+y))))))) else none
   |_=>none)
  |_=>none)
 |_=>none
def Xd (hp:List af) (r off:Nat) (k1:IntKind) (y:Int) (k2:IntKind) (z:Int):SB->Option (AV×List af)
 | .cas k=>(match hp[r]? with
  |some (.box cs)=>(match cs[off]? with
   |some (.ae (.int k' n))=>if k'=k/\k1=k/\k2=k then some (.ae (.bool (decide (n=y))),hp.set r (.box (cs.set off (.ae (.int k (if n=y then z else n)))))) else none
   |_=>none)
  |_=>none)
 |_=>none
def Yn (x:SB) (hp:List af):List AV->Option (AV×List af)
 | [.ptr r off]=>Xb hp r off x
 | [.ptr r off,.ae (.int k1 y)]=>Xc hp r off k1 y x
 | [.ptr r off,.ae (.int k1 y),.ae (.int k2 z)]=>Xd hp r off k1 y k2 z x
 |_=>none
variable {G:Type} {Γ:Env G} {s s':AS G} {a:Act} {w w':World} {η:List Value} {hp:List af} {P:Program}
theorem xf (hr:Rel Γ s a w η) {r off b:Nat} {cs:List AV} {v:Value} (hb:s.hp[r]?=some (.box cs)) (dR:η[r]?=some (.pointer (some ⟨b,0,none⟩))) (hc:cs[off]?=some (.ae v)):
  w.cell? ⟨b,off,none⟩=some v/\w.frozen? ⟨b,off,none⟩=false:=by
 obtain⟨b',ws,T,he,hg,bN,fO⟩:=hr.heap.obj r _ _ hb dR;simp only[Value.pointer.injEq,als,Addr.mk.injEq,and_true] at he;subst he;have ak:off<ws.size:=by rw[bN];exact(alu.1 hc).1
 have hu:ws[off]?=some ws[off]:=by simp[ak]
 have:=(fO off _ _ hc hu).1.ay;refine⟨?_,frozen_of_row w b off ws T hg⟩;rw[cell_of_row w b off ws T (0,0) hg,hu,this]
theorem HB (ax:Γ.Ok) {f:Nat} {x:SB} (hX:XOk Γ.P f x) {o:Oper} {c:Call} {y:Operand} (ho:o.op=.call c) (hc:c.callee=.value y) {caps:List AV} (dx:s.ev y=.aY f caps) {r:AV} {hp':List af}
  (h:Yn x s.hp (c.args.toList.map s.ev++caps)=some (r,hp')):fA Γ o s r hp':=by
 intro a w η hr;obtain⟨fn,hf,fD,gR,bS,oA⟩:=hX;have hyr:=hr.ev y;rw[dx] at hyr;generalize hv:a.eval y=v at hyr
 cases hyr with
 |aY _ _ vs hl cX=>
  have aF:(c.args.map a.eval++vs)=(c.args.toList.map a.eval++vs.toList).toArray:=by apply amT;simp
  have tG:bZ w (bk Γ w η s.hp) η s.hp caps vs.toList:=cF (by simpa using hl) fun j y u hy hu=>cX j y u hy (by simpa using hu);have gy:=dI _ _ (gk hr c.args.toList) tG;have nT:(execOp a.eval o).run Γ.P w=(callFunc f (c.args.toList.map a.eval++vs.toList).toArray).run Γ.P w:=by
   rw[<-aF];simp[execOp,ho,resolve,hc,hv,Deferred.ofValue,invoke]
  generalize c.args.toList.map a.eval++vs.toList=bb at gy nT;have one:∀{r1 off:Nat} {l:List AV} {bb:List Value},bZ w (bk Γ w η s.hp) η s.hp (.ptr r1 off::l) bb->∃b us,bb=.pointer (some ⟨b,off,none⟩)::us/\η[r1]?=some (.pointer (some ⟨b,0,none⟩))/\bZ w (bk Γ w η s.hp) η s.hp l us:=by
   intro r1 off l bb h
   match bb,h with
   |u::us,h=>
    cases h.1 with
    |ptr _ _ b dR=>exact⟨b,us,rfl,dR,h.2⟩
  have ae:∀{u:Value} {l:List AV} {bb:List Value},bZ w (bk Γ w η s.hp) η s.hp (.ae u::l) bb->∃us,bb=u::us/\bZ w (bk Γ w η s.hp) η s.hp l us:=by
   intro u l bb h
   match bb,h with
   |u'::us,h=>exact⟨us,by rw[h.1.ay],h.2⟩
  have nil:∀{bb:List Value},bZ w (bk Γ w η s.hp) η s.hp [] bb->bb=[]:=by
   intro bb h
   match bb,h with
   | [],_=>rfl
  unfold Yn at h;split at h
  ·rename_i r1 off hL;rw[hL] at gy;obtain⟨b,us,rfl,dR,mn⟩:=one gy;obtain rfl:=nil mn;unfold Xb at h;split at h
   ·rename_i k;split at h
    ·rename_i cs hb;split at h
     ·rename_i k' n aE;split at h
      ·rename_i hk;subst hk;simp only[als,alx] at h;obtain⟨rfl,rfl⟩:=h;have DH:=(xf hr hb dR aE).1;exact⟨_,w,η,.inl (nT.trans (run_call_load hf fD gR bS _ oA DH)),hr,.ae _⟩
      ·cases h
     ·cases h
    ·cases h
   ·simp only[als,alx] at h;obtain⟨rfl,rfl⟩:=h;refine⟨.pointer (some ⟨b,off,none⟩),w,η,.inl (nT.trans ?_),hr,.ptr _ _ b dR⟩;rw[run_callFunc_extern hf fD gR bS oA];rfl
   ·cases h
  ·rename_i r1 off k1 y1 hL;rw[hL] at gy;obtain⟨b,us,rfl,dR,mn⟩:=one gy;obtain⟨us',rfl,HC⟩:=ae mn;obtain rfl:=nil HC;unfold Xc at h;split at h
   ·split at h
    ·rename_i cs hb;split at h
     ·rename_i ak;simp only[als,alx] at h;obtain⟨rfl,rfl⟩:=h;obtain⟨h1,h2,u',h3⟩:=hr.write ax (off:=off) (v:=.int k1 y1) (x:=.ae (.int k1 y1)) hb dR ak rfl (.ae _);exact⟨_,_,η,.inl (nT.trans (run_call_store hf fD gR bS oA h3 h2)),h1,.ae _⟩
     ·cases h
    ·cases h
   ·rename_i k;split at h
    ·rename_i cs hb;split at h
     ·rename_i k' n aE;split at h
      ·rename_i hk;obtain⟨rfl,rfl⟩:=hk;simp only[als,alx] at h;obtain⟨rfl,rfl⟩:=h;have DH:=(xf hr hb dR aE).1;obtain⟨h1,h2,_⟩:=hr.write ax (off:=off) (v:=.int k1 (k1.wrap (n+y1))) (x:=.ae (.int k1 (k1.wrap (n+y1)))) hb dR (alu.1 aE).1 rfl (.ae _);exact⟨_,_,η,.inl (nT.trans (run_call_add hf fD gR bS _ oA DH h2 rfl)),h1,.ae _⟩
      ·cases h
     ·cases h
    ·cases h
   ·cases h
  ·rename_i r1 off k1 y1 k2 z1 hL;rw[hL] at gy;obtain⟨b,us,rfl,dR,mn⟩:=one gy;obtain⟨us',rfl,HC⟩:=ae mn;obtain⟨ajf,rfl,Yo⟩:=ae HC;obtain rfl:=nil Yo;unfold Xd at h;split at h
   ·rename_i k;split at h
    ·rename_i cs hb;split at h
     ·rename_i k' n aE;split at h
      ·rename_i hk;obtain⟨rfl,rfl,rfl⟩:=hk;simp only[als,alx] at h;obtain⟨rfl,rfl⟩:=h;obtain⟨DH,hfz⟩:=xf hr hb dR aE
       by_cases hn:n=y1
       ·subst hn;obtain⟨h1,h2,_⟩:=hr.write ax (off:=off) (v:=.int k2 z1) (x:=.ae (.int k2 z1)) hb dR (alu.1 aE).1 rfl (.ae _);rw[if_pos rfl,decide_eq_true rfl];exact⟨_,_,η,.inl (nT.trans (run_call_cas_hit hf fD gR bS _ oA DH hfz)),h1,.ae _⟩
       ·rw[if_neg hn,decide_eq_false hn];have qf:s.hp.set r1 (.box (cs.set off (.ae (.int k2 n))))=s.hp:=by
         have:cs.set off (.ae (.int k2 n))=cs:=by
          apply ams;intro i
          by_cases hi:off=i
          ·subst hi;rw[au aE,aE]
          ·rw[getElem?_set_ne hi]
         rw[this];apply ams;intro i
         by_cases hi:r1=i
         ·subst hi;rw[au hb,hb]
         ·rw[getElem?_set_ne hi]
        rw[qf];exact⟨_,w,η,.inl (nT.trans (run_call_cas_miss hf fD gR bS _ oA DH hfz hn)),hr,.ae _⟩
      ·cases h
     ·cases h
    ·cases h
   ·cases h
  ·cases h
def NW:AV->Bool
 | .ae (.pointer none)=>true
 |_=>false
def Yp (tab:Nat->Option TD) (ρ:Operand->AV):Op->Option AV
 | .binOp op T x y _=>(match tab T,Be (ρ x),NW (ρ y) with
  |some d,some b,true=>(match d.kind with
   | .ptr _=>(match op with
    | .eql=>some (.ae (.bool b))
    | .neq=>some (.ae (.bool (!b)))
    |_=>none)
   |_=>none)
  |_,_,_=>none)
 | .convert S D x=>(match tab S,tab D,ρ x with
  |some _,some d,.ae (.int _ n)=>(match d.kind with
   | .int k=>some (.ae (.int k (k.wrap n)))
   |_=>none)
  |_,_,_=>none)
 |_=>none
theorem HD {tab:Nat->Option TD} (aj:aZ Γ.P tab) {o:Oper} {r:AV} (h:Yp tab s.ev o.op=some r):fb Γ o s r:=by
 generalize ho:o.op=op at h;unfold Yp at h;split at h
 ·rename_i bop T x y T';split at h
  ·rename_i d b hd hb hy;have GY:s.ev y=.ae (.pointer none):=by
    unfold NW at hy;split at hy
    ·assumption
    ·cases hy
   split at h
   ·rename_i e hk;have hu:Γ.P.underlying T=some (.pointer (Γ.P.pointee T)):=by
     obtain⟨u,q2,q3⟩:=(aj T d hd).kC;rw[hk] at q3;have:Γ.P.underlying T=some (.pointer e):=by rw[q2];exact congrArg some q3
     rw[this,Program.pointee,this]
    split at h
    ·obtain rfl:=alw h;refine aX fun a w η hr=>?_;obtain⟨p,hp,SU⟩:=pJ hb (hr.ev x);have h2:=hr.ev y;rw[GY] at h2;have h2:=h2.ay;refine⟨.bool b,?_,.ae _⟩;simp only[execOp,ho,hp,h2,eqGuard,amX,alQ,if_false,Sem.run_bind,Sem.run_pure,Result.andThen_ok,run_eql_pointer_nil w T p hu,SU]
    ·obtain rfl:=alw h;refine aX fun a w η hr=>?_;obtain⟨p,hp,SU⟩:=pJ hb (hr.ev x);have h2:=hr.ev y;rw[GY] at h2;have h2:=h2.ay;refine⟨.bool (!b),?_,.ae _⟩;simp only[execOp,ho,hp,h2,eqGuard,amX,alQ,if_false,Sem.run_bind,Sem.run_pure,Result.andThen_ok,run_neq_pointer_nil w T p hu,SU]
    ·cases h
   ·cases h
  ·cases h
 ·rename_i S D x;split at h
  ·rename_i d1 d k n hS hD hx;split at h
   ·rename_i k2 hk;obtain rfl:=alw h;refine aX fun a w η hr=>?_;have h1:=hr.ev x;rw[hx] at h1;have h1:=h1.ay;obtain⟨u1,q1,_⟩:=(aj S d1 hS).kC;have hu:Γ.P.underlying D=some (.int k2):=by
     obtain⟨u,q2,q3⟩:=(aj D d hD).kC;rw[hk] at q3;rw[q2];exact congrArg some q3
    refine⟨.int k2 (k2.wrap n),?_,.ae _⟩;simp only[execOp,ho,h1,convert,Sem.run_bind,run_underlying q1,run_underlying hu,Result.andThen_ok];rfl
   ·cases h
  ·cases h
 ·cases h
def tP:List AV->Option (List Int)
 | []=>some []
 | .ae (.int .u8 n)::l=>(match tP l with|some zs=>some (n::zs)|none=>none)
 |_=>none
theorem xg:∀{l:List AV} {zs:List Int},tP l=some zs->zs.length=l.length/\∀i,i<l.length->l[i]?=some (.ae (.int .u8 (zs.getD i 0)))
 | [],zs,h=>by cases h;exact⟨rfl,fun i hi=>by simp at hi⟩
 |x::l,zs,h=>by
  unfold tP at h;split at h
  ·rename_i e;cases e
  ·rename_i n l' e;obtain⟨rfl,rfl⟩:=List.cons.inj e;split at h
   ·rename_i ys hy;obtain rfl:=alw h;obtain⟨h1,h2⟩:=xg hy;refine⟨by simp[h1],fun i hi=>?_⟩
    cases i with
    |zero=>rfl
    |succ i=>simpa using h2 i (by simpa using hi)
   ·cases h
  ·cases h
def xh:AV->Option (List Int)
 | .clip (x::l)=>tP (x::l)
 | .sl (x::l)=>tP (x::l)
 |_=>none
def NY (tab:Nat->Option TD) (hp:List af) (ρ:Operand->AV):Op->Option (List Prop×AV×List af)
 | .convert S D x=>(match tab S,tab D with
  |some d,some du=>(match d.kind,du.kind with
   | .jS e,.str=>(match tab e with
    |some de=>(match de.kind with
     | .int .u8=>(match xh (ρ x) with
      |some zs=>some ([],.ae (.string (strOfNums zs)),hp)
      |none=>none)
     |_=>none)
    |none=>none)
   | .str,.jS e=>(match tab e,ρ x with
    |some de,.ae (.string u)=>(match de.kind with
     | .int .u8=>some ([u.size<=140737488355328],.sl (bh u),hp)
     |_=>none)
    |_,_=>none)
   |_,_=>none)
  |_,_=>none)
 | .call c=>(match c.callee,c.args.toList,c.argTypes.toList with
  | .builtin .append,[b,x],[T,T']=>(match tab T,tab T',ρ b,ρ x with
   |some d,some du,.own r n,.ae (.string s)=>(match d.kind,du.kind,hp[r]? with
    | .jS e,.str,some (.row e' size els)=>(match tab e with
     |some d'=>(match d'.zero with
      | .int .u8 0=>if e'=e/\size=d'.size/\d'.size=1/\d'.bytes=1 then some ([n=els.length,els.length+s.size<=140737488355328],.own r (els++bh s).length,hp.set r (.row e size (els++bh s))) else none
      |_=>none)
     |none=>none)
    |_,_,_=>none)
   |_,_,_,_=>none)
  |_,_,_=>none)
 | .load T p=>(match tab T,ρ p with
  |some d,.ptr r 1=>(match d.kind,hp[r]? with
   | .jS _,some (.cU q n)=>if d.size=1 then some ([],.own q n,hp) else none
   |_,_=>none)
  |_,_=>none)
 | .store T p x=>(match tab T,ρ p,ρ x with
  |some d,.ptr r 1,.own q m=>(match d.kind,hp[r]? with
   | .jS _,some (.cU q' _)=>if d.size=1/\q'=q then some ([m≠0],.top,hp.set r (.cU q m)) else none
   |_,_=>none)
  |_,_,_=>none)
 | .box T x=>if T=wE then(match ρ x with
  | .agg [.ae (.pointer none),.ae (.slice none 0 0)]=>(match tab 5 with
   |some d=>(match d.zero with
    | .int .u8 0=>if d.size=1 then some ([],.ptr hp.length 0,hp++[.cU (hp.length+1) ([]:List AV).length,.row 5 1 []]) else none
    |_=>none)
   |none=>none)
  |_=>none) else none
 |_=>none
theorem D8 (ax:Γ.Ok) {tab:Nat->Option TD} (aj:aZ Γ.P tab) {o:Oper} {c:Call} (ho:o.op=.call c) (hb:c.callee=.builtin .append) {b x:Operand} (hl:c.args.toList=[b,x]) {T T' e r:Nat} (hT:c.argTypes.toList=[T,T']) {d du d':TD} (hd:tab T=some d)
  (SC:tab T'=some du) (hk:d.kind=.jS e) (NZ:du.kind=.str) (dv:tab e=some d') (hz:d'.zero=.int .u8 0) (h1:d'.size=1) (h2:d'.bytes=1) {els:List AV} {u:ByteArray} (oB:s.ev b=.own r els.length) (hx:s.ev x=.ae (.string u)) (cy:s.hp[r]?=some (.row e d'.size els)) (hm:els.length+u.size<=140737488355328):
  fA Γ o s (.own r (els++bh u).length) (s.hp.set r (.row e d'.size (els++bh u))):=by
 intro a w η hr;have hu:Γ.P.underlying T=some (.slice e):=by
  obtain⟨u,q2,q3⟩:=(aj T d hd).kC;rw[hk] at q3;rw[q2];exact congrArg some q3
 have W3:Γ.P.underlying T'=some .string:=by
  obtain⟨u,q2,q3⟩:=(aj T' du SC).kC;rw[NZ] at q3;rw[q2];exact congrArg some q3
 have dO:=hr.ev x;rw[hx] at dO;have tC:=dO.ay;have JB:=hr.ev b;rw[oB] at JB;have qe:aT η s.hp r els.length (a.eval b):=by cases JB;assumption
 have oC:c.argTypes=#[T,T']:=by rw[<-ami (xs:=c.argTypes),hT]
 have aF:c.args=#[b,x]:=by rw[<-ami (xs:=c.args),hl]
 have hn:=G8 (w:=w) (F:=bk Γ w η s.hp) (ty:=o.type) hu W3 (aj e d' dv) h1 hz u;have qg:=eM u;obtain⟨v',w',aN,g1,g2,g3,g4⟩:=wI (M:=false) ax hr (aj e d' dv) cy qe hn (fun y hy=>by
  rw[h1];simp only[bh,amz] at hy;obtain⟨q,_,rfl⟩:=hy
  rfl) (by rw[qg];unfold maxLen;omega) (by rw[qg,h2];omega)
 refine⟨v',w',aN,.inl ?_,g2,.own _ _ _ g3 ?_⟩
 ·rw[<-tC] at g1;simp only[execOp,ho,resolve,hb,Sem.run_bind,Sem.run_pure,Result.andThen_ok,invoke,builtin,oC,aF,am2,al3,aml,g1]
 ·unfold aT;rw[au cy];exact⟨alA _,fun _=>g4⟩
theorem Lp (ax:Γ.Ok) {tab:Nat->Option TD} (aj:aZ Γ.P tab) {o:Oper} {S D e:TypeId} {x:Operand} (ho:o.op=.convert S D x) {d du de:TD} (hd:tab S=some d) (SC:tab D=some du) (hk:d.kind=.jS e) (NZ:du.kind=.str) (DA:tab e=some de) (D9:de.kind=.int .u8) {zs:List Int} (hx:xh (s.ev x)=some zs):
  fA Γ o s (.ae (.string (strOfNums zs))) s.hp:=by
 intro a w η hr;have hs:Γ.P.underlying S=some (.slice e):=by
  obtain⟨u,q2,q3⟩:=(aj S d hd).kC;rw[hk] at q3;rw[q2];exact congrArg some q3
 have hD:Γ.P.underlying D=some .string:=by
  obtain⟨u,q2,q3⟩:=(aj D du SC).kC;rw[NZ] at q3;rw[q2];exact congrArg some q3
 have hE:Γ.P.underlying e=some (.int .u8):=by
  obtain⟨u,q2,q3⟩:=(aj e de DA).kC;rw[D9] at q3;rw[q2];exact congrArg some q3
 have Yq:=hr.ev x;obtain⟨y,l,Ln,hz⟩:∃y l,bm w (bk Γ w η s.hp) η s.hp (.sl (y::l)) (a.eval x)/\tP (y::l)=some zs:=by
  unfold xh at hx;split at hx
  ·rename_i y l e;rw[e] at Yq;exact⟨y,l,Yq.pF,hx⟩
  ·rename_i y l e;rw[e] at Yq;exact⟨y,l,Yq,hx⟩
  ·cases hx
 obtain⟨N0,hz2⟩:=xg hz;generalize hv:a.eval x=v at Ln
 cases Ln with
 |sl size els b o c f hc hm hl aE Sx=>
  have h0:size=1:=by
   have:=hl 0 _ (hz2 0 (by simp));exact this.symm
  subst h0;have cell:∀i,i<(y::l).length->w.cell? ⟨b,o+i,none⟩=some (.int .u8 (zs.getD i 0)):=fun i hi=>by
   have h1:=(aE i _ 0 _ (hz2 i hi) rfl).1;have h2:=(Sx i _ 0 _ (hz2 i hi) rfl).ay;rw[h2] at h1;simpa using h1
  have fz:=run_convert_bytes_arg (P:=Γ.P) w S e hs hE b o (y::l).length c zs N0 cell D hD;refine⟨.string (strOfNums zs),w,η,.inl ?_,hr,.ae _⟩;simp only[execOp,ho,hv,Sem.run_bind,fz,Result.andThen_ok];rfl
theorem HE (ax:Γ.Ok) {tab:Nat->Option TD} (aj:aZ Γ.P tab) {o:Oper} {S D e:TypeId} {x:Operand} (ho:o.op=.convert S D x) {d du de:TD} (hd:tab S=some d) (SC:tab D=some du) (hk:d.kind=.str) (NZ:du.kind=.jS e) (DA:tab e=some de) (D9:de.kind=.int .u8) {u:ByteArray}
  (hx:s.ev x=.ae (.string u)) (hm:u.size<=140737488355328):fA Γ o s (.sl (bh u)) s.hp:=by
 intro a w η hr;have hs:Γ.P.underlying S=some .string:=by
  obtain⟨u,q2,q3⟩:=(aj S d hd).kC;rw[hk] at q3;rw[q2];exact congrArg some q3
 have hD:Γ.P.underlying D=some (.slice e):=by
  obtain⟨u,q2,q3⟩:=(aj D du SC).kC;rw[NZ] at q3;rw[q2];exact congrArg some q3
 have hE:Γ.P.underlying e=some (.int .u8):=by
  obtain⟨u,q2,q3⟩:=(aj e de DA).kC;rw[D9] at q3;rw[q2];exact congrArg some q3
 have Yq:=hr.ev x;rw[hx] at Yq;have tC:=Yq.ay;have fz:=Lib.run_convert_string_bytes (P:=Γ.P) w S D e u hs hD hE;have kS:bI w (Lib.bytesWorld w e u):=⟨by unfold Lib.bytesWorld World.freeze;split<;>rfl,by unfold Lib.bytesWorld World.freeze;split<;>rfl,by unfold Lib.bytesWorld World.freeze;split<;>rfl,by rw[Lib.bytesWorld_size];omega,fun k hk=>Lib.bytesWorld_at_old w e u k hk⟩;refine⟨_,_,η,.inl (by simp only[execOp,ho,tC,Sem.run_bind,fz,Result.andThen_ok];rfl),hr.same ax kS,?_⟩;have hl:=eM u;have ew:∀k,bk Γ (Lib.bytesWorld w e u) η s.hp w.heap.size k:=fun k=>
  ⟨.inr (.inl hr.keeps.size),by rw[Lib.bytesWorld_size];omega,(Jz (T:=e) (cs:=#[]) hr k (fun _ _=>ax.no)).2.2⟩
 have Dq:∀(i:Nat) (y:AV),(bh u)[i]?=some y->∃c:UInt8,i<u.size/\u.data.toList.getD i 0=c/\y=.ae (.int .u8 c.toNat):=fun i y hi=>by
  simp only[bh,alM] at hi;obtain⟨c,hc,rfl⟩:=amv.1 hi;have ak:=(alu.1 hc).1;exact⟨c,by simpa using ak,by rw[amB,hc];rfl,rfl⟩
 have:=bm.sl (w:=Lib.bytesWorld w e u) (F:=bk Γ (Lib.bytesWorld w e u) η s.hp) (η:=η) (hp:=s.hp) 1 (bh u) w.heap.size 0 (grownCap w u.size 0 e) (fun i j=>.int .u8 (u.data.toList.getD i 0).toNat) (by rw[hl];exact grownCap_ge _ _ _ _) (grownCap_le_maxLen _ _ _ _ (by unfold maxLen;omega))
  (fun i y hi=>by obtain⟨c,_,_,rfl⟩:=Dq i y hi;rfl) (fun i y j z hi hj=>by
   obtain⟨c,h1,h2,rfl⟩:=Dq i y hi;have hj0:j=0:=by(have:=(alu.1 hj).1;simp[AV.cells] at this;omega)
   subst hj0;refine⟨?_,ew _,rfl⟩;rw[al2,amI,amy];exact Lib.bytesWorld_cell w e u i h1) (fun i y j z hi hj=>by
   obtain⟨c,h1,h2,rfl⟩:=Dq i y hi;have hj0:j=0:=by(have:=(alu.1 hj).1;simp[AV.cells] at this;omega)
   subst hj0;rw[h2];obtain rfl:AV.ae (.int .u8 c.toNat)=z:=by simpa [AV.cells] using hj
   exact .ae _)
 rw[hl] at this;exact this
theorem N1 (ax:Γ.Ok) {o:Oper} {x:Operand} (ho:o.op=.box wE x) (hx:s.ev x=.agg [.ae (.pointer none),.ae (.slice none 0 0)]):fA Γ o s (.ptr s.hp.length 0) (s.hp++[.cU (s.hp.length+1) 0,.row 5 1 []]):=by
 intro a w η hr;have dO:=hr.ev x;rw[hx] at dO;generalize hv:a.eval x=v at dO
 cases dO with
 |agg _ vs hl h1 Sx=>
  have e0:vs[0]?=some (.pointer none):=by
   have:0<vs.size:=by rw[hl];simp
   have h2:=Sx 0 _ _ rfl (alX this);rw[alX this,h2.ay]
  have e1:vs[1]?=some (.slice none 0 0):=by
   have:1<vs.size:=by rw[hl];simp
   have h2:=Sx 1 _ _ rfl (alX this);rw[alX this,h2.ay]
  have kS:=bI.alloc w (.cells vs wE);have Jt:=hr.heap.len;have hn:∀{r:Nat} {u:Value} {b:Nat},(η++[.pointer (some ⟨w.heap.size,0,none⟩),.slice none 0 0])[r]?=some u->ct u=some b->(η[r]?=some u/\r<s.hp.length)\/(r=s.hp.length/\b=w.heap.size):=by
   intro r u b hu hb
   by_cases ak:r<η.length
   ·rw[alH ak] at hu;exact .inl ⟨hu,by omega⟩
   ·rw[amb (by omega)] at hu
    cases hk:r-η.length with
    |zero=>
     rw[hk] at hu;simp only[amp,als] at hu;subst hu;simp only[ct,als] at hb;exact .inr ⟨by omega,hb.symm⟩
    |succ k=>
     rw[hk] at hu
     cases k with
     |zero=>simp at hu;subst hu;simp[ct] at hb
     |succ k=>simp at hu
  have ho0:∀{r:Nat} {ob:af},(s.hp++[af.cU (s.hp.length+1) 0,.row 5 1 []])[r]?=some ob->(s.hp[r]?=some ob/\r<s.hp.length)\/(r=s.hp.length/\ob=.cU (s.hp.length+1) 0)\/(r=s.hp.length+1/\ob=.row 5 1 []):=by
   intro r ob dB
   by_cases ak:r<s.hp.length
   ·rw[alH ak] at dB;exact .inl ⟨dB,ak⟩
   ·rw[amb (by omega)] at dB
    cases hk:r-s.hp.length with
    |zero=>rw[hk] at dB;simp at dB;exact .inr (.inl ⟨by omega,dB.symm⟩)
    |succ k=>
     rw[hk] at dB
     cases k with
     |zero=>simp at dB;exact .inr (.inr ⟨by omega,dB.symm⟩)
     |succ k=>simp at dB
  have ze:(η++[Value.pointer (some ⟨w.heap.size,0,none⟩),.slice none 0 0])[s.hp.length]?=some (.pointer (some ⟨w.heap.size,0,none⟩)):=by
   rw[<-Jt,amb (alA _)];simp
  have aaz:(η++[Value.pointer (some ⟨w.heap.size,0,none⟩),.slice none 0 0])[s.hp.length+1]?=some (.slice none 0 0):=by
   rw[<-Jt,amb (by omega)];simp
  have gh1:(s.hp++[af.cU (s.hp.length+1) 0,.row 5 1 []])[s.hp.length+1]?=some (.row 5 1 []):=by
   rw[amb (by omega)];simp
  have hold:∀{r:Nat} {u:Value},η[r]?=some u->(η++[Value.pointer (some ⟨w.heap.size,0,none⟩),.slice none 0 0])[r]?=some u:=fun hu=>by
   rw[alH (alu.1 hu).1];exact hu
  have he:Ext w (bk Γ w η s.hp) η s.hp (w.alloc (.cells vs wE)) (bk Γ (w.alloc (.cells vs wE)) (η++[.pointer (some ⟨w.heap.size,0,none⟩),.slice none 0 0]) (s.hp++[.cU (s.hp.length+1) 0,.row 5 1 []])) (η++[.pointer (some ⟨w.heap.size,0,none⟩),.slice none 0 0]) (s.hp++[.cU (s.hp.length+1) 0,.row 5 1 []]):=by
   refine⟨fun b k u hf hc=>by rw[World.cell?_of_block (kS.block b (dZ hf))];exact hc,fun b es c hf hc=>by rw[kS.block b (dZ hf)];exact hc,fun b k hf=>⟨hf.1,al8 hf.2.1 kS.size,hf.2.2.1,(aU b k).2 fun r u hu hb=>?_⟩,fun _ _ h=>hold h,fun _ _ h=>hold h,fun r n u ho=>?_⟩
   ·rcases hn hu hb with⟨g1,g2⟩|⟨_,g2⟩
    ·obtain⟨ob,q1,q2⟩:=(aU b k).1 hf.2.2.2 r u g1 hb;exact⟨ob,by rw[alH g2];exact q1,q2⟩
    ·have:=dZ hf;omega
   ·unfold aT at ho ⊢
    cases DR:s.hp[r]? with
    |none=>simp[DR] at ho
    |some ob=>
     rw[alH (alu.1 DR).1,DR];rw[DR] at ho
     cases ob with
     |row e z els=>exact⟨ho.1,fun Ju=>hold (ho.2 Ju)⟩
     |aQ e z els=>exact⟨ho.1,fun Ju=>hold (ho.2 Ju)⟩
     |dN e m ns=>exact⟨ho.1,fun Ju=>hold (ho.2 Ju)⟩
     |_=>exact ho
  refine⟨.pointer (some ⟨w.heap.size,0,none⟩),_,η++[.pointer (some ⟨w.heap.size,0,none⟩),.slice none 0 0],.inl (by simp[execOp,ho,hv,Instr.box,newVar,newRow,Value.cells];rfl),?_,.ptr _ 0 w.heap.size ze⟩;have iS:∀(r:Nat) (ob:af) (u:Value) (b:Nat),s.hp[r]?=some ob->ob.live->η[r]?=some u->ct u=some b->b<w.heap.size:=fun r ob u b g1 g2 g3 g4=>hr.heap.block g1 g2 g3 g4;refine⟨hr.nt,fun t=>(hr.tmps t).ext he,⟨by simp[Jt],fun r ob u g1 g2=>?_,fun r r' o1 o2 u u' b bu g1 g2 l1 l2 g3 g4 hb eF=>?_⟩,fun r ob u b g1 g2 g3 g4=>?_,hr.keeps.A6 kS,ax.ou _ _ _ (fun b hb=>kS.block b (al8 (ax.x b hb) hr.keeps.size)) kS.size hr.inv,(kS.keeps fun _=>False).marks hr.marks fun _ hf=>hf.elim,hr.ext.trans he⟩
  ·rcases ho0 g1 with⟨g3,g4⟩|⟨rfl,rfl⟩|⟨rfl,rfl⟩
   ·rw[alH (by omega)] at g2;exact(hr.heap.obj r ob u g3 g2).ext he kS.size fun b _ ak=>kS.block b ak
   ·rw[ze] at g2;obtain rfl:=alw g2;exact⟨w.heap.size,vs,rfl,heap_alloc_new w _,⟨hl,fun _=>e1⟩,.inl e0,_,e1,.own _ 0 _ rfl (by unfold aT;rw[gh1];exact⟨alA _,fun _=>aaz⟩)⟩
   ·rw[aaz] at g2;obtain rfl:=alw g2;exact⟨Nat.one_pos,[],⟨by simp,.inl ⟨rfl,.inl rfl⟩⟩,fun i el hi=>by simp at hi⟩
  ·rcases hn g3 hb with⟨p1,p2⟩|⟨p1,p2⟩
   ·rcases hn g4 eF with⟨q1,q2⟩|⟨q1,q2⟩
    ·rw[alH p2] at g1;rw[alH q2] at g2;exact hr.heap.sep r r' o1 o2 u u' b bu g1 g2 l1 l2 p1 q1 hb eF
    ·rw[alH p2] at g1;have:=iS r o1 u b g1 l1 p1 hb;omega
   ·rcases hn g4 eF with⟨q1,q2⟩|⟨q1,q2⟩
    ·rw[alH q2] at g2;have:=iS r' o2 u' b g2 l2 q1 eF;omega
    ·omega
  ·rcases hn g3 g4 with⟨p1,p2⟩|⟨p1,p2⟩
   ·rw[alH p2] at g1;exact hr.bM r ob u b g1 g2 p1 g4
   ·subst p2;exact⟨.inl hr.keeps.size,fun k hx=>by have:=ax.no hx;have:=hr.keeps.size;omega⟩
theorem Bw (ax:Γ.Ok) {tab:Nat->Option TD} (aj:aZ Γ.P tab) {o:Oper} {T r q n:Nat} {p:Operand} (ho:o.op=.load T p) {d:TD} (hd:tab T=some d) (ha:d.kind.agg=false) (hp:s.ev p=.ptr r 1) (hb:s.hp[r]?=some (.cU q n)):fA Γ o s (.own q n) s.hp:=by
 intro a w η hr;have hx:=hr.ev p;rw[hp] at hx;generalize hv:a.eval p=v at hx
 cases hx with
 |ptr _ _ b dR=>
  obtain⟨b',vs,he,hg,⟨bN,_⟩,_,u,hu,cX⟩:=hr.heap.obj r _ _ hb dR;simp only[Value.pointer.injEq,als,Addr.mk.injEq,and_true] at he;subst he;have h1:u.oneCell'=true:=by cases cX;assumption
  have JF:=aj.sz hd ha;have Xe:=jX (P:=Γ.P) (aj T d hd) (o:=1) (tK hg) (by rw[JF,amg,bN];decide);have e:((vs.toList.drop 1).take d.size).headD undef=u:=by
   rw[JF];have h2:vs.toList[1]?=some u:=by simpa using hu
   cases hl:vs.toList with
   |nil=>rw[hl] at h2;simp at h2
   |cons x l=>
    rw[hl] at h2
    cases l with
    |nil=>simp at h2
    |cons y l=>simp at h2;subst h2;rfl
  rw[ha,e] at Xe;refine⟨u,w,η,.inl ?_,hr,cX⟩;simp only[execOp,ho,hv,Instr.loadAt,Instr.sureAddr,Sem.run_bind,Sem.run_pure,Result.andThen_ok];rw[Xe];rfl
theorem Rel.N2 (ax:Γ.Ok) (h:Rel Γ s a w η) {r q n m b:Nat} {v:Value} (hm:m≠0) (hr:s.hp[r]?=some (.cU q n)) (hv:η[r]?=some (.pointer (some ⟨b,0,none⟩))) (hx:bm w (bk Γ w η s.hp) η s.hp (.own q m) v):
  Rel Γ { s with hp:=s.hp.set r (.cU q m) } a (w.setCell ⟨b,1,none⟩ v) η/\w.frozen? ⟨b,1,none⟩=false/\∃u,w.cell? ⟨b,1,none⟩=some u:=by
 obtain⟨b',vs,he,hg,⟨bN,_⟩,h0,u,hu,cX⟩:=h.heap.obj r _ _ hr hv;simp only[Value.pointer.injEq,als,Addr.mk.injEq,and_true] at he;subst he;have qf:(w.setCell ⟨b,1,none⟩ v).heap[b]?=some (.cells (vs.setIfInBounds 1 v) wE (0,0)):=Go.heap_setCell_same w b 1 vs wE v hg;have dR:η.set r (.pointer (some ⟨b,0,none⟩))=η:=by
  apply ams;intro i
  by_cases hi:r=i
  ·subst hi;rw[au hv,hv]
  ·rw[getElem?_set_ne hi]
 refine⟨?_,frozen_of_row w b 1 vs wE hg,?_⟩
 ·have:=Rel.change (w':=w.setCell ⟨b,1,none⟩ v) (o':=.cU q m) (v':=.pointer (some ⟨b,0,none⟩)) ax h hr True.intro hv
   ⟨rfl,rfl,rfl,by simp[World.setCell],fun k hk hb=>am8 w _ k v (by intro e;exact hb (by rw[e];rfl))⟩
   (fun c hc=>.inl hc) (fun k hk=>hk.elim) (fun _ _ _ _ hk=>hk.elim) (fun _ _ _ _ hk=>hk.elim)
   (fun n u ho=>by simp[aT,hr] at ho)
   (fun _ _=>rfl) (fun _ hx=>by cases hx)
   (fun c d hb hd=>by simp only[ct,als] at hb;subst hb;rw[hg] at hd;cases hd)
   (fun he=>⟨b,vs.setIfInBounds 1 v,rfl,qf,⟨by simp[bN],fun e=>(hm e).elim⟩,by rw[amG];simpa using h0,v,by rw[amG];simp[bN],hx.ext he⟩)
  rw[dR] at this;exact this
 ·rw[cell_of_row w b 1 vs wE (0,0) hg];exact⟨u,hu⟩
theorem zf (ax:Γ.Ok) {tab:Nat->Option TD} (aj:aZ Γ.P tab) {o:Oper} {T r q n m:Nat} {p x:Operand} (ho:o.op=.store T p x) {d:TD} (hd:tab T=some d) (h1:d.size=1) (hm:m≠0) (hp:s.ev p=.ptr r 1) (hx:s.ev x=.own q m) (hb:s.hp[r]?=some (.cU q n)):fA Γ o s .top (s.hp.set r (.cU q m)):=by
 intro a w η hr;have qk:=hr.ev p;rw[hp] at qk;have dO:=hr.ev x;rw[hx] at dO;generalize hv:a.eval p=v at qk
 cases qk with
 |ptr _ _ b dR=>
  obtain⟨g1,g2,u,g3⟩:=hr.N2 ax hm hb dR dO;have wP:(a.eval x).oneCell'=true:=by cases dO;assumption
  have Bx:(a.eval x).cells=#[a.eval x]:=by cases hq:a.eval x<;>simp_all [Value.cells,Value.oneCell']
  refine⟨undef,_,η,.inr ⟨?_,rfl⟩,g1,.top _⟩;simp only[execOp,ho,hv,Instr.storeAt,Instr.sureAddr,Sem.run_bind,Sem.run_pure,Result.andThen_ok,storeVar,(aj T d hd).run_sizeOf,h1,Bx,anl,alJ,al4,al2,ne_eq,not_true_eq_false,if_false,storeCells,Addr.add_lit];rw[run_store _ _ _ _ _ wP,amy,g3];simp only[g2,alQ,if_false,Result.andThen_ok]
theorem N3 (ax:Γ.Ok) {tab:Nat->Option TD} (aj:aZ Γ.P tab) {o:Oper} {l:List Prop} {r:AV} {hp':List af} (h:NY tab s.hp s.ev o.op=some (l,r,hp')) (hc:∀p∈l,p):fA Γ o s r hp':=by
 generalize ho:o.op=op at h;unfold NY at h;split at h
 ·rename_i S D x;split at h
  ·rename_i d du hd SC;split at h
   ·rename_i e hk NZ;split at h
    ·rename_i de DA;split at h
     ·rename_i D9;split at h
      ·rename_i zs hz;simp only[als,alx] at h;obtain⟨_,rfl,rfl⟩:=h;exact Lp ax aj ho hd SC hk NZ DA D9 hz
      ·cases h
     ·cases h
    ·cases h
   ·rename_i e hk NZ;split at h
    ·rename_i de u DA hx;split at h
     ·rename_i D9;simp only[als,alx] at h;obtain⟨rfl,rfl,rfl⟩:=h;exact HE ax aj ho hd SC hk NZ DA D9 hx (hc _ alS)
     ·cases h
    ·cases h
   ·cases h
  ·cases h
 ·rename_i c;split at h
  ·rename_i b x T T' By aF gO;split at h
   ·rename_i d du r' n u hd SC oB hx;split at h
    ·rename_i e e' size els hk NZ cy;split at h
     ·rename_i d' dv;split at h
      ·rename_i hz;split at h
       ·rename_i qj;obtain⟨rfl,rfl,h1,h2⟩:=qj;simp only[als,alx] at h;obtain⟨rfl,rfl,rfl⟩:=h;have e1:=hc _ (alS);have e2:=hc _ (alR _ alS);rw[e1] at oB;exact D8 ax aj ho By aF gO hd SC hk NZ dv hz h1 h2 oB hx cy e2
       ·cases h
      ·cases h
     ·cases h
    ·cases h
   ·cases h
  ·cases h
 ·rename_i T p;split at h
  ·rename_i d r' hd hp;split at h
   ·rename_i e q n hk hb;split at h
    ·simp only[als,alx] at h;obtain⟨_,rfl,rfl⟩:=h;exact Bw ax aj ho hd (by rw[hk];rfl) hp hb
    ·cases h
   ·cases h
  ·cases h
 ·rename_i T p x;split at h
  ·rename_i d r' q m hd hp hx;split at h
   ·rename_i e q' n hk hb;split at h
    ·rename_i qj;obtain⟨h1,rfl⟩:=qj;simp only[als,alx] at h;obtain⟨rfl,rfl,rfl⟩:=h;exact zf ax aj ho hd h1 (hc _ alS) hp hx hb
    ·cases h
   ·cases h
  ·cases h
 ·rename_i T x;split at h
  ·rename_i hT;subst hT;split at h
   ·rename_i hx;split at h
    ·split at h
     ·split at h
      ·simp only[als,alx] at h;obtain⟨_,rfl,rfl⟩:=h;exact N1 ax ho hx
      ·cases h
     ·cases h
    ·cases h
   ·cases h
  ·cases h
 ·cases h
end Go.Proofs.YtdcikhleahfknaaGreatDoor
