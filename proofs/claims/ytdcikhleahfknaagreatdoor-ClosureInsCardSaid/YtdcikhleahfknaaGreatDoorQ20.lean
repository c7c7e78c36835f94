/- Texts of ours laid together for a claim: VcO. -/
import Derived.Lib.ConvBytes
import Derived.Laws.LoneSync
import Derived.Laws.Pointers
import Derived.Laws.Entries
import Derived.Laws.BytesArg
import Derived.Test.YtdcikhleahfknaaGreatDoorQ19
namespace Go.Proofs.YtdcikhleahfknaaGreatDoor
open Go
set_option linter.unusedSimpArgs false
set_option linter.unusedVariables false
inductive M7 where
 |load (k:IntKind)
 |store
 |add (k:IntKind)
 |Yc (k:IntKind)
 |same
def M7.run:M7→Array Value→Sem Value
 | .load k=>Extern.Atomic.loadT (.int k)
 | .store=>Extern.Atomic.storeT
 | .add k=>Extern.Atomic.update (Op.intArith .add) k true
 | .Yc k=>Extern.Atomic.casT (.int k)
 | .same=>Extern.AbiNoEscape.same
def Yd (P:Program) (f:Nat) (x:M7):Prop:=
 ∃fn,P.funcs[f]?=some fn∧(fn.name == "runtime.NumGoroutine")=false∧fn.body.isNone=true∧Extern.findNext fn=none∧Extern.find fn=some x.run
def QP (hp:List af) (r off:Nat):M7→Option (AV×List af)
 | .load k=>(match hp[r]? with
  |some (.box cs)=>(match cs[off]? with
   |some (.ae (.int k' n))=>if k'=k then some (.ae (.int k n),hp) else none
   |_=>none)
  |_=>none)
 | .same=>some (.ptr r off,hp)
 |_=>none
def QQ (hp:List af) (r off:Nat) (k1:IntKind) (y:Int):M7→Option (AV×List af)
 | .store=>(match hp[r]? with
  |some (.box cs)=>if off<cs.length then some (.ae (.tuple #[]),hp.set r (.box (cs.set off (.ae (.int k1 y))))) else none
  |_=>none)
 | .add k=>(match hp[r]? with
  |some (.box cs)=>(match cs[off]? with
   |some (.ae (.int k' n))=>if k'=k∧k1=k then some (.ae (.int k (k.wrap (n+y))),hp.set r (.box (cs.set off (.ae (.int k (k.wrap (n+y))))))) else none
   |_=>none)
  |_=>none)
 |_=>none
def QR (hp:List af) (r off:Nat) (k1:IntKind) (y:Int) (k2:IntKind) (z:Int):M7→Option (AV×List af)
 | .Yc k=>(match hp[r]? with
  |some (.box cs)=>(match cs[off]? with
   |some (.ae (.int k' n))=>if k'=k∧k1=k∧k2=k then some (.ae (.bool (decide (n=y))),hp.set r (.box (cs.set off (.ae (.int k (if n=y then z else n)))))) else none
   |_=>none)
  |_=>none)
 |_=>none
def RX (x:M7) (hp:List af):List AV→Option (AV×List af)
 | [.ptr r off]=>QP hp r off x
 | [.ptr r off,.ae (.int k1 y)]=>QQ hp r off k1 y x
 | [.ptr r off,.ae (.int k1 y),.ae (.int k2 z)]=>QR hp r off k1 y k2 z x
 |_=>none
variable {G:Type} {Γ:Env G} {s s':AS G} {a:Act} {w w':World} {η:List Value} {hp:List af} {P:Program}
theorem uF (hr:Rel Γ s a w η) {r off b:Nat} {cs:List AV} {v:Value} (hb:s.hp[r]?=some (.box cs)) (dE:η[r]?=some (.pointer (some ⟨b,0,none⟩))) (hc:cs[off]?=some (.ae v)):
  w.cell? ⟨b,off,none⟩=some v∧w.frozen? ⟨b,off,none⟩=false:=by
 obtain⟨b',ws,T,he,hg,bC,fq⟩:=hr.heap.obj r _ _ hb dE
 simp only[Value.pointer.injEq,Option.some.injEq,Addr.mk.injEq,and_true] at he
 subst he
 have ak:off<ws.size:=by rw[bC];exact(List.getElem?_eq_some_iff.1 hc).1
 have hu:ws[off]?=some ws[off]:=by simp[ak]
 have:=(fq off _ _ hc hu).1.al
 refine⟨?_,frozen_of_row w b off ws T hg⟩
 rw[cell_of_row w b off ws T (0,0) hg,hu,this]
theorem Ee (ao:Γ.Ok) {f:Nat} {x:M7} (hX:Yd Γ.P f x) {o:Oper} {c:Call} {y:Operand} (ho:o.op=.call c) (hc:c.callee=.value y) {caps:List AV} (cS:s.ev y=.aK f caps) {r:AV} {hp':List af}
  (h:RX x s.hp (c.args.toList.map s.ev++caps)=some (r,hp')):eW Γ o s r hp':=by
 intro a w η hr
 obtain⟨fn,hf,eZ,fa,bD,mN⟩:=hX
 have Ye:=hr.ev y
 rw[cS] at Ye
 generalize hv:a.eval y=v at Ye
 cases Ye with
 |aK _ _ vs hl cE=>
  have aw:(c.args.map a.eval++vs)=(c.args.toList.map a.eval++vs.toList).toArray:=by apply Array.ext';simp
  have q7:bM w (aW Γ w η s.hp) η s.hp caps vs.toList:=cf (by simpa using hl) fun j y u hy hu=>cE j y u hy (by simpa using hu)
  have fC:=dx _ _ (ft hr c.args.toList) q7
  have mq:(execOp a.eval o).run Γ.P w=(callFunc f (c.args.toList.map a.eval++vs.toList).toArray).run Γ.P w:=by
   rw[←aw]
   simp[execOp,ho,resolve,hc,hv,Deferred.ofValue,invoke]
  generalize c.args.toList.map a.eval++vs.toList=aU at fC mq
  have one:∀{r1 off:Nat} {l:List AV} {aU:List Value},bM w (aW Γ w η s.hp) η s.hp (.ptr r1 off::l) aU→∃b us,aU=.pointer (some ⟨b,off,none⟩)::us∧η[r1]?=some (.pointer (some ⟨b,0,none⟩))∧bM w (aW Γ w η s.hp) η s.hp l us:=by
   intro r1 off l aU h
   match aU,h with
   |u::us,h=>
    cases h.1 with
    |ptr _ _ b dE=>exact⟨b,us,rfl,dE,h.2⟩
  have ae:∀{u:Value} {l:List AV} {aU:List Value},bM w (aW Γ w η s.hp) η s.hp (.ae u::l) aU→∃us,aU=u::us∧bM w (aW Γ w η s.hp) η s.hp l us:=by
   intro u l aU h
   match aU,h with
   |u'::us,h=>exact⟨us,by rw[h.1.al],h.2⟩
  have nil:∀{aU:List Value},bM w (aW Γ w η s.hp) η s.hp [] aU→aU=[]:=by
   intro aU h
   match aU,h with
   | [],_=>rfl
  unfold RX at h
  split at h
  ·rename_i r1 off hL
   rw[hL] at fC
   obtain⟨b,us,rfl,dE,kW⟩:=one fC
   obtain rfl:=nil kW
   unfold QP at h
   split at h
   ·rename_i k
    split at h
    ·rename_i cs hb
     split at h
     ·rename_i k' n ay
      split at h
      ·rename_i hk
       subst hk
       simp only[Option.some.injEq,Prod.mk.injEq] at h
       obtain⟨rfl,rfl⟩:=h
       have AN:=(uF hr hb dE ay).1
       exact⟨_,w,η,.inl (mq.trans (run_call_load hf eZ fa bD _ mN AN)),hr,.ae _⟩
      ·cases h
     ·cases h
    ·cases h
   ·simp only[Option.some.injEq,Prod.mk.injEq] at h
    obtain⟨rfl,rfl⟩:=h
    refine⟨.pointer (some ⟨b,off,none⟩),w,η,.inl (mq.trans ?_),hr,.ptr _ _ b dE⟩
    rw[run_callFunc_extern hf eZ fa bD mN]
    rfl
   ·cases h
  ·rename_i r1 off k1 y1 hL
   rw[hL] at fC
   obtain⟨b,us,rfl,dE,kW⟩:=one fC
   obtain⟨us',rfl,Ef⟩:=ae kW
   obtain rfl:=nil Ef
   unfold QQ at h
   split at h
   ·split at h
    ·rename_i cs hb
     split at h
     ·rename_i ak
      simp only[Option.some.injEq,Prod.mk.injEq] at h
      obtain⟨rfl,rfl⟩:=h
      obtain⟨h1,h2,u',h3⟩:=hr.write ao (off:=off) (v:=.int k1 y1) (x:=.ae (.int k1 y1)) hb dE ak rfl (.ae _)
      exact⟨_,_,η,.inl (mq.trans (run_call_store hf eZ fa bD mN h3 h2)),h1,.ae _⟩
     ·cases h
    ·cases h
   ·rename_i k
    split at h
    ·rename_i cs hb
     split at h
     ·rename_i k' n ay
      split at h
      ·rename_i hk
       obtain⟨rfl,rfl⟩:=hk
       simp only[Option.some.injEq,Prod.mk.injEq] at h
       obtain⟨rfl,rfl⟩:=h
       have AN:=(uF hr hb dE ay).1
       obtain⟨h1,h2,_⟩:=hr.write ao (off:=off) (v:=.int k1 (k1.wrap (n+y1))) (x:=.ae (.int k1 (k1.wrap (n+y1)))) hb dE (List.getElem?_eq_some_iff.1 ay).1 rfl (.ae _)
       exact⟨_,_,η,.inl (mq.trans (run_call_add hf eZ fa bD _ mN AN h2 rfl)),h1,.ae _⟩
      ·cases h
     ·cases h
    ·cases h
   ·cases h
  ·rename_i r1 off k1 y1 k2 z1 hL
   rw[hL] at fC
   obtain⟨b,us,rfl,dE,kW⟩:=one fC
   obtain⟨us',rfl,Ef⟩:=ae kW
   obtain⟨ab2,rfl,RZ⟩:=ae Ef
   obtain rfl:=nil RZ
   unfold QR at h
   split at h
   ·rename_i k
    split at h
    ·rename_i cs hb
     split at h
     ·rename_i k' n ay
      split at h
      ·rename_i hk
       obtain⟨rfl,rfl,rfl⟩:=hk
       simp only[Option.some.injEq,Prod.mk.injEq] at h
       obtain⟨rfl,rfl⟩:=h
       obtain⟨AN,hfz⟩:=uF hr hb dE ay
       by_cases hn:n=y1
       ·subst hn
        obtain⟨h1,h2,_⟩:=hr.write ao (off:=off) (v:=.int k2 z1) (x:=.ae (.int k2 z1)) hb dE (List.getElem?_eq_some_iff.1 ay).1 rfl (.ae _)
        rw[if_pos rfl,decide_eq_true rfl]
        exact⟨_,_,η,.inl (mq.trans (run_call_cas_hit hf eZ fa bD _ mN AN hfz)),h1,.ae _⟩
       ·rw[if_neg hn,decide_eq_false hn]
        have ou:s.hp.set r1 (.box (cs.set off (.ae (.int k2 n))))=s.hp:=by
         have:cs.set off (.ae (.int k2 n))=cs:=by
          apply List.ext_getElem?
          intro i
          by_cases hi:off=i
          ·subst hi;rw[aj ay,ay]
          ·rw[getElem?_set_ne hi]
         rw[this]
         apply List.ext_getElem?
         intro i
         by_cases hi:r1=i
         ·subst hi;rw[aj hb,hb]
         ·rw[getElem?_set_ne hi]
        rw[ou]
        exact⟨_,w,η,.inl (mq.trans (run_call_cas_miss hf eZ fa bD _ mN AN hfz hn)),hr,.ae _⟩
      ·cases h
     ·cases h
    ·cases h
   ·cases h
  ·cases h
def JL:AV→Bool
 | .ae (.pointer none)=>true
 |_=>false
def R0 (tab:Nat→Option TD) (ρ:Operand→AV):Op→Option AV
 | .binOp op T x y _=>(match tab T,xX (ρ x),JL (ρ y) with
  |some d,some b,true=>(match d.kind with
   | .ptr _=>(match op with
    | .eql=>some (.ae (.bool b))
    | .neq=>some (.ae (.bool (!b)))
    |_=>none)
   |_=>none)
  |_,_,_=>none)
 | .convert S D x=>(match tab S,tab D,ρ x with
  |some _,some d,.ae (.int _ n)=>(match d.kind with
   | .int k=>some (.ae (.int k (k.wrap n)))
   |_=>none)
  |_,_,_=>none)
 |_=>none
theorem Eg {tab:Nat→Option TD} (ah:aQ Γ.P tab) {o:Oper} {r:AV} (h:R0 tab s.ev o.op=some r):eI Γ o s r:=by
 generalize ho:o.op=op at h
 unfold R0 at h
 split at h
 ·rename_i Xk T x y T'
  split at h
  ·rename_i d b hd hb hy
   have Dz:s.ev y=.ae (.pointer none):=by
    unfold JL at hy
    split at hy
    ·assumption
    ·cases hy
   split at h
   ·rename_i e hk
    have hu:Γ.P.underlying T=some (.pointer (Γ.P.pointee T)):=by
     obtain⟨u,q2,q3⟩:=(ah T d hd).jy
     rw[hk] at q3
     have:Γ.P.underlying T=some (.pointer e):=by rw[q2];exact congrArg some q3
     rw[this,Program.pointee,this]
    split at h
    ·obtain rfl:=Option.some.inj h
     refine aN fun a w η hr=>?_
     obtain⟨p,hp,Nr⟩:=nU hb (hr.ev x)
     have h2:=hr.ev y
     rw[Dz] at h2
     have h2:=h2.al
     refine⟨.bool b,?_,.ae _⟩
     simp only[execOp,ho,hp,h2,eqGuard,Bool.not_true,Bool.false_eq_true,if_false,Sem.run_bind,Sem.run_pure,Result.andThen_ok,run_eql_pointer_nil w T p hu,Nr]
    ·obtain rfl:=Option.some.inj h
     refine aN fun a w η hr=>?_
     obtain⟨p,hp,Nr⟩:=nU hb (hr.ev x)
     have h2:=hr.ev y
     rw[Dz] at h2
     have h2:=h2.al
     refine⟨.bool (!b),?_,.ae _⟩
     simp only[execOp,ho,hp,h2,eqGuard,Bool.not_true,Bool.false_eq_true,if_false,Sem.run_bind,Sem.run_pure,Result.andThen_ok,run_neq_pointer_nil w T p hu,Nr]
    ·cases h
   ·cases h
  ·cases h
 ·rename_i S D x
  split at h
  ·rename_i d1 d k n hS hD hx
   split at h
   ·rename_i k2 hk
    obtain rfl:=Option.some.inj h
    refine aN fun a w η hr=>?_
    have h1:=hr.ev x
    rw[hx] at h1
    have h1:=h1.al
    obtain⟨u1,q1,_⟩:=(ah S d1 hS).jy
    have hu:Γ.P.underlying D=some (.int k2):=by
     obtain⟨u,q2,q3⟩:=(ah D d hD).jy
     rw[hk] at q3
     rw[q2];exact congrArg some q3
    refine⟨.int k2 (k2.wrap n),?_,.ae _⟩
    simp only[execOp,ho,h1,convert,Sem.run_bind,run_underlying q1,run_underlying hu,Result.andThen_ok]
    rfl
   ·cases h
  ·cases h
 ·cases h
def rk:List AV→Option (List Int)
 | []=>some []
 | .ae (.int .u8 n)::l=>(match rk l with|some zs=>some (n::zs)|none=>none)
 |_=>none
theorem uG:∀{l:List AV} {zs:List Int},rk l=some zs→zs.length=l.length∧∀i,i<l.length→l[i]?=some (.ae (.int .u8 (zs.getD i 0)))
 | [],zs,h=>by cases h;exact⟨rfl,fun i hi=>by simp at hi⟩
 |x::l,zs,h=>by
  unfold rk at h
  split at h
  ·rename_i e;cases e
  ·rename_i n l' e
   obtain⟨rfl,rfl⟩:=List.cons.inj e
   split at h
   ·rename_i ys hy
    obtain rfl:=Option.some.inj h
    obtain⟨h1,h2⟩:=uG hy
    refine⟨by simp[h1],fun i hi=>?_⟩
    cases i with
    |zero=>rfl
    |succ i=>simpa using h2 i (by simpa using hi)
   ·cases h
  ·cases h
def uH:AV→Option (List Int)
 | .clip (x::l)=>rk (x::l)
 | .sl (x::l)=>rk (x::l)
 |_=>none
def JM (tab:Nat→Option TD) (hp:List af) (ρ:Operand→AV):Op→Option (List Prop×AV×List af)
 | .convert S D x=>(match tab S,tab D with
  |some d,some du=>(match d.kind,du.kind with
   | .iW e,.str=>(match tab e with
    |some de=>(match de.kind with
     | .int .u8=>(match uH (ρ x) with
      |some zs=>some ([],.ae (.string (strOfNums zs)),hp)
      |none=>none)
     |_=>none)
    |none=>none)
   | .str,.iW e=>(match tab e,ρ x with
    |some de,.ae (.string u)=>(match de.kind with
     | .int .u8=>some ([u.size≤140737488355328],.sl (aV u),hp)
     |_=>none)
    |_,_=>none)
   |_,_=>none)
  |_,_=>none)
 | .call c=>(match c.callee,c.args.toList,c.argTypes.toList with
  | .builtin .append,[b,x],[T,T']=>(match tab T,tab T',ρ b,ρ x with
   |some d,some du,.own r n,.ae (.string s)=>(match d.kind,du.kind,hp[r]? with
    | .iW e,.str,some (.row e' size els)=>(match tab e with
     |some d'=>(match d'.zero with
      | .int .u8 0=>if e'=e∧size=d'.size∧d'.size=1∧d'.bytes=1 then some ([n=els.length,els.length+s.size≤140737488355328],.own r (els++aV s).length,hp.set r (.row e size (els++aV s))) else none
      |_=>none)
     |none=>none)
    |_,_,_=>none)
   |_,_,_,_=>none)
  |_,_,_=>none)
 | .load T p=>(match tab T,ρ p with
  |some d,.ptr r 1=>(match d.kind,hp[r]? with
   | .iW _,some (.cA q n)=>if d.size=1 then some ([],.own q n,hp) else none
   |_,_=>none)
  |_,_=>none)
 | .store T p x=>(match tab T,ρ p,ρ x with
  |some d,.ptr r 1,.own q m=>(match d.kind,hp[r]? with
   | .iW _,some (.cA q' _)=>if d.size=1∧q'=q then some ([m≠0],.top,hp.set r (.cA q m)) else none
   |_,_=>none)
  |_,_,_=>none)
 | .box T x=>if T=tV then(match ρ x with
  | .agg [.ae (.pointer none),.ae (.slice none 0 0)]=>(match tab 5 with
   |some d=>(match d.zero with
    | .int .u8 0=>if d.size=1 then some ([],.ptr hp.length 0,hp++[.cA (hp.length+1) ([]:List AV).length,.row 5 1 []]) else none
    |_=>none)
   |none=>none)
  |_=>none) else none
 |_=>none
theorem Bf (ao:Γ.Ok) {tab:Nat→Option TD} (ah:aQ Γ.P tab) {o:Oper} {c:Call} (ho:o.op=.call c) (hb:c.callee=.builtin .append) {b x:Operand} (hl:c.args.toList=[b,x]) {T T' e r:Nat} (hT:c.argTypes.toList=[T,T']) {d du d':TD} (hd:tab T=some d)
  (M8:tab T'=some du) (hk:d.kind=.iW e) (JN:du.kind=.str) (cO:tab e=some d') (hz:d'.zero=.int .u8 0) (h1:d'.size=1) (h2:d'.bytes=1) {els:List AV} {u:ByteArray} (mO:s.ev b=.own r els.length) (hx:s.ev x=.ae (.string u)) (bW:s.hp[r]?=some (.row e d'.size els)) (hm:els.length+u.size≤140737488355328):
  eW Γ o s (.own r (els++aV u).length) (s.hp.set r (.row e d'.size (els++aV u))):=by
 intro a w η hr
 have hu:Γ.P.underlying T=some (.slice e):=by
  obtain⟨u,q2,q3⟩:=(ah T d hd).jy
  rw[hk] at q3
  rw[q2];exact congrArg some q3
 have RO:Γ.P.underlying T'=some .string:=by
  obtain⟨u,q2,q3⟩:=(ah T' du M8).jy
  rw[JN] at q3
  rw[q2];exact congrArg some q3
 have dC:=hr.ev x
 rw[hx] at dC
 have qY:=dC.al
 have FE:=hr.ev b
 rw[mO] at FE
 have qZ:aT η s.hp r els.length (a.eval b):=by cases FE;assumption
 have mP:c.argTypes=#[T,T']:=by rw[←Array.toArray_toList (xs:=c.argTypes),hT]
 have aw:c.args=#[b,x]:=by rw[←Array.toArray_toList (xs:=c.args),hl]
 have hn:=DJ (w:=w) (F:=aW Γ w η s.hp) (ty:=o.type) hu RO (ah e d' cO) h1 hz u
 have oH:=ek u
 obtain⟨v',w',aH,g1,g2,g3,g4⟩:=tZ (M:=false) ao hr (ah e d' cO) bW qZ hn (fun y hy=>by
  rw[h1]
  simp only[aV,List.mem_map] at hy
  obtain⟨q,_,rfl⟩:=hy
  rfl) (by rw[oH];unfold maxLen;omega) (by rw[oH,h2];omega)
 refine⟨v',w',aH,.inl ?_,g2,.own _ _ _ g3 ?_⟩
 ·rw[←qY] at g1
  simp only[execOp,ho,resolve,hb,Sem.run_bind,Sem.run_pure,Result.andThen_ok,invoke,builtin,mP,aw,List.map_toArray,List.map_cons,List.map_nil,g1]
 ·unfold aT
  rw[aj bW]
  exact⟨Nat.le_refl _,fun _=>g4⟩
theorem Hg (ao:Γ.Ok) {tab:Nat→Option TD} (ah:aQ Γ.P tab) {o:Oper} {S D e:TypeId} {x:Operand} (ho:o.op=.convert S D x) {d du de:TD} (hd:tab S=some d) (M8:tab D=some du) (hk:d.kind=.iW e) (JN:du.kind=.str) (AH:tab e=some de) (Bg:de.kind=.int .u8) {zs:List Int} (hx:uH (s.ev x)=some zs):
  eW Γ o s (.ae (.string (strOfNums zs))) s.hp:=by
 intro a w η hr
 have hs:Γ.P.underlying S=some (.slice e):=by
  obtain⟨u,q2,q3⟩:=(ah S d hd).jy
  rw[hk] at q3
  rw[q2];exact congrArg some q3
 have hD:Γ.P.underlying D=some .string:=by
  obtain⟨u,q2,q3⟩:=(ah D du M8).jy
  rw[JN] at q3
  rw[q2];exact congrArg some q3
 have hE:Γ.P.underlying e=some (.int .u8):=by
  obtain⟨u,q2,q3⟩:=(ah e de AH).jy
  rw[Bg] at q3
  rw[q2];exact congrArg some q3
 have R1:=hr.ev x
 obtain⟨y,l,He,hz⟩:∃y l,aY w (aW Γ w η s.hp) η s.hp (.sl (y::l)) (a.eval x)∧rk (y::l)=some zs:=by
  unfold uH at hx
  split at hx
  ·rename_i y l e;rw[e] at R1;exact⟨y,l,R1.nO,hx⟩
  ·rename_i y l e;rw[e] at R1;exact⟨y,l,R1,hx⟩
  ·cases hx
 obtain⟨JO,Uf⟩:=uG hz
 generalize hv:a.eval x=v at He
 cases He with
 |sl size els b o c f hc hm hl ay M0=>
  have h0:size=1:=by
   have:=hl 0 _ (Uf 0 (by simp))
   exact this.symm
  subst h0
  have cell:∀i,i<(y::l).length→w.cell? ⟨b,o+i,none⟩=some (.int .u8 (zs.getD i 0)):=fun i hi=>by
   have h1:=(ay i _ 0 _ (Uf i hi) rfl).1
   have h2:=(M0 i _ 0 _ (Uf i hi) rfl).al
   rw[h2] at h1
   simpa using h1
  have eV:=run_convert_bytes_arg (P:=Γ.P) w S e hs hE b o (y::l).length c zs JO cell D hD
  refine⟨.string (strOfNums zs),w,η,.inl ?_,hr,.ae _⟩
  simp only[execOp,ho,hv,Sem.run_bind,eV,Result.andThen_ok]
  rfl
theorem Eh (ao:Γ.Ok) {tab:Nat→Option TD} (ah:aQ Γ.P tab) {o:Oper} {S D e:TypeId} {x:Operand} (ho:o.op=.convert S D x) {d du de:TD} (hd:tab S=some d) (M8:tab D=some du) (hk:d.kind=.str) (JN:du.kind=.iW e) (AH:tab e=some de) (Bg:de.kind=.int .u8) {u:ByteArray}
  (hx:s.ev x=.ae (.string u)) (hm:u.size≤140737488355328):eW Γ o s (.sl (aV u)) s.hp:=by
 intro a w η hr
 have hs:Γ.P.underlying S=some .string:=by
  obtain⟨u,q2,q3⟩:=(ah S d hd).jy
  rw[hk] at q3
  rw[q2];exact congrArg some q3
 have hD:Γ.P.underlying D=some (.slice e):=by
  obtain⟨u,q2,q3⟩:=(ah D du M8).jy
  rw[JN] at q3
  rw[q2];exact congrArg some q3
 have hE:Γ.P.underlying e=some (.int .u8):=by
  obtain⟨u,q2,q3⟩:=(ah e de AH).jy
  rw[Bg] at q3
  rw[q2];exact congrArg some q3
 have R1:=hr.ev x
 rw[hx] at R1
 have qY:=R1.al
 have eV:=Lib.run_convert_string_bytes (P:=Γ.P) w S D e u hs hD hE
 have jz:bu w (Lib.bytesWorld w e u):=⟨by unfold Lib.bytesWorld World.freeze;split<;>rfl,by unfold Lib.bytesWorld World.freeze;split<;>rfl,by unfold Lib.bytesWorld World.freeze;split<;>rfl,by rw[Lib.bytesWorld_size];omega,fun k hk=>Lib.bytesWorld_at_old w e u k hk⟩
 refine⟨_,_,η,.inl (by simp only[execOp,ho,qY,Sem.run_bind,eV,Result.andThen_ok];rfl),hr.same ao jz,?_⟩
 have hl:=ek u
 have dT:∀k,aW Γ (Lib.bytesWorld w e u) η s.hp w.heap.size k:=fun k=>
  ⟨.inr (.inl hr.keeps.size),by rw[Lib.bytesWorld_size];omega,(FC (T:=e) (cs:=#[]) hr k (fun _ _=>ao.no)).2.2⟩
 have Av:∀(i:Nat) (y:AV),(aV u)[i]?=some y→∃c:UInt8,i<u.size∧u.data.toList.getD i 0=c∧y=.ae (.int .u8 c.toNat):=fun i y hi=>by
  simp only[aV,List.getElem?_map] at hi
  obtain⟨c,hc,rfl⟩:=Option.map_eq_some_iff.1 hi
  have ak:=(List.getElem?_eq_some_iff.1 hc).1
  exact⟨c,by simpa using ak,by rw[List.getD_eq_getElem?_getD,hc];rfl,rfl⟩
 have:=aY.sl (w:=Lib.bytesWorld w e u) (F:=aW Γ (Lib.bytesWorld w e u) η s.hp) (η:=η) (hp:=s.hp) 1 (aV u) w.heap.size 0 (grownCap w u.size 0 e) (fun i j=>.int .u8 (u.data.toList.getD i 0).toNat) (by rw[hl];exact grownCap_ge _ _ _ _) (grownCap_le_maxLen _ _ _ _ (by unfold maxLen;omega))
  (fun i y hi=>by obtain⟨c,_,_,rfl⟩:=Av i y hi;rfl) (fun i y j z hi hj=>by
   obtain⟨c,h1,h2,rfl⟩:=Av i y hi
   have Yf:j=0:=by(have:=(List.getElem?_eq_some_iff.1 hj).1;simp[AV.cells] at this;omega)
   subst Yf
   refine⟨?_,dT _,rfl⟩
   rw[Nat.zero_add,Nat.mul_one,Nat.add_zero]
   exact Lib.bytesWorld_cell w e u i h1) (fun i y j z hi hj=>by
   obtain⟨c,h1,h2,rfl⟩:=Av i y hi
   have Yf:j=0:=by(have:=(List.getElem?_eq_some_iff.1 hj).1;simp[AV.cells] at this;omega)
   subst Yf
   rw[h2]
   obtain rfl:AV.ae (.int .u8 c.toNat)=z:=by simpa [AV.cells] using hj
   exact .ae _)
 rw[hl] at this
 exact this
theorem JP (ao:Γ.Ok) {o:Oper} {x:Operand} (ho:o.op=.box tV x) (hx:s.ev x=.agg [.ae (.pointer none),.ae (.slice none 0 0)]):eW Γ o s (.ptr s.hp.length 0) (s.hp++[.cA (s.hp.length+1) 0,.row 5 1 []]):=by
 intro a w η hr
 have dC:=hr.ev x
 rw[hx] at dC
 generalize hv:a.eval x=v at dC
 cases dC with
 |agg _ vs hl h1 M0=>
  have e0:vs[0]?=some (.pointer none):=by
   have:0<vs.size:=by rw[hl];simp
   have h2:=M0 0 _ _ rfl (Array.getElem?_eq_getElem this)
   rw[Array.getElem?_eq_getElem this,h2.al]
  have e1:vs[1]?=some (.slice none 0 0):=by
   have:1<vs.size:=by rw[hl];simp
   have h2:=M0 1 _ _ rfl (Array.getElem?_eq_getElem this)
   rw[Array.getElem?_eq_getElem this,h2.al]
  have jz:=bu.alloc w (.cells vs tV)
  have MX:=hr.heap.len
  have hn:∀{r:Nat} {u:Value} {b:Nat},(η++[.pointer (some ⟨w.heap.size,0,none⟩),.slice none 0 0])[r]?=some u→bU u=some b→(η[r]?=some u∧r<s.hp.length)∨(r=s.hp.length∧b=w.heap.size):=by
   intro r u b hu hb
   by_cases ak:r<η.length
   ·rw[List.getElem?_append_left ak] at hu;exact .inl ⟨hu,by omega⟩
   ·rw[List.getElem?_append_right (by omega)] at hu
    cases hk:r-η.length with
    |zero=>
     rw[hk] at hu
     simp only[List.getElem?_cons_zero,Option.some.injEq] at hu
     subst hu
     simp only[bU,Option.some.injEq] at hb
     exact .inr ⟨by omega,hb.symm⟩
    |succ k=>
     rw[hk] at hu
     cases k with
     |zero=>simp at hu;subst hu;simp[bU] at hb
     |succ k=>simp at hu
  have ho0:∀{r:Nat} {ob:af},(s.hp++[af.cA (s.hp.length+1) 0,.row 5 1 []])[r]?=some ob→(s.hp[r]?=some ob∧r<s.hp.length)∨(r=s.hp.length∧ob=.cA (s.hp.length+1) 0)∨(r=s.hp.length+1∧ob=.row 5 1 []):=by
   intro r ob cW
   by_cases ak:r<s.hp.length
   ·rw[List.getElem?_append_left ak] at cW;exact .inl ⟨cW,ak⟩
   ·rw[List.getElem?_append_right (by omega)] at cW
    cases hk:r-s.hp.length with
    |zero=>rw[hk] at cW;simp at cW;exact .inr (.inl ⟨by omega,cW.symm⟩)
    |succ k=>
     rw[hk] at cW
     cases k with
     |zero=>simp at cW;exact .inr (.inr ⟨by omega,cW.symm⟩)
     |succ k=>simp at cW
  have wi:(η++[Value.pointer (some ⟨w.heap.size,0,none⟩),.slice none 0 0])[s.hp.length]?=some (.pointer (some ⟨w.heap.size,0,none⟩)):=by
   rw[←MX,List.getElem?_append_right (Nat.le_refl _)];simp
  have Ug:(η++[Value.pointer (some ⟨w.heap.size,0,none⟩),.slice none 0 0])[s.hp.length+1]?=some (.slice none 0 0):=by
   rw[←MX,List.getElem?_append_right (by omega)];simp
  have gh1:(s.hp++[af.cA (s.hp.length+1) 0,.row 5 1 []])[s.hp.length+1]?=some (.row 5 1 []):=by
   rw[List.getElem?_append_right (by omega)];simp
  have hold:∀{r:Nat} {u:Value},η[r]?=some u→(η++[Value.pointer (some ⟨w.heap.size,0,none⟩),.slice none 0 0])[r]?=some u:=fun hu=>by
   rw[List.getElem?_append_left (List.getElem?_eq_some_iff.1 hu).1];exact hu
  have he:Ext w (aW Γ w η s.hp) η s.hp (w.alloc (.cells vs tV)) (aW Γ (w.alloc (.cells vs tV)) (η++[.pointer (some ⟨w.heap.size,0,none⟩),.slice none 0 0]) (s.hp++[.cA (s.hp.length+1) 0,.row 5 1 []])) (η++[.pointer (some ⟨w.heap.size,0,none⟩),.slice none 0 0]) (s.hp++[.cA (s.hp.length+1) 0,.row 5 1 []]):=by
   refine⟨fun b k u hf hc=>by rw[World.cell?_of_block (jz.block b (dL hf))];exact hc,fun b es c hf hc=>by rw[jz.block b (dL hf)];exact hc,fun b k hf=>⟨hf.1,Nat.lt_of_lt_of_le hf.2.1 jz.size,hf.2.2.1,(aR b k).2 fun r u hu hb=>?_⟩,fun _ _ h=>hold h,fun _ _ h=>hold h,fun r n u ho=>?_⟩
   ·rcases hn hu hb with⟨g1,g2⟩|⟨_,g2⟩
    ·obtain⟨ob,q1,q2⟩:=(aR b k).1 hf.2.2.2 r u g1 hb
     exact⟨ob,by rw[List.getElem?_append_left g2];exact q1,q2⟩
    ·have:=dL hf;omega
   ·unfold aT at ho ⊢
    cases DC:s.hp[r]? with
    |none=>simp[DC] at ho
    |some ob=>
     rw[List.getElem?_append_left (List.getElem?_eq_some_iff.1 DC).1,DC]
     rw[DC] at ho
     cases ob with
     |row e z els=>exact⟨ho.1,fun I4=>hold (ho.2 I4)⟩
     |aI e z els=>exact⟨ho.1,fun I4=>hold (ho.2 I4)⟩
     |dB e m ns=>exact⟨ho.1,fun I4=>hold (ho.2 I4)⟩
     |_=>exact ho
  refine⟨.pointer (some ⟨w.heap.size,0,none⟩),_,η++[.pointer (some ⟨w.heap.size,0,none⟩),.slice none 0 0],.inl (by simp[execOp,ho,hv,Instr.box,newVar,newRow,Value.cells];rfl),?_,.ptr _ 0 w.heap.size wi⟩
  have gP:∀(r:Nat) (ob:af) (u:Value) (b:Nat),s.hp[r]?=some ob→ob.live→η[r]?=some u→bU u=some b→b<w.heap.size:=fun r ob u b g1 g2 g3 g4=>hr.heap.block g1 g2 g3 g4
  refine⟨hr.nt,fun t=>(hr.tmps t).ext he,⟨by simp[MX],fun r ob u g1 g2=>?_,fun r r' o1 o2 u u' b bh g1 g2 l1 l2 g3 g4 hb er=>?_⟩,fun r ob u b g1 g2 g3 g4=>?_,hr.keeps.xR jz,ao.mJ _ _ _ (fun b hb=>jz.block b (Nat.lt_of_lt_of_le (ao.x b hb) hr.keeps.size)) jz.size hr.inv,(jz.keeps fun _=>False).marks hr.marks fun _ hf=>hf.elim,hr.ext.trans he⟩
  ·rcases ho0 g1 with⟨g3,g4⟩|⟨rfl,rfl⟩|⟨rfl,rfl⟩
   ·rw[List.getElem?_append_left (by omega)] at g2
    exact(hr.heap.obj r ob u g3 g2).ext he jz.size fun b _ ak=>jz.block b ak
   ·rw[wi] at g2
    obtain rfl:=Option.some.inj g2
    exact⟨w.heap.size,vs,rfl,heap_alloc_new w _,⟨hl,fun _=>e1⟩,.inl e0,_,e1,.own _ 0 _ rfl (by unfold aT;rw[gh1];exact⟨Nat.le_refl _,fun _=>Ug⟩)⟩
   ·rw[Ug] at g2
    obtain rfl:=Option.some.inj g2
    exact⟨Nat.one_pos,[],⟨by simp,.inl ⟨rfl,.inl rfl⟩⟩,fun i el hi=>by simp at hi⟩
  ·rcases hn g3 hb with⟨p1,p2⟩|⟨p1,p2⟩
   ·rcases hn g4 er with⟨q1,q2⟩|⟨q1,q2⟩
    ·rw[List.getElem?_append_left p2] at g1
     rw[List.getElem?_append_left q2] at g2
     exact hr.heap.sep r r' o1 o2 u u' b bh g1 g2 l1 l2 p1 q1 hb er
    ·rw[List.getElem?_append_left p2] at g1
     have:=gP r o1 u b g1 l1 p1 hb;omega
   ·rcases hn g4 er with⟨q1,q2⟩|⟨q1,q2⟩
    ·rw[List.getElem?_append_left q2] at g2
     have:=gP r' o2 u' b g2 l2 q1 er;omega
    ·omega
  ·rcases hn g3 g4 with⟨p1,p2⟩|⟨p1,p2⟩
   ·rw[List.getElem?_append_left p2] at g1
    exact hr.bA r ob u b g1 g2 p1 g4
   ·subst p2
    exact⟨.inl hr.keeps.size,fun k hx=>by have:=ao.no hx;have:=hr.keeps.size;omega⟩
theorem yl (ao:Γ.Ok) {tab:Nat→Option TD} (ah:aQ Γ.P tab) {o:Oper} {T r q n:Nat} {p:Operand} (ho:o.op=.load T p) {d:TD} (hd:tab T=some d) (ha:d.kind.agg=false) (hp:s.ev p=.ptr r 1) (hb:s.hp[r]?=some (.cA q n)):eW Γ o s (.own q n) s.hp:=by
 intro a w η hr
 have hx:=hr.ev p
 rw[hp] at hx
 generalize hv:a.eval p=v at hx
 cases hx with
 |ptr _ _ b dE=>
  obtain⟨b',vs,he,hg,⟨bC,_⟩,_,u,hu,cE⟩:=hr.heap.obj r _ _ hb dE
  simp only[Value.pointer.injEq,Option.some.injEq,Addr.mk.injEq,and_true] at he
  subst he
  have h1:u.oneCell'=true:=by cases cE;assumption
  have M6:=ah.sz hd ha
  have QS:=jb (P:=Γ.P) (ah T d hd) (o:=1) (rf hg) (by rw[M6,Array.length_toList,bC];decide)
  have e:((vs.toList.drop 1).take d.size).headD undef=u:=by
   rw[M6]
   have h2:vs.toList[1]?=some u:=by simpa using hu
   cases hl:vs.toList with
   |nil=>rw[hl] at h2;simp at h2
   |cons x l=>
    rw[hl] at h2
    cases l with
    |nil=>simp at h2
    |cons y l=>simp at h2;subst h2;rfl
  rw[ha,e] at QS
  refine⟨u,w,η,.inl ?_,hr,cE⟩
  simp only[execOp,ho,hv,Instr.loadAt,Instr.sureAddr,Sem.run_bind,Sem.run_pure,Result.andThen_ok]
  rw[QS]
  rfl
theorem Rel.JQ (ao:Γ.Ok) (h:Rel Γ s a w η) {r q n m b:Nat} {v:Value} (hm:m≠0) (hr:s.hp[r]?=some (.cA q n)) (hv:η[r]?=some (.pointer (some ⟨b,0,none⟩))) (hx:aY w (aW Γ w η s.hp) η s.hp (.own q m) v):
  Rel Γ { s with hp:=s.hp.set r (.cA q m) } a (w.setCell ⟨b,1,none⟩ v) η∧w.frozen? ⟨b,1,none⟩=false∧∃u,w.cell? ⟨b,1,none⟩=some u:=by
 obtain⟨b',vs,he,hg,⟨bC,_⟩,h0,u,hu,cE⟩:=h.heap.obj r _ _ hr hv
 simp only[Value.pointer.injEq,Option.some.injEq,Addr.mk.injEq,and_true] at he
 subst he
 have ou:(w.setCell ⟨b,1,none⟩ v).heap[b]?=some (.cells (vs.setIfInBounds 1 v) tV (0,0)):=Go.heap_setCell_same w b 1 vs tV v hg
 have dE:η.set r (.pointer (some ⟨b,0,none⟩))=η:=by
  apply List.ext_getElem?
  intro i
  by_cases hi:r=i
  ·subst hi;rw[aj hv,hv]
  ·rw[getElem?_set_ne hi]
 refine⟨?_,frozen_of_row w b 1 vs tV hg,?_⟩
 ·have:=Rel.change (w':=w.setCell ⟨b,1,none⟩ v) (o':=.cA q m) (v':=.pointer (some ⟨b,0,none⟩)) ao h hr True.intro hv
   ⟨rfl,rfl,rfl,by simp[World.setCell],fun k hk hb=>Go.heap_setCell_other w _ k v (by intro e;exact hb (by rw[e];rfl))⟩
   (fun c hc=>.inl hc) (fun k hk=>hk.elim) (fun _ _ _ _ hk=>hk.elim) (fun _ _ _ _ hk=>hk.elim)
   (fun n u ho=>by simp[aT,hr] at ho)
   (fun _ _=>rfl) (fun _ hx=>by cases hx)
   (fun c d hb hd=>by simp only[bU,Option.some.injEq] at hb;subst hb;rw[hg] at hd;cases hd)
   (fun he=>⟨b,vs.setIfInBounds 1 v,rfl,ou,⟨by simp[bC],fun e=>(hm e).elim⟩,by rw[Array.getElem?_setIfInBounds];simpa using h0,v,by rw[Array.getElem?_setIfInBounds];simp[bC],hx.ext he⟩)
  rw[dE] at this
  exact this
 ·rw[cell_of_row w b 1 vs tV (0,0) hg]
  exact⟨u,hu⟩
theorem wk (ao:Γ.Ok) {tab:Nat→Option TD} (ah:aQ Γ.P tab) {o:Oper} {T r q n m:Nat} {p x:Operand} (ho:o.op=.store T p x) {d:TD} (hd:tab T=some d) (h1:d.size=1) (hm:m≠0) (hp:s.ev p=.ptr r 1) (hx:s.ev x=.own q m) (hb:s.hp[r]?=some (.cA q n)):eW Γ o s .top (s.hp.set r (.cA q m)):=by
 intro a w η hr
 have oz:=hr.ev p
 rw[hp] at oz
 have dC:=hr.ev x
 rw[hx] at dC
 generalize hv:a.eval p=v at oz
 cases oz with
 |ptr _ _ b dE=>
  obtain⟨g1,g2,u,g3⟩:=hr.JQ ao hm hb dE dC
  have uf:(a.eval x).oneCell'=true:=by cases dC;assumption
  have ym:(a.eval x).cells=#[a.eval x]:=by cases hq:a.eval x<;>simp_all [Value.cells,Value.oneCell']
  refine⟨undef,_,η,.inr ⟨?_,rfl⟩,g1,.top _⟩
  simp only[execOp,ho,hv,Instr.storeAt,Instr.sureAddr,Sem.run_bind,Sem.run_pure,Result.andThen_ok,storeVar,(ah T d hd).run_sizeOf,h1,ym,List.size_toArray,List.length_cons,List.length_nil,Nat.zero_add,ne_eq,not_true_eq_false,if_false,storeCells,Addr.add_lit]
  rw[run_store _ _ _ _ _ uf,Nat.add_zero,g3]
  simp only[g2,Bool.false_eq_true,if_false,Result.andThen_ok]
theorem JR (ao:Γ.Ok) {tab:Nat→Option TD} (ah:aQ Γ.P tab) {o:Oper} {l:List Prop} {r:AV} {hp':List af} (h:JM tab s.hp s.ev o.op=some (l,r,hp')) (hc:∀p∈l,p):eW Γ o s r hp':=by
 generalize ho:o.op=op at h
 unfold JM at h
 split at h
 ·rename_i S D x
  split at h
  ·rename_i d du hd M8
   split at h
   ·rename_i e hk JN
    split at h
    ·rename_i de AH
     split at h
     ·rename_i Bg
      split at h
      ·rename_i zs hz
       simp only[Option.some.injEq,Prod.mk.injEq] at h
       obtain⟨_,rfl,rfl⟩:=h
       exact Hg ao ah ho hd M8 hk JN AH Bg hz
      ·cases h
     ·cases h
    ·cases h
   ·rename_i e hk JN
    split at h
    ·rename_i de u AH hx
     split at h
     ·rename_i Bg
      simp only[Option.some.injEq,Prod.mk.injEq] at h
      obtain⟨rfl,rfl,rfl⟩:=h
      exact Eh ao ah ho hd M8 hk JN AH Bg hx (hc _ List.mem_cons_self)
     ·cases h
    ·cases h
   ·cases h
  ·cases h
 ·rename_i c
  split at h
  ·rename_i b x T T' yn aw fO
   split at h
   ·rename_i d du r' n u hd M8 mO hx
    split at h
    ·rename_i e e' size els hk JN bW
     split at h
     ·rename_i d' cO
      split at h
      ·rename_i hz
       split at h
       ·rename_i oy
        obtain⟨rfl,rfl,h1,h2⟩:=oy
        simp only[Option.some.injEq,Prod.mk.injEq] at h
        obtain⟨rfl,rfl,rfl⟩:=h
        have e1:=hc _ (List.mem_cons_self)
        have e2:=hc _ (List.mem_cons_of_mem _ List.mem_cons_self)
        rw[e1] at mO
        exact Bf ao ah ho yn aw fO hd M8 hk JN cO hz h1 h2 mO hx bW e2
       ·cases h
      ·cases h
     ·cases h
    ·cases h
   ·cases h
  ·cases h
 ·rename_i T p
  split at h
  ·rename_i d r' hd hp
   split at h
   ·rename_i e q n hk hb
    split at h
    ·simp only[Option.some.injEq,Prod.mk.injEq] at h
     obtain⟨_,rfl,rfl⟩:=h
     exact yl ao ah ho hd (by rw[hk];rfl) hp hb
    ·cases h
   ·cases h
  ·cases h
 ·rename_i T p x
  split at h
  ·rename_i d r' q m hd hp hx
   split at h
   ·rename_i e q' n hk hb
    split at h
    ·rename_i oy
     obtain⟨h1,rfl⟩:=oy
     simp only[Option.some.injEq,Prod.mk.injEq] at h
     obtain⟨rfl,rfl,rfl⟩:=h
     exact wk ao ah ho hd h1 (hc _ List.mem_cons_self) hp hx hb
    ·cases h
   ·cases h
  ·cases h
 ·rename_i T x
  split at h
  ·rename_i hT
   subst hT
   split at h
   ·rename_i hx
    split at h
    ·split at h
     ·split at h
      ·simp only[Option.some.injEq,Prod.mk.injEq] at h
       obtain⟨_,rfl,rfl⟩:=h
       exact JP ao ho hx
      ·cases h
     ·cases h
    ·cases h
   ·cases h
  ·cases h
 ·cases h
end Go.Proofs.YtdcikhleahfknaaGreatDoor
