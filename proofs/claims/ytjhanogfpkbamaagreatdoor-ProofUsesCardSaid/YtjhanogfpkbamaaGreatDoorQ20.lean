/- Texts of ours laid together for a claim: VcO. -/
import Derived.Lib.ConvBytes
import Derived.Laws.LoneSync
import Derived.Laws.Pointers
import Derived.Laws.Entries
import Derived.Laws.BytesArg
import Derived.Test.YtjhanogfpkbamaaGreatDoorQ19
namespace Go.Proofs.YtjhanogfpkbamaaGreatDoor
open Go
set_option linter.unusedSimpArgs false
set_option linter.unusedVariables false
inductive QB where
 |load (k:IntKind)
 |store
 |add (k:IntKind)
 |cas (k:IntKind)
 |same
def QB.run:QB→Array Value→Sem Value
 | .load k=>Extern.Atomic.loadT (.int k)
 | .store=>Extern.Atomic.storeT
 | .add k=>Extern.Atomic.update (Op.intArith .add) k true
 | .cas k=>Extern.Atomic.casT (.int k)
 | .same=>Extern.AbiNoEscape.same
def XOk (P:Program) (f:Nat) (x:QB):Prop:=
 ∃fn,P.funcs[f]?=some fn∧(fn.name == "runtime.NumGoroutine")=false∧fn.body.isNone=true∧Extern.findNext fn=none∧Extern.find fn=some x.run
def U1 (hp:List af) (r off:Nat):QB→Option (AV×List af)
 | .load k=>(match hp[r]? with
  |some (.box cs)=>(match cs[off]? with
   |some (.ah (.int k' n))=>if k'=k then some (.ah (.int k n),hp) else none
   |_=>none)
  |_=>none)
 | .same=>some (.ptr r off,hp)
 |_=>none
def U2 (hp:List af) (r off:Nat) (k1:IntKind) (y:Int):QB→Option (AV×List af)
 | .store=>(match hp[r]? with
  |some (.box cs)=>if off<cs.length then some (.ah (.tuple #[]),hp.set r (.box (cs.set off (.ah (.int k1 y))))) else none
  |_=>none)
 | .add k=>(match hp[r]? with
  |some (.box cs)=>(match cs[off]? with
   |some (.ah (.int k' n))=>if k'=k∧k1=k then some (.ah (.int k (k.wrap (n+y))),hp.set r (.box (cs.set off (.ah (.int k (k.wrap (n+y))))))) else none
   |_=>none)
  |_=>none)
 |_=>none
def U3 (hp:List af) (r off:Nat) (k1:IntKind) (y:Int) (k2:IntKind) (z:Int):QB→Option (AV×List af)
 | .cas k=>(match hp[r]? with
  |some (.box cs)=>(match cs[off]? with
   |some (.ah (.int k' n))=>if k'=k∧k1=k∧k2=k then some (.ah (.bool (decide (n=y))),hp.set r (.box (cs.set off (.ah (.int k (if n=y then z else n)))))) else none
   |_=>none)
  |_=>none)
 |_=>none
def VZ (x:QB) (hp:List af):List AV→Option (AV×List af)
 | [.ptr r off]=>U1 hp r off x
 | [.ptr r off,.ah (.int k1 y)]=>U2 hp r off k1 y x
 | [.ptr r off,.ah (.int k1 y),.ah (.int k2 z)]=>U3 hp r off k1 y k2 z x
 |_=>none
variable {G:Type} {Γ:Env G} {s s':AS G} {a:Act} {w w':World} {η:List Value} {hp:List af} {P:Program}
theorem yJ (hr:Rel Γ s a w η) {r off b:Nat} {cs:List AV} {v:Value} (hb:s.hp[r]?=some (.box cs)) (eS:η[r]?=some (.pointer (some ⟨b,0,none⟩))) (hc:cs[off]?=some (.ah v)):
  w.cell? ⟨b,off,none⟩=some v∧w.frozen? ⟨b,off,none⟩=false:=by
 obtain⟨b',ws,T,he,hg,cJ,iK⟩:=hr.heap.obj r _ _ hb eS
 simp only[Value.pointer.injEq,Option.some.injEq,Addr.mk.injEq,and_true] at he
 subst he
 have ay:off<ws.size:=by rw[cJ];exact(ahY.1 hc).1
 have hu:ws[off]?=some ws[off]:=by simp[ay]
 have:=(iK off _ _ hc hu).1.aE
 refine⟨?_,frozen_of_row w b off ws T hg⟩
 rw[cell_of_row w b off ws T (0,0) hg,hu,this]
theorem HD (aD:Γ.Ok) {f:Nat} {x:QB} (hX:XOk Γ.P f x) {o:Oper} {c:Call} {y:Operand} (ho:o.op=.call c) (hc:c.callee=.value y) {caps:List AV} (eu:s.ev y=.ck f caps) {r:AV} {hp':List af}
  (h:VZ x s.hp (c.args.toList.map s.ev++caps)=some (r,hp')):gR Γ o s r hp':=by
 intro a w η hr
 obtain⟨fn,hf,gI,kD,aV,pU⟩:=hX
 have hyr:=hr.ev y
 rw[eu] at hyr
 generalize hv:a.eval y=v at hyr
 cases hyr with
 |ck _ _ vs hl ec=>
  have aI:(c.args.map a.eval++vs)=(c.args.toList.map a.eval++vs.toList).toArray:=by apply ajm;simp
  have G1:cH w (bn Γ w η s.hp) η s.hp caps vs.toList:=dF (by simpa using hl) fun j y u hy hu=>ec j y u hy (by simpa using hu)
  have iC:=eD _ _ (hO hr c.args.toList) G1
  have oU:(execOp a.eval o).run Γ.P w=(callFunc f (c.args.toList.map a.eval++vs.toList).toArray).run Γ.P w:=by
   rw[←aI]
   simp[execOp,ho,resolve,hc,hv,Deferred.ofValue,invoke]
  generalize c.args.toList.map a.eval++vs.toList=bB at iC oU
  have one:∀{r1 off:Nat} {l:List AV} {bB:List Value},cH w (bn Γ w η s.hp) η s.hp (.ptr r1 off::l) bB→∃b us,bB=.pointer (some ⟨b,off,none⟩)::us∧η[r1]?=some (.pointer (some ⟨b,0,none⟩))∧cH w (bn Γ w η s.hp) η s.hp l us:=by
   intro r1 off l bB h
   match bB,h with
   |u::us,h=>
    cases h.1 with
    |ptr _ _ b eS=>exact⟨b,us,rfl,eS,h.2⟩
  have ah:∀{u:Value} {l:List AV} {bB:List Value},cH w (bn Γ w η s.hp) η s.hp (.ah u::l) bB→∃us,bB=u::us∧cH w (bn Γ w η s.hp) η s.hp l us:=by
   intro u l bB h
   match bB,h with
   |u'::us,h=>exact⟨us,by rw[h.1.aE],h.2⟩
  have nil:∀{bB:List Value},cH w (bn Γ w η s.hp) η s.hp [] bB→bB=[]:=by
   intro bB h
   match bB,h with
   | [],_=>rfl
  unfold VZ at h
  split at h
  ·rename_i r1 off hL
   rw[hL] at iC
   obtain⟨b,us,rfl,eS,qb⟩:=one iC
   obtain rfl:=nil qb
   unfold U1 at h
   split at h
   ·rename_i k
    split at h
    ·rename_i cs hb
     split at h
     ·rename_i k' n aN
      split at h
      ·rename_i hk
       subst hk
       simp only[Option.some.injEq,Prod.mk.injEq] at h
       obtain⟨rfl,rfl⟩:=h
       have MQ:=(yJ hr hb eS aN).1
       exact⟨_,w,η,.inl (oU.trans (run_call_load hf gI kD aV _ pU MQ)),hr,.ah _⟩
      ·cases h
     ·cases h
    ·cases h
   ·simp only[Option.some.injEq,Prod.mk.injEq] at h
    obtain⟨rfl,rfl⟩:=h
    refine⟨.pointer (some ⟨b,off,none⟩),w,η,.inl (oU.trans ?_),hr,.ptr _ _ b eS⟩
    rw[run_callFunc_extern hf gI kD aV pU]
    rfl
   ·cases h
  ·rename_i r1 off k1 y1 hL
   rw[hL] at iC
   obtain⟨b,us,rfl,eS,qb⟩:=one iC
   obtain⟨us',rfl,HE⟩:=ah qb
   obtain rfl:=nil HE
   unfold U2 at h
   split at h
   ·split at h
    ·rename_i cs hb
     split at h
     ·rename_i ay
      simp only[Option.some.injEq,Prod.mk.injEq] at h
      obtain⟨rfl,rfl⟩:=h
      obtain⟨h1,h2,u',h3⟩:=hr.write aD (off:=off) (v:=.int k1 y1) (x:=.ah (.int k1 y1)) hb eS ay rfl (.ah _)
      exact⟨_,_,η,.inl (oU.trans (run_call_store hf gI kD aV pU h3 h2)),h1,.ah _⟩
     ·cases h
    ·cases h
   ·rename_i k
    split at h
    ·rename_i cs hb
     split at h
     ·rename_i k' n aN
      split at h
      ·rename_i hk
       obtain⟨rfl,rfl⟩:=hk
       simp only[Option.some.injEq,Prod.mk.injEq] at h
       obtain⟨rfl,rfl⟩:=h
       have MQ:=(yJ hr hb eS aN).1
       obtain⟨h1,h2,_⟩:=hr.write aD (off:=off) (v:=.int k1 (k1.wrap (n+y1))) (x:=.ah (.int k1 (k1.wrap (n+y1)))) hb eS (ahY.1 aN).1 rfl (.ah _)
       exact⟨_,_,η,.inl (oU.trans (run_call_add hf gI kD aV _ pU MQ h2 rfl)),h1,.ah _⟩
      ·cases h
     ·cases h
    ·cases h
   ·cases h
  ·rename_i r1 off k1 y1 k2 z1 hL
   rw[hL] at iC
   obtain⟨b,us,rfl,eS,qb⟩:=one iC
   obtain⟨us',rfl,HE⟩:=ah qb
   obtain⟨afP,rfl,V0⟩:=ah HE
   obtain rfl:=nil V0
   unfold U3 at h
   split at h
   ·rename_i k
    split at h
    ·rename_i cs hb
     split at h
     ·rename_i k' n aN
      split at h
      ·rename_i hk
       obtain⟨rfl,rfl,rfl⟩:=hk
       simp only[Option.some.injEq,Prod.mk.injEq] at h
       obtain⟨rfl,rfl⟩:=h
       obtain⟨MQ,hfz⟩:=yJ hr hb eS aN
       by_cases hn:n=y1
       ·subst hn
        obtain⟨h1,h2,_⟩:=hr.write aD (off:=off) (v:=.int k2 z1) (x:=.ah (.int k2 z1)) hb eS (ahY.1 aN).1 rfl (.ah _)
        rw[if_pos rfl,decide_eq_true rfl]
        exact⟨_,_,η,.inl (oU.trans (run_call_cas_hit hf gI kD aV _ pU MQ hfz)),h1,.ah _⟩
       ·rw[if_neg hn,decide_eq_false hn]
        have wK:s.hp.set r1 (.box (cs.set off (.ah (.int k2 n))))=s.hp:=by
         have:cs.set off (.ah (.int k2 n))=cs:=by
          apply aiO
          intro i
          by_cases hi:off=i
          ·subst hi;rw[aA aN,aN]
          ·rw[getElem?_set_ne hi]
         rw[this]
         apply aiO
         intro i
         by_cases hi:r1=i
         ·subst hi;rw[aA hb,hb]
         ·rw[getElem?_set_ne hi]
        rw[wK]
        exact⟨_,w,η,.inl (oU.trans (run_call_cas_miss hf gI kD aV _ pU MQ hfz hn)),hr,.ah _⟩
      ·cases h
     ·cases h
    ·cases h
   ·cases h
  ·cases h
def Nn:AV→Bool
 | .ah (.pointer none)=>true
 |_=>false
def V1 (az:Nat→Option TD) (ρ:Operand→AV):Op→Option AV
 | .binOp op T x y _=>(match az T,BE (ρ x),Nn (ρ y) with
  |some d,some b,true=>(match d.kind with
   | .ptr _=>(match op with
    | .eql=>some (.ah (.bool b))
    | .neq=>some (.ah (.bool (!b)))
    |_=>none)
   |_=>none)
  |_,_,_=>none)
 | .convert S D x=>(match az S,az D,ρ x with
  |some _,some d,.ah (.int _ n)=>(match d.kind with
   | .int k=>some (.ah (.int k (k.wrap n)))
   |_=>none)
  |_,_,_=>none)
 |_=>none
theorem HF {az:Nat→Option TD} (au:aT Γ.P az) {o:Oper} {r:AV} (h:V1 az s.ev o.op=some r):gi Γ o s r:=by
 generalize ho:o.op=op at h
 unfold V1 at h
 split at h
 ·rename_i bop T x y T'
  split at h
  ·rename_i d b hd hb hy
   have GX:s.ev y=.ah (.pointer none):=by
    unfold Nn at hy
    split at hy
    ·assumption
    ·cases hy
   split at h
   ·rename_i e hk
    have hu:Γ.P.underlying T=some (.pointer (Γ.P.pointee T)):=by
     obtain⟨u,q2,q3⟩:=(au T d hd).jR
     rw[hk] at q3
     have:Γ.P.underlying T=some (.pointer e):=by rw[q2];exact congrArg some q3
     rw[this,Program.pointee,this]
    split at h
    ·obtain rfl:=Option.some.inj h
     refine aS fun a w η hr=>?_
     obtain⟨p,hp,QY⟩:=qK hb (hr.ev x)
     have h2:=hr.ev y
     rw[GX] at h2
     have h2:=h2.aE
     refine⟨.bool b,?_,.ah _⟩
     simp only[execOp,ho,hp,h2,eqGuard,aju,aij,if_false,Sem.run_bind,Sem.run_pure,Result.andThen_ok,run_eql_pointer_nil w T p hu,QY]
    ·obtain rfl:=Option.some.inj h
     refine aS fun a w η hr=>?_
     obtain⟨p,hp,QY⟩:=qK hb (hr.ev x)
     have h2:=hr.ev y
     rw[GX] at h2
     have h2:=h2.aE
     refine⟨.bool (!b),?_,.ah _⟩
     simp only[execOp,ho,hp,h2,eqGuard,aju,aij,if_false,Sem.run_bind,Sem.run_pure,Result.andThen_ok,run_neq_pointer_nil w T p hu,QY]
    ·cases h
   ·cases h
  ·cases h
 ·rename_i S D x
  split at h
  ·rename_i d1 d k n hS hD hx
   split at h
   ·rename_i k2 hk
    obtain rfl:=Option.some.inj h
    refine aS fun a w η hr=>?_
    have h1:=hr.ev x
    rw[hx] at h1
    have h1:=h1.aE
    obtain⟨u1,q1,_⟩:=(au S d1 hS).jR
    have hu:Γ.P.underlying D=some (.int k2):=by
     obtain⟨u,q2,q3⟩:=(au D d hD).jR
     rw[hk] at q3
     rw[q2];exact congrArg some q3
    refine⟨.int k2 (k2.wrap n),?_,.ah _⟩
    simp only[execOp,ho,h1,convert,Sem.run_bind,run_underlying q1,run_underlying hu,Result.andThen_ok]
    rfl
   ·cases h
  ·cases h
 ·cases h
def uY:List AV→Option (List Int)
 | []=>some []
 | .ah (.int .u8 n)::l=>(match uY l with|some zs=>some (n::zs)|none=>none)
 |_=>none
theorem yK:∀{l:List AV} {zs:List Int},uY l=some zs→zs.length=l.length∧∀i,i<l.length→l[i]?=some (.ah (.int .u8 (zs.getD i 0)))
 | [],zs,h=>by cases h;exact⟨rfl,fun i hi=>by simp at hi⟩
 |x::l,zs,h=>by
  unfold uY at h
  split at h
  ·rename_i e;cases e
  ·rename_i n l' e
   obtain⟨rfl,rfl⟩:=List.cons.inj e
   split at h
   ·rename_i ys hy
    obtain rfl:=Option.some.inj h
    obtain⟨h1,h2⟩:=yK hy
    refine⟨by simp[h1],fun i hi=>?_⟩
    cases i with
    |zero=>rfl
    |succ i=>simpa using h2 i (by simpa using hi)
   ·cases h
  ·cases h
def yL:AV→Option (List Int)
 | .clip (x::l)=>uY (x::l)
 | .sl (x::l)=>uY (x::l)
 |_=>none
def Np (az:Nat→Option TD) (hp:List af) (ρ:Operand→AV):Op→Option (List Prop×AV×List af)
 | .convert S D x=>(match az S,az D with
  |some d,some du=>(match d.kind,du.kind with
   | .lO e,.str=>(match az e with
    |some de=>(match de.kind with
     | .int .u8=>(match yL (ρ x) with
      |some zs=>some ([],.ah (.string (strOfNums zs)),hp)
      |none=>none)
     |_=>none)
    |none=>none)
   | .str,.lO e=>(match az e,ρ x with
    |some de,.ah (.string u)=>(match de.kind with
     | .int .u8=>some ([u.size≤140737488355328],.sl (bg u),hp)
     |_=>none)
    |_,_=>none)
   |_,_=>none)
  |_,_=>none)
 | .call c=>(match c.callee,c.args.toList,c.argTypes.toList with
  | .builtin .append,[b,x],[T,T']=>(match az T,az T',ρ b,ρ x with
   |some d,some du,.own r n,.ah (.string s)=>(match d.kind,du.kind,hp[r]? with
    | .lO e,.str,some (.row e' size els)=>(match az e with
     |some d'=>(match d'.zero with
      | .int .u8 0=>if e'=e∧size=d'.size∧d'.size=1∧d'.bytes=1 then some ([n=els.length,els.length+s.size≤140737488355328],.own r (els++bg s).length,hp.set r (.row e size (els++bg s))) else none
      |_=>none)
     |none=>none)
    |_,_,_=>none)
   |_,_,_,_=>none)
  |_,_,_=>none)
 | .load T p=>(match az T,ρ p with
  |some d,.ptr r 1=>(match d.kind,hp[r]? with
   | .lO _,some (.dD q n)=>if d.size=1 then some ([],.own q n,hp) else none
   |_,_=>none)
  |_,_=>none)
 | .store T p x=>(match az T,ρ p,ρ x with
  |some d,.ptr r 1,.own q m=>(match d.kind,hp[r]? with
   | .lO _,some (.dD q' _)=>if d.size=1∧q'=q then some ([m≠0],.top,hp.set r (.dD q m)) else none
   |_,_=>none)
  |_,_,_=>none)
 | .box T x=>if T=xX then(match ρ x with
  | .agg [.ah (.pointer none),.ah (.slice none 0 0)]=>(match az 5 with
   |some d=>(match d.zero with
    | .int .u8 0=>if d.size=1 then some ([],.ptr hp.length 0,hp++[.dD (hp.length+1) ([]:List AV).length,.row 5 1 []]) else none
    |_=>none)
   |none=>none)
  |_=>none) else none
 |_=>none
theorem Eu (aD:Γ.Ok) {az:Nat→Option TD} (au:aT Γ.P az) {o:Oper} {c:Call} (ho:o.op=.call c) (hb:c.callee=.builtin .append) {b x:Operand} (hl:c.args.toList=[b,x]) {T T' e r:Nat} (hT:c.argTypes.toList=[T,T']) {d du d':TD} (hd:az T=some d)
  (QC:az T'=some du) (hk:d.kind=.lO e) (Nq:du.kind=.str) (eG:az e=some d') (hz:d'.zero=.int .u8 0) (h1:d'.size=1) (h2:d'.bytes=1) {els:List AV} {u:ByteArray} (pV:s.ev b=.own r els.length) (hx:s.ev x=.ah (.string u)) (eo:s.hp[r]?=some (.row e d'.size els)) (hm:els.length+u.size≤140737488355328):
  gR Γ o s (.own r (els++bg u).length) (s.hp.set r (.row e d'.size (els++bg u))):=by
 intro a w η hr
 have hu:Γ.P.underlying T=some (.slice e):=by
  obtain⟨u,q2,q3⟩:=(au T d hd).jR
  rw[hk] at q3
  rw[q2];exact congrArg some q3
 have QA:Γ.P.underlying T'=some .string:=by
  obtain⟨u,q2,q3⟩:=(au T' du QC).jR
  rw[Nq] at q3
  rw[q2];exact congrArg some q3
 have eU:=hr.ev x
 rw[hx] at eU
 have vF:=eU.aE
 have IX:=hr.ev b
 rw[pV] at IX
 have uK:aY η s.hp r els.length (a.eval b):=by cases IX;assumption
 have pW:c.argTypes=#[T,T']:=by rw[←aiF (xs:=c.argTypes),hT]
 have aI:c.args=#[b,x]:=by rw[←aiF (xs:=c.args),hl]
 have hn:=G2 (w:=w) (F:=bn Γ w η s.hp) (ty:=o.type) hu QA (au e d' eG) h1 hz u
 have uM:=dS u
 obtain⟨v',w',aU,g1,g2,g3,g4⟩:=x9 (M:=false) aD hr (au e d' eG) eo uK hn (fun y hy=>by
  rw[h1]
  simp only[bg,aiQ] at hy
  obtain⟨q,_,rfl⟩:=hy
  rfl) (by rw[uM];unfold maxLen;omega) (by rw[uM,h2];omega)
 refine⟨v',w',aU,.inl ?_,g2,.own _ _ _ g3 ?_⟩
 ·rw[←vF] at g1
  simp only[execOp,ho,resolve,hb,Sem.run_bind,Sem.run_pure,Result.andThen_ok,invoke,builtin,pW,aI,ajx,ais,aiY,g1]
 ·unfold aY
  rw[aA eo]
  exact⟨ah5 _,fun _=>g4⟩
theorem K3 (aD:Γ.Ok) {az:Nat→Option TD} (au:aT Γ.P az) {o:Oper} {S D e:TypeId} {x:Operand} (ho:o.op=.convert S D x) {d du de:TD} (hd:az S=some d) (QC:az D=some du) (hk:d.kind=.lO e) (Nq:du.kind=.str) (DV:az e=some de) (sV:de.kind=.int .u8) {zs:List Int} (hx:yL (s.ev x)=some zs):
  gR Γ o s (.ah (.string (strOfNums zs))) s.hp:=by
 intro a w η hr
 have hs:Γ.P.underlying S=some (.slice e):=by
  obtain⟨u,q2,q3⟩:=(au S d hd).jR
  rw[hk] at q3
  rw[q2];exact congrArg some q3
 have hD:Γ.P.underlying D=some .string:=by
  obtain⟨u,q2,q3⟩:=(au D du QC).jR
  rw[Nq] at q3
  rw[q2];exact congrArg some q3
 have hE:Γ.P.underlying e=some (.int .u8):=by
  obtain⟨u,q2,q3⟩:=(au e de DV).jR
  rw[sV] at q3
  rw[q2];exact congrArg some q3
 have V2:=hr.ev x
 obtain⟨y,l,M9,hz⟩:∃y l,bw w (bn Γ w η s.hp) η s.hp (.sl (y::l)) (a.eval x)∧uY (y::l)=some zs:=by
  unfold yL at hx
  split at hx
  ·rename_i y l e;rw[e] at V2;exact⟨y,l,V2.qH,hx⟩
  ·rename_i y l e;rw[e] at V2;exact⟨y,l,V2,hx⟩
  ·cases hx
 obtain⟨Rd,V3⟩:=yK hz
 generalize hv:a.eval x=v at M9
 cases M9 with
 |sl size els b o c f hc hm hl aN UZ=>
  have h0:size=1:=by
   have:=hl 0 _ (V3 0 (by simp))
   exact this.symm
  subst h0
  have cell:∀i,i<(y::l).length→w.cell? ⟨b,o+i,none⟩=some (.int .u8 (zs.getD i 0)):=fun i hi=>by
   have h1:=(aN i _ 0 _ (V3 i hi) rfl).1
   have h2:=(UZ i _ 0 _ (V3 i hi) rfl).aE
   rw[h2] at h1
   simpa using h1
  have gM:=run_convert_bytes_arg (P:=Γ.P) w S e hs hE b o (y::l).length c zs Rd cell D hD
  refine⟨.string (strOfNums zs),w,η,.inl ?_,hr,.ah _⟩
  simp only[execOp,ho,hv,Sem.run_bind,gM,Result.andThen_ok]
  rfl
theorem HG (aD:Γ.Ok) {az:Nat→Option TD} (au:aT Γ.P az) {o:Oper} {S D e:TypeId} {x:Operand} (ho:o.op=.convert S D x) {d du de:TD} (hd:az S=some d) (QC:az D=some du) (hk:d.kind=.str) (Nq:du.kind=.lO e) (DV:az e=some de) (sV:de.kind=.int .u8) {u:ByteArray}
  (hx:s.ev x=.ah (.string u)) (hm:u.size≤140737488355328):gR Γ o s (.sl (bg u)) s.hp:=by
 intro a w η hr
 have hs:Γ.P.underlying S=some .string:=by
  obtain⟨u,q2,q3⟩:=(au S d hd).jR
  rw[hk] at q3
  rw[q2];exact congrArg some q3
 have hD:Γ.P.underlying D=some (.slice e):=by
  obtain⟨u,q2,q3⟩:=(au D du QC).jR
  rw[Nq] at q3
  rw[q2];exact congrArg some q3
 have hE:Γ.P.underlying e=some (.int .u8):=by
  obtain⟨u,q2,q3⟩:=(au e de DV).jR
  rw[sV] at q3
  rw[q2];exact congrArg some q3
 have V2:=hr.ev x
 rw[hx] at V2
 have vF:=V2.aE
 have gM:=Lib.run_convert_string_bytes (P:=Γ.P) w S D e u hs hD hE
 have zX:bX w (Lib.bytesWorld w e u):=⟨by unfold Lib.bytesWorld World.freeze;split<;>rfl,by unfold Lib.bytesWorld World.freeze;split<;>rfl,by unfold Lib.bytesWorld World.freeze;split<;>rfl,by rw[Lib.bytesWorld_size];omega,fun k hk=>Lib.bytesWorld_at_old w e u k hk⟩
 refine⟨_,_,η,.inl (by simp only[execOp,ho,vF,Sem.run_bind,gM,Result.andThen_ok];rfl),hr.same aD zX,?_⟩
 have hl:=dS u
 have jQ:∀k,bn Γ (Lib.bytesWorld w e u) η s.hp w.heap.size k:=fun k=>
  ⟨.inr (.inl hr.keeps.size),by rw[Lib.bytesWorld_size];omega,(IU (T:=e) (cs:=#[]) hr k (fun _ _=>aD.no)).2.2⟩
 have GV:∀(i:Nat) (y:AV),(bg u)[i]?=some y→∃c:UInt8,i<u.size∧u.data.toList.getD i 0=c∧y=.ah (.int .u8 c.toNat):=fun i y hi=>by
  simp only[bg,aie] at hi
  obtain⟨c,hc,rfl⟩:=aiX.1 hi
  have ay:=(ahY.1 hc).1
  exact⟨c,by simpa using ay,by rw[List.getD_eq_getElem?_getD,hc];rfl,rfl⟩
 have:=bw.sl (w:=Lib.bytesWorld w e u) (F:=bn Γ (Lib.bytesWorld w e u) η s.hp) (η:=η) (hp:=s.hp) 1 (bg u) w.heap.size 0 (grownCap w u.size 0 e) (fun i j=>.int .u8 (u.data.toList.getD i 0).toNat) (by rw[hl];exact grownCap_ge _ _ _ _) (grownCap_le_maxLen _ _ _ _ (by unfold maxLen;omega))
  (fun i y hi=>by obtain⟨c,_,_,rfl⟩:=GV i y hi;rfl) (fun i y j z hi hj=>by
   obtain⟨c,h1,h2,rfl⟩:=GV i y hi
   have hj0:j=0:=by(have:=(ahY.1 hj).1;simp[AV.cells] at this;omega)
   subst hj0
   refine⟨?_,jQ _,rfl⟩
   rw[aiw,ajg,ai4]
   exact Lib.bytesWorld_cell w e u i h1) (fun i y j z hi hj=>by
   obtain⟨c,h1,h2,rfl⟩:=GV i y hi
   have hj0:j=0:=by(have:=(ahY.1 hj).1;simp[AV.cells] at this;omega)
   subst hj0
   rw[h2]
   obtain rfl:AV.ah (.int .u8 c.toNat)=z:=by simpa [AV.cells] using hj
   exact .ah _)
 rw[hl] at this
 exact this
theorem Nr (aD:Γ.Ok) {o:Oper} {x:Operand} (ho:o.op=.box xX x) (hx:s.ev x=.agg [.ah (.pointer none),.ah (.slice none 0 0)]):gR Γ o s (.ptr s.hp.length 0) (s.hp++[.dD (s.hp.length+1) 0,.row 5 1 []]):=by
 intro a w η hr
 have eU:=hr.ev x
 rw[hx] at eU
 generalize hv:a.eval x=v at eU
 cases eU with
 |agg _ vs hl h1 UZ=>
  have e0:vs[0]?=some (.pointer none):=by
   have:0<vs.size:=by rw[hl];simp
   have h2:=UZ 0 _ _ rfl (aiT this)
   rw[aiT this,h2.aE]
  have e1:vs[1]?=some (.slice none 0 0):=by
   have:1<vs.size:=by rw[hl];simp
   have h2:=UZ 1 _ _ rfl (aiT this)
   rw[aiT this,h2.aE]
  have zX:=bX.alloc w (.cells vs xX)
  have Qv:=hr.heap.len
  have hn:∀{r:Nat} {u:Value} {b:Nat},(η++[.pointer (some ⟨w.heap.size,0,none⟩),.slice none 0 0])[r]?=some u→dK u=some b→(η[r]?=some u∧r<s.hp.length)∨(r=s.hp.length∧b=w.heap.size):=by
   intro r u b hu hb
   by_cases ay:r<η.length
   ·rw[aib ay] at hu;exact .inl ⟨hu,by omega⟩
   ·rw[aiz (by omega)] at hu
    cases hk:r-η.length with
    |zero=>
     rw[hk] at hu
     simp only[aiS,Option.some.injEq] at hu
     subst hu
     simp only[dK,Option.some.injEq] at hb
     exact .inr ⟨by omega,hb.symm⟩
    |succ k=>
     rw[hk] at hu
     cases k with
     |zero=>simp at hu;subst hu;simp[dK] at hb
     |succ k=>simp at hu
  have ho0:∀{r:Nat} {ob:af},(s.hp++[af.dD (s.hp.length+1) 0,.row 5 1 []])[r]?=some ob→(s.hp[r]?=some ob∧r<s.hp.length)∨(r=s.hp.length∧ob=.dD (s.hp.length+1) 0)∨(r=s.hp.length+1∧ob=.row 5 1 []):=by
   intro r ob eP
   by_cases ay:r<s.hp.length
   ·rw[aib ay] at eP;exact .inl ⟨eP,ay⟩
   ·rw[aiz (by omega)] at eP
    cases hk:r-s.hp.length with
    |zero=>rw[hk] at eP;simp at eP;exact .inr (.inl ⟨by omega,eP.symm⟩)
    |succ k=>
     rw[hk] at eP
     cases k with
     |zero=>simp at eP;exact .inr (.inr ⟨by omega,eP.symm⟩)
     |succ k=>simp at eP
  have Mi:(η++[Value.pointer (some ⟨w.heap.size,0,none⟩),.slice none 0 0])[s.hp.length]?=some (.pointer (some ⟨w.heap.size,0,none⟩)):=by
   rw[←Qv,aiz (ah5 _)];simp
  have X4:(η++[Value.pointer (some ⟨w.heap.size,0,none⟩),.slice none 0 0])[s.hp.length+1]?=some (.slice none 0 0):=by
   rw[←Qv,aiz (by omega)];simp
  have gh1:(s.hp++[af.dD (s.hp.length+1) 0,.row 5 1 []])[s.hp.length+1]?=some (.row 5 1 []):=by
   rw[aiz (by omega)];simp
  have hold:∀{r:Nat} {u:Value},η[r]?=some u→(η++[Value.pointer (some ⟨w.heap.size,0,none⟩),.slice none 0 0])[r]?=some u:=fun hu=>by
   rw[aib (ahY.1 hu).1];exact hu
  have he:Ext w (bn Γ w η s.hp) η s.hp (w.alloc (.cells vs xX)) (bn Γ (w.alloc (.cells vs xX)) (η++[.pointer (some ⟨w.heap.size,0,none⟩),.slice none 0 0]) (s.hp++[.dD (s.hp.length+1) 0,.row 5 1 []])) (η++[.pointer (some ⟨w.heap.size,0,none⟩),.slice none 0 0]) (s.hp++[.dD (s.hp.length+1) 0,.row 5 1 []]):=by
   refine⟨fun b k u hf hc=>by rw[World.cell?_of_block (zX.block b (fz hf))];exact hc,fun b es c hf hc=>by rw[zX.block b (fz hf)];exact hc,fun b k hf=>⟨hf.1,aiD hf.2.1 zX.size,hf.2.2.1,(aZ b k).2 fun r u hu hb=>?_⟩,fun _ _ h=>hold h,fun _ _ h=>hold h,fun r n u ho=>?_⟩
   ·rcases hn hu hb with⟨g1,g2⟩|⟨_,g2⟩
    ·obtain⟨ob,q1,q2⟩:=(aZ b k).1 hf.2.2.2 r u g1 hb
     exact⟨ob,by rw[aib g2];exact q1,q2⟩
    ·have:=fz hf;omega
   ·unfold aY at ho ⊢
    cases GY:s.hp[r]? with
    |none=>simp[GY] at ho
    |some ob=>
     rw[aib (ahY.1 GY).1,GY]
     rw[GY] at ho
     cases ob with
     |row e z els=>exact⟨ho.1,fun Mz=>hold (ho.2 Mz)⟩
     |bM e z els=>exact⟨ho.1,fun Mz=>hold (ho.2 Mz)⟩
     |eH e m ns=>exact⟨ho.1,fun Mz=>hold (ho.2 Mz)⟩
     |_=>exact ho
  refine⟨.pointer (some ⟨w.heap.size,0,none⟩),_,η++[.pointer (some ⟨w.heap.size,0,none⟩),.slice none 0 0],.inl (by simp[execOp,ho,hv,Instr.box,newVar,newRow,Value.cells];rfl),?_,.ptr _ 0 w.heap.size Mi⟩
  have pP:∀(r:Nat) (ob:af) (u:Value) (b:Nat),s.hp[r]?=some ob→ob.live→η[r]?=some u→dK u=some b→b<w.heap.size:=fun r ob u b g1 g2 g3 g4=>hr.heap.block g1 g2 g3 g4
  refine⟨hr.nt,fun t=>(hr.tmps t).ext he,⟨by simp[Qv],fun r ob u g1 g2=>?_,fun r r' o1 o2 u u' b bK g1 g2 l1 l2 g3 g4 hb gb=>?_⟩,fun r ob u b g1 g2 g3 g4=>?_,hr.keeps.By zX,aD.pO _ _ _ (fun b hb=>zX.block b (aiD (aD.x b hb) hr.keeps.size)) zX.size hr.inv,(zX.keeps fun _=>False).marks hr.marks fun _ hf=>hf.elim,hr.ext.trans he⟩
  ·rcases ho0 g1 with⟨g3,g4⟩|⟨rfl,rfl⟩|⟨rfl,rfl⟩
   ·rw[aib (by omega)] at g2
    exact(hr.heap.obj r ob u g3 g2).ext he zX.size fun b _ ay=>zX.block b ay
   ·rw[Mi] at g2
    obtain rfl:=Option.some.inj g2
    exact⟨w.heap.size,vs,rfl,heap_alloc_new w _,⟨hl,fun _=>e1⟩,.inl e0,_,e1,.own _ 0 _ rfl (by unfold aY;rw[gh1];exact⟨ah5 _,fun _=>X4⟩)⟩
   ·rw[X4] at g2
    obtain rfl:=Option.some.inj g2
    exact⟨Nat.one_pos,[],⟨by simp,.inl ⟨rfl,.inl rfl⟩⟩,fun i el hi=>by simp at hi⟩
  ·rcases hn g3 hb with⟨p1,p2⟩|⟨p1,p2⟩
   ·rcases hn g4 gb with⟨q1,q2⟩|⟨q1,q2⟩
    ·rw[aib p2] at g1
     rw[aib q2] at g2
     exact hr.heap.sep r r' o1 o2 u u' b bK g1 g2 l1 l2 p1 q1 hb gb
    ·rw[aib p2] at g1
     have:=pP r o1 u b g1 l1 p1 hb;omega
   ·rcases hn g4 gb with⟨q1,q2⟩|⟨q1,q2⟩
    ·rw[aib q2] at g2
     have:=pP r' o2 u' b g2 l2 q1 gb;omega
    ·omega
  ·rcases hn g3 g4 with⟨p1,p2⟩|⟨p1,p2⟩
   ·rw[aib p2] at g1
    exact hr.cE r ob u b g1 g2 p1 g4
   ·subst p2
    exact⟨.inl hr.keeps.size,fun k hx=>by have:=aD.no hx;have:=hr.keeps.size;omega⟩
theorem BW (aD:Γ.Ok) {az:Nat→Option TD} (au:aT Γ.P az) {o:Oper} {T r q n:Nat} {p:Operand} (ho:o.op=.load T p) {d:TD} (hd:az T=some d) (ha:d.kind.agg=false) (hp:s.ev p=.ptr r 1) (hb:s.hp[r]?=some (.dD q n)):gR Γ o s (.own q n) s.hp:=by
 intro a w η hr
 have hx:=hr.ev p
 rw[hp] at hx
 generalize hv:a.eval p=v at hx
 cases hx with
 |ptr _ _ b eS=>
  obtain⟨b',vs,he,hg,⟨cJ,_⟩,_,u,hu,ec⟩:=hr.heap.obj r _ _ hb eS
  simp only[Value.pointer.injEq,Option.some.injEq,Addr.mk.injEq,and_true] at he
  subst he
  have h1:u.oneCell'=true:=by cases ec;assumption
  have Qz:=au.sz hd ha
  have U4:=kZ (P:=Γ.P) (au T d hd) (o:=1) (uR hg) (by rw[Qz,aiL,cJ];decide)
  have e:((vs.toList.drop 1).take d.size).headD undef=u:=by
   rw[Qz]
   have h2:vs.toList[1]?=some u:=by simpa using hu
   cases hl:vs.toList with
   |nil=>rw[hl] at h2;simp at h2
   |cons x l=>
    rw[hl] at h2
    cases l with
    |nil=>simp at h2
    |cons y l=>simp at h2;subst h2;rfl
  rw[ha,e] at U4
  refine⟨u,w,η,.inl ?_,hr,ec⟩
  simp only[execOp,ho,hv,Instr.loadAt,Instr.sureAddr,Sem.run_bind,Sem.run_pure,Result.andThen_ok]
  rw[U4]
  rfl
theorem Rel.Ns (aD:Γ.Ok) (h:Rel Γ s a w η) {r q n m b:Nat} {v:Value} (hm:m≠0) (hr:s.hp[r]?=some (.dD q n)) (hv:η[r]?=some (.pointer (some ⟨b,0,none⟩))) (hx:bw w (bn Γ w η s.hp) η s.hp (.own q m) v):
  Rel Γ { s with hp:=s.hp.set r (.dD q m) } a (w.setCell ⟨b,1,none⟩ v) η∧w.frozen? ⟨b,1,none⟩=false∧∃u,w.cell? ⟨b,1,none⟩=some u:=by
 obtain⟨b',vs,he,hg,⟨cJ,_⟩,h0,u,hu,ec⟩:=h.heap.obj r _ _ hr hv
 simp only[Value.pointer.injEq,Option.some.injEq,Addr.mk.injEq,and_true] at he
 subst he
 have wK:(w.setCell ⟨b,1,none⟩ v).heap[b]?=some (.cells (vs.setIfInBounds 1 v) xX (0,0)):=Go.heap_setCell_same w b 1 vs xX v hg
 have eS:η.set r (.pointer (some ⟨b,0,none⟩))=η:=by
  apply aiO
  intro i
  by_cases hi:r=i
  ·subst hi;rw[aA hv,hv]
  ·rw[getElem?_set_ne hi]
 refine⟨?_,frozen_of_row w b 1 vs xX hg,?_⟩
 ·have:=Rel.change (w':=w.setCell ⟨b,1,none⟩ v) (o':=.dD q m) (v':=.pointer (some ⟨b,0,none⟩)) aD h hr True.intro hv
   ⟨rfl,rfl,rfl,by simp[World.setCell],fun k hk hb=>ajF w _ k v (by intro e;exact hb (by rw[e];rfl))⟩
   (fun c hc=>.inl hc) (fun k hk=>hk.elim) (fun _ _ _ _ hk=>hk.elim) (fun _ _ _ _ hk=>hk.elim)
   (fun n u ho=>by simp[aY,hr] at ho)
   (fun _ _=>rfl) (fun _ hx=>by cases hx)
   (fun c d hb hd=>by simp only[dK,Option.some.injEq] at hb;subst hb;rw[hg] at hd;cases hd)
   (fun he=>⟨b,vs.setIfInBounds 1 v,rfl,wK,⟨by simp[cJ],fun e=>(hm e).elim⟩,by rw[ajr];simpa using h0,v,by rw[ajr];simp[cJ],hx.ext he⟩)
  rw[eS] at this
  exact this
 ·rw[cell_of_row w b 1 vs xX (0,0) hg]
  exact⟨u,hu⟩
theorem Ab (aD:Γ.Ok) {az:Nat→Option TD} (au:aT Γ.P az) {o:Oper} {T r q n m:Nat} {p x:Operand} (ho:o.op=.store T p x) {d:TD} (hd:az T=some d) (h1:d.size=1) (hm:m≠0) (hp:s.ev p=.ptr r 1) (hx:s.ev x=.own q m) (hb:s.hp[r]?=some (.dD q n)):gR Γ o s .top (s.hp.set r (.dD q m)):=by
 intro a w η hr
 have rM:=hr.ev p
 rw[hp] at rM
 have eU:=hr.ev x
 rw[hx] at eU
 generalize hv:a.eval p=v at rM
 cases rM with
 |ptr _ _ b eS=>
  obtain⟨g1,g2,u,g3⟩:=hr.Ns aD hm hb eS eU
  have KT:(a.eval x).oneCell'=true:=by cases eU;assumption
  have BX:(a.eval x).cells=#[a.eval x]:=by cases hq:a.eval x<;>simp_all [Value.cells,Value.oneCell']
  refine⟨undef,_,η,.inr ⟨?_,rfl⟩,g1,.top _⟩
  simp only[execOp,ho,hv,Instr.storeAt,Instr.sureAddr,Sem.run_bind,Sem.run_pure,Result.andThen_ok,storeVar,(au T d hd).run_sizeOf,h1,BX,ajS,aif,aiK,aiw,ne_eq,not_true_eq_false,if_false,storeCells,Addr.add_lit]
  rw[run_store _ _ _ _ _ KT,ai4,g3]
  simp only[g2,aij,if_false,Result.andThen_ok]
theorem Nt (aD:Γ.Ok) {az:Nat→Option TD} (au:aT Γ.P az) {o:Oper} {l:List Prop} {r:AV} {hp':List af} (h:Np az s.hp s.ev o.op=some (l,r,hp')) (hc:∀p∈l,p):gR Γ o s r hp':=by
 generalize ho:o.op=op at h
 unfold Np at h
 split at h
 ·rename_i S D x
  split at h
  ·rename_i d du hd QC
   split at h
   ·rename_i e hk Nq
    split at h
    ·rename_i de DV
     split at h
     ·rename_i sV
      split at h
      ·rename_i zs hz
       simp only[Option.some.injEq,Prod.mk.injEq] at h
       obtain⟨_,rfl,rfl⟩:=h
       exact K3 aD au ho hd QC hk Nq DV sV hz
      ·cases h
     ·cases h
    ·cases h
   ·rename_i e hk Nq
    split at h
    ·rename_i de u DV hx
     split at h
     ·rename_i sV
      simp only[Option.some.injEq,Prod.mk.injEq] at h
      obtain⟨rfl,rfl,rfl⟩:=h
      exact HG aD au ho hd QC hk Nq DV sV hx (hc _ aia)
     ·cases h
    ·cases h
   ·cases h
  ·cases h
 ·rename_i c
  split at h
  ·rename_i b x T T' BZ aI iL
   split at h
   ·rename_i d du r' n u hd QC pV hx
    split at h
    ·rename_i e e' size els hk Nq eo
     split at h
     ·rename_i d' eG
      split at h
      ·rename_i hz
       split at h
       ·rename_i r7
        obtain⟨rfl,rfl,h1,h2⟩:=r7
        simp only[Option.some.injEq,Prod.mk.injEq] at h
        obtain⟨rfl,rfl,rfl⟩:=h
        have e1:=hc _ (aia)
        have e2:=hc _ (aip _ aia)
        rw[e1] at pV
        exact Eu aD au ho BZ aI iL hd QC hk Nq eG hz h1 h2 pV hx eo e2
       ·cases h
      ·cases h
     ·cases h
    ·cases h
   ·cases h
  ·cases h
 ·rename_i T p
  split at h
  ·rename_i d r' hd hp
   split at h
   ·rename_i e q n hk hb
    split at h
    ·simp only[Option.some.injEq,Prod.mk.injEq] at h
     obtain⟨_,rfl,rfl⟩:=h
     exact BW aD au ho hd (by rw[hk];rfl) hp hb
    ·cases h
   ·cases h
  ·cases h
 ·rename_i T p x
  split at h
  ·rename_i d r' q m hd hp hx
   split at h
   ·rename_i e q' n hk hb
    split at h
    ·rename_i r7
     obtain⟨h1,rfl⟩:=r7
     simp only[Option.some.injEq,Prod.mk.injEq] at h
     obtain⟨rfl,rfl,rfl⟩:=h
     exact Ab aD au ho hd h1 (hc _ aia) hp hx hb
    ·cases h
   ·cases h
  ·cases h
 ·rename_i T x
  split at h
  ·rename_i hT
   subst hT
   split at h
   ·rename_i hx
    split at h
    ·split at h
     ·split at h
      ·simp only[Option.some.injEq,Prod.mk.injEq] at h
       obtain⟨_,rfl,rfl⟩:=h
       exact Nr aD ho hx
      ·cases h
     ·cases h
    ·cases h
   ·cases h
  ·cases h
 ·cases h
end Go.Proofs.YtjhanogfpkbamaaGreatDoor
