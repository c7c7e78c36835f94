/- Texts of ours laid together for a claim: VcO. -/
import Derived.Lib.ConvBytes
import Derived.Laws.LoneSync
import Derived.Laws.Pointers
import Derived.Laws.Entries
import Derived.Laws.BytesArg
import Derived.Test.YtjhanogfpkbamaaGreatDoorQ19
namespace Go.Proofs.YtjhanogfpkbamaaGreatDoor
open Go
set_option linter.unusedSimpArgs false
set_option linter.unusedVariables false
inductive XOp where
 |load (k:IntKind)
 |store
 |add (k:IntKind)
 |cas (k:IntKind)
 |same
def XOp.run:XOp→Array Value→Sem Value
 | .load k=>Extern.Atomic.loadT (.int k)
 | .store=>Extern.Atomic.storeT
 | .add k=>Extern.Atomic.update (Op.intArith .add) k true
 | .cas k=>Extern.Atomic.casT (.int k)
 | .same=>Extern.AbiNoEscape.same
def XOk (P:Program) (f:Nat) (x:XOp):Prop:=
 ∃fn,P.funcs[f]?=some fn∧(fn.name == "runtime.NumGoroutine")=false∧fn.body.isNone=true∧Extern.findNext fn=none∧Extern.find fn=some x.run
def xrun1 (hp:List AObj) (r off:Nat):XOp→Option (AV×List AObj)
 | .load k=>(match hp[r]? with
  |some (.box cs)=>(match cs[off]? with
   |some (.prim (.int k' n))=>if k'=k then some (.prim (.int k n),hp) else none
   |_=>none)
  |_=>none)
 | .same=>some (.ptr r off,hp)
 |_=>none
def xrun2 (hp:List AObj) (r off:Nat) (k1:IntKind) (y:Int):XOp→Option (AV×List AObj)
 | .store=>(match hp[r]? with
  |some (.box cs)=>if off<cs.length then some (.prim (.tuple #[]),hp.set r (.box (cs.set off (.prim (.int k1 y))))) else none
  |_=>none)
 | .add k=>(match hp[r]? with
  |some (.box cs)=>(match cs[off]? with
   |some (.prim (.int k' n))=>if k'=k∧k1=k then some (.prim (.int k (k.wrap (n+y))),hp.set r (.box (cs.set off (.prim (.int k (k.wrap (n+y))))))) else none
   |_=>none)
  |_=>none)
 |_=>none
def xrun3 (hp:List AObj) (r off:Nat) (k1:IntKind) (y:Int) (k2:IntKind) (z:Int):XOp→Option (AV×List AObj)
 | .cas k=>(match hp[r]? with
  |some (.box cs)=>(match cs[off]? with
   |some (.prim (.int k' n))=>if k'=k∧k1=k∧k2=k then some (.prim (.bool (decide (n=y))),hp.set r (.box (cs.set off (.prim (.int k (if n=y then z else n)))))) else none
   |_=>none)
  |_=>none)
 |_=>none
def xrun (x:XOp) (hp:List AObj):List AV→Option (AV×List AObj)
 | [.ptr r off]=>xrun1 hp r off x
 | [.ptr r off,.prim (.int k1 y)]=>xrun2 hp r off k1 y x
 | [.ptr r off,.prim (.int k1 y),.prim (.int k2 z)]=>xrun3 hp r off k1 y k2 z x
 |_=>none
variable {G:Type} {Γ:Env G} {s s':AS G} {a:Act} {w w':World} {η:List Value} {hp:List AObj} {P:Program}
theorem box_prim (hr:Rel Γ s a w η) {r off b:Nat} {cs:List AV} {v:Value} (hb:s.hp[r]?=some (.box cs)) (hη:η[r]?=some (.pointer (some ⟨b,0,none⟩))) (hc:cs[off]?=some (.prim v)):
  w.cell? ⟨b,off,none⟩=some v∧w.frozen? ⟨b,off,none⟩=false:=by
 obtain⟨b',ws,T,he,hg,hsz,hcs⟩:=hr.heap.obj r _ _ hb hη
 simp only[Value.pointer.injEq,Option.some.injEq,Addr.mk.injEq,and_true] at he
 subst he
 have hlt:off<ws.size:=by rw[hsz];exact(List.getElem?_eq_some_iff.1 hc).1
 have hu:ws[off]?=some ws[off]:=by simp[hlt]
 have:=(hcs off _ _ hc hu).1.prim_inv
 refine⟨?_,frozen_of_row w b off ws T hg⟩
 rw[cell_of_row w b off ws T (0,0) hg,hu,this]
theorem xrun_sound (hok:Γ.Ok) {f:Nat} {x:XOp} (hX:XOk Γ.P f x) {o:Oper} {c:Call} {y:Operand} (ho:o.op=.call c) (hc:c.callee=.value y) {caps:List AV} (hcl:s.ev y=.clo f caps) {r:AV} {hp':List AObj}
  (h:xrun x s.hp (c.args.toList.map s.ev++caps)=some (r,hp')):ERun Γ o s r hp':=by
 intro a w η hr
 obtain⟨fn,hf,hname,hbody,hnext,hfind⟩:=hX
 have hyr:=hr.ev y
 rw[hcl] at hyr
 generalize hv:a.eval y=v at hyr
 cases hyr with
 |clo _ _ vs hl hrep=>
  have hargs:(c.args.map a.eval++vs)=(c.args.toList.map a.eval++vs.toList).toArray:=by apply Array.ext';simp
  have hcap:RepL w (Fok Γ w η s.hp) η s.hp caps vs.toList:=repL_of_get (by simpa using hl) fun j y u hy hu=>hrep j y u hy (by simpa using hu)
  have hreps:=repL_append _ _ (repArgs hr c.args.toList) hcap
  have hexec:(execOp a.eval o).run Γ.P w=(callFunc f (c.args.toList.map a.eval++vs.toList).toArray).run Γ.P w:=by
   rw[←hargs]
   simp[execOp,ho,resolve,hc,hv,Deferred.ofValue,invoke]
  generalize c.args.toList.map a.eval++vs.toList=vals at hreps hexec
  have one:∀{r1 off:Nat} {l:List AV} {vals:List Value},RepL w (Fok Γ w η s.hp) η s.hp (.ptr r1 off::l) vals→∃b us,vals=.pointer (some ⟨b,off,none⟩)::us∧η[r1]?=some (.pointer (some ⟨b,0,none⟩))∧RepL w (Fok Γ w η s.hp) η s.hp l us:=by
   intro r1 off l vals h
   match vals,h with
   |u::us,h=>
    cases h.1 with
    |ptr _ _ b hη=>exact⟨b,us,rfl,hη,h.2⟩
  have prim:∀{u:Value} {l:List AV} {vals:List Value},RepL w (Fok Γ w η s.hp) η s.hp (.prim u::l) vals→∃us,vals=u::us∧RepL w (Fok Γ w η s.hp) η s.hp l us:=by
   intro u l vals h
   match vals,h with
   |u'::us,h=>exact⟨us,by rw[h.1.prim_inv],h.2⟩
  have nil:∀{vals:List Value},RepL w (Fok Γ w η s.hp) η s.hp [] vals→vals=[]:=by
   intro vals h
   match vals,h with
   | [],_=>rfl
  unfold xrun at h
  split at h
  ·rename_i r1 off hL
   rw[hL] at hreps
   obtain⟨b,us,rfl,hη,hrest⟩:=one hreps
   obtain rfl:=nil hrest
   unfold xrun1 at h
   split at h
   ·rename_i k
    split at h
    ·rename_i cs hb
     split at h
     ·rename_i k' n hcell
      split at h
      ·rename_i hk
       subst hk
       simp only[Option.some.injEq,Prod.mk.injEq] at h
       obtain⟨rfl,rfl⟩:=h
       have hcc:=(box_prim hr hb hη hcell).1
       exact⟨_,w,η,.inl (hexec.trans (run_call_load hf hname hbody hnext _ hfind hcc)),hr,.prim _⟩
      ·cases h
     ·cases h
    ·cases h
   ·simp only[Option.some.injEq,Prod.mk.injEq] at h
    obtain⟨rfl,rfl⟩:=h
    refine⟨.pointer (some ⟨b,off,none⟩),w,η,.inl (hexec.trans ?_),hr,.ptr _ _ b hη⟩
    rw[run_callFunc_extern hf hname hbody hnext hfind]
    rfl
   ·cases h
  ·rename_i r1 off k1 y1 hL
   rw[hL] at hreps
   obtain⟨b,us,rfl,hη,hrest⟩:=one hreps
   obtain⟨us',rfl,hrest2⟩:=prim hrest
   obtain rfl:=nil hrest2
   unfold xrun2 at h
   split at h
   ·split at h
    ·rename_i cs hb
     split at h
     ·rename_i hlt
      simp only[Option.some.injEq,Prod.mk.injEq] at h
      obtain⟨rfl,rfl⟩:=h
      obtain⟨h1,h2,u',h3⟩:=hr.write hok (off:=off) (v:=.int k1 y1) (x:=.prim (.int k1 y1)) hb hη hlt rfl (.prim _)
      exact⟨_,_,η,.inl (hexec.trans (run_call_store hf hname hbody hnext hfind h3 h2)),h1,.prim _⟩
     ·cases h
    ·cases h
   ·rename_i k
    split at h
    ·rename_i cs hb
     split at h
     ·rename_i k' n hcell
      split at h
      ·rename_i hk
       obtain⟨rfl,rfl⟩:=hk
       simp only[Option.some.injEq,Prod.mk.injEq] at h
       obtain⟨rfl,rfl⟩:=h
       have hcc:=(box_prim hr hb hη hcell).1
       obtain⟨h1,h2,_⟩:=hr.write hok (off:=off) (v:=.int k1 (k1.wrap (n+y1))) (x:=.prim (.int k1 (k1.wrap (n+y1)))) hb hη (List.getElem?_eq_some_iff.1 hcell).1 rfl (.prim _)
       exact⟨_,_,η,.inl (hexec.trans (run_call_add hf hname hbody hnext _ hfind hcc h2 rfl)),h1,.prim _⟩
      ·cases h
     ·cases h
    ·cases h
   ·cases h
  ·rename_i r1 off k1 y1 k2 z1 hL
   rw[hL] at hreps
   obtain⟨b,us,rfl,hη,hrest⟩:=one hreps
   obtain⟨us',rfl,hrest2⟩:=prim hrest
   obtain⟨us'',rfl,hrest3⟩:=prim hrest2
   obtain rfl:=nil hrest3
   unfold xrun3 at h
   split at h
   ·rename_i k
    split at h
    ·rename_i cs hb
     split at h
     ·rename_i k' n hcell
      split at h
      ·rename_i hk
       obtain⟨rfl,rfl,rfl⟩:=hk
       simp only[Option.some.injEq,Prod.mk.injEq] at h
       obtain⟨rfl,rfl⟩:=h
       obtain⟨hcc,hfz⟩:=box_prim hr hb hη hcell
       by_cases hn:n=y1
       ·subst hn
        obtain⟨h1,h2,_⟩:=hr.write hok (off:=off) (v:=.int k2 z1) (x:=.prim (.int k2 z1)) hb hη (List.getElem?_eq_some_iff.1 hcell).1 rfl (.prim _)
        rw[if_pos rfl,decide_eq_true rfl]
        exact⟨_,_,η,.inl (hexec.trans (run_call_cas_hit hf hname hbody hnext _ hfind hcc hfz)),h1,.prim _⟩
       ·rw[if_neg hn,decide_eq_false hn]
        have hset:s.hp.set r1 (.box (cs.set off (.prim (.int k2 n))))=s.hp:=by
         have:cs.set off (.prim (.int k2 n))=cs:=by
          apply List.ext_getElem?
          intro i
          by_cases hi:off=i
          ·subst hi;rw[getElem?_set_same hcell,hcell]
          ·rw[getElem?_set_ne hi]
         rw[this]
         apply List.ext_getElem?
         intro i
         by_cases hi:r1=i
         ·subst hi;rw[getElem?_set_same hb,hb]
         ·rw[getElem?_set_ne hi]
        rw[hset]
        exact⟨_,w,η,.inl (hexec.trans (run_call_cas_miss hf hname hbody hnext _ hfind hcc hfz hn)),hr,.prim _⟩
      ·cases h
     ·cases h
    ·cases h
   ·cases h
  ·cases h
def isNilP:AV→Bool
 | .prim (.pointer none)=>true
 |_=>false
def xtra (tab:Nat→Option TD) (ρ:Operand→AV):Op→Option AV
 | .binOp op T x y _=>(match tab T,ptrNil (ρ x),isNilP (ρ y) with
  |some d,some b,true=>(match d.kind with
   | .ptr _=>(match op with
    | .eql=>some (.prim (.bool b))
    | .neq=>some (.prim (.bool (!b)))
    |_=>none)
   |_=>none)
  |_,_,_=>none)
 | .convert S D x=>(match tab S,tab D,ρ x with
  |some _,some d,.prim (.int _ n)=>(match d.kind with
   | .int k=>some (.prim (.int k (k.wrap n)))
   |_=>none)
  |_,_,_=>none)
 |_=>none
theorem xtra_sound {tab:Nat→Option TD} (htab:TabOk Γ.P tab) {o:Oper} {r:AV} (h:xtra tab s.ev o.op=some r):VRun Γ o s r:=by
 generalize ho:o.op=op at h
 unfold xtra at h
 split at h
 ·rename_i bop T x y T'
  split at h
  ·rename_i d b hd hb hy
   have hy':s.ev y=.prim (.pointer none):=by
    unfold isNilP at hy
    split at hy
    ·assumption
    ·cases hy
   split at h
   ·rename_i e hk
    have hu:Γ.P.underlying T=some (.pointer (Γ.P.pointee T)):=by
     obtain⟨u,q2,q3⟩:=(htab T d hd).und
     rw[hk] at q3
     have:Γ.P.underlying T=some (.pointer e):=by rw[q2];exact congrArg some q3
     rw[this,Program.pointee,this]
    split at h
    ·obtain rfl:=Option.some.inj h
     refine vrun_pure fun a w η hr=>?_
     obtain⟨p,hp,hpn⟩:=ptrNil_ok hb (hr.ev x)
     have h2:=hr.ev y
     rw[hy'] at h2
     have h2:=h2.prim_inv
     refine⟨.bool b,?_,.prim _⟩
     simp only[execOp,ho,hp,h2,eqGuard,Bool.not_true,Bool.false_eq_true,if_false,Sem.run_bind,Sem.run_pure,Result.andThen_ok,run_eql_pointer_nil w T p hu,hpn]
    ·obtain rfl:=Option.some.inj h
     refine vrun_pure fun a w η hr=>?_
     obtain⟨p,hp,hpn⟩:=ptrNil_ok hb (hr.ev x)
     have h2:=hr.ev y
     rw[hy'] at h2
     have h2:=h2.prim_inv
     refine⟨.bool (!b),?_,.prim _⟩
     simp only[execOp,ho,hp,h2,eqGuard,Bool.not_true,Bool.false_eq_true,if_false,Sem.run_bind,Sem.run_pure,Result.andThen_ok,run_neq_pointer_nil w T p hu,hpn]
    ·cases h
   ·cases h
  ·cases h
 ·rename_i S D x
  split at h
  ·rename_i d1 d k n hS hD hx
   split at h
   ·rename_i k2 hk
    obtain rfl:=Option.some.inj h
    refine vrun_pure fun a w η hr=>?_
    have h1:=hr.ev x
    rw[hx] at h1
    have h1:=h1.prim_inv
    obtain⟨u1,q1,_⟩:=(htab S d1 hS).und
    have hu:Γ.P.underlying D=some (.int k2):=by
     obtain⟨u,q2,q3⟩:=(htab D d hD).und
     rw[hk] at q3
     rw[q2];exact congrArg some q3
    refine⟨.int k2 (k2.wrap n),?_,.prim _⟩
    simp only[execOp,ho,h1,convert,Sem.run_bind,run_underlying q1,run_underlying hu,Result.andThen_ok]
    rfl
   ·cases h
  ·cases h
 ·cases h
def numsOf:List AV→Option (List Int)
 | []=>some []
 | .prim (.int .u8 n)::l=>(match numsOf l with|some zs=>some (n::zs)|none=>none)
 |_=>none
theorem numsOf_get:∀{l:List AV} {zs:List Int},numsOf l=some zs→zs.length=l.length∧∀i,i<l.length→l[i]?=some (.prim (.int .u8 (zs.getD i 0)))
 | [],zs,h=>by cases h;exact⟨rfl,fun i hi=>by simp at hi⟩
 |x::l,zs,h=>by
  unfold numsOf at h
  split at h
  ·rename_i e;cases e
  ·rename_i n l' e
   obtain⟨rfl,rfl⟩:=List.cons.inj e
   split at h
   ·rename_i ys hy
    obtain rfl:=Option.some.inj h
    obtain⟨h1,h2⟩:=numsOf_get hy
    refine⟨by simp[h1],fun i hi=>?_⟩
    cases i with
    |zero=>rfl
    |succ i=>simpa using h2 i (by simpa using hi)
   ·cases h
  ·cases h
def byteList:AV→Option (List Int)
 | .clip (x::l)=>numsOf (x::l)
 | .sl (x::l)=>numsOf (x::l)
 |_=>none
def strOp (tab:Nat→Option TD) (hp:List AObj) (ρ:Operand→AV):Op→Option (List Prop×AV×List AObj)
 | .convert S D x=>(match tab S,tab D with
  |some d,some du=>(match d.kind,du.kind with
   | .slc e,.str=>(match tab e with
    |some de=>(match de.kind with
     | .int .u8=>(match byteList (ρ x) with
      |some zs=>some ([],.prim (.string (strOfNums zs)),hp)
      |none=>none)
     |_=>none)
    |none=>none)
   | .str,.slc e=>(match tab e,ρ x with
    |some de,.prim (.string u)=>(match de.kind with
     | .int .u8=>some ([u.size≤140737488355328],.sl (strAV u),hp)
     |_=>none)
    |_,_=>none)
   |_,_=>none)
  |_,_=>none)
 | .call c=>(match c.callee,c.args.toList,c.argTypes.toList with
  | .builtin .append,[b,x],[T,T']=>(match tab T,tab T',ρ b,ρ x with
   |some d,some du,.own r n,.prim (.string s)=>(match d.kind,du.kind,hp[r]? with
    | .slc e,.str,some (.row e' size els)=>(match tab e with
     |some d'=>(match d'.zero with
      | .int .u8 0=>if e'=e∧size=d'.size∧d'.size=1∧d'.bytes=1 then some ([n=els.length,els.length+s.size≤140737488355328],.own r (els++strAV s).length,hp.set r (.row e size (els++strAV s))) else none
      |_=>none)
     |none=>none)
    |_,_,_=>none)
   |_,_,_,_=>none)
  |_,_,_=>none)
 | .load T p=>(match tab T,ρ p with
  |some d,.ptr r 1=>(match d.kind,hp[r]? with
   | .slc _,some (.bld q n)=>if d.size=1 then some ([],.own q n,hp) else none
   |_,_=>none)
  |_,_=>none)
 | .store T p x=>(match tab T,ρ p,ρ x with
  |some d,.ptr r 1,.own q m=>(match d.kind,hp[r]? with
   | .slc _,some (.bld q' _)=>if d.size=1∧q'=q then some ([m≠0],.top,hp.set r (.bld q m)) else none
   |_,_=>none)
  |_,_,_=>none)
 | .box T x=>if T=bldT then(match ρ x with
  | .agg [.prim (.pointer none),.prim (.slice none 0 0)]=>(match tab 5 with
   |some d=>(match d.zero with
    | .int .u8 0=>if d.size=1 then some ([],.ptr hp.length 0,hp++[.bld (hp.length+1) ([]:List AV).length,.row 5 1 []]) else none
    |_=>none)
   |none=>none)
  |_=>none) else none
 |_=>none
theorem erun_strapp (hok:Γ.Ok) {tab:Nat→Option TD} (htab:TabOk Γ.P tab) {o:Oper} {c:Call} (ho:o.op=.call c) (hb:c.callee=.builtin .append) {b x:Operand} (hl:c.args.toList=[b,x]) {T T' e r:Nat} (hT:c.argTypes.toList=[T,T']) {d du d':TD} (hd:tab T=some d)
  (hdu:tab T'=some du) (hk:d.kind=.slc e) (hku:du.kind=.str) (hd':tab e=some d') (hz:d'.zero=.int .u8 0) (h1:d'.size=1) (h2:d'.bytes=1) {els:List AV} {u:ByteArray} (hbv:s.ev b=.own r els.length) (hx:s.ev x=.prim (.string u)) (hrow:s.hp[r]?=some (.row e d'.size els)) (hm:els.length+u.size≤140737488355328):
  ERun Γ o s (.own r (els++strAV u).length) (s.hp.set r (.row e d'.size (els++strAV u))):=by
 intro a w η hr
 have hu:Γ.P.underlying T=some (.slice e):=by
  obtain⟨u,q2,q3⟩:=(htab T d hd).und
  rw[hk] at q3
  rw[q2];exact congrArg some q3
 have hu2:Γ.P.underlying T'=some .string:=by
  obtain⟨u,q2,q3⟩:=(htab T' du hdu).und
  rw[hku] at q3
  rw[q2];exact congrArg some q3
 have hxr:=hr.ev x
 rw[hx] at hxr
 have hxv:=hxr.prim_inv
 have hbr:=hr.ev b
 rw[hbv] at hbr
 have hown:OwnOk η s.hp r els.length (a.eval b):=by cases hbr;assumption
 have hargT:c.argTypes=#[T,T']:=by rw[←Array.toArray_toList (xs:=c.argTypes),hT]
 have hargs:c.args=#[b,x]:=by rw[←Array.toArray_toList (xs:=c.args),hl]
 have hn:=appSrc_str (w:=w) (F:=Fok Γ w η s.hp) (ty:=o.type) hu hu2 (htab e d' hd') h1 hz u
 have hl2:=strAV_len u
 obtain⟨v',w',η',g1,g2,g3,g4⟩:=append_own hok hr (htab e d' hd') hrow hown hn (fun y hy=>by
  rw[h1]
  simp only[strAV,List.mem_map] at hy
  obtain⟨q,_,rfl⟩:=hy
  rfl) (by rw[hl2];unfold maxLen;omega) (by rw[hl2,h2];omega)
 refine⟨v',w',η',.inl ?_,g2,.own _ _ _ g3 ?_⟩
 ·rw[←hxv] at g1
  simp only[execOp,ho,resolve,hb,Sem.run_bind,Sem.run_pure,Result.andThen_ok,invoke,builtin,hargT,hargs,List.map_toArray,List.map_cons,List.map_nil,g1]
 ·unfold OwnOk
  rw[getElem?_set_same hrow]
  exact⟨Nat.le_refl _,fun _=>g4⟩
theorem erun_conv (hok:Γ.Ok) {tab:Nat→Option TD} (htab:TabOk Γ.P tab) {o:Oper} {S D e:TypeId} {x:Operand} (ho:o.op=.convert S D x) {d du de:TD} (hd:tab S=some d) (hdu:tab D=some du) (hk:d.kind=.slc e) (hku:du.kind=.str) (hde:tab e=some de) (hke:de.kind=.int .u8) {zs:List Int} (hx:byteList (s.ev x)=some zs):
  ERun Γ o s (.prim (.string (strOfNums zs))) s.hp:=by
 intro a w η hr
 have hs:Γ.P.underlying S=some (.slice e):=by
  obtain⟨u,q2,q3⟩:=(htab S d hd).und
  rw[hk] at q3
  rw[q2];exact congrArg some q3
 have hD:Γ.P.underlying D=some .string:=by
  obtain⟨u,q2,q3⟩:=(htab D du hdu).und
  rw[hku] at q3
  rw[q2];exact congrArg some q3
 have hE:Γ.P.underlying e=some (.int .u8):=by
  obtain⟨u,q2,q3⟩:=(htab e de hde).und
  rw[hke] at q3
  rw[q2];exact congrArg some q3
 have hrx:=hr.ev x
 obtain⟨y,l,hsl,hz⟩:∃y l,Rep w (Fok Γ w η s.hp) η s.hp (.sl (y::l)) (a.eval x)∧numsOf (y::l)=some zs:=by
  unfold byteList at hx
  split at hx
  ·rename_i y l e;rw[e] at hrx;exact⟨y,l,hrx.of_clip,hx⟩
  ·rename_i y l e;rw[e] at hrx;exact⟨y,l,hrx,hx⟩
  ·cases hx
 obtain⟨hz1,hz2⟩:=numsOf_get hz
 generalize hv:a.eval x=v at hsl
 cases hsl with
 |sl size els b o c f hc hm hl hcell hrp=>
  have h0:size=1:=by
   have:=hl 0 _ (hz2 0 (by simp))
   exact this.symm
  subst h0
  have cell:∀i,i<(y::l).length→w.cell? ⟨b,o+i,none⟩=some (.int .u8 (zs.getD i 0)):=fun i hi=>by
   have h1:=(hcell i _ 0 _ (hz2 i hi) rfl).1
   have h2:=(hrp i _ 0 _ (hz2 i hi) rfl).prim_inv
   rw[h2] at h1
   simpa using h1
  have hrun:=run_convert_bytes_arg (P:=Γ.P) w S e hs hE b o (y::l).length c zs hz1 cell D hD
  refine⟨.string (strOfNums zs),w,η,.inl ?_,hr,.prim _⟩
  simp only[execOp,ho,hv,Sem.run_bind,hrun,Result.andThen_ok]
  rfl
theorem erun_bytes (hok:Γ.Ok) {tab:Nat→Option TD} (htab:TabOk Γ.P tab) {o:Oper} {S D e:TypeId} {x:Operand} (ho:o.op=.convert S D x) {d du de:TD} (hd:tab S=some d) (hdu:tab D=some du) (hk:d.kind=.str) (hku:du.kind=.slc e) (hde:tab e=some de) (hke:de.kind=.int .u8) {u:ByteArray}
  (hx:s.ev x=.prim (.string u)) (hm:u.size≤140737488355328):ERun Γ o s (.sl (strAV u)) s.hp:=by
 intro a w η hr
 have hs:Γ.P.underlying S=some .string:=by
  obtain⟨u,q2,q3⟩:=(htab S d hd).und
  rw[hk] at q3
  rw[q2];exact congrArg some q3
 have hD:Γ.P.underlying D=some (.slice e):=by
  obtain⟨u,q2,q3⟩:=(htab D du hdu).und
  rw[hku] at q3
  rw[q2];exact congrArg some q3
 have hE:Γ.P.underlying e=some (.int .u8):=by
  obtain⟨u,q2,q3⟩:=(htab e de hde).und
  rw[hke] at q3
  rw[q2];exact congrArg some q3
 have hrx:=hr.ev x
 rw[hx] at hrx
 have hxv:=hrx.prim_inv
 have hrun:=Lib.run_convert_string_bytes (P:=Γ.P) w S D e u hs hD hE
 have hsm:Same w (Lib.bytesWorld w e u):=⟨by unfold Lib.bytesWorld World.freeze;split<;>rfl,by unfold Lib.bytesWorld World.freeze;split<;>rfl,by unfold Lib.bytesWorld World.freeze;split<;>rfl,by rw[Lib.bytesWorld_size];omega,fun k hk=>Lib.bytesWorld_at_old w e u k hk⟩
 refine⟨_,_,η,.inl (by simp only[execOp,ho,hxv,Sem.run_bind,hrun,Result.andThen_ok];rfl),hr.same hok hsm,?_⟩
 have hl:=strAV_len u
 have hfoot:∀k,Fok Γ (Lib.bytesWorld w e u) η s.hp w.heap.size k:=fun k=>
  ⟨.inr (.inl hr.keeps.size),by rw[Lib.bytesWorld_size];omega,(fok_new (T:=e) (cs:=#[]) hr k (fun _ _=>hok.no)).2.2⟩
 have hel:∀(i:Nat) (y:AV),(strAV u)[i]?=some y→∃c:UInt8,i<u.size∧u.data.toList.getD i 0=c∧y=.prim (.int .u8 c.toNat):=fun i y hi=>by
  simp only[strAV,List.getElem?_map] at hi
  obtain⟨c,hc,rfl⟩:=Option.map_eq_some_iff.1 hi
  have hlt:=(List.getElem?_eq_some_iff.1 hc).1
  exact⟨c,by simpa using hlt,by rw[List.getD_eq_getElem?_getD,hc];rfl,rfl⟩
 have:=Rep.sl (w:=Lib.bytesWorld w e u) (F:=Fok Γ (Lib.bytesWorld w e u) η s.hp) (η:=η) (hp:=s.hp) 1 (strAV u) w.heap.size 0 (grownCap w u.size 0 e) (fun i j=>.int .u8 (u.data.toList.getD i 0).toNat) (by rw[hl];exact grownCap_ge _ _ _ _) (grownCap_le_maxLen _ _ _ _ (by unfold maxLen;omega))
  (fun i y hi=>by obtain⟨c,_,_,rfl⟩:=hel i y hi;rfl) (fun i y j z hi hj=>by
   obtain⟨c,h1,h2,rfl⟩:=hel i y hi
   have hj0:j=0:=by(have:=(List.getElem?_eq_some_iff.1 hj).1;simp[AV.cells] at this;omega)
   subst hj0
   refine⟨?_,hfoot _,rfl⟩
   rw[Nat.zero_add,Nat.mul_one,Nat.add_zero]
   exact Lib.bytesWorld_cell w e u i h1) (fun i y j z hi hj=>by
   obtain⟨c,h1,h2,rfl⟩:=hel i y hi
   have hj0:j=0:=by(have:=(List.getElem?_eq_some_iff.1 hj).1;simp[AV.cells] at this;omega)
   subst hj0
   rw[h2]
   obtain rfl:AV.prim (.int .u8 c.toNat)=z:=by simpa [AV.cells] using hj
   exact .prim _)
 rw[hl] at this
 exact this
theorem erun_bld (hok:Γ.Ok) {o:Oper} {x:Operand} (ho:o.op=.box bldT x) (hx:s.ev x=.agg [.prim (.pointer none),.prim (.slice none 0 0)]):ERun Γ o s (.ptr s.hp.length 0) (s.hp++[.bld (s.hp.length+1) 0,.row 5 1 []]):=by
 intro a w η hr
 have hxr:=hr.ev x
 rw[hx] at hxr
 generalize hv:a.eval x=v at hxr
 cases hxr with
 |agg _ vs hl h1 hrp=>
  have e0:vs[0]?=some (.pointer none):=by
   have:0<vs.size:=by rw[hl];simp
   have h2:=hrp 0 _ _ rfl (Array.getElem?_eq_getElem this)
   rw[Array.getElem?_eq_getElem this,h2.prim_inv]
  have e1:vs[1]?=some (.slice none 0 0):=by
   have:1<vs.size:=by rw[hl];simp
   have h2:=hrp 1 _ _ rfl (Array.getElem?_eq_getElem this)
   rw[Array.getElem?_eq_getElem this,h2.prim_inv]
  have hsm:=Same.alloc w (.cells vs bldT)
  have hl0:=hr.heap.len
  have hn:∀{r:Nat} {u:Value} {b:Nat},(η++[.pointer (some ⟨w.heap.size,0,none⟩),.slice none 0 0])[r]?=some u→blk u=some b→(η[r]?=some u∧r<s.hp.length)∨(r=s.hp.length∧b=w.heap.size):=by
   intro r u b hu hb
   by_cases hlt:r<η.length
   ·rw[List.getElem?_append_left hlt] at hu;exact .inl ⟨hu,by omega⟩
   ·rw[List.getElem?_append_right (by omega)] at hu
    cases hk:r-η.length with
    |zero=>
     rw[hk] at hu
     simp only[List.getElem?_cons_zero,Option.some.injEq] at hu
     subst hu
     simp only[blk,Option.some.injEq] at hb
     exact .inr ⟨by omega,hb.symm⟩
    |succ k=>
     rw[hk] at hu
     cases k with
     |zero=>simp at hu;subst hu;simp[blk] at hb
     |succ k=>simp at hu
  have ho0:∀{r:Nat} {ob:AObj},(s.hp++[AObj.bld (s.hp.length+1) 0,.row 5 1 []])[r]?=some ob→(s.hp[r]?=some ob∧r<s.hp.length)∨(r=s.hp.length∧ob=.bld (s.hp.length+1) 0)∨(r=s.hp.length+1∧ob=.row 5 1 []):=by
   intro r ob hob
   by_cases hlt:r<s.hp.length
   ·rw[List.getElem?_append_left hlt] at hob;exact .inl ⟨hob,hlt⟩
   ·rw[List.getElem?_append_right (by omega)] at hob
    cases hk:r-s.hp.length with
    |zero=>rw[hk] at hob;simp at hob;exact .inr (.inl ⟨by omega,hob.symm⟩)
    |succ k=>
     rw[hk] at hob
     cases k with
     |zero=>simp at hob;exact .inr (.inr ⟨by omega,hob.symm⟩)
     |succ k=>simp at hob
  have gη:(η++[Value.pointer (some ⟨w.heap.size,0,none⟩),.slice none 0 0])[s.hp.length]?=some (.pointer (some ⟨w.heap.size,0,none⟩)):=by
   rw[←hl0,List.getElem?_append_right (Nat.le_refl _)];simp
  have gη1:(η++[Value.pointer (some ⟨w.heap.size,0,none⟩),.slice none 0 0])[s.hp.length+1]?=some (.slice none 0 0):=by
   rw[←hl0,List.getElem?_append_right (by omega)];simp
  have gh1:(s.hp++[AObj.bld (s.hp.length+1) 0,.row 5 1 []])[s.hp.length+1]?=some (.row 5 1 []):=by
   rw[List.getElem?_append_right (by omega)];simp
  have hold:∀{r:Nat} {u:Value},η[r]?=some u→(η++[Value.pointer (some ⟨w.heap.size,0,none⟩),.slice none 0 0])[r]?=some u:=fun hu=>by
   rw[List.getElem?_append_left (List.getElem?_eq_some_iff.1 hu).1];exact hu
  have he:Ext w (Fok Γ w η s.hp) η s.hp (w.alloc (.cells vs bldT)) (Fok Γ (w.alloc (.cells vs bldT)) (η++[.pointer (some ⟨w.heap.size,0,none⟩),.slice none 0 0]) (s.hp++[.bld (s.hp.length+1) 0,.row 5 1 []])) (η++[.pointer (some ⟨w.heap.size,0,none⟩),.slice none 0 0]) (s.hp++[.bld (s.hp.length+1) 0,.row 5 1 []]):=by
   refine⟨fun b k u hf hc=>by rw[World.cell?_of_block (hsm.block b (fok_lt hf))];exact hc,fun b es c hf hc=>by rw[hsm.block b (fok_lt hf)];exact hc,fun b k hf=>⟨hf.1,Nat.lt_of_lt_of_le hf.2.1 hsm.size,hf.2.2.1,(objF_iff b k).2 fun r u hu hb=>?_⟩,fun _ _ h=>hold h,fun _ _ h=>hold h,fun r n u ho=>?_⟩
   ·rcases hn hu hb with⟨g1,g2⟩|⟨_,g2⟩
    ·obtain⟨ob,q1,q2⟩:=(objF_iff b k).1 hf.2.2.2 r u g1 hb
     exact⟨ob,by rw[List.getElem?_append_left g2];exact q1,q2⟩
    ·have:=fok_lt hf;omega
   ·unfold OwnOk at ho ⊢
    cases hr1:s.hp[r]? with
    |none=>simp[hr1] at ho
    |some ob=>
     rw[List.getElem?_append_left (List.getElem?_eq_some_iff.1 hr1).1,hr1]
     rw[hr1] at ho
     cases ob with
     |row e z els=>exact⟨ho.1,fun hn'=>hold (ho.2 hn')⟩
     |mrow e z els=>exact⟨ho.1,hold ho.2⟩
     |_=>exact ho
  refine⟨.pointer (some ⟨w.heap.size,0,none⟩),_,η++[.pointer (some ⟨w.heap.size,0,none⟩),.slice none 0 0],.inl (by simp[execOp,ho,hv,Instr.box,newVar,newRow,Value.cells];rfl),?_,.ptr _ 0 w.heap.size gη⟩
  have hblk:∀(r:Nat) (ob:AObj) (u:Value) (b:Nat),s.hp[r]?=some ob→ob.live→η[r]?=some u→blk u=some b→b<w.heap.size:=fun r ob u b g1 g2 g3 g4=>hr.heap.block g1 g2 g3 g4
  refine⟨hr.nt,fun t=>(hr.tmps t).ext he,⟨by simp[hl0],fun r ob u g1 g2=>?_,fun r r' o1 o2 u u' b hne g1 g2 l1 l2 g3 g4 hb hb'=>?_⟩,fun r ob u b g1 g2 g3 g4=>?_,hr.keeps.addSame hsm,hok.stable _ _ _ (fun b hb=>hsm.block b (Nat.lt_of_lt_of_le (hok.x b hb) hr.keeps.size)) hsm.size hr.inv,(hsm.keeps fun _=>False).marks hr.marks fun _ hf=>hf.elim,hr.ext.trans he⟩
  ·rcases ho0 g1 with⟨g3,g4⟩|⟨rfl,rfl⟩|⟨rfl,rfl⟩
   ·rw[List.getElem?_append_left (by omega)] at g2
    exact(hr.heap.obj r ob u g3 g2).ext he hsm.size fun b _ hlt=>hsm.block b hlt
   ·rw[gη] at g2
    obtain rfl:=Option.some.inj g2
    exact⟨w.heap.size,vs,rfl,heap_alloc_new w _,⟨hl,fun _=>e1⟩,.inl e0,_,e1,.own _ 0 _ rfl (by unfold OwnOk;rw[gh1];exact⟨Nat.le_refl _,fun _=>gη1⟩)⟩
   ·rw[gη1] at g2
    obtain rfl:=Option.some.inj g2
    exact⟨Nat.one_pos,[],⟨by simp,.inl ⟨rfl,.inl rfl⟩⟩,fun i el hi=>by simp at hi⟩
  ·rcases hn g3 hb with⟨p1,p2⟩|⟨p1,p2⟩
   ·rcases hn g4 hb' with⟨q1,q2⟩|⟨q1,q2⟩
    ·rw[List.getElem?_append_left p2] at g1
     rw[List.getElem?_append_left q2] at g2
     exact hr.heap.sep r r' o1 o2 u u' b hne g1 g2 l1 l2 p1 q1 hb hb'
    ·rw[List.getElem?_append_left p2] at g1
     have:=hblk r o1 u b g1 l1 p1 hb;omega
   ·rcases hn g4 hb' with⟨q1,q2⟩|⟨q1,q2⟩
    ·rw[List.getElem?_append_left q2] at g2
     have:=hblk r' o2 u' b g2 l2 q1 hb';omega
    ·omega
  ·rcases hn g3 g4 with⟨p1,p2⟩|⟨p1,p2⟩
   ·rw[List.getElem?_append_left p2] at g1
    exact hr.mine r ob u b g1 g2 p1 g4
   ·subst p2
    exact⟨.inl hr.keeps.size,fun k hx=>by have:=hok.no hx;have:=hr.keeps.size;omega⟩
theorem erun_bldLoad (hok:Γ.Ok) {tab:Nat→Option TD} (htab:TabOk Γ.P tab) {o:Oper} {T r q n:Nat} {p:Operand} (ho:o.op=.load T p) {d:TD} (hd:tab T=some d) (ha:d.kind.agg=false) (hp:s.ev p=.ptr r 1) (hb:s.hp[r]?=some (.bld q n)):ERun Γ o s (.own q n) s.hp:=by
 intro a w η hr
 have hx:=hr.ev p
 rw[hp] at hx
 generalize hv:a.eval p=v at hx
 cases hx with
 |ptr _ _ b hη=>
  obtain⟨b',vs,he,hg,⟨hsz,_⟩,_,u,hu,hrep⟩:=hr.heap.obj r _ _ hb hη
  simp only[Value.pointer.injEq,Option.some.injEq,Addr.mk.injEq,and_true] at he
  subst he
  have h1:u.oneCell'=true:=by cases hrep;assumption
  have hd1:=htab.sz hd ha
  have hload:=run_load_cells (P:=Γ.P) (htab T d hd) (o:=1) (box_cells hg) (by rw[hd1,Array.length_toList,hsz];decide)
  have e:((vs.toList.drop 1).take d.size).headD undef=u:=by
   rw[hd1]
   have h2:vs.toList[1]?=some u:=by simpa using hu
   cases hl:vs.toList with
   |nil=>rw[hl] at h2;simp at h2
   |cons x l=>
    rw[hl] at h2
    cases l with
    |nil=>simp at h2
    |cons y l=>simp at h2;subst h2;rfl
  rw[ha,e] at hload
  refine⟨u,w,η,.inl ?_,hr,hrep⟩
  simp only[execOp,ho,hv,Instr.loadAt,Instr.sureAddr,Sem.run_bind,Sem.run_pure,Result.andThen_ok]
  rw[hload]
  rfl
theorem Rel.writeBld (hok:Γ.Ok) (h:Rel Γ s a w η) {r q n m b:Nat} {v:Value} (hm:m≠0) (hr:s.hp[r]?=some (.bld q n)) (hv:η[r]?=some (.pointer (some ⟨b,0,none⟩))) (hx:Rep w (Fok Γ w η s.hp) η s.hp (.own q m) v):
  Rel Γ { s with hp:=s.hp.set r (.bld q m) } a (w.setCell ⟨b,1,none⟩ v) η∧w.frozen? ⟨b,1,none⟩=false∧∃u,w.cell? ⟨b,1,none⟩=some u:=by
 obtain⟨b',vs,he,hg,⟨hsz,_⟩,h0,u,hu,hrep⟩:=h.heap.obj r _ _ hr hv
 simp only[Value.pointer.injEq,Option.some.injEq,Addr.mk.injEq,and_true] at he
 subst he
 have hset:(w.setCell ⟨b,1,none⟩ v).heap[b]?=some (.cells (vs.setIfInBounds 1 v) bldT (0,0)):=Go.heap_setCell_same w b 1 vs bldT v hg
 have hη:η.set r (.pointer (some ⟨b,0,none⟩))=η:=by
  apply List.ext_getElem?
  intro i
  by_cases hi:r=i
  ·subst hi;rw[getElem?_set_same hv,hv]
  ·rw[getElem?_set_ne hi]
 refine⟨?_,frozen_of_row w b 1 vs bldT hg,?_⟩
 ·have:=Rel.change (w':=w.setCell ⟨b,1,none⟩ v) (o':=.bld q m) (v':=.pointer (some ⟨b,0,none⟩)) hok h hr True.intro hv
   ⟨rfl,rfl,rfl,by simp[World.setCell],fun k hk hb=>Go.heap_setCell_other w _ k v (by intro e;exact hb (by rw[e];rfl))⟩
   (fun c hc=>.inl hc) (fun k hk=>hk.elim) (fun _ _ _ _ hk=>hk.elim) (fun _ _ _ _ hk=>hk.elim)
   (fun n u ho=>by simp[OwnOk,hr] at ho)
   (fun _ _=>rfl) (fun _ hx=>by cases hx)
   (fun c d hb hd=>by simp only[blk,Option.some.injEq] at hb;subst hb;rw[hg] at hd;cases hd)
   (fun he=>⟨b,vs.setIfInBounds 1 v,rfl,hset,⟨by simp[hsz],fun e=>(hm e).elim⟩,by rw[Array.getElem?_setIfInBounds];simpa using h0,v,by rw[Array.getElem?_setIfInBounds];simp[hsz],hx.ext he⟩)
  rw[hη] at this
  exact this
 ·rw[cell_of_row w b 1 vs bldT (0,0) hg]
  exact⟨u,hu⟩
theorem erun_bldStore (hok:Γ.Ok) {tab:Nat→Option TD} (htab:TabOk Γ.P tab) {o:Oper} {T r q n m:Nat} {p x:Operand} (ho:o.op=.store T p x) {d:TD} (hd:tab T=some d) (h1:d.size=1) (hm:m≠0) (hp:s.ev p=.ptr r 1) (hx:s.ev x=.own q m) (hb:s.hp[r]?=some (.bld q n)):ERun Γ o s .top (s.hp.set r (.bld q m)):=by
 intro a w η hr
 have hpr:=hr.ev p
 rw[hp] at hpr
 have hxr:=hr.ev x
 rw[hx] at hxr
 generalize hv:a.eval p=v at hpr
 cases hpr with
 |ptr _ _ b hη=>
  obtain⟨g1,g2,u,g3⟩:=hr.writeBld hok hm hb hη hxr
  have hone:(a.eval x).oneCell'=true:=by cases hxr;assumption
  have hcells:(a.eval x).cells=#[a.eval x]:=by cases hq:a.eval x<;>simp_all [Value.cells,Value.oneCell']
  refine⟨undef,_,η,.inr ⟨?_,rfl⟩,g1,.top _⟩
  simp only[execOp,ho,hv,Instr.storeAt,Instr.sureAddr,Sem.run_bind,Sem.run_pure,Result.andThen_ok,storeVar,(htab T d hd).run_sizeOf,h1,hcells,List.size_toArray,List.length_cons,List.length_nil,Nat.zero_add,ne_eq,not_true_eq_false,if_false,storeCells,Addr.add_lit]
  rw[run_store _ _ _ _ _ hone,Nat.add_zero,g3]
  simp only[g2,Bool.false_eq_true,if_false,Result.andThen_ok]
theorem strOp_ok (hok:Γ.Ok) {tab:Nat→Option TD} (htab:TabOk Γ.P tab) {o:Oper} {l:List Prop} {r:AV} {hp':List AObj} (h:strOp tab s.hp s.ev o.op=some (l,r,hp')) (hc:∀p∈l,p):ERun Γ o s r hp':=by
 generalize ho:o.op=op at h
 unfold strOp at h
 split at h
 ·rename_i S D x
  split at h
  ·rename_i d du hd hdu
   split at h
   ·rename_i e hk hku
    split at h
    ·rename_i de hde
     split at h
     ·rename_i hke
      split at h
      ·rename_i zs hz
       simp only[Option.some.injEq,Prod.mk.injEq] at h
       obtain⟨_,rfl,rfl⟩:=h
       exact erun_conv hok htab ho hd hdu hk hku hde hke hz
      ·cases h
     ·cases h
    ·cases h
   ·rename_i e hk hku
    split at h
    ·rename_i de u hde hx
     split at h
     ·rename_i hke
      simp only[Option.some.injEq,Prod.mk.injEq] at h
      obtain⟨rfl,rfl,rfl⟩:=h
      exact erun_bytes hok htab ho hd hdu hk hku hde hke hx (hc _ List.mem_cons_self)
     ·cases h
    ·cases h
   ·cases h
  ·cases h
 ·rename_i c
  split at h
  ·rename_i b x T T' hcal hargs hty
   split at h
   ·rename_i d du r' n u hd hdu hbv hx
    split at h
    ·rename_i e e' size els hk hku hrow
     split at h
     ·rename_i d' hd'
      split at h
      ·rename_i hz
       split at h
       ·rename_i hif
        obtain⟨rfl,rfl,h1,h2⟩:=hif
        simp only[Option.some.injEq,Prod.mk.injEq] at h
        obtain⟨rfl,rfl,rfl⟩:=h
        have e1:=hc _ (List.mem_cons_self)
        have e2:=hc _ (List.mem_cons_of_mem _ List.mem_cons_self)
        rw[e1] at hbv
        exact erun_strapp hok htab ho hcal hargs hty hd hdu hk hku hd' hz h1 h2 hbv hx hrow e2
       ·cases h
      ·cases h
     ·cases h
    ·cases h
   ·cases h
  ·cases h
 ·rename_i T p
  split at h
  ·rename_i d r' hd hp
   split at h
   ·rename_i e q n hk hb
    split at h
    ·simp only[Option.some.injEq,Prod.mk.injEq] at h
     obtain⟨_,rfl,rfl⟩:=h
     exact erun_bldLoad hok htab ho hd (by rw[hk];rfl) hp hb
    ·cases h
   ·cases h
  ·cases h
 ·rename_i T p x
  split at h
  ·rename_i d r' q m hd hp hx
   split at h
   ·rename_i e q' n hk hb
    split at h
    ·rename_i hif
     obtain⟨h1,rfl⟩:=hif
     simp only[Option.some.injEq,Prod.mk.injEq] at h
     obtain⟨rfl,rfl,rfl⟩:=h
     exact erun_bldStore hok htab ho hd h1 (hc _ List.mem_cons_self) hp hx hb
    ·cases h
   ·cases h
  ·cases h
 ·rename_i T x
  split at h
  ·rename_i hT
   subst hT
   split at h
   ·rename_i hx
    split at h
    ·split at h
     ·split at h
      ·simp only[Option.some.injEq,Prod.mk.injEq] at h
       obtain⟨_,rfl,rfl⟩:=h
       exact erun_bld hok ho hx
      ·cases h
     ·cases h
    ·cases h
   ·cases h
  ·cases h
 ·cases h
end Go.Proofs.YtjhanogfpkbamaaGreatDoor
