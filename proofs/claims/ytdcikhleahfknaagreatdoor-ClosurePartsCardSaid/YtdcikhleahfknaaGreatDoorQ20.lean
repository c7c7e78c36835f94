/- Texts of ours laid together for a claim: VcO. -/
import Derived.Lib.ConvBytes
import Derived.Laws.LoneSync
import Derived.Laws.Pointers
import Derived.Laws.Entries
import Derived.Laws.BytesArg
import Derived.Test.YtdcikhleahfknaaGreatDoorQ19
namespace Go.Proofs.YtdcikhleahfknaaGreatDoor
open Go
set_option linter.unusedSimpArgs false
set_option linter.unusedVariables false
inductive Lz where
 |load (k:IntKind)
 |store
 |add (k:IntKind)
 |Wy (k:IntKind)
 |same
def Lz.run:Lz→Array Value→Sem Value
 | .load k=>Extern.Atomic.loadT (.int k)
 | .store=>Extern.Atomic.storeT
 | .add k=>Extern.Atomic.update (Op.intArith .add) k true
 | .Wy k=>Extern.Atomic.casT (.int k)
 | .same=>Extern.AbiNoEscape.same
def Wz (P:Program) (f:Nat) (x:Lz):Prop:=
 ∃fn,P.funcs[f]?=some fn∧(fn.name == "runtime.NumGoroutine")=false∧fn.body.isNone=true∧Extern.findNext fn=none∧Extern.find fn=some x.run
def Pd (hp:List af) (r off:Nat):Lz→Option (AV×List af)
 | .load k=>(match hp[r]? with
  |some (.box cs)=>(match cs[off]? with
   |some (.ae (.int k' n))=>if k'=k then some (.ae (.int k n),hp) else none
   |_=>none)
  |_=>none)
 | .same=>some (.ptr r off,hp)
 |_=>none
def Pe (hp:List af) (r off:Nat) (k1:IntKind) (y:Int):Lz→Option (AV×List af)
 | .store=>(match hp[r]? with
  |some (.box cs)=>if off<cs.length then some (.ae (.tuple #[]),hp.set r (.box (cs.set off (.ae (.int k1 y))))) else none
  |_=>none)
 | .add k=>(match hp[r]? with
  |some (.box cs)=>(match cs[off]? with
   |some (.ae (.int k' n))=>if k'=k∧k1=k then some (.ae (.int k (k.wrap (n+y))),hp.set r (.box (cs.set off (.ae (.int k (k.wrap (n+y))))))) else none
   |_=>none)
  |_=>none)
 |_=>none
def Pf (hp:List af) (r off:Nat) (k1:IntKind) (y:Int) (k2:IntKind) (z:Int):Lz→Option (AV×List af)
 | .Wy k=>(match hp[r]? with
  |some (.box cs)=>(match cs[off]? with
   |some (.ae (.int k' n))=>if k'=k∧k1=k∧k2=k then some (.ae (.bool (decide (n=y))),hp.set r (.box (cs.set off (.ae (.int k (if n=y then z else n)))))) else none
   |_=>none)
  |_=>none)
 |_=>none
def Qh (x:Lz) (hp:List af):List AV→Option (AV×List af)
 | [.ptr r off]=>Pd hp r off x
 | [.ptr r off,.ae (.int k1 y)]=>Pe hp r off k1 y x
 | [.ptr r off,.ae (.int k1 y),.ae (.int k2 z)]=>Pf hp r off k1 y k2 z x
 |_=>none
variable {G:Type} {Γ:Env G} {s s':AS G} {a:Act} {w w':World} {η:List Value} {hp:List af} {P:Program}
theorem tP (hr:Rel Γ s a w η) {r off b:Nat} {cs:List AV} {v:Value} (hb:s.hp[r]?=some (.box cs)) (dn:η[r]?=some (.pointer (some ⟨b,0,none⟩))) (hc:cs[off]?=some (.ae v)):
  w.cell? ⟨b,off,none⟩=some v∧w.frozen? ⟨b,off,none⟩=false:=by
 obtain⟨b',ws,T,he,hg,bE,eS⟩:=hr.heap.obj r _ _ hb dn
 simp only[Value.pointer.injEq,Option.some.injEq,Addr.mk.injEq,and_true] at he
 subst he
 have al:off<ws.size:=by rw[bE];exact(List.getElem?_eq_some_iff.1 hc).1
 have hu:ws[off]?=some ws[off]:=by simp[al]
 have:=(eS off _ _ hc hu).1.ao
 refine⟨?_,frozen_of_row w b off ws T hg⟩
 rw[cell_of_row w b off ws T (0,0) hg,hu,this]
theorem CV (aq:Γ.Ok) {f:Nat} {x:Lz} (hX:Wz Γ.P f x) {o:Oper} {c:Call} {y:Operand} (ho:o.op=.call c) (hc:c.callee=.value y) {caps:List AV} (cS:s.ev y=.aS f caps) {r:AV} {hp':List af}
  (h:Qh x s.hp (c.args.toList.map s.ev++caps)=some (r,hp')):eA Γ o s r hp':=by
 intro a w η hr
 obtain⟨fn,hf,eC,fx,bC,mf⟩:=hX
 have WA:=hr.ev y
 rw[cS] at WA
 generalize hv:a.eval y=v at WA
 cases WA with
 |aS _ _ vs hl cD=>
  have ax:(c.args.map a.eval++vs)=(c.args.toList.map a.eval++vs.toList).toArray:=by apply Array.ext';simp
  have qA:bF w (aU Γ w η s.hp) η s.hp caps vs.toList:=cd (by simpa using hl) fun j y u hy hu=>cD j y u hy (by simpa using hu)
  have eZ:=cY _ _ (eU hr c.args.toList) qA
  have lL:(execOp a.eval o).run Γ.P w=(callFunc f (c.args.toList.map a.eval++vs.toList).toArray).run Γ.P w:=by
   rw[←ax]
   simp[execOp,ho,resolve,hc,hv,Deferred.ofValue,invoke]
  generalize c.args.toList.map a.eval++vs.toList=aR at eZ lL
  have one:∀{r1 off:Nat} {l:List AV} {aR:List Value},bF w (aU Γ w η s.hp) η s.hp (.ptr r1 off::l) aR→∃b us,aR=.pointer (some ⟨b,off,none⟩)::us∧η[r1]?=some (.pointer (some ⟨b,0,none⟩))∧bF w (aU Γ w η s.hp) η s.hp l us:=by
   intro r1 off l aR h
   match aR,h with
   |u::us,h=>
    cases h.1 with
    |ptr _ _ b dn=>exact⟨b,us,rfl,dn,h.2⟩
  have ae:∀{u:Value} {l:List AV} {aR:List Value},bF w (aU Γ w η s.hp) η s.hp (.ae u::l) aR→∃us,aR=u::us∧bF w (aU Γ w η s.hp) η s.hp l us:=by
   intro u l aR h
   match aR,h with
   |u'::us,h=>exact⟨us,by rw[h.1.ao],h.2⟩
  have nil:∀{aR:List Value},bF w (aU Γ w η s.hp) η s.hp [] aR→aR=[]:=by
   intro aR h
   match aR,h with
   | [],_=>rfl
  unfold Qh at h
  split at h
  ·rename_i r1 off hL
   rw[hL] at eZ
   obtain⟨b,us,rfl,dn,kx⟩:=one eZ
   obtain rfl:=nil kx
   unfold Pd at h
   split at h
   ·rename_i k
    split at h
    ·rename_i cs hb
     split at h
     ·rename_i k' n aw
      split at h
      ·rename_i hk
       subst hk
       simp only[Option.some.injEq,Prod.mk.injEq] at h
       obtain⟨rfl,rfl⟩:=h
       have zA:=(tP hr hb dn aw).1
       exact⟨_,w,η,.inl (lL.trans (run_call_load hf eC fx bC _ mf zA)),hr,.ae _⟩
      ·cases h
     ·cases h
    ·cases h
   ·simp only[Option.some.injEq,Prod.mk.injEq] at h
    obtain⟨rfl,rfl⟩:=h
    refine⟨.pointer (some ⟨b,off,none⟩),w,η,.inl (lL.trans ?_),hr,.ptr _ _ b dn⟩
    rw[run_callFunc_extern hf eC fx bC mf]
    rfl
   ·cases h
  ·rename_i r1 off k1 y1 hL
   rw[hL] at eZ
   obtain⟨b,us,rfl,dn,kx⟩:=one eZ
   obtain⟨us',rfl,CW⟩:=ae kx
   obtain rfl:=nil CW
   unfold Pe at h
   split at h
   ·split at h
    ·rename_i cs hb
     split at h
     ·rename_i al
      simp only[Option.some.injEq,Prod.mk.injEq] at h
      obtain⟨rfl,rfl⟩:=h
      obtain⟨h1,h2,u',h3⟩:=hr.write aq (off:=off) (v:=.int k1 y1) (x:=.ae (.int k1 y1)) hb dn al rfl (.ae _)
      exact⟨_,_,η,.inl (lL.trans (run_call_store hf eC fx bC mf h3 h2)),h1,.ae _⟩
     ·cases h
    ·cases h
   ·rename_i k
    split at h
    ·rename_i cs hb
     split at h
     ·rename_i k' n aw
      split at h
      ·rename_i hk
       obtain⟨rfl,rfl⟩:=hk
       simp only[Option.some.injEq,Prod.mk.injEq] at h
       obtain⟨rfl,rfl⟩:=h
       have zA:=(tP hr hb dn aw).1
       obtain⟨h1,h2,_⟩:=hr.write aq (off:=off) (v:=.int k1 (k1.wrap (n+y1))) (x:=.ae (.int k1 (k1.wrap (n+y1)))) hb dn (List.getElem?_eq_some_iff.1 aw).1 rfl (.ae _)
       exact⟨_,_,η,.inl (lL.trans (run_call_add hf eC fx bC _ mf zA h2 rfl)),h1,.ae _⟩
      ·cases h
     ·cases h
    ·cases h
   ·cases h
  ·rename_i r1 off k1 y1 k2 z1 hL
   rw[hL] at eZ
   obtain⟨b,us,rfl,dn,kx⟩:=one eZ
   obtain⟨us',rfl,CW⟩:=ae kx
   obtain⟨aai,rfl,Qi⟩:=ae CW
   obtain rfl:=nil Qi
   unfold Pf at h
   split at h
   ·rename_i k
    split at h
    ·rename_i cs hb
     split at h
     ·rename_i k' n aw
      split at h
      ·rename_i hk
       obtain⟨rfl,rfl,rfl⟩:=hk
       simp only[Option.some.injEq,Prod.mk.injEq] at h
       obtain⟨rfl,rfl⟩:=h
       obtain⟨zA,Ze⟩:=tP hr hb dn aw
       by_cases hn:n=y1
       ·subst hn
        obtain⟨h1,h2,_⟩:=hr.write aq (off:=off) (v:=.int k2 z1) (x:=.ae (.int k2 z1)) hb dn (List.getElem?_eq_some_iff.1 aw).1 rfl (.ae _)
        rw[if_pos rfl,decide_eq_true rfl]
        exact⟨_,_,η,.inl (lL.trans (run_call_cas_hit hf eC fx bC _ mf zA Ze)),h1,.ae _⟩
       ·rw[if_neg hn,decide_eq_false hn]
        have nO:s.hp.set r1 (.box (cs.set off (.ae (.int k2 n))))=s.hp:=by
         have:cs.set off (.ae (.int k2 n))=cs:=by
          apply List.ext_getElem?
          intro i
          by_cases hi:off=i
          ·subst hi;rw[ai aw,aw]
          ·rw[getElem?_set_ne hi]
         rw[this]
         apply List.ext_getElem?
         intro i
         by_cases hi:r1=i
         ·subst hi;rw[ai hb,hb]
         ·rw[getElem?_set_ne hi]
        rw[nO]
        exact⟨_,w,η,.inl (lL.trans (run_call_cas_miss hf eC fx bC _ mf zA Ze hn)),hr,.ae _⟩
      ·cases h
     ·cases h
    ·cases h
   ·cases h
  ·cases h
def Ig:AV→Bool
 | .ae (.pointer none)=>true
 |_=>false
def Qj (tab:Nat→Option TD) (ρ:Operand→AV):Op→Option AV
 | .binOp op T x y _=>(match tab T,xi (ρ x),Ig (ρ y) with
  |some d,some b,true=>(match d.kind with
   | .ptr _=>(match op with
    | .eql=>some (.ae (.bool b))
    | .neq=>some (.ae (.bool (!b)))
    |_=>none)
   |_=>none)
  |_,_,_=>none)
 | .convert S D x=>(match tab S,tab D,ρ x with
  |some _,some d,.ae (.int _ n)=>(match d.kind with
   | .int k=>some (.ae (.int k (k.wrap n)))
   |_=>none)
  |_,_,_=>none)
 |_=>none
theorem CX {tab:Nat→Option TD} (ah:aL Γ.P tab) {o:Oper} {r:AV} (h:Qj tab s.ev o.op=some r):ee Γ o s r:=by
 generalize ho:o.op=op at h
 unfold Qj at h
 split at h
 ·rename_i VF T x y T'
  split at h
  ·rename_i d b hd hb hy
   have Ch:s.ev y=.ae (.pointer none):=by
    unfold Ig at hy
    split at hy
    ·assumption
    ·cases hy
   split at h
   ·rename_i e hk
    have hu:Γ.P.underlying T=some (.pointer (Γ.P.pointee T)):=by
     obtain⟨u,q2,q3⟩:=(ah T d hd).iS
     rw[hk] at q3
     have:Γ.P.underlying T=some (.pointer e):=by rw[q2];exact congrArg some q3
     rw[this,Program.pointee,this]
    split at h
    ·obtain rfl:=Option.some.inj h
     refine aK fun a w η hr=>?_
     obtain⟨p,hp,LR⟩:=nv hb (hr.ev x)
     have h2:=hr.ev y
     rw[Ch] at h2
     have h2:=h2.ao
     refine⟨.bool b,?_,.ae _⟩
     simp only[execOp,ho,hp,h2,eqGuard,Bool.not_true,Bool.false_eq_true,if_false,Sem.run_bind,Sem.run_pure,Result.andThen_ok,run_eql_pointer_nil w T p hu,LR]
    ·obtain rfl:=Option.some.inj h
     refine aK fun a w η hr=>?_
     obtain⟨p,hp,LR⟩:=nv hb (hr.ev x)
     have h2:=hr.ev y
     rw[Ch] at h2
     have h2:=h2.ao
     refine⟨.bool (!b),?_,.ae _⟩
     simp only[execOp,ho,hp,h2,eqGuard,Bool.not_true,Bool.false_eq_true,if_false,Sem.run_bind,Sem.run_pure,Result.andThen_ok,run_neq_pointer_nil w T p hu,LR]
    ·cases h
   ·cases h
  ·cases h
 ·rename_i S D x
  split at h
  ·rename_i d1 d k n hS hD hx
   split at h
   ·rename_i k2 hk
    obtain rfl:=Option.some.inj h
    refine aK fun a w η hr=>?_
    have h1:=hr.ev x
    rw[hx] at h1
    have h1:=h1.ao
    obtain⟨u1,q1,_⟩:=(ah S d1 hS).iS
    have hu:Γ.P.underlying D=some (.int k2):=by
     obtain⟨u,q2,q3⟩:=(ah D d hD).iS
     rw[hk] at q3
     rw[q2];exact congrArg some q3
    refine⟨.int k2 (k2.wrap n),?_,.ae _⟩
    simp only[execOp,ho,h1,convert,Sem.run_bind,run_underlying q1,run_underlying hu,Result.andThen_ok]
    rfl
   ·cases h
  ·cases h
 ·cases h
def qJ:List AV→Option (List Int)
 | []=>some []
 | .ae (.int .u8 n)::l=>(match qJ l with|some zs=>some (n::zs)|none=>none)
 |_=>none
theorem tQ:∀{l:List AV} {zs:List Int},qJ l=some zs→zs.length=l.length∧∀i,i<l.length→l[i]?=some (.ae (.int .u8 (zs.getD i 0)))
 | [],zs,h=>by cases h;exact⟨rfl,fun i hi=>by simp at hi⟩
 |x::l,zs,h=>by
  unfold qJ at h
  split at h
  ·rename_i e;cases e
  ·rename_i n l' e
   obtain⟨rfl,rfl⟩:=List.cons.inj e
   split at h
   ·rename_i ys hy
    obtain rfl:=Option.some.inj h
    obtain⟨h1,h2⟩:=tQ hy
    refine⟨by simp[h1],fun i hi=>?_⟩
    cases i with
    |zero=>rfl
    |succ i=>simpa using h2 i (by simpa using hi)
   ·cases h
  ·cases h
def tR:AV→Option (List Int)
 | .clip (x::l)=>qJ (x::l)
 | .sl (x::l)=>qJ (x::l)
 |_=>none
def Ih (tab:Nat→Option TD) (hp:List af) (ρ:Operand→AV):Op→Option (List Prop×AV×List af)
 | .convert S D x=>(match tab S,tab D with
  |some d,some du=>(match d.kind,du.kind with
   | .iu e,.str=>(match tab e with
    |some de=>(match de.kind with
     | .int .u8=>(match tR (ρ x) with
      |some zs=>some ([],.ae (.string (strOfNums zs)),hp)
      |none=>none)
     |_=>none)
    |none=>none)
   | .str,.iu e=>(match tab e,ρ x with
    |some de,.ae (.string u)=>(match de.kind with
     | .int .u8=>some ([u.size≤140737488355328],.sl (aT u),hp)
     |_=>none)
    |_,_=>none)
   |_,_=>none)
  |_,_=>none)
 | .call c=>(match c.callee,c.args.toList,c.argTypes.toList with
  | .builtin .append,[b,x],[T,T']=>(match tab T,tab T',ρ b,ρ x with
   |some d,some du,.own r n,.ae (.string s)=>(match d.kind,du.kind,hp[r]? with
    | .iu e,.str,some (.row e' size els)=>(match tab e with
     |some d'=>(match d'.zero with
      | .int .u8 0=>if e'=e∧size=d'.size∧d'.size=1∧d'.bytes=1 then some ([n=els.length,els.length+s.size≤140737488355328],.own r (els++aT s).length,hp.set r (.row e size (els++aT s))) else none
      |_=>none)
     |none=>none)
    |_,_,_=>none)
   |_,_,_,_=>none)
  |_,_,_=>none)
 | .load T p=>(match tab T,ρ p with
  |some d,.ptr r 1=>(match d.kind,hp[r]? with
   | .iu _,some (.cA q n)=>if d.size=1 then some ([],.own q n,hp) else none
   |_,_=>none)
  |_,_=>none)
 | .store T p x=>(match tab T,ρ p,ρ x with
  |some d,.ptr r 1,.own q m=>(match d.kind,hp[r]? with
   | .iu _,some (.cA q' _)=>if d.size=1∧q'=q then some ([m≠0],.top,hp.set r (.cA q m)) else none
   |_,_=>none)
  |_,_,_=>none)
 | .box T x=>if T=s8 then(match ρ x with
  | .agg [.ae (.pointer none),.ae (.slice none 0 0)]=>(match tab 5 with
   |some d=>(match d.zero with
    | .int .u8 0=>if d.size=1 then some ([],.ptr hp.length 0,hp++[.cA (hp.length+1) ([]:List AV).length,.row 5 1 []]) else none
    |_=>none)
   |none=>none)
  |_=>none) else none
 |_=>none
theorem zX (aq:Γ.Ok) {tab:Nat→Option TD} (ah:aL Γ.P tab) {o:Oper} {c:Call} (ho:o.op=.call c) (hb:c.callee=.builtin .append) {b x:Operand} (hl:c.args.toList=[b,x]) {T T' e r:Nat} (hT:c.argTypes.toList=[T,T']) {d du d':TD} (hd:tab T=some d)
  (LA:tab T'=some du) (hk:d.kind=.iu e) (Ii:du.kind=.str) (cM:tab e=some d') (hz:d'.zero=.int .u8 0) (h1:d'.size=1) (h2:d'.bytes=1) {els:List AV} {u:ByteArray} (mg:s.ev b=.own r els.length) (hx:s.ev x=.ae (.string u)) (bU:s.hp[r]?=some (.row e d'.size els)) (hm:els.length+u.size≤140737488355328):
  eA Γ o s (.own r (els++aT u).length) (s.hp.set r (.row e d'.size (els++aT u))):=by
 intro a w η hr
 have hu:Γ.P.underlying T=some (.slice e):=by
  obtain⟨u,q2,q3⟩:=(ah T d hd).iS
  rw[hk] at q3
  rw[q2];exact congrArg some q3
 have P8:Γ.P.underlying T'=some .string:=by
  obtain⟨u,q2,q3⟩:=(ah T' du LA).iS
  rw[Ii] at q3
  rw[q2];exact congrArg some q3
 have di:=hr.ev x
 rw[hx] at di
 have qw:=di.ao
 have Ep:=hr.ev b
 rw[mg] at Ep
 have qy:aQ η s.hp r els.length (a.eval b):=by cases Ep;assumption
 have mh:c.argTypes=#[T,T']:=by rw[←Array.toArray_toList (xs:=c.argTypes),hT]
 have ax:c.args=#[b,x]:=by rw[←Array.toArray_toList (xs:=c.args),hl]
 have hn:=Cq (w:=w) (F:=aU Γ w η s.hp) (ty:=o.type) hu P8 (ah e d' cM) h1 hz u
 have n7:=dR u
 obtain⟨v',w',aM,g1,g2,g3,g4⟩:=tk (M:=false) aq hr (ah e d' cM) bU qy hn (fun y hy=>by
  rw[h1]
  simp only[aT,List.mem_map] at hy
  obtain⟨q,_,rfl⟩:=hy
  rfl) (by rw[n7];unfold maxLen;omega) (by rw[n7,h2];omega)
 refine⟨v',w',aM,.inl ?_,g2,.own _ _ _ g3 ?_⟩
 ·rw[←qw] at g1
  simp only[execOp,ho,resolve,hb,Sem.run_bind,Sem.run_pure,Result.andThen_ok,invoke,builtin,mh,ax,List.map_toArray,List.map_cons,List.map_nil,g1]
 ·unfold aQ
  rw[ai bU]
  exact⟨Nat.le_refl _,fun _=>g4⟩
theorem FW (aq:Γ.Ok) {tab:Nat→Option TD} (ah:aL Γ.P tab) {o:Oper} {S D e:TypeId} {x:Operand} (ho:o.op=.convert S D x) {d du de:TD} (hd:tab S=some d) (LA:tab D=some du) (hk:d.kind=.iu e) (Ii:du.kind=.str) (zu:tab e=some de) (FX:de.kind=.int .u8) {zs:List Int} (hx:tR (s.ev x)=some zs):
  eA Γ o s (.ae (.string (strOfNums zs))) s.hp:=by
 intro a w η hr
 have hs:Γ.P.underlying S=some (.slice e):=by
  obtain⟨u,q2,q3⟩:=(ah S d hd).iS
  rw[hk] at q3
  rw[q2];exact congrArg some q3
 have hD:Γ.P.underlying D=some .string:=by
  obtain⟨u,q2,q3⟩:=(ah D du LA).iS
  rw[Ii] at q3
  rw[q2];exact congrArg some q3
 have hE:Γ.P.underlying e=some (.int .u8):=by
  obtain⟨u,q2,q3⟩:=(ah e de zu).iS
  rw[FX] at q3
  rw[q2];exact congrArg some q3
 have Qk:=hr.ev x
 obtain⟨y,l,FU,hz⟩:∃y l,aV w (aU Γ w η s.hp) η s.hp (.sl (y::l)) (a.eval x)∧qJ (y::l)=some zs:=by
  unfold tR at hx
  split at hx
  ·rename_i y l e;rw[e] at Qk;exact⟨y,l,Qk.nn,hx⟩
  ·rename_i y l e;rw[e] at Qk;exact⟨y,l,Qk,hx⟩
  ·cases hx
 obtain⟨Ij,Sw⟩:=tQ hz
 generalize hv:a.eval x=v at FU
 cases FU with
 |sl size els b o c f hc hm hl aw Lv=>
  have h0:size=1:=by
   have:=hl 0 _ (Sw 0 (by simp))
   exact this.symm
  subst h0
  have cell:∀i,i<(y::l).length→w.cell? ⟨b,o+i,none⟩=some (.int .u8 (zs.getD i 0)):=fun i hi=>by
   have h1:=(aw i _ 0 _ (Sw i hi) rfl).1
   have h2:=(Lv i _ 0 _ (Sw i hi) rfl).ao
   rw[h2] at h1
   simpa using h1
  have ew:=run_convert_bytes_arg (P:=Γ.P) w S e hs hE b o (y::l).length c zs Ij cell D hD
  refine⟨.string (strOfNums zs),w,η,.inl ?_,hr,.ae _⟩
  simp only[execOp,ho,hv,Sem.run_bind,ew,Result.andThen_ok]
  rfl
theorem CY (aq:Γ.Ok) {tab:Nat→Option TD} (ah:aL Γ.P tab) {o:Oper} {S D e:TypeId} {x:Operand} (ho:o.op=.convert S D x) {d du de:TD} (hd:tab S=some d) (LA:tab D=some du) (hk:d.kind=.str) (Ii:du.kind=.iu e) (zu:tab e=some de) (FX:de.kind=.int .u8) {u:ByteArray}
  (hx:s.ev x=.ae (.string u)) (hm:u.size≤140737488355328):eA Γ o s (.sl (aT u)) s.hp:=by
 intro a w η hr
 have hs:Γ.P.underlying S=some .string:=by
  obtain⟨u,q2,q3⟩:=(ah S d hd).iS
  rw[hk] at q3
  rw[q2];exact congrArg some q3
 have hD:Γ.P.underlying D=some (.slice e):=by
  obtain⟨u,q2,q3⟩:=(ah D du LA).iS
  rw[Ii] at q3
  rw[q2];exact congrArg some q3
 have hE:Γ.P.underlying e=some (.int .u8):=by
  obtain⟨u,q2,q3⟩:=(ah e de zu).iS
  rw[FX] at q3
  rw[q2];exact congrArg some q3
 have Qk:=hr.ev x
 rw[hx] at Qk
 have qw:=Qk.ao
 have ew:=Lib.run_convert_string_bytes (P:=Γ.P) w S D e u hs hD hE
 have nT:bt w (Lib.bytesWorld w e u):=⟨by unfold Lib.bytesWorld World.freeze;split<;>rfl,by unfold Lib.bytesWorld World.freeze;split<;>rfl,by unfold Lib.bytesWorld World.freeze;split<;>rfl,by rw[Lib.bytesWorld_size];omega,fun k hk=>Lib.bytesWorld_at_old w e u k hk⟩
 refine⟨_,_,η,.inl (by simp only[execOp,ho,qw,Sem.run_bind,ew,Result.andThen_ok];rfl),hr.same aq nT,?_⟩
 have hl:=dR u
 have dF:∀k,aU Γ (Lib.bytesWorld w e u) η s.hp w.heap.size k:=fun k=>
  ⟨.inr (.inl hr.keeps.size),by rw[Lib.bytesWorld_size];omega,(En (T:=e) (cs:=#[]) hr k (fun _ _=>aq.no)).2.2⟩
 have zj:∀(i:Nat) (y:AV),(aT u)[i]?=some y→∃c:UInt8,i<u.size∧u.data.toList.getD i 0=c∧y=.ae (.int .u8 c.toNat):=fun i y hi=>by
  simp only[aT,List.getElem?_map] at hi
  obtain⟨c,hc,rfl⟩:=Option.map_eq_some_iff.1 hi
  have al:=(List.getElem?_eq_some_iff.1 hc).1
  exact⟨c,by simpa using al,by rw[List.getD_eq_getElem?_getD,hc];rfl,rfl⟩
 have:=aV.sl (w:=Lib.bytesWorld w e u) (F:=aU Γ (Lib.bytesWorld w e u) η s.hp) (η:=η) (hp:=s.hp) 1 (aT u) w.heap.size 0 (grownCap w u.size 0 e) (fun i j=>.int .u8 (u.data.toList.getD i 0).toNat) (by rw[hl];exact grownCap_ge _ _ _ _) (grownCap_le_maxLen _ _ _ _ (by unfold maxLen;omega))
  (fun i y hi=>by obtain⟨c,_,_,rfl⟩:=zj i y hi;rfl) (fun i y j z hi hj=>by
   obtain⟨c,h1,h2,rfl⟩:=zj i y hi
   have WB:j=0:=by(have:=(List.getElem?_eq_some_iff.1 hj).1;simp[AV.cells] at this;omega)
   subst WB
   refine⟨?_,dF _,rfl⟩
   rw[Nat.zero_add,Nat.mul_one,Nat.add_zero]
   exact Lib.bytesWorld_cell w e u i h1) (fun i y j z hi hj=>by
   obtain⟨c,h1,h2,rfl⟩:=zj i y hi
   have WB:j=0:=by(have:=(List.getElem?_eq_some_iff.1 hj).1;simp[AV.cells] at this;omega)
   subst WB
   rw[h2]
   obtain rfl:AV.ae (.int .u8 c.toNat)=z:=by simpa [AV.cells] using hj
   exact .ae _)
 rw[hl] at this
 exact this
theorem Ik (aq:Γ.Ok) {o:Oper} {x:Operand} (ho:o.op=.box s8 x) (hx:s.ev x=.agg [.ae (.pointer none),.ae (.slice none 0 0)]):eA Γ o s (.ptr s.hp.length 0) (s.hp++[.cA (s.hp.length+1) 0,.row 5 1 []]):=by
 intro a w η hr
 have di:=hr.ev x
 rw[hx] at di
 generalize hv:a.eval x=v at di
 cases di with
 |agg _ vs hl h1 Lv=>
  have e0:vs[0]?=some (.pointer none):=by
   have:0<vs.size:=by rw[hl];simp
   have h2:=Lv 0 _ _ rfl (Array.getElem?_eq_getElem this)
   rw[Array.getElem?_eq_getElem this,h2.ao]
  have e1:vs[1]?=some (.slice none 0 0):=by
   have:1<vs.size:=by rw[hl];simp
   have h2:=Lv 1 _ _ rfl (Array.getElem?_eq_getElem this)
   rw[Array.getElem?_eq_getElem this,h2.ao]
  have nT:=bt.alloc w (.cells vs s8)
  have Lr:=hr.heap.len
  have hn:∀{r:Nat} {u:Value} {b:Nat},(η++[.pointer (some ⟨w.heap.size,0,none⟩),.slice none 0 0])[r]?=some u→bT u=some b→(η[r]?=some u∧r<s.hp.length)∨(r=s.hp.length∧b=w.heap.size):=by
   intro r u b hu hb
   by_cases al:r<η.length
   ·rw[List.getElem?_append_left al] at hu;exact .inl ⟨hu,by omega⟩
   ·rw[List.getElem?_append_right (by omega)] at hu
    cases hk:r-η.length with
    |zero=>
     rw[hk] at hu
     simp only[List.getElem?_cons_zero,Option.some.injEq] at hu
     subst hu
     simp only[bT,Option.some.injEq] at hb
     exact .inr ⟨by omega,hb.symm⟩
    |succ k=>
     rw[hk] at hu
     cases k with
     |zero=>simp at hu;subst hu;simp[bT] at hb
     |succ k=>simp at hu
  have ho0:∀{r:Nat} {ob:af},(s.hp++[af.cA (s.hp.length+1) 0,.row 5 1 []])[r]?=some ob→(s.hp[r]?=some ob∧r<s.hp.length)∨(r=s.hp.length∧ob=.cA (s.hp.length+1) 0)∨(r=s.hp.length+1∧ob=.row 5 1 []):=by
   intro r ob cR
   by_cases al:r<s.hp.length
   ·rw[List.getElem?_append_left al] at cR;exact .inl ⟨cR,al⟩
   ·rw[List.getElem?_append_right (by omega)] at cR
    cases hk:r-s.hp.length with
    |zero=>rw[hk] at cR;simp at cR;exact .inr (.inl ⟨by omega,cR.symm⟩)
    |succ k=>
     rw[hk] at cR
     cases k with
     |zero=>simp at cR;exact .inr (.inr ⟨by omega,cR.symm⟩)
     |succ k=>simp at cR
  have vq:(η++[Value.pointer (some ⟨w.heap.size,0,none⟩),.slice none 0 0])[s.hp.length]?=some (.pointer (some ⟨w.heap.size,0,none⟩)):=by
   rw[←Lr,List.getElem?_append_right (Nat.le_refl _)];simp
  have Sx:(η++[Value.pointer (some ⟨w.heap.size,0,none⟩),.slice none 0 0])[s.hp.length+1]?=some (.slice none 0 0):=by
   rw[←Lr,List.getElem?_append_right (by omega)];simp
  have gh1:(s.hp++[af.cA (s.hp.length+1) 0,.row 5 1 []])[s.hp.length+1]?=some (.row 5 1 []):=by
   rw[List.getElem?_append_right (by omega)];simp
  have hold:∀{r:Nat} {u:Value},η[r]?=some u→(η++[Value.pointer (some ⟨w.heap.size,0,none⟩),.slice none 0 0])[r]?=some u:=fun hu=>by
   rw[List.getElem?_append_left (List.getElem?_eq_some_iff.1 hu).1];exact hu
  have he:Ext w (aU Γ w η s.hp) η s.hp (w.alloc (.cells vs s8)) (aU Γ (w.alloc (.cells vs s8)) (η++[.pointer (some ⟨w.heap.size,0,none⟩),.slice none 0 0]) (s.hp++[.cA (s.hp.length+1) 0,.row 5 1 []])) (η++[.pointer (some ⟨w.heap.size,0,none⟩),.slice none 0 0]) (s.hp++[.cA (s.hp.length+1) 0,.row 5 1 []]):=by
   refine⟨fun b k u hf hc=>by rw[World.cell?_of_block (nT.block b (dy hf))];exact hc,fun b es c hf hc=>by rw[nT.block b (dy hf)];exact hc,fun b k hf=>⟨hf.1,Nat.lt_of_lt_of_le hf.2.1 nT.size,hf.2.2.1,(aN b k).2 fun r u hu hb=>?_⟩,fun _ _ h=>hold h,fun _ _ h=>hold h,fun r n u ho=>?_⟩
   ·rcases hn hu hb with⟨g1,g2⟩|⟨_,g2⟩
    ·obtain⟨ob,q1,q2⟩:=(aN b k).1 hf.2.2.2 r u g1 hb
     exact⟨ob,by rw[List.getElem?_append_left g2];exact q1,q2⟩
    ·have:=dy hf;omega
   ·unfold aQ at ho ⊢
    cases Cj:s.hp[r]? with
    |none=>simp[Cj] at ho
    |some ob=>
     rw[List.getElem?_append_left (List.getElem?_eq_some_iff.1 Cj).1,Cj]
     rw[Cj] at ho
     cases ob with
     |row e z els=>exact⟨ho.1,fun Hr=>hold (ho.2 Hr)⟩
     |aF e z els=>exact⟨ho.1,fun Hr=>hold (ho.2 Hr)⟩
     |dh e m ns=>exact⟨ho.1,fun Hr=>hold (ho.2 Hr)⟩
     |_=>exact ho
  refine⟨.pointer (some ⟨w.heap.size,0,none⟩),_,η++[.pointer (some ⟨w.heap.size,0,none⟩),.slice none 0 0],.inl (by simp[execOp,ho,hv,Instr.box,newVar,newRow,Value.cells];rfl),?_,.ptr _ 0 w.heap.size vq⟩
  have gv:∀(r:Nat) (ob:af) (u:Value) (b:Nat),s.hp[r]?=some ob→ob.live→η[r]?=some u→bT u=some b→b<w.heap.size:=fun r ob u b g1 g2 g3 g4=>hr.heap.block g1 g2 g3 g4
  refine⟨hr.nt,fun t=>(hr.tmps t).ext he,⟨by simp[Lr],fun r ob u g1 g2=>?_,fun r r' o1 o2 u u' b bj g1 g2 l1 l2 g3 g4 hb ec=>?_⟩,fun r ob u b g1 g2 g3 g4=>?_,hr.keeps.xb nT,aq.l8 _ _ _ (fun b hb=>nT.block b (Nat.lt_of_lt_of_le (aq.x b hb) hr.keeps.size)) nT.size hr.inv,(nT.keeps fun _=>False).marks hr.marks fun _ hf=>hf.elim,hr.ext.trans he⟩
  ·rcases ho0 g1 with⟨g3,g4⟩|⟨rfl,rfl⟩|⟨rfl,rfl⟩
   ·rw[List.getElem?_append_left (by omega)] at g2
    exact(hr.heap.obj r ob u g3 g2).ext he nT.size fun b _ al=>nT.block b al
   ·rw[vq] at g2
    obtain rfl:=Option.some.inj g2
    exact⟨w.heap.size,vs,rfl,heap_alloc_new w _,⟨hl,fun _=>e1⟩,.inl e0,_,e1,.own _ 0 _ rfl (by unfold aQ;rw[gh1];exact⟨Nat.le_refl _,fun _=>Sx⟩)⟩
   ·rw[Sx] at g2
    obtain rfl:=Option.some.inj g2
    exact⟨Nat.one_pos,[],⟨by simp,.inl ⟨rfl,.inl rfl⟩⟩,fun i el hi=>by simp at hi⟩
  ·rcases hn g3 hb with⟨p1,p2⟩|⟨p1,p2⟩
   ·rcases hn g4 ec with⟨q1,q2⟩|⟨q1,q2⟩
    ·rw[List.getElem?_append_left p2] at g1
     rw[List.getElem?_append_left q2] at g2
     exact hr.heap.sep r r' o1 o2 u u' b bj g1 g2 l1 l2 p1 q1 hb ec
    ·rw[List.getElem?_append_left p2] at g1
     have:=gv r o1 u b g1 l1 p1 hb;omega
   ·rcases hn g4 ec with⟨q1,q2⟩|⟨q1,q2⟩
    ·rw[List.getElem?_append_left q2] at g2
     have:=gv r' o2 u' b g2 l2 q1 ec;omega
    ·omega
  ·rcases hn g3 g4 with⟨p1,p2⟩|⟨p1,p2⟩
   ·rw[List.getElem?_append_left p2] at g1
    exact hr.bA r ob u b g1 g2 p1 g4
   ·subst p2
    exact⟨.inl hr.keeps.size,fun k hx=>by have:=aq.no hx;have:=hr.keeps.size;omega⟩
theorem xB (aq:Γ.Ok) {tab:Nat→Option TD} (ah:aL Γ.P tab) {o:Oper} {T r q n:Nat} {p:Operand} (ho:o.op=.load T p) {d:TD} (hd:tab T=some d) (ha:d.kind.agg=false) (hp:s.ev p=.ptr r 1) (hb:s.hp[r]?=some (.cA q n)):eA Γ o s (.own q n) s.hp:=by
 intro a w η hr
 have hx:=hr.ev p
 rw[hp] at hx
 generalize hv:a.eval p=v at hx
 cases hx with
 |ptr _ _ b dn=>
  obtain⟨b',vs,he,hg,⟨bE,_⟩,_,u,hu,cD⟩:=hr.heap.obj r _ _ hb dn
  simp only[Value.pointer.injEq,Option.some.injEq,Addr.mk.injEq,and_true] at he
  subst he
  have h1:u.oneCell'=true:=by cases cD;assumption
  have Ly:=ah.sz hd ha
  have Pg:=iA (P:=Γ.P) (ah T d hd) (o:=1) (qE hg) (by rw[Ly,Array.length_toList,bE];decide)
  have e:((vs.toList.drop 1).take d.size).headD undef=u:=by
   rw[Ly]
   have h2:vs.toList[1]?=some u:=by simpa using hu
   cases hl:vs.toList with
   |nil=>rw[hl] at h2;simp at h2
   |cons x l=>
    rw[hl] at h2
    cases l with
    |nil=>simp at h2
    |cons y l=>simp at h2;subst h2;rfl
  rw[ha,e] at Pg
  refine⟨u,w,η,.inl ?_,hr,cD⟩
  simp only[execOp,ho,hv,Instr.loadAt,Instr.sureAddr,Sem.run_bind,Sem.run_pure,Result.andThen_ok]
  rw[Pg]
  rfl
theorem Rel.Il (aq:Γ.Ok) (h:Rel Γ s a w η) {r q n m b:Nat} {v:Value} (hm:m≠0) (hr:s.hp[r]?=some (.cA q n)) (hv:η[r]?=some (.pointer (some ⟨b,0,none⟩))) (hx:aV w (aU Γ w η s.hp) η s.hp (.own q m) v):
  Rel Γ { s with hp:=s.hp.set r (.cA q m) } a (w.setCell ⟨b,1,none⟩ v) η∧w.frozen? ⟨b,1,none⟩=false∧∃u,w.cell? ⟨b,1,none⟩=some u:=by
 obtain⟨b',vs,he,hg,⟨bE,_⟩,h0,u,hu,cD⟩:=h.heap.obj r _ _ hr hv
 simp only[Value.pointer.injEq,Option.some.injEq,Addr.mk.injEq,and_true] at he
 subst he
 have nO:(w.setCell ⟨b,1,none⟩ v).heap[b]?=some (.cells (vs.setIfInBounds 1 v) s8 (0,0)):=Go.heap_setCell_same w b 1 vs s8 v hg
 have dn:η.set r (.pointer (some ⟨b,0,none⟩))=η:=by
  apply List.ext_getElem?
  intro i
  by_cases hi:r=i
  ·subst hi;rw[ai hv,hv]
  ·rw[getElem?_set_ne hi]
 refine⟨?_,frozen_of_row w b 1 vs s8 hg,?_⟩
 ·have:=Rel.change (w':=w.setCell ⟨b,1,none⟩ v) (o':=.cA q m) (v':=.pointer (some ⟨b,0,none⟩)) aq h hr True.intro hv
   ⟨rfl,rfl,rfl,by simp[World.setCell],fun k hk hb=>Go.heap_setCell_other w _ k v (by intro e;exact hb (by rw[e];rfl))⟩
   (fun c hc=>.inl hc) (fun k hk=>hk.elim) (fun _ _ _ _ hk=>hk.elim) (fun _ _ _ _ hk=>hk.elim)
   (fun n u ho=>by simp[aQ,hr] at ho)
   (fun _ _=>rfl) (fun _ hx=>by cases hx)
   (fun c d hb hd=>by simp only[bT,Option.some.injEq] at hb;subst hb;rw[hg] at hd;cases hd)
   (fun he=>⟨b,vs.setIfInBounds 1 v,rfl,nO,⟨by simp[bE],fun e=>(hm e).elim⟩,by rw[Array.getElem?_setIfInBounds];simpa using h0,v,by rw[Array.getElem?_setIfInBounds];simp[bE],hx.ext he⟩)
  rw[dn] at this
  exact this
 ·rw[cell_of_row w b 1 vs s8 (0,0) hg]
  exact⟨u,hu⟩
theorem vu (aq:Γ.Ok) {tab:Nat→Option TD} (ah:aL Γ.P tab) {o:Oper} {T r q n m:Nat} {p x:Operand} (ho:o.op=.store T p x) {d:TD} (hd:tab T=some d) (h1:d.size=1) (hm:m≠0) (hp:s.ev p=.ptr r 1) (hx:s.ev x=.own q m) (hb:s.hp[r]?=some (.cA q n)):eA Γ o s .top (s.hp.set r (.cA q m)):=by
 intro a w η hr
 have nU:=hr.ev p
 rw[hp] at nU
 have di:=hr.ev x
 rw[hx] at di
 generalize hv:a.eval p=v at nU
 cases nU with
 |ptr _ _ b dn=>
  obtain⟨g1,g2,u,g3⟩:=hr.Il aq hm hb dn di
  have tt:(a.eval x).oneCell'=true:=by cases di;assumption
  have xC:(a.eval x).cells=#[a.eval x]:=by cases hq:a.eval x<;>simp_all [Value.cells,Value.oneCell']
  refine⟨undef,_,η,.inr ⟨?_,rfl⟩,g1,.top _⟩
  simp only[execOp,ho,hv,Instr.storeAt,Instr.sureAddr,Sem.run_bind,Sem.run_pure,Result.andThen_ok,storeVar,(ah T d hd).run_sizeOf,h1,xC,List.size_toArray,List.length_cons,List.length_nil,Nat.zero_add,ne_eq,not_true_eq_false,if_false,storeCells,Addr.add_lit]
  rw[run_store _ _ _ _ _ tt,Nat.add_zero,g3]
  simp only[g2,Bool.false_eq_true,if_false,Result.andThen_ok]
theorem Im (aq:Γ.Ok) {tab:Nat→Option TD} (ah:aL Γ.P tab) {o:Oper} {l:List Prop} {r:AV} {hp':List af} (h:Ih tab s.hp s.ev o.op=some (l,r,hp')) (hc:∀p∈l,p):eA Γ o s r hp':=by
 generalize ho:o.op=op at h
 unfold Ih at h
 split at h
 ·rename_i S D x
  split at h
  ·rename_i d du hd LA
   split at h
   ·rename_i e hk Ii
    split at h
    ·rename_i de zu
     split at h
     ·rename_i FX
      split at h
      ·rename_i zs hz
       simp only[Option.some.injEq,Prod.mk.injEq] at h
       obtain⟨_,rfl,rfl⟩:=h
       exact FW aq ah ho hd LA hk Ii zu FX hz
      ·cases h
     ·cases h
    ·cases h
   ·rename_i e hk Ii
    split at h
    ·rename_i de u zu hx
     split at h
     ·rename_i FX
      simp only[Option.some.injEq,Prod.mk.injEq] at h
      obtain⟨rfl,rfl,rfl⟩:=h
      exact CY aq ah ho hd LA hk Ii zu FX hx (hc _ List.mem_cons_self)
     ·cases h
    ·cases h
   ·cases h
  ·cases h
 ·rename_i c
  split at h
  ·rename_i b x T T' xD ax ft
   split at h
   ·rename_i d du r' n u hd LA mg hx
    split at h
    ·rename_i e e' size els hk Ii bU
     split at h
     ·rename_i d' cM
      split at h
      ·rename_i hz
       split at h
       ·rename_i nR
        obtain⟨rfl,rfl,h1,h2⟩:=nR
        simp only[Option.some.injEq,Prod.mk.injEq] at h
        obtain⟨rfl,rfl,rfl⟩:=h
        have e1:=hc _ (List.mem_cons_self)
        have e2:=hc _ (List.mem_cons_of_mem _ List.mem_cons_self)
        rw[e1] at mg
        exact zX aq ah ho xD ax ft hd LA hk Ii cM hz h1 h2 mg hx bU e2
       ·cases h
      ·cases h
     ·cases h
    ·cases h
   ·cases h
  ·cases h
 ·rename_i T p
  split at h
  ·rename_i d r' hd hp
   split at h
   ·rename_i e q n hk hb
    split at h
    ·simp only[Option.some.injEq,Prod.mk.injEq] at h
     obtain⟨_,rfl,rfl⟩:=h
     exact xB aq ah ho hd (by rw[hk];rfl) hp hb
    ·cases h
   ·cases h
  ·cases h
 ·rename_i T p x
  split at h
  ·rename_i d r' q m hd hp hx
   split at h
   ·rename_i e q' n hk hb
    split at h
    ·rename_i nR
     obtain⟨h1,rfl⟩:=nR
     simp only[Option.some.injEq,Prod.mk.injEq] at h
     obtain⟨rfl,rfl,rfl⟩:=h
     exact vu aq ah ho hd h1 (hc _ List.mem_cons_self) hp hx hb
    ·cases h
   ·cases h
  ·cases h
 ·rename_i T x
  split at h
  ·rename_i hT
   subst hT
   split at h
   ·rename_i hx
    split at h
    ·split at h
     ·split at h
      ·simp only[Option.some.injEq,Prod.mk.injEq] at h
       obtain⟨_,rfl,rfl⟩:=h
       exact Ik aq ho hx
      ·cases h
     ·cases h
    ·cases h
   ·cases h
  ·cases h
 ·cases h
end Go.Proofs.YtdcikhleahfknaaGreatDoor
