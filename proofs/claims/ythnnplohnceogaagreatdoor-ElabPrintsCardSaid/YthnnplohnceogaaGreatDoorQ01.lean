/- Lemmas. -/
import Derived.WalkKit
import Derived.CallsIn
import Derived.RangeFuncRecord
import Derived.Laws.AppendOwn
import Derived.Lib.AppendStr
import Derived.ArgAppend
import Derived.OrdersIn
namespace Go.Proofs.YthnnplohnceogaaGreatDoor
open Go
open _root_.True renaming intro->ai
open Go.Result renaming andThen_ok->al
open Go.Sem renaming run_bind->ao,run_pure->aq
theorem aul:type_of% @Option.some.injEq:=@Option.some.injEq
theorem aum:type_of% @List.length_map:=@List.length_map
theorem aun:type_of% @List.getElem?_eq_some_iff:=@List.getElem?_eq_some_iff
theorem auo:type_of% @Option.some.inj:=@Option.some.inj
theorem aup:type_of% @Prod.mk.injEq:=@Prod.mk.injEq
theorem auq:type_of% @Bool.and_eq_true:=@Bool.and_eq_true
theorem aur:type_of% @Nat.le_refl:=@Nat.le_refl
theorem aus:type_of% @List.getElem?_eq_getElem:=@List.getElem?_eq_getElem
theorem aut:type_of% @List.length_append:=@List.length_append
theorem auu:type_of% @List.mem_of_getElem?:=@List.mem_of_getElem?
theorem auv:type_of% @Nat.zero_le:=@Nat.zero_le
theorem auw:type_of% @List.drop_eq_getElem_cons:=@List.drop_eq_getElem_cons
theorem auy:type_of% @List.length_cons:=@List.length_cons
theorem auz:type_of% @List.getElem_mem:=@List.getElem_mem
theorem auA:type_of% @List.getElem?_map:=@List.getElem?_map
theorem auB:type_of% @List.getElem?_append_left:=@List.getElem?_append_left
theorem auC:type_of% @List.mem_cons_self:=@List.mem_cons_self
theorem auD:type_of% @List.mem_singleton:=@List.mem_singleton
theorem auE:type_of% @List.take_of_length_le:=@List.take_of_length_le
theorem auF:type_of% @List.append_nil:=@List.append_nil
theorem auG:type_of% @List.mem_cons_of_mem:=@List.mem_cons_of_mem
theorem auH:type_of% @List.drop_eq_nil_of_le:=@List.drop_eq_nil_of_le
theorem auI:type_of% @List.all_eq_true:=@List.all_eq_true
theorem auJ:type_of% @List.mem_cons:=@List.mem_cons
theorem auK:type_of% @Nat.lt_of_lt_of_le:=@Nat.lt_of_lt_of_le
theorem auL:type_of% @List.getElem?_take:=@List.getElem?_take
theorem auM:type_of% @List.append_assoc:=@List.append_assoc
theorem auN:type_of% @Nat.eq_of_beq_eq_true:=@Nat.eq_of_beq_eq_true
theorem auO:type_of% @Bool.false_eq_true:=@Bool.false_eq_true
theorem auP:type_of% @Nat.le_trans:=@Nat.le_trans
theorem auQ:type_of% @List.getElem?_eq_none:=@List.getElem?_eq_none
theorem auR:type_of% @List.map_cons:=@List.map_cons
theorem auS:type_of% @List.length_drop:=@List.length_drop
theorem auT:type_of% @Nat.le_add_right:=@Nat.le_add_right
theorem auU:type_of% @List.mem_append:=@List.mem_append
theorem auV:type_of% @List.eq_nil_of_length_eq_zero:=@List.eq_nil_of_length_eq_zero
theorem auW:type_of% @Nat.le_of_ble_eq_true:=@Nat.le_of_ble_eq_true
theorem auX:type_of% @Option.map_some:=@Option.map_some
theorem auY:type_of% @List.map_append:=@List.map_append
theorem auZ:type_of% @Nat.zero_add:=@Nat.zero_add
theorem au0:type_of% @List.setIfInBounds_toArray:=@List.setIfInBounds_toArray
theorem au1:type_of% @List.map_nil:=@List.map_nil
theorem au2:type_of% @Array.length_toList:=@Array.length_toList
theorem au3:type_of% @Array.getElem?_eq_some_iff:=@Array.getElem?_eq_some_iff
theorem au4:type_of% @List.length_take:=@List.length_take
theorem au5:type_of% @Bool.true_and:=@Bool.true_and
theorem au6:type_of% @Nat.mul_le_mul_right:=@Nat.mul_le_mul_right
theorem au7:type_of% @List.length_nil:=@List.length_nil
theorem au8:type_of% @Array.getD_eq_getD_getElem?:=@Array.getD_eq_getD_getElem?
theorem au9:type_of% @List.getElem?_append_right:=@List.getElem?_append_right
theorem ava:type_of% @List.getElem?_cons_succ:=@List.getElem?_cons_succ
theorem avb:type_of% @Option.bind_eq_some_iff:=@Option.bind_eq_some_iff
theorem avc:type_of% @Array.getElem?_eq_getElem:=@Array.getElem?_eq_getElem
theorem avd:type_of% @Bool.not_eq_true':=@Bool.not_eq_true'
theorem ave:type_of% @Option.map_eq_some_iff:=@Option.map_eq_some_iff
theorem avf:type_of% @List.ext_getElem?:=@List.ext_getElem?
theorem avg:type_of% @List.set_cons_zero:=@List.set_cons_zero
theorem avh:type_of% @List.set_cons_succ:=@List.set_cons_succ
theorem avi:type_of% @List.take_succ_eq_append_getElem:=@List.take_succ_eq_append_getElem
theorem avj:type_of% @Option.getD_some:=@Option.getD_some
theorem avk:type_of% @Bool.false_and:=@Bool.false_and
theorem avl:type_of% @List.take_append_drop:=@List.take_append_drop
theorem avm:type_of% @List.length_singleton:=@List.length_singleton
theorem avn:type_of% @List.getElem?_cons_zero:=@List.getElem?_cons_zero
theorem avo:type_of% @Bool.or_eq_true:=@Bool.or_eq_true
theorem avp:type_of% @Int.toNat_natCast:=@Int.toNat_natCast
theorem avq:type_of% @List.getElem?_set:=@List.getElem?_set
theorem avr:type_of% @Nat.add_mul:=@Nat.add_mul
theorem avs:type_of% @List.mem_map:=@List.mem_map
theorem avt:type_of% @Nat.mul_one:=@Nat.mul_one
theorem avu:type_of% @Nat.add_zero:=@Nat.add_zero
theorem avv:type_of% @List.getD_eq_getElem?_getD:=@List.getD_eq_getElem?_getD
theorem avw:type_of% @List.mem_append_left:=@List.mem_append_left
theorem avx:type_of% @Array.toArray_toList:=@Array.toArray_toList
theorem avy:type_of% @Array.getElem?_setIfInBounds:=@Array.getElem?_setIfInBounds
theorem avz:type_of% @Bool.not_true:=@Bool.not_true
theorem avA:type_of% @Bool.false_or:=@Bool.false_or
theorem avB:type_of% @List.not_mem_nil:=@List.not_mem_nil
theorem avC:type_of% @Array.getElem?_toList:=@Array.getElem?_toList
theorem avD:type_of% @List.getElem?_of_mem:=@List.getElem?_of_mem
theorem avE:type_of% @List.forall_mem_cons:=@List.forall_mem_cons
theorem avF:type_of% @List.nil_append:=@List.nil_append
theorem avG:type_of% @Nat.le_succ_of_le:=@Nat.le_succ_of_le
theorem avH:type_of% @Nat.lt_succ_self:=@Nat.lt_succ_self
theorem avI:type_of% @List.drop_zero:=@List.drop_zero
theorem avJ:type_of% @List.getElem?_drop:=@List.getElem?_drop
theorem avK:type_of% @List.length_set:=@List.length_set
theorem avL:type_of% @List.all_cons:=@List.all_cons
theorem avM:type_of% @Nat.mul_le_mul:=@Nat.mul_le_mul
theorem avN:type_of% @List.cons_append:=@List.cons_append
theorem avO:type_of% @Bool.eq_iff_iff:=@Bool.eq_iff_iff
theorem avP:type_of% @ByteArray.size_extract:=@ByteArray.size_extract
theorem avQ:type_of% @List.size_toArray:=@List.size_toArray
theorem avR:type_of% @Array.ext':=@Array.ext'
theorem avS:type_of% @Decidable.not_not:=@Decidable.not_not
theorem avT:type_of% @List.take_zero:=@List.take_zero
theorem avU:type_of% @Go.heap_setCell_other:=@Go.heap_setCell_other
theorem avV:type_of% @Nat.sub_self:=@Nat.sub_self
theorem avW:type_of% @Ne.symm:=@Ne.symm
theorem avX:type_of% @Nat.min_eq_left:=@Nat.min_eq_left
theorem avY:type_of% @Classical.byContradiction:=@Classical.byContradiction
theorem avZ:type_of% @Array.setIfInBounds_comm:=@Array.setIfInBounds_comm
theorem av0:type_of% @List.flatten_cons:=@List.flatten_cons
theorem av1:type_of% @Nat.add_assoc:=@Nat.add_assoc
theorem av2:type_of% @Array.toList_map:=@Array.toList_map
theorem av3:type_of% @List.map_toArray:=@List.map_toArray
theorem av4:type_of% @List.flatten_nil:=@List.flatten_nil
theorem av5:type_of% @List.contains_iff_mem:=@List.contains_iff_mem
theorem av6:type_of% @List.mem_append_right:=@List.mem_append_right
theorem av7:type_of% @List.singleton_append:=@List.singleton_append
theorem av8:type_of% @List.getElem?_range:=@List.getElem?_range
theorem av9:type_of% @Iff.rfl:=@Iff.rfl
theorem awa:type_of% @List.map_congr_left:=@List.map_congr_left
theorem awb:type_of% @List.flatten_append:=@List.flatten_append
theorem awc:type_of% @List.takeWhile_cons:=@List.takeWhile_cons
set_option linter.unusedSimpArgs false
set_option linter.unusedVariables false
section
abbrev aw:=ByteArray
inductive ME where
 |i (l:List (Int×Value))
 |s (l:List (aw×Value))
def Ez:TypeId:=134
inductive AV where
 |top
 |ay (v:Value)
 |fn (v:Value)
 |sl (els:List AV)
 |clip (els:List AV)
 |own (r n:Nat)
 |ptr (r off:Nat)
 |aU (e:AV) (off:Nat)
 |agg (cs:List AV)
 |aG (vs:List AV)
 |bz (f:Nat) (caps:List AV)
 |mp (r:Nat)
 |eo (es:ME)
 |fY (r n i size:Nat)
 |dt (f:Nat) (first:List AV)
instance:Inhabited AV:=⟨.top⟩
def AV.cells:AV->List AV
 | .agg cs=>cs|v=>[v]
inductive ax where
 |dead
 |box (cs:List AV)
 |row (e size:Nat) (els:List AV)
 |cJ (es:ME)
 |jm (r n:Nat)
 |aV (e size:Nat) (els:List AV)
 |fz (e m:Nat) (ns:List Int)
def ax.live:ax->Prop
 | .dead=>False|_=>True
def dn:Value->Option Nat
 | .pointer (some a)=>some a.block| .slice (some a) _ c=>if c=0 then none else some a.block| .map (some b)=>some b|_=>none
def bk(η:List Value)(hp:List ax)(r n:Nat)(v:Value):Prop:=
 match hp[r]? with
 |some (.row _ _ els)=>n<=els.length/\(n=els.length->η[r]?=some v)
 |some (.aV _ _ els)=>n<=els.length/\(n=els.length->η[r]?=some v)
 |some (.fz _ m _)=>n<=m/\(n=m->η[r]?=some v)
 |some .dead=>True
 |_=>False
def oa(es:Array MapEntry):List (Value×Value):=es.toList.map λe=>(e.key,e.val)
def Qo:ME->List (Value×Value)
 | .i l=>l.map λp=>(.int .i64 p.1,p.2)| .s l=>l.map λp=>(.string p.1,p.2)
inductive bq (w:World) (F:Nat->Nat->Prop):List Value->List ax->AV->Value->Prop
 |top {η:List Value} {hp:List ax} (v:Value):bq w F η hp .top v
 |ay {η:List Value} {hp:List ax} (v:Value):bq w F η hp (.ay v) v
 |fn {η:List Value} {hp:List ax} (v:Value) (h1:v.oneCell'=true):bq w F η hp (.fn v) v
 |mV {η:List Value} {hp:List ax} (a:Option Addr):bq w F η hp (.sl []) (.slice a 0 0)
 |jv {η:List Value} {hp:List ax} (a:Option Addr):bq w F η hp (.clip []) (.slice a 0 0)
 |sl {η:List Value} {hp:List ax} (size:Nat) (els:List AV) (b o c:Nat) (f:Nat->Nat->Value) (hc:els.length<=c) (hm:c<=maxLen)
   (hl:∀(i:Nat)(e:AV),els[i]?=some e->e.cells.length=size)
   (aT:∀(i:Nat)(e:AV)(j:Nat)(x:AV),els[i]?=some e->e.cells[j]?=some x->w.cell? ⟨b,o+i*size+j,none⟩=some (f i j)/\F b (o+i*size+j)/\(f i j).oneCell'=true)
   (hr:∀(i:Nat)(e:AV)(j:Nat)(x:AV),els[i]?=some e->e.cells[j]?=some x->bq w F [] [] x (f i j)):
   bq w F η hp (.sl els) (.slice (some ⟨b,o,none⟩) els.length c)
 |clip {η:List Value} {hp:List ax} (size:Nat) (els:List AV) (b o:Nat) (f:Nat->Nat->Value) (hm:els.length<=maxLen)
   (hl:∀(i:Nat)(e:AV),els[i]?=some e->e.cells.length=size)
   (aT:∀(i:Nat)(e:AV)(j:Nat)(x:AV),els[i]?=some e->e.cells[j]?=some x->w.cell? ⟨b,o+i*size+j,none⟩=some (f i j)/\F b (o+i*size+j)/\(f i j).oneCell'=true)
   (hr:∀(i:Nat)(e:AV)(j:Nat)(x:AV),els[i]?=some e->e.cells[j]?=some x->bq w F [] [] x (f i j)):
   bq w F η hp (.clip els) (.slice (some ⟨b,o,none⟩) els.length els.length)
 |own {η:List Value} {hp:List ax} (r n:Nat) (v:Value) (h1:v.oneCell'=true) (h:bk η hp r n v):bq w F η hp (.own r n) v
 |ptr {η:List Value} {hp:List ax} (r off b:Nat) (h:η[r]?=some (.pointer (some ⟨b,0,none⟩))):bq w F η hp (.ptr r off) (.pointer (some ⟨b,off,none⟩))
 |aU {η:List Value} {hp:List ax} (e:AV) (off b o:Nat) (f:Nat->Value)
   (aT:∀(j:Nat)(x:AV),e.cells[j]?=some x->w.cell? ⟨b,o+j,none⟩=some (f j)/\F b (o+j)/\(f j).oneCell'=true)
   (hr:∀(j:Nat)(x:AV),e.cells[j]?=some x->bq w F [] [] x (f j)):
   bq w F η hp (.aU e off) (.pointer (some ⟨b,o+off,none⟩))
 |agg {η:List Value} {hp:List ax} (cs:List AV) (vs:Array Value) (hl:vs.size=cs.length) (h1:∀v:Value,v∈vs->v.oneCell'=true)
   (hr:∀(j:Nat)(x:AV)(v:Value),cs[j]?=some x->vs[j]?=some v->bq w F η hp x v):bq w F η hp (.agg cs) (.agg vs)
 |aG {η:List Value} {hp:List ax} (cs:List AV) (vs:Array Value) (hl:vs.size=cs.length)
   (hr:∀(j:Nat)(x:AV)(v:Value),cs[j]?=some x->vs[j]?=some v->bq w F η hp x v):bq w F η hp (.aG cs) (.tuple vs)
 |bz {η:List Value} {hp:List ax} (fn:Nat) (cs:List AV) (vs:Array Value) (hl:vs.size=cs.length)
   (hr:∀(j:Nat)(x:AV)(v:Value),cs[j]?=some x->vs[j]?=some v->bq w F η hp x v):bq w F η hp (.bz fn cs) (.func (.func fn) #[] vs)
 |mp {η:List Value} {hp:List ax} (r b:Nat) (h:η[r]?=some (.map (some b))):bq w F η hp (.mp r) (.map (some b))
 |eo {η:List Value} {hp:List ax} (b:Nat) (es:Array MapEntry) (c:Nat) (h:w.heap[b]?=some (.map es c)) (hF:F b 0) (l:ME) (hl:oa es=Qo l):bq w F η hp (.eo l) (.map (some b))
 |fY {η:List Value} {hp:List ax} (r n i size b o c k:Nat) (h:bk η hp r n (.slice (some ⟨b,o,none⟩) k c)):bq w F η hp (.fY r n i size) (.pointer (some ⟨b,o+i*size,none⟩))
 |dt {η:List Value} {hp:List ax} (fn:Nat) (cs:List AV) (vs:Array Value) (hl:vs.size=cs.length)
   (hr:∀(j:Nat)(x:AV)(v:Value),cs[j]?=some x->vs[j]?=some v->bq w F η hp x v):bq w F η hp (.dt fn cs) (.func (.func fn) vs #[])
structure Sw(w:World)(F:Nat->Nat->Prop)(w':World)(F':Nat->Nat->Prop):Prop where
 cell:∀b o v,F b o->w.cell? ⟨b,o,none⟩=some v->w'.cell? ⟨b,o,none⟩=some v
 kG:∀b es c,F b 0->w.heap[b]?=some (.map es c)->w'.heap[b]?=some (.map es c)
 bD:∀b o,F b o->F' b o
structure Ext(w:World)(F:Nat->Nat->Prop)(η:List Value)(hp:List ax)(w':World)(F':Nat->Nat->Prop)(bj:List Value)(hp':List ax):Prop where
 cell:∀b o v,F b o->w.cell? ⟨b,o,none⟩=some v->w'.cell? ⟨b,o,none⟩=some v
 kG:∀b es c,F b 0->w.heap[b]?=some (.map es c)->w'.heap[b]?=some (.map es c)
 bD:∀b o,F b o->F' b o
 ptr:∀(r:Nat) a,η[r]?=some (.pointer a)->bj[r]?=some (.pointer a)
 mp:∀(r:Nat) a,η[r]?=some (.map a)->bj[r]?=some (.map a)
 own:∀r n v,bk η hp r n v->bk bj hp' r n v
variable {w w':World} {F F':Nat->Nat->Prop} {η bj:List Value} {hp hp':List ax}
theorem Sw.ext(h:Sw w F w' F'):Ext w F [] [] w' F' [] []:=⟨h.cell,h.kG,h.bD,λ_ _ h=>h,λ_ _ h=>h,λ_ _ _ h=>h⟩
theorem Ext.ny(h:Ext w F η hp w' F' bj hp'):Sw w F w' F':=⟨h.cell,h.kG,h.bD⟩
theorem bq.ext(h:Ext w F η hp w' F' bj hp'){x:AV}{v:Value}(hx:bq w F η hp x v):bq w' F' bj hp' x v:=by induction hx generalizing bj hp' with|top v=>exact .top v|ay v=>exact .ay v|fn v h1=>exact .fn v h1|mV a=>exact .mV a|jv a=>exact .jv a|sl size els b o c f hc hm hl aT _ ih=>exact .sl size els b o c f hc hm hl (λi e j x hi hj=>let ⟨h1,h2,h3⟩:=aT i e j x hi hj;⟨h.cell _ _ _ h2 h1,h.bD _ _ h2,h3⟩) λi e j x hi hj=>ih i e j x hi hj h.ny.ext|clip size els b o f hm hl aT _ ih=>exact .clip size els b o f hm hl (λi e j x hi hj=>let ⟨h1,h2,h3⟩:=aT i e j x hi hj;⟨h.cell _ _ _ h2 h1,h.bD _ _ h2,h3⟩) λi e j x hi hj=>ih i e j x hi hj h.ny.ext|own r n v h1 h2=>exact .own r n v h1 (h.own _ _ _ h2)|ptr r off b h1=>exact .ptr r off b (h.ptr _ _ h1)|aU e off b o f aT _ ih=>exact .aU e off b o f (λj x hj=>let ⟨h1,h2,h3⟩:=aT j x hj;⟨h.cell _ _ _ h2 h1,h.bD _ _ h2,h3⟩) λj x hj=>ih j x hj h.ny.ext|agg cs vs hl h1 _ ih=>exact .agg cs vs hl h1 λj x v h1 h2=>ih j x v h1 h2 h|aG cs vs hl _ ih=>exact .aG cs vs hl λj x v h1 h2=>ih j x v h1 h2 h|bz fn cs vs hl _ ih=>exact .bz fn cs vs hl λj x v h1 h2=>ih j x v h1 h2 h|mp r b h1=>exact .mp r b (h.mp _ _ h1)|eo b es c h1 h2 l hl=>exact .eo b es c (h.kG _ _ _ h2 h1) (h.bD _ _ h2) l hl|fY r n i size b o c k h1=>exact .fY r n i size b o c k (h.own _ _ _ h1)|dt fn cs vs hl _ ih=>exact .dt fn cs vs hl λj x v h1 h2=>ih j x v h1 h2 h
theorem bq.lift{x:AV}{v:Value}(hx:bq w F [] [] x v):bq w F η hp x v:=hx.ext ⟨λ_ _ _ _ h=>h,λ_ _ _ _ h=>h,λ_ _ h=>h,λ_ _ h=>by simp at h,λ_ _ h=>by simp at h,λ_ _ _ h=>by simp[bk]at h⟩
theorem Ext.trans{w1 w2 w3:World}{F1 F2 F3:Nat->Nat->Prop}{oT Ck Se:List Value}{h1 h2 h3:List ax}(h:Ext w1 F1 oT h1 w2 F2 Ck h2)(k:Ext w2 F2 Ck h2 w3 F3 Se h3):Ext w1 F1 oT h1 w3 F3 Se h3:=
 ⟨λb o v hf hc=>k.cell b o v (h.bD _ _ hf) (h.cell b o v hf hc),λb es c hf hc=>k.kG b es c (h.bD _ _ hf) (h.kG b es c hf hc),λb o hf=>k.bD _ _ (h.bD _ _ hf),
  λr a hr=>k.ptr r a (h.ptr r a hr),λr a hr=>k.mp r a (h.mp r a hr),λr n v ho=>k.own r n v (h.own r n v ho)⟩
def AV.Sx:AV->Bool
 | .ay v=>v.oneCell'| .top| .agg _| .aG _=>false|_=>true
def cC(w:World)(F:Nat->Nat->Prop)(η:List Value)(hp:List ax):List AV->List Value->Prop
 | [],[]=>True|x::xs,v::vs=>bq w F η hp x v/\cC w F η hp xs vs|_,_=>False
theorem cC.length{xs:List AV}{vs:List Value}(h:cC w F η hp xs vs):vs.length=xs.length:=by induction xs generalizing vs with|nil=>cases vs<;>simp_all [cC]|cons x xs ih=>cases vs with|nil=>simp[cC]at h|cons v vs=>simp only[auy];rw[ih h.2]
theorem cC.get{xs:List AV}{vs:List Value}(h:cC w F η hp xs vs):∀(j:Nat)(x:AV)(v:Value),xs[j]?=some x->vs[j]?=some v->bq w F η hp x v:=by induction xs generalizing vs with|nil=>intro j x v hx;simp at hx|cons x xs ih=>cases vs with|nil=>simp[cC]at h|cons v vs=>intro j y u hy hu;cases j with|zero=>simp at hy hu;subst hy;subst hu;exact h.1|succ j=>exact ih h.2 j y u (by simpa using hy) (by simpa using hu)
theorem dK{xs:List AV}{vs:List Value}(hl:vs.length=xs.length)(h:∀(j:Nat)(x:AV)(v:Value),xs[j]?=some x->vs[j]?=some v->bq w F η hp x v):cC w F η hp xs vs:=by
 induction xs generalizing vs with
  |nil=>cases vs with|nil=>exact ai|cons v vs=>simp at hl
  |cons x xs ih=>cases vs with|nil=>simp at hl|cons v vs=>exact⟨h 0 x v rfl rfl,ih (by simpa using hl) λj y u hy hu=>h (j+1) y u (by simpa using hy) (by simpa using hu)⟩
theorem cC.ext(h:Ext w F η hp w' F' bj hp'){xs:List AV}{vs:List Value}(hx:cC w F η hp xs vs):cC w' F' bj hp' xs vs:=dK hx.length λj x v h1 h2=>(hx.get j x v h1 h2).ext h
def G9:List (Nat×List Value):=[(1,(List.range 20).map λi=>.int .u64 ((10 ^ i:Nat):Int))]
def lU(b:Nat):Prop:=∃p,p∈G9/\p.1=b
def oW(w:World):Prop:=∀p,p∈G9->∃T,w.heap[p.1]?=some (.cells p.2.toArray T (0,0))
structure cj(w w':World):Prop where
 os:w'.os=w.os
 tape:w'.tape=w.tape
 output:w'.output=w.output
 size:w.heap.size<=w'.heap.size
 block:∀k,k<w.heap.size->w'.heap[k]?=w.heap[k]?
structure cy(X:Nat->Prop)(w w':World):Prop where
 os:w'.os=w.os
 tape:w'.tape=w.tape
 output:w'.output=w.output
 size:w.heap.size<=w'.heap.size
 block:∀k,k<w.heap.size->¬X k->w'.heap[k]?=w.heap[k]?
theorem bq.mW{els:List AV}{v:Value}(h:bq w F η hp (.clip els) v):bq w F η hp (.sl els) v:=by cases h with|jv a=>exact .mV a|clip size els b o f hm hl aT hr=>exact .sl size els b o _ f (aur _) hm hl aT hr
def mX(w:World)(e:TypeId)(size:Nat)(v:Value)(n:Nat)(xs:List Value)(k:Nat):Prop:=
 xs.length=n*size/\((n=0/\(v=.slice none 0 0\/∃ad:Addr,v=.slice (some ad) 0 0))\/
  ∃g cap cur,v=.slice (some ⟨g,0,none⟩) n cap/\0<cap/\(∃hi,hi<=k/\w.heap[g]?=some (.cells cur e (0,hi)))/\n<=cap/\cap<=maxLen/\cur.size=cap*size/\cur.toList.take (n*size)=xs)
theorem cK{a:Addr}{n c:Nat}(h:0<c):dn (.slice (some a) n c)=some a.block:=by simp[dn];omega
theorem mX.lt{w:World}{e size n k:Nat}{v:Value}{xs:List Value}(h:mX w e size v n xs k){b:Nat}(hb:dn v=some b):∃cz:Array Value×Nat,w.heap[b]?=some (.cells cz.1 e (0,cz.2)):=by rcases h.2 with⟨_,rfl|⟨ad,rfl⟩⟩|⟨g,cap,cur,rfl,h0,⟨hi,_,h1⟩,_⟩;simp[dn]at hb;simp[dn]at hb;rw[cK h0]at hb;obtain rfl:=auo hb;exact⟨(cur,hi),h1⟩
theorem mX.YO{w w':World}{e size n k:Nat}{v:Value}{xs:List Value}(h:mX w e size v n xs k)(hb:∀b,dn v=some b->b<w.heap.size->w'.heap[b]?=w.heap[b]?):mX w' e size v n xs k:=by refine⟨h.1,?_⟩;rcases h.2 with h1|⟨g,cap,cur,rfl,h0,⟨hi,hk,h1⟩,h2⟩;exact .inl h1;exact .inr ⟨g,cap,cur,rfl,h0,⟨hi,hk,by rw[hb g (cK h0) (au3.1 h1).1];exact h1⟩,h2⟩
theorem mX.more{w:World}{e size n k k':Nat}{v:Value}{xs:List Value}(h:mX w e size v n xs k)(hk:k<=k'):mX w e size v n xs k':=⟨h.1,h.2.imp id fun⟨g,cap,cur,h1,h2,⟨hi,h3,h4⟩,h5⟩=>⟨g,cap,cur,h1,h2,⟨hi,auP h3 hk,h4⟩,h5⟩⟩
def gp(w:World)(e:TypeId)(v:Value)(ns:List Int):Prop:=
 (ns=[]/\∃ad,v=.slice ad 0 0)\/
  ∃g o cap cur,v=.slice (some ⟨g,o,none⟩) ns.length cap/\0<cap/\w.heap[g]?=some (.cells cur e (0,0))/\ns.length<=cap/\cap<=maxLen/\o+cap<=cur.size/\
   ∀(i:Nat)(n:Int),ns[i]?=some n->cur[o+i]?=some (.int .i64 n)
theorem gp.lt{w:World}{e:Nat}{v:Value}{ns:List Int}(h:gp w e v ns){b:Nat}(hb:dn v=some b):∃cur,w.heap[b]?=some (.cells cur e (0,0)):=by rcases h with⟨_,ad,rfl⟩|⟨g,o,cap,cur,rfl,h0,h1,_⟩;cases ad<;>simp[dn]at hb;rw[cK h0]at hb;obtain rfl:=auo hb;exact⟨cur,h1⟩
theorem gp.YO{w w':World}{e:Nat}{v:Value}{ns:List Int}(h:gp w e v ns)(hb:∀b,dn v=some b->b<w.heap.size->w'.heap[b]?=w.heap[b]?):gp w' e v ns:=by rcases h with h1|⟨g,o,cap,cur,rfl,h0,h1,h2⟩;exact .inl h1;exact .inr ⟨g,o,cap,cur,rfl,h0,by rw[hb g (cK h0) (au3.1 h1).1];exact h1,h2⟩
theorem cj.refl(w:World):cj w w:=⟨rfl,rfl,rfl,aur _,λ_ _=>rfl⟩
theorem cj.trans{a b c:World}(h:cj a b)(k:cj b c):cj a c:=⟨k.os.trans h.os,k.tape.trans h.tape,k.output.trans h.output,auP h.size k.size,λi hi=>(k.block i (auK hi h.size)).trans (h.block i hi)⟩
theorem cj.alloc(w:World)(o:Obj):cj w (w.alloc o):=⟨rfl,rfl,rfl,by simp,λk hk=>heap_alloc_old w o hk⟩
theorem cj.drew(w:World):cj w w.drew:=⟨rfl,rfl,rfl,aur _,λ_ _=>rfl⟩
theorem cj.keeps{w w':World}(X:Nat->Prop)(h:cj w w'):cy X w w':=⟨h.os,h.tape,h.output,h.size,λk hk _=>h.block k hk⟩
theorem cy.same{w w':World}{X:Nat->Prop}(h:cy X w w')(hX:∀b,b<w.heap.size->¬X b):cj w w':=⟨h.os,h.tape,h.output,h.size,λk hk=>h.block k hk (hX k hk)⟩
theorem cy.refl(X:Nat->Prop)(w:World):cy X w w:=⟨rfl,rfl,rfl,aur _,λ_ _ _=>rfl⟩
theorem cy.trans{X Z:Nat->Prop}{a b c:World}(h:cy X a b)(k:cy Z b c)(hZ:∀i,i<a.heap.size->Z i->X i):cy X a c:=
 ⟨k.os.trans h.os,k.tape.trans h.tape,k.output.trans h.output,auP h.size k.size,
  λi hi hx=>(k.block i (auK hi h.size) (λhz=>hx (hZ i hi hz))).trans (h.block i hi hx)⟩
theorem cy.cell{X:Nat->Prop}{w w':World}(h:cy X w w'){b o:Nat}(hb:b<w.heap.size)(hx:¬X b):w'.cell? ⟨b,o,none⟩=w.cell? ⟨b,o,none⟩:=by simp[World.cell?,h.block b hb hx]
theorem oW.lt{w:World}(h:oW w){b:Nat}(hb:lU b):b<w.heap.size:=by obtain⟨p,hp,rfl⟩:=hb;obtain⟨T,h1⟩:=h p hp;exact(au3.1 h1).1
theorem oW.keeps{X:Nat->Prop}{w w':World}(h:oW w)(k:cy X w w')(hx:∀b,lU b->¬X b):oW w':=λp hp=>by
 obtain⟨T,h1⟩:=h p hp;exact⟨T,by rw[k.block p.1 (h.lt ⟨p,hp,rfl⟩) (hx p.1 ⟨p,hp,rfl⟩)];exact h1⟩
theorem oW.same{w w':World}(h:oW w)(k:cj w w'):oW w':=h.keeps (k.keeps λ_=>False) λ_ _=>not_false
theorem ck{w:World}{b:Nat}{o:Obj}(h:w.heap[b]?=some o):b<w.heap.size:=(au3.1 h).1
end
section
structure Env(G:Type) where
 P:Program
 w0:World
 F0:Nat->Nat->Prop
 X:Nat->Prop
 Y:Nat->Prop
 Inv:G->World->Prop
 nt:Nat
 EA:Option Nat
 m0:Nat->Prop
 Z:Nat->Nat->Prop
 Cs:List Value
 mP:List ax
def Env.No{G:Type}(Γ:Env G)(b o:Nat):Prop:=Γ.X b\/Γ.Z b o
structure Env.Ok{G:Type}(Γ:Env G):Prop where
 l0:Γ.Cs.length=Γ.mP.length
 x:∀b,Γ.X b->b<Γ.w0.heap.size
 y:∀b,Γ.Y b->b<Γ.w0.heap.size
 qA:∀g w w',(∀b,Γ.X b->w'.heap[b]?=w.heap[b]?)->w.heap.size<=w'.heap.size->Γ.Inv g w->Γ.Inv g w'
 z:∀b o,Γ.Z b o->b<Γ.w0.heap.size
 iK:oW Γ.w0
 gx:∀b,lU b->¬(Γ.X b\/Γ.Y b)
def Env.Ha{G:Type}(Γ:Env G):Prop:=Γ.EA=none/\∀r,Γ.w0.heap.size<=r->Γ.m0 r
theorem Env.Ok.no{G:Type}{Γ:Env G}(h:Γ.Ok){b o:Nat}(hb:Γ.No b o):b<Γ.w0.heap.size:=hb.elim (h.x b) (h.z b o)
structure AS(G:Type) where
 tmps:Nat->AV
 hp:List ax
 g:G
def ka(η:List Value)(hp:List ax)(b o:Nat):Prop:=
 ∀(r:Nat)(v:Value),η[r]?=some v->dn v=some b->
  match hp[r]? with
  |some (.row _ size els)=>o<els.length*size
  |some .dead=>True
  |_=>False
def bw{G:Type}(Γ:Env G)(w:World)(η:List Value)(hp:List ax)(b o:Nat):Prop:=(Γ.F0 b o\/Γ.w0.heap.size<=b\/Γ.Y b)/\b<w.heap.size/\¬Γ.No b o/\ka η hp b o
def iL(w:World)(F:Nat->Nat->Prop)(η:List Value)(hp:List ax):ax->Value->Prop
 | .dead,_=>True| .box cs,v=>∃(b:Nat)(vs:Array Value)(T:TypeId),v=.pointer (some ⟨b,0,none⟩)/\w.heap[b]?=some (.cells vs T (0,0))/\vs.size=cs.length/\ ∀(j:Nat)(x:AV)(u:Value),cs[j]?=some x->vs[j]?=some u->bq w F η hp x u/\u.oneCell'=true| .row e size els,v=>0<size/\∃xs:List Value,mX w e size v els.length xs (els.length*size)/\
   ∀(i:Nat)(el:AV),els[i]?=some el->el.cells.length=size/\
    ∀(j:Nat)(x:AV),el.cells[j]?=some x->∃u,xs[i*size+j]?=some u/\bq w F [] [] x u/\u.oneCell'=true
 | .jm r n,v=>∃(b:Nat)(vs:Array Value),v=.pointer (some ⟨b,0,none⟩)/\w.heap[b]?=some (.cells vs Ez (0,0))/\(vs.size=2/\(n=0->vs[1]?=some (.slice none 0 0)))/\(vs[0]?=some (.pointer none)\/vs[0]?=some v)/\∃u,vs[1]?=some u/\bq w F η hp (.own r n) u| .cJ es,v=>∃(b:Nat)(en:Array MapEntry)(c:Nat),v=.map (some b)/\w.heap[b]?=some (.map en c)/\oa en=Qo es| .aV e size els,v=>0<size/\∃xs:List Value,mX w e size v els.length xs 0/\
   ∀(i:Nat)(el:AV),els[i]?=some el->el.cells.length=size/\
    ∀(j:Nat)(x:AV),el.cells[j]?=some x->∃u,xs[i*size+j]?=some u/\bq w F [] [] x u/\u.oneCell'=true
 | .fz e _ ns,v=>gp w e v ns
structure ep(w:World)(F:Nat->Nat->Prop)(η:List Value)(hp:List ax):Prop where
 len:η.length=hp.length
 obj:∀(r:Nat)(o:ax)(v:Value),hp[r]?=some o->η[r]?=some v->iL w F η hp o v
 sep:∀(r r':Nat)(o o':ax)(v v':Value)(b:Nat),r≠r'->hp[r]?=some o->hp[r']?=some o'->o.live->o'.live->
  η[r]?=some v->η[r']?=some v'->dn v=some b->dn v'≠some b
def vM{G:Type}(Γ:Env G)(η:List Value)(hp:List ax):Prop:=∀(r:Nat)(o:ax)(v:Value)(b:Nat),hp[r]?=some o->o.live->η[r]?=some v->dn v=some b->(Γ.w0.heap.size<=b\/Γ.Y b)/\∀o,¬Γ.No b o
structure Marks(N:Nat->Prop)(ds:List Deferred)(w:World):Prop where
 all:∀d,d∈ds->∃r,d.target=.collected r/\w.heap[r]?=some (.deferred (some []))/\N r
 apart:ds.Pairwise λd d'=>d.target≠d'.target
structure Rel{G:Type}(Γ:Env G)(s:AS G)(a:Act)(w:World)(η:List Value):Prop where
 nt:a.tmps.size=Γ.nt
 tmps:∀t,bq w (bw Γ w η s.hp) η s.hp (s.tmps t) (a.tmps.getD t undef)
 heap:ep w (bw Γ w η s.hp) η s.hp
 cu:vM Γ η s.hp
 keeps:cy (λb=>Γ.X b\/Γ.Y b) Γ.w0 w
 inv:Γ.Inv s.g w
 marks:Marks Γ.m0 a.defers w
 ext:Ext Γ.w0 Γ.F0 Γ.Cs Γ.mP w (bw Γ w η s.hp) η s.hp
def Cm(f:Nat->AV)(t:Nat)(x:AV):Nat->AV:=λu=>if u=t then x else f u
theorem gS(f:Nat->AV)(t:Nat)(x:AV)(u:Nat):Cm f t x u=if u=t then x else f u:=rfl
def AS.put{G:Type}(s:AS G)(d:Option Nat)(x:AV):AS G:=
 match d with
 |some d=>{ s with tmps:=Cm s.tmps d x }
 |none=>s
variable {G:Type} {Γ:Env G} {s:AS G} {a:Act} {w w':World} {η bj:List Value} {hp:List ax}
theorem cy.marks{X:Nat->Prop}{N:Nat->Prop}{ds:List Deferred}(h:Marks N ds w)(k:cy X w w')(hX:∀b,X b->¬N b\/∀d,w.heap[b]?≠some (.deferred d)):Marks N ds w':=by refine⟨λd hd=>?_,h.apart⟩;obtain⟨r,h1,h2,h3⟩:=h.all d hd;refine⟨r,h1,?_,h3⟩;rw[k.block r (ck h2)];exact h2;intro hx;rcases hX r hx with h4|h4;exact h4 h3;exact h4 _ h2
theorem qB(hs:cj w w')(hF:∀b o,bw Γ w η hp b o->b<w.heap.size):Ext w (bw Γ w η hp) η hp w' (bw Γ w' η hp) η hp where
 cell b o v hf hc:=by rw[World.cell?_of_block (hs.block b (hF b o hf))];exact hc
 kG b es c hf hc:=by rw[hs.block b (hF b 0 hf)];exact hc
 bD b o hf:=⟨hf.1,auK hf.2.1 hs.size,hf.2.2⟩
 ptr _ _ h:=h
 mp _ _ h:=h
 own _ _ _ h:=h
theorem fg{b o:Nat}(h:bw Γ w η hp b o):b<w.heap.size:=h.2.1
theorem iL.ext{F F':Nat->Nat->Prop}{hp':List ax}{o:ax}{v:Value}(h:iL w F η hp o v)(he:Ext w F η hp w' F' bj hp')(cY:w.heap.size<=w'.heap.size)(hb:∀b,dn v=some b->b<w.heap.size->w'.heap[b]?=w.heap[b]?):iL w' F' bj hp' o v:=by cases o with|dead=>exact ai|box cs=>obtain⟨b,vs,T,rfl,h1,h2,h3⟩:=h;exact⟨b,vs,T,rfl,by rw[hb b rfl (ck h1)];exact h1,h2,λj x u hx hu=>⟨(h3 j x u hx hu).1.ext he,(h3 j x u hx hu).2⟩⟩|row e size els=>obtain⟨h0,xs,h1,h2⟩:=h;refine⟨h0,xs,h1.YO hb,λi el hi=>⟨(h2 i el hi).1,λj x hj=>?_⟩⟩;obtain⟨u,h3,h4,h5⟩:=(h2 i el hi).2 j x hj;exact⟨u,h3,h4.ext he.ny.ext,h5⟩|jm q k=>obtain⟨b,vs,rfl,h1,h2,h3,u,h4,h5⟩:=h;exact⟨b,vs,rfl,by rw[hb b rfl (ck h1)];exact h1,h2,h3,u,h4,h5.ext he⟩|cJ es=>obtain⟨b,en,c,rfl,h1,h2⟩:=h;exact⟨b,en,c,rfl,by rw[hb b rfl (ck h1)];exact h1,h2⟩|aV e size els=>obtain⟨h0,xs,h1,h2⟩:=h;refine⟨h0,xs,h1.YO hb,λi el hi=>⟨(h2 i el hi).1,λj x hj=>?_⟩⟩;obtain⟨u,h3,h4,h5⟩:=(h2 i el hi).2 j x hj;exact⟨u,h3,h4.ext he.ny.ext,h5⟩|fz e m ns=>exact gp.YO h hb
theorem ep.same(h:ep w (bw Γ w η hp) η hp)(hs:cj w w'):ep w' (bw Γ w' η hp) η hp:=⟨h.len,λr o v h1 h2=>(h.obj r o v h1 h2).ext (qB hs λ_ _=>fg) hs.size λb _ aF=>hs.block b aF,h.sep⟩
theorem cy.EB{X:Nat->Prop}{w0:World}(h:cy X w0 w)(hs:cj w w'):cy X w0 w':=h.trans (hs.keeps λ_=>False) λ_ _ hf=>hf.elim
theorem Rel.same(aN:Γ.Ok)(h:Rel Γ s a w η)(hs:cj w w'):Rel Γ s a w' η where
 nt:=h.nt
 tmps t:=(h.tmps t).ext (qB hs λ_ _=>fg)
 heap:=h.heap.same hs
 cu:=h.cu
 keeps:=h.keeps.EB hs
 inv:=aN.qA _ _ _ (λb hb=>hs.block b (auK (aN.x b hb) h.keeps.size)) hs.size h.inv
 marks:=(hs.keeps λ_=>False).marks h.marks λ_ hf=>hf.elim
 ext:=h.ext.trans (qB hs λ_ _=>fg)
theorem Rel.iK(aN:Γ.Ok)(h:Rel Γ s a w η):oW w:=aN.iK.keeps h.keeps aN.gx
theorem Rel.put(h:Rel Γ s a w η){d:Option Nat}{x:AV}{v:Value}(hd:∀t,d=some t->t<Γ.nt)(hr:bq w (bw Γ w η s.hp) η s.hp x v):Rel Γ (s.put d x) (a.put d v) w η:=by cases d with|none=>exact h|some d=>refine⟨by simpa [Act.put]using h.nt,λt=>?_,h.heap,h.cu,h.keeps,h.inv,h.marks,h.ext⟩;show bq w _ η s.hp (Cm s.tmps d x t) ((a.tmps.setIfInBounds d v).getD t undef);by_cases htd:t=d;(subst htd;have aF:t<a.tmps.size:=by rw[h.nt];exact hd t rfl);(have e:(a.tmps.setIfInBounds t v).getD t undef=v:=by simp[aF]);rw[gS,if_pos rfl,e];exact hr;(have e:(a.tmps.setIfInBounds d v).getD t undef=a.tmps.getD t undef:=by simp only[au8];rw[Array.getElem?_setIfInBounds_ne (avW htd)]);rw[gS,if_neg htd,e];exact h.tmps t
def AS.add(s:AS G)(o:ax):AS G:={ s with hp:=s.hp++[o] }
theorem cS{α:Type}{l:List α}{x y:α}{r:Nat}(h:l[r]?=some y):(l++[x])[r]?=some y:=by rw[auB (aun.1 h).1];exact h
theorem ea{α:Type}{l:List α}{x y:α}{r:Nat}(h:(l++[x])[r]?=some y):l[r]?=some y\/(r=l.length/\y=x):=by rcases Nat.lt_trichotomy r l.length with h1|h1|h1;rw[auB h1]at h;exact .inl h;subst h1;simp at h;exact .inr ⟨rfl,h.symm⟩;(rw[au9 (by omega)]at h;have:r-l.length≠0:=by omega);cases hk:r-l.length with|zero=>omega|succ k=>rw[hk]at h;simp at h
theorem ka.snoc{o:ax}{v:Value}{b k:Nat}(hl:η.length=hp.length)(h:ka η hp b k)(hv:dn v=some b->False):ka (η++[v]) (hp++[o]) b k:=by intro r u hu hb;rcases ea hu with h1|⟨rfl,rfl⟩;(have:=h r u h1 hb;have hr:r<hp.length:=by rw[<-hl];exact(aun.1 h1).1);rw[auB hr];exact this;exact(hv hb).elim
theorem bk.snoc{o:ax}{v u:Value}{r n:Nat}(h:bk η hp r n u):bk (η++[v]) (hp++[o]) r n u:=by unfold bk at h ⊢;cases hr:hp[r]? with|none=>simp[hr]at h|some x=>rw[cS hr];rw[hr]at h;cases x with|row e size els=>exact⟨h.1,λhn=>cS (h.2 hn)⟩|dead=>exact ai|box cs=>exact h|cJ es=>exact h|jm q k=>exact h|aV e size els=>exact⟨h.1,λhn=>cS (h.2 hn)⟩|fz e m ns=>exact⟨h.1,λhn=>cS (h.2 hn)⟩
theorem tO{o:ax}{v:Value}(hl:η.length=hp.length)(hs:cj w w')(hv:∀b,dn v=some b->w.heap.size<=b):
  Ext w (bw Γ w η hp) η hp w' (bw Γ w' (η++[v]) (hp++[o])) (η++[v]) (hp++[o]) where
 cell b k u hf hc:=by rw[World.cell?_of_block (hs.block b (fg hf))];exact hc
 kG b es c hf hc:=by rw[hs.block b (fg hf)];exact hc
 bD b k hf:=⟨hf.1,auK hf.2.1 hs.size,hf.2.2.1,hf.2.2.2.snoc hl λhb=>by have:=hv b hb;have:=fg hf;omega⟩
 ptr _ _ h:=cS h
 mp _ _ h:=cS h
 own _ _ _ h:=h.snoc
theorem Rel.add(aN:Γ.Ok)(h:Rel Γ s a w η){o:ax}{v:Value}(hs:cj w w')(hv:∀b,dn v=some b->w.heap.size<=b)(ho:iL w' (bw Γ w' (η++[v]) (s.hp++[o])) (η++[v]) (s.hp++[o]) o v):Rel Γ (s.add o) a w' (η++[v]):=by (have he:=tO (Γ:=Γ) (o:=o) (v:=v) h.heap.len hs hv;have cY:=h.keeps.size;have kb:∀(r:Nat)(u:Value)(b:Nat),η[r]?=some u->dn u=some b->b<w.heap.size\/¬∃o:ax,s.hp[r]?=some o/\o.live:=by intro r u b hu hb;by_cases aF:b<w.heap.size;exact .inl aF;refine .inr fun⟨o',Hb,Yy⟩=>aF ?_;have gn:=h.heap.obj r o' u Hb hu;cases o' with|dead=>exact Yy.elim|box cs=>obtain⟨b',vs,T,rfl,h1,_⟩:=gn;simp only[dn,aul]at hb;subst hb;exact ck h1|row e size els=>obtain⟨_,xs,h1,_⟩:=gn;obtain⟨cur,h5⟩:=h1.lt hb;exact ck h5|cJ es=>obtain⟨b',en,c,rfl,h1,_⟩:=gn;simp only[dn,aul]at hb;subst hb;exact ck h1|jm q k=>obtain⟨b',vs,rfl,h1,_⟩:=gn;simp only[dn,aul]at hb;subst hb;exact ck h1|aV e size els=>obtain⟨_,xs,h1,_⟩:=gn;obtain⟨cur,h5⟩:=h1.lt hb;exact ck h5|fz e m ns=>obtain⟨cur,h5⟩:=gp.lt gn hb;exact ck h5);refine⟨h.nt,λt=>(h.tmps t).ext he,⟨by simp[AS.add,h.heap.len],?_,?_⟩,?_,h.keeps.EB hs, aN.qA _ _ _ (λb hb=>hs.block b (auK (aN.x b hb) h.keeps.size)) hs.size h.inv,(hs.keeps λ_=>False).marks h.marks λ_ hf=>hf.elim,h.ext.trans he⟩;intro r o' u h1 h2;rcases ea h1 with h3|⟨rfl,rfl⟩;rcases ea h2 with h4|⟨rfl,rfl⟩;exact(h.heap.obj r o' u h3 h4).ext he hs.size λb _ aF=>hs.block b aF;have:=(aun.1 h3).1;have:=h.heap.len;omega;(have:(η++[v])[s.hp.length]?=some v:=by rw[<-h.heap.len];simp);rw[this]at h2;obtain rfl:=auo h2;exact ho;intro r r' o1 o2 v1 v2 b bW h1 h2 l1 l2 e1 e2 hb;rcases ea h1 with h3|⟨rfl,rfl⟩<;>rcases ea h2 with h4|⟨rfl,rfl⟩;(have hr:r<η.length:=by rw[h.heap.len];exact(aun.1 h3).1);(have gJ:r' < η.length:=by rw[h.heap.len];exact(aun.1 h4).1);rw[auB hr]at e1;rw[auB gJ]at e2;exact h.heap.sep r r' o1 o2 v1 v2 b bW h3 h4 l1 l2 e1 e2 hb;(have hr:r<η.length:=by rw[h.heap.len];exact(aun.1 h3).1);(rw[auB hr]at e1;have:(η++[v])[s.hp.length]?=some v:=by rw[<-h.heap.len];simp);rw[this]at e2;obtain rfl:=auo e2;intro gb;have:=hv b gb;rcases kb r v1 b e1 hb with h5|h5;omega;exact h5 ⟨o1,h3,l1⟩;(have gJ:r' < η.length:=by rw[h.heap.len];exact(aun.1 h4).1);(rw[auB gJ]at e2;have:(η++[v])[s.hp.length]?=some v:=by rw[<-h.heap.len];simp);rw[this]at e1;obtain rfl:=auo e1;intro gb;have:=hv b hb;rcases kb r' v2 b e2 gb with h5|h5;omega;exact h5 ⟨o2,h4,l2⟩;exact(bW rfl).elim;intro r o' u b h1 Yy h2 hb;rcases ea h1 with h3|⟨rfl,rfl⟩;(have hr:r<η.length:=by rw[h.heap.len];exact(aun.1 h3).1);rw[auB hr]at h2;exact h.cu r o' u b h3 Yy h2 hb;(have:(η++[v])[s.hp.length]?=some v:=by rw[<-h.heap.len];simp);rw[this]at h2;obtain rfl:=auo h2;have h5:=hv b hb;exact⟨.inl (auP cY h5),λo hx=>by have:=aN.no hx;omega⟩
end
section
variable {G:Type} {Γ:Env G} {s:AS G} {a:Act} {w w':World} {η bj:List Value} {hp:List ax}
theorem getElem?_set_ne{α:Type}{l:List α}{r r':Nat}{x:α}(h:r≠r'):(l.set r x)[r']?=l[r']?:=by rw[avq];simp[h]
theorem aD{α:Type}{l:List α}{r:Nat}{x y:α}(h:l[r]?=some y):(l.set r x)[r]?=some x:=by rw[avq];simp[(aun.1 h).1]
def ax.bD(k:Nat):ax->Prop
 | .row _ size els=>k<els.length*size| .dead=>True|_=>False
theorem bp(b k:Nat):ka η hp b k↔∀(r:Nat)(v:Value),η[r]?=some v->dn v=some b->∃o,hp[r]?=some o/\o.bD k:=by constructor;intro h r v h1 h2;have:=h r v h1 h2;(cases hr:hp[r]? with|none=>simp[hr]at this|some o=>rw[hr]at this;refine⟨o,rfl,?_⟩;cases o<;>exact this);intro h r v h1 h2;obtain⟨o,h3,h4⟩:=h r v h1 h2;rw[h3];cases o<;>exact h4
theorem ep.block(h:ep w (bw Γ w η hp) η hp){r:Nat}{o:ax}{u:Value}{b:Nat}(ho:hp[r]?=some o)(hl:o.live)(hu:η[r]?=some u)(hb:dn u=some b):b<w.heap.size:=by have gn:=h.obj r o u ho hu;cases o with|dead=>exact hl.elim|box cs=>obtain⟨b',vs,T,rfl,h1,_⟩:=gn;simp only[dn,aul]at hb;subst hb;exact ck h1|row e size els=>obtain⟨_,xs,h1,_⟩:=gn;obtain⟨cur,h5⟩:=h1.lt hb;exact ck h5|cJ es=>obtain⟨b',en,c,rfl,h1,_⟩:=gn;simp only[dn,aul]at hb;subst hb;exact ck h1|jm q k=>obtain⟨b',vs,rfl,h1,_⟩:=gn;simp only[dn,aul]at hb;subst hb;exact ck h1|aV e size els=>obtain⟨_,xs,h1,_⟩:=gn;obtain⟨cur,h5⟩:=h1.lt hb;exact ck h5|fz e m ns=>obtain⟨cur,h5⟩:=gp.lt gn hb;exact ck h5
theorem Rel.change(aN:Γ.Ok)(h:Rel Γ s a w η){r:Nat}{o o':ax}{v v':Value}(hr:s.hp[r]?=some o)(fM:o.live)(hv:η[r]?=some v)(hk:cy (λk=>dn v=some k) w w')(hv':∀b,dn v'=some b->dn v=some b\/w.heap.size<=b)(iM:∀k,o.bD k->o'.bD k)(aT:∀b k u,dn v=some b->o.bD k->w.cell? ⟨b,k,none⟩=some u->w'.cell? ⟨b,k,none⟩=some u)(ags:∀b es c,dn v=some b->o.bD 0->w.heap[b]?=some (.map es c)->False)(sR:∀n u,bk η s.hp r n u->bk (η.set r v') (s.hp.set r o') r n u)(alK:∀x,v=.pointer x->v'=v)(hmp:∀x,v=.map x->v'=v)(adX:∀b d,dn v=some b->w.heap[b]?=some (.deferred d)->False)(Hb:Ext w (bw Γ w η s.hp) η s.hp w' (bw Γ w' (η.set r v') (s.hp.set r o')) (η.set r v') (s.hp.set r o')->iL w' (bw Γ w' (η.set r v') (s.hp.set r o')) (η.set r v') (s.hp.set r o') o' v'): Rel Γ { s with hp:=s.hp.set r o' } a w' (η.set r v'):=by
 have gn:∀b k,bw Γ w η s.hp b k->dn v=some b->o.bD k:=λb k hf hb=>by obtain⟨o1,h1,h2⟩:=(bp b k).1 hf.2.2.2 r v hv hb;rw[hr]at h1;obtain rfl:=auo h1;exact h2
 have he:Ext w (bw Γ w η s.hp) η s.hp w' (bw Γ w' (η.set r v') (s.hp.set r o')) (η.set r v') (s.hp.set r o'):=by refine⟨λb k u hf hc=>?_,λb es c hf hc=>?_,λb k hf=>?_,λr1 x h1=>?_,λr1 x h1=>?_,λr1 n u h1=>?_⟩;by_cases hb:dn v=some b;exact aT b k u hb (gn b k hf hb) hc;rw[hk.cell (fg hf) hb];exact hc;by_cases hb:dn v=some b;exact(ags b es c hb (gn b 0 hf hb) hc).elim;rw[hk.block b (fg hf) hb];exact hc;refine⟨hf.1,auK hf.2.1 hk.size,hf.2.2.1,(bp b k).2 λr1 u h1 hb=>?_⟩;by_cases bW:r=r1;subst bW;rw[aD hv]at h1;obtain rfl:=auo h1;refine⟨o',aD hr,?_⟩;rcases hv' b hb with h2|h2;exact iM k (gn b k hf h2);have:=fg hf;omega;rw[getElem?_set_ne bW]at h1 ⊢;exact(bp b k).1 hf.2.2.2 r1 u h1 hb;by_cases bW:r=r1;subst bW;rw[hv]at h1;obtain rfl:=auo h1;rw[aD hv,alK _ rfl];rw[getElem?_set_ne bW];exact h1;by_cases bW:r=r1;subst bW;rw[hv]at h1;obtain rfl:=auo h1;rw[aD hv,hmp _ rfl];rw[getElem?_set_ne bW];exact h1;by_cases bW:r=r1;subst bW;exact sR n u h1;unfold bk at h1 ⊢;rw[getElem?_set_ne bW,getElem?_set_ne bW];exact h1
 refine⟨h.nt,λt=>(h.tmps t).ext he,⟨by simp[h.heap.len],λr1 o1 u h1 h2=>?_,λr1 r2 o1 o2 v1 v2 b bW h1 h2 l1 l2 e1 e2 hb=>?_⟩,λr1 o1 u b h1 hl h2 hb=>?_,?_,?_,?_,h.ext.trans he⟩;simp only at h1;by_cases bW:r=r1;subst bW;rw[aD hr]at h1;rw[aD hv]at h2;obtain rfl:=auo h1;obtain rfl:=auo h2;exact Hb he
 ·rw[getElem?_set_ne bW]at h1 h2;by_cases zG:o1.live;exact(h.heap.obj r1 o1 u h1 h2).ext he hk.size λb hb aF=>hk.block b aF λgb=>h.heap.sep r1 r o1 o u v b (avW bW) h1 hr zG fM h2 hv hb gb
  ·cases o1<;>first|exact ai|exact(zG ai).elim
 simp only at h1 h2;by_cases n1:r=r1;subst n1;rw[aD hv]at e1;obtain rfl:=auo e1;rw[getElem?_set_ne bW]at h2 e2;intro gb;rcases hv' b hb with h3|h3;exact h.heap.sep r r2 o o2 v v2 b bW hr h2 fM l2 hv e2 h3 gb;have:=h.heap.block h2 l2 e2 gb;omega;rw[getElem?_set_ne n1]at h1 e1;by_cases n2:r=r2;subst n2;rw[aD hv]at e2;obtain rfl:=auo e2;intro gb;rcases hv' b gb with h3|h3;exact h.heap.sep r r1 o o1 v v1 b (λe=>n1 e) hr h1 fM l1 hv e1 h3 hb;have:=h.heap.block h1 l1 e1 hb;omega;rw[getElem?_set_ne n2]at h2 e2;exact h.heap.sep r1 r2 o1 o2 v1 v2 b bW h1 h2 l1 l2 e1 e2 hb;simp only at h1;by_cases bW:r=r1;subst bW;rw[aD hv]at h2;obtain rfl:=auo h2;rcases hv' b hb with h3|h3;exact h.cu r o v b hr fM hv h3;exact⟨.inl (auP h.keeps.size h3),λo hx=>by have:=aN.no hx;have:=h.keeps.size;omega⟩;rw[getElem?_set_ne bW]at h1 h2;exact h.cu r1 o1 u b h1 hl h2 hb;refine h.keeps.trans hk λb hb wX=>?_;rcases (h.cu r o v b hr fM hv wX).1 with h1|h1;omega;exact .inr h1;refine aN.qA _ _ _ (λb hb=>hk.block b (auK (aN.x b hb) h.keeps.size) λwX=>?_) hk.size h.inv;exact(h.cu r o v b hr fM hv wX).2 0 (.inl hb);exact hk.marks h.marks λb wX=>.inr λd hd=>adX b d wX hd
def setCells(cs:List AV)(off:Nat):List AV->List AV
 | []=>cs|x::xs=>setCells (cs.set off x) (off+1) xs
theorem yq(xs:List AV):∀(cs:List AV)(off:Nat),(setCells cs off xs).length=cs.length:=by induction xs with|nil=>intro cs off;rfl|cons x xs ih=>intro cs off;simp[setCells,ih]
theorem Rel.write(aN:Γ.Ok)(h:Rel Γ s a w η){r off b:Nat}{cs:List AV}{x:AV}{v:Value}(hr:s.hp[r]?=some (.box cs))(hv:η[r]?=some (.pointer (some ⟨b,0,none⟩)))(YP:off<cs.length)(h1:v.oneCell'=true)(hx:bq w (bw Γ w η s.hp) η s.hp x v): Rel Γ { s with hp:=s.hp.set r (.box (cs.set off x)) } a (w.setCell ⟨b,off,none⟩ v) η/\w.frozen? ⟨b,off,none⟩=false/\∃u,w.cell? ⟨b,off,none⟩=some u:=by
 have gn:=h.heap.obj r _ _ hr hv;obtain⟨b',vs,T,he,hg,cY,hc⟩:=gn;simp only[Value.pointer.injEq,aul,Addr.mk.injEq,and_true]at he;subst he;have yr:(w.setCell ⟨b,off,none⟩ v).heap[b]?=some (.cells (vs.setIfInBounds off v) T (0,0)):=Go.heap_setCell_same w b off vs T v hg;have fU:η.set r (.pointer (some ⟨b,0,none⟩))=η:=by apply avf;intro i;by_cases hi:r=i;subst hi;rw[aD hv,hv];rw[getElem?_set_ne hi]
 refine⟨?_,frozen_of_row w b off vs T hg,?_⟩;have:=Rel.change (w':=w.setCell ⟨b,off,none⟩ v) (o':=.box (cs.set off x)) (v':=.pointer (some ⟨b,0,none⟩)) aN h hr ai hv
  ⟨rfl,rfl,rfl,by simp[World.setCell],λk hk hb=>avU w _ k v (by intro e;exact hb (by rw[e];rfl))⟩
  (λc hc=>.inl hc) (λk hk=>hk.elim) (λ_ _ _ _ hk=>hk.elim) (λ_ _ _ _ hk=>hk.elim)
  (λn u ho=>by simp[bk,hr]at ho)
  (λ_ _=>rfl) (λ_ hx=>by cases hx)
  (λc d hb hd=>by simp only[dn,aul]at hb;subst hb;rw[hg]at hd;cases hd)
  (λhe=>⟨b,vs.setIfInBounds off v,T,rfl,yr,by simp[cY],λj y u hy hu=>by
   by_cases hj:off=j
   ·subst hj;have aF:off<vs.size:=by rw[cY];exact YP
    have e1:(cs.set off x)[off]?=some x:=by rw[avq];simp[YP]
    have e2:(vs.setIfInBounds off v)[off]?=some v:=by rw[avy];simp[aF]
    rw[e1]at hy;rw[e2]at hu;obtain rfl:=auo hy;obtain rfl:=auo hu;exact⟨hx.ext he,h1⟩
   ·rw[getElem?_set_ne hj]at hy;have e2:(vs.setIfInBounds off v)[j]?=vs[j]?:=by rw[avy];simp[hj]
    rw[e2]at hu
    exact⟨(hc j y u hy hu).1.ext he,(hc j y u hy hu).2⟩⟩)
 rw[fU]at this;exact this;rw[cell_of_row w b off vs T (0,0) hg];exact⟨vs[off]'(by rw[cY];exact YP),by simp[cY,YP]⟩
end
section
inductive TK where
 |other
 |int (k:IntKind)
 |str
 |bool
 |cr (fields:List (Nat×Nat×Bool))
 |kW (e:Nat)
 |qt (k e:Nat)
 |ptr (e:Nat)
 |arr (n:Nat)
 |ifc
structure TD where
 flat:Bool:=false
 four:Bool:=false
 kind:TK
 size:Nat
 bytes:Nat
 zero:Value
def TK.agg:TK->Bool
 | .cr _=>true| .arr _=>true|_=>false
def Sy:TypeDesc->Bool
 | .struct _| .array _ _=>true|_=>false
def TK.fits(P:Program)(u:TypeDesc):TK->Prop
 | .other=>(match u with| .struct _| .array _ _=>False|_=>True)| .int k=>u=.int k| .str=>u=.string| .bool=>u=.bool| .cr fs=>∃fields,u=.struct fields/\fields.toList.map (λf=>(f.offset,(P.info? f.type).map (·.size),(P.underlying f.type).map Sy))=fs.map λp=>(p.1,some p.2.1,some p.2.2)| .kW e=>u=.slice e| .qt k e=>u=.map k e| .ptr e=>u=.pointer e| .ifc=>∃ms,u=.interface ms| .arr n=>∃e i,u=.array n e/\P.info? e=some i/\i.size=1
structure gq(P:Program)(T:TypeId)(d:TD):Prop where
 info:∃i,P.info? T=some i/\i.size=d.size/\i.bytes=d.bytes/\i.zero=some d.zero
 mO:∃u,P.underlying T=some u/\d.kind.fits P u
 Nv:d.zero.cells.size=d.size
 alL:∀v:Value,v∈d.zero.cells->v.oneCell'=true
 arh:d.kind.agg=true->∃cs,d.zero=.agg cs
 acQ:d.kind.agg=false->d.size=1/\d.zero.oneCell'=true
 feq:d.flat=true->P.eqGuardType P.depth T=false/\∀(w:World)(a1 a2 b1 b2:Int),(Op.equalIn 10000 T (.agg #[.int .i64 a1,.int .i64 a2]) (.agg #[.int .i64 b1,.int .i64 b2])).run P w=.ok (a1==b1&&a2==b2) w
 alM:d.four=true->P.eqGuardType P.depth T=false/\∀(w:World)(a0 a1 a2 b0 b1 b2:Int)(s t:aw),(Op.equalIn 10000 T (.agg #[.int .i64 a0,.int .i64 a1,.int .i64 a2,.string s]) (.agg #[.int .i64 b0,.int .i64 b1,.int .i64 b2,.string t])).run P w=.ok (a0==b0&&((a1==b1&&a2==b2)&&s.toList==t.toList)) w
def bn(P:Program)(tab:Nat->Option TD):Prop:=∀T d,tab T=some d->gq P T d
variable {G:Type} {Γ:Env G} {s:AS G} {a:Act} {w w':World} {η:List Value} {hp:List ax} {F:Nat->Nat->Prop} {P:Program}
theorem gq.Qp{T:TypeId}{d:TD}(h:gq P T d)(w:World):(isAgg T).run P w=.ok d.kind.agg w:=by
 obtain⟨u,h1,h2⟩:=h.mO;simp only[isAgg,ao,run_underlying h1,al];revert h2;cases hk:d.kind<;>intro h2<;>simp only[TK.fits]at h2
 ·cases u<;>first|rfl|exact h2.elim
 subst h2;rfl;subst h2;rfl;subst h2;rfl;obtain⟨f,rfl,_⟩:=h2;rfl;subst h2;rfl;subst h2;rfl;subst h2;rfl;obtain⟨e,i,rfl,_⟩:=h2;rfl;obtain⟨m,rfl⟩:=h2;rfl
theorem gq.run_sizeOf{T:TypeId}{d:TD}(h:gq P T d)(w:World):(sizeOf T).run P w=.ok d.size w:=by obtain⟨i,h1,h2,_⟩:=h.info;simp[sizeOf,typeInfo,h1,h2]
theorem gq.kc{T:TypeId}{d:TD}(h:gq P T d)(w:World):(zeroValue T).run P w=.ok d.zero w:=by obtain⟨i,h1,_,_,h4⟩:=h.info;simp[zeroValue,typeInfo,h1,h4]
theorem gq.run_load{T:TypeId}{d:TD}(h:gq P T d){b o:Nat}{vs:List Value}(hl:vs.length=d.size)(hc:∀(j:Nat)(v:Value),vs[j]?=some v->w.cell? ⟨b,o+j,none⟩=some v): (loadVar T ⟨b,o,none⟩).run P w=.ok (if d.kind.agg then .agg vs.toArray else vs.headD undef) w:=by simp only[loadVar,ao,h.Qp,al];cases hk:d.kind.agg with|true=>simp only[if_true,ao,h.run_sizeOf,al];rw[<-hl,run_loadCells_list (P:=P) w ⟨b,o,none⟩ vs (λj v hj=>by rw[Addr.add_lit];exact hc j v hj)];rfl|false=>have h1:=(h.acQ hk).1;rw[h1]at hl;match vs,hl with| [v],_=>have:=hc 0 v rfl;simp only[avu]at this;simp[run_load,this]
def AV.jr(hp:List ax):AV->Option (List AV)
 | .sl els=>some els| .clip els=>some els| .ay (.slice none 0 0)=>some []| .own r n=>match hp[r]? with|some (.row _ _ els)=>if n=els.length then some els else none|_=>none
 |_=>none
theorem Rel.adY{r:Nat}{e size:Nat}{els:List AV}{v:Value}(hF:∀b k,(∃u,η[r]?=some u/\dn u=some b)->k<els.length*size->F b k)(gn:iL w F η hp (.row e size els) v)(hv:η[r]?=some v):bq w F η hp (.sl els) v:=by obtain⟨h0,xs,fh,fA⟩:=gn;rcases fh.2 with⟨hn,rfl|⟨ad,rfl⟩⟩|⟨g,cap,cur,rfl,Hc,⟨hi,_,hg⟩,KT,KU,gY,qd⟩;have:els=[]:=auV hn;subst this;exact .mV _;have:els=[]:=auV hn;subst this;exact .mV _;(have aT:∀(i:Nat)(el:AV)(j:Nat)(x:AV),els[i]?=some el->el.cells[j]?=some x->∃u,w.cell? ⟨g,0+i*size+j,none⟩=some u/\xs.getD (i*size+j) undef=u/\F g (0+i*size+j)/\u.oneCell'=true/\bq w F [] [] x u:=by (intro i el j x hi hj;obtain⟨hlen,hx⟩:=fA i el hi;obtain⟨u,hu,eD,h1⟩:=hx j x hj;have wY:i<els.length:=(aun.1 hi).1;have vJ:j<size:=by rw[<-hlen];exact(aun.1 hj).1);(have aF:i*size+j<els.length*size:=by have:=au6 size (show i+1<=els.length from wY);rw[avr]at this;omega);refine⟨u,?_,by simp[List.getD,hu],hF _ _ ⟨_,hv,cK Hc⟩ (by omega),h1,eD⟩;rw[auZ,cell_of_row w g _ cur e _ hg];rw[<-qd,auL,if_pos aF]at hu;simpa using hu);refine .sl size els g 0 cap (λi j=>xs.getD (i*size+j) undef) KT KU (λi el hi=>(fA i el hi).1) (λi el j x hi hj=>?_) (λi el j x hi hj=>?_);obtain⟨u,h1,h2,h3,h4,_⟩:=aT i el j x hi hj;exact⟨by rw[h2];exact h1,h3,by rw[h2];exact h4⟩;obtain⟨u,h1,h2,h3,h4,h5⟩:=aT i el j x hi hj;rw[h2];exact h5
theorem YQ(h:ep w (bw Γ w η hp) η hp)(hm:vM Γ η hp){r e size:Nat}{els:List AV}{v:Value}(hr:hp[r]?=some (.row e size els))(hv:η[r]?=some v){b k:Nat}(hb:dn v=some b)(vN:k<els.length*size):bw Γ w η hp b k:=by have h1:=hm r _ v b hr ai hv hb;refine⟨.inr h1.1,h.block hr ai hv hb,h1.2 _,(bp b k).2 λr' u hu gb=>?_⟩;by_cases bW:r=r';subst bW;exact⟨_,hr,vN⟩;(have gJ:r' < hp.length:=by rw[<-h.len];exact(aun.1 hu).1);refine⟨hp[r'],by simp[gJ],?_⟩;cases ho:hp[r']with|dead=>exact ai|box cs=>exact(h.sep r r' _ (.box cs) v u b bW hr (by rw[<-ho];simp[gJ]) ai ai hv hu hb gb).elim|row e' s' gU=>exact(h.sep r r' _ (.row e' s' gU) v u b bW hr (by rw[<-ho];simp[gJ]) ai ai hv hu hb gb).elim|cJ es=>exact(h.sep r r' _ (.cJ es) v u b bW hr (by rw[<-ho];simp[gJ]) ai ai hv hu hb gb).elim|jm q k=>exact(h.sep r r' _ (.jm q k) v u b bW hr (by rw[<-ho];simp[gJ]) ai ai hv hu hb gb).elim|aV e' s' gU=>exact(h.sep r r' _ (.aV e' s' gU) v u b bW hr (by rw[<-ho];simp[gJ]) ai ai hv hu hb gb).elim|fz e' m' ns'=>exact(h.sep r r' _ (.fz e' m' ns') v u b bW hr (by rw[<-ho];simp[gJ]) ai ai hv hu hb gb).elim
end
section
variable {G:Type} {Γ:Env G} {s:AS G} {a:Act} {w w':World} {η:List Value} {hp:List ax} {F:Nat->Nat->Prop} {P:Program}
theorem YS(h:ep w (bw Γ w η hp) η hp)(hm:vM Γ η hp){r n e size:Nat}{els:List AV}{v:Value}(hr:hp[r]?=some (.row e size els))(ho:bk η hp r n v)(hn:n=els.length): bq w (bw Γ w η hp) η hp (.sl els) v:=by (have hv:η[r]?=some v:=by unfold bk at ho;rw[hr]at ho;exact ho.2 hn);exact Rel.adY (λb k ⟨u,h1,h2⟩ hk=>YQ h hm hr h1 h2 hk) (h.obj r _ v hr hv) hv
theorem lV(h:ep w (bw Γ w η hp) η hp)(hm:vM Γ η hp){x:AV}{els:List AV}{v:Value}(hx:bq w (bw Γ w η hp) η hp x v)(he:x.jr hp=some els): bq w (bw Γ w η hp) η hp (.sl els) v:=by
 cases x with
  |sl l=>simp only[AV.jr,aul]at he;subst he;exact hx|clip l=>simp only[AV.jr,aul]at he;subst he;exact hx.mW|ay u=>(have:u=v:=by cases hx;rfl);subst this;unfold AV.jr at he;(split at he<;>try (simp at he;done));rename_i h1;cases h1;rename_i h1;cases h1;rename_i h1;simp only[AV.ay.injEq]at h1;subst h1;obtain rfl:=auo he;exact .mV _;rename_i h1;cases h1|own r n=>(have ho:bk η hp r n v:=by cases hx;assumption);simp only[AV.jr]at he;cases hr:hp[r]? with|none=>simp[hr]at he|some o=>cases o with|row e size l=>simp only[hr]at he;split at he;rename_i hn;obtain rfl:=auo he;exact YS h hm hr ho hn;cases he|_=>simp[hr]at he
  |_=>simp[AV.jr]at he
structure EC(w:World)(F:Nat->Nat->Prop)(size:Nat)(els:List AV)(v:Value)(news:List Value):Prop where
 shape:(∃ad:Option Addr,v=.slice ad 0 0/\els=[])\/∃b o c,v=.slice (some ⟨b,o,none⟩) els.length c/\els.length<=c/\c<=maxLen/\∀(k:Nat)(u:Value),news[k]?=some u->w.cell? ⟨b,o+k,none⟩=some u
 len:news.length=els.length*size
 one:∀u:Value,u∈news->u.oneCell'=true
 rep:∀(i:Nat)(e:AV)(j:Nat)(x:AV),els[i]?=some e->e.cells[j]?=some x->∃u,news[i*size+j]?=some u/\bq w F [] [] x u/\u.oneCell'=true
theorem bq.yX{size:Nat}{els:List AV}{v:Value}(h:bq w F η hp (.sl els) v)(cY:0<size)(hl:∀e:AV,e∈els->e.cells.length=size):∃news,EC w F size els v news:=by cases h with|mV a=>exact⟨[],.inl ⟨a,rfl,rfl⟩,by simp,(λu hu=>by cases hu),λi e j x hi=>by simp at hi⟩|sl wZ els b o c f hc hm Yz aT hr=>have alN:∀k,k<els.length*size->k / size<els.length/\k % size<size/\k=k / size*size+k % size:=λk hk=> ⟨Nat.div_lt_of_lt_mul (by rw[Nat.mul_comm];exact hk),Nat.mod_lt _ cY,by rw[Nat.mul_comm];exact(Nat.div_add_mod k size).symm⟩;(have eh:∀k,k<els.length*size->w.cell? ⟨b,o+k,none⟩=some (f (k / size) (k % size))/\(f (k / size) (k % size)).oneCell'=true:=λk hk=>by (obtain⟨h1,h2,h3⟩:=alN k hk;have he:els[k / size]?=some els[k / size]:=by simp[h1]);(have hlen:=hl _ (auz h1);have hj:els[k / size].cells[k % size]?=some (els[k / size].cells[k % size]'(by rw[hlen];exact h2)):=by simp[hlen,h2]);(have hs':wZ=size:=by rw[<-Yz _ _ he];exact hlen);have:=aT _ _ _ _ he hj;rw[hs',av1,<-h3]at this;exact⟨this.1,this.2.2⟩);refine⟨(List.range (els.length*size)).map λk=>f (k / size) (k % size),.inr ⟨b,o,c,rfl,hc,hm,λk u hk=>?_⟩,by simp,λu hu=>?_,λi e j x hi hj=>?_⟩;rw[auA]at hk;by_cases aF:k<els.length*size;rw[av8 aF]at hk;obtain rfl:=auo hk;exact(eh k aF).1;rw[auQ (by simp;omega)]at hk;cases hk;obtain⟨k,hk,rfl⟩:=avs.1 hu;exact(eh k (List.mem_range.1 hk)).2;(have hlen:=hl e (auu hi);have wY:i<els.length:=(aun.1 hi).1;have vJ:j<size:=by rw[<-hlen];exact(aun.1 hj).1);(have aF:i*size+j<els.length*size:=by have:=au6 size (show i+1<=els.length from wY);rw[avr]at this;omega);(have e1:(i*size+j) / size=i:=by rw[Nat.mul_comm,Nat.mul_add_div cY,Nat.div_eq_of_lt vJ,avu]);(have e2:(i*size+j) % size=j:=by rw[Nat.mul_comm,Nat.mul_add_mod,Nat.mod_eq_of_lt vJ]);refine⟨f i j,?_,hr i e j x hi hj,(aT i e j x hi hj).2.2⟩;rw[auA,av8 aF];simp[e1,e2]
theorem EC.ext{w':World}{F':Nat->Nat->Prop}{size:Nat}{els:List AV}{v:Value}{news:List Value}(h:EC w F size els v news)(he:Sw w F w' F'): ∀(i:Nat)(e:AV)(j:Nat)(x:AV),els[i]?=some e->e.cells[j]?=some x->∃u,news[i*size+j]?=some u/\bq w' F' [] [] x u/\u.oneCell'=true:=λi e j x hi hj=>let ⟨u,h1,h2,h3⟩:=h.rep i e j x hi hj;⟨u,h1,h2.ext he.ext,h3⟩
theorem oX{R:AV->Value->Prop}{size:Nat}{l1 l2:List AV}{x1 x2:List Value}(hx1:x1.length=l1.length*size)(h1:∀(i:Nat)(e:AV)(j:Nat)(x:AV),l1[i]?=some e->e.cells[j]?=some x->∃u,x1[i*size+j]?=some u/\R x u/\u.oneCell'=true)(h2:∀(i:Nat)(e:AV)(j:Nat)(x:AV),l2[i]?=some e->e.cells[j]?=some x->∃u,x2[i*size+j]?=some u/\R x u/\u.oneCell'=true): ∀(i:Nat)(e:AV)(j:Nat)(x:AV),(l1++l2)[i]?=some e->e.cells[j]?=some x->∃u,(x1++x2)[i*size+j]?=some u/\R x u/\u.oneCell'=true:=by intro i e j x hi hj;by_cases aF:i<l1.length;rw[auB aF]at hi;obtain⟨u,h3,h4⟩:=h1 i e j x hi hj;exact⟨u,by rw[auB (aun.1 h3).1];exact h3,h4⟩;(rw[au9 (by omega)]at hi;obtain⟨u,h3,h4⟩:=h2 _ e j x hi hj;refine⟨u,?_,h4⟩;have:x1.length<=i*size+j:=by rw[hx1];have:=au6 size (show l1.length<=i by omega);omega);rw[au9 this,hx1,<-h3];congr 1;rw[Nat.sub_mul];have:=au6 size (show l1.length<=i by omega);omega
theorem kH{t ty e:TypeId}{ed:TD}(ht:P.underlying t=some (.slice e))(he:gq P e ed)(b:Option Addr)(n c:Nat)(hn:n<=c)(x:Value)(hx:x=.slice none 0 0\/∃ad k,x=.slice (some ad) 0 k): (Builtin.append_ #[t,t] ty #[.slice b n c,x]).run P w=.ok (.slice b n c) w:=by obtain⟨i,h1,h2,_⟩:=he.info;rcases hx with rfl|⟨ad,k,rfl⟩<;>cases b <;> simp[Builtin.append_,run_underlying ht,sizeOf,typeInfo,h1,Builtin.lenOf,hn,Builtin.firstCells,storeCells,loadCells,loadCellsFrom]
theorem vO{e size:Nat}{n m:Nat}{z:Array Value}(nz news:List Value)(ho:nz.length=n*size)(hnw:news.length=m*size)(hz:z.size=size)(oc:Nat)(hm:0<m)(Hd:n+m<=maxLen): mX (w.drew.alloc (.cells (nz.toArray++news.toArray++Builtin.zeroCells z (grownCap w (n+m) oc e-(n+m))) e)) e size (.slice (some ⟨w.heap.size,0,none⟩) (n+m) (grownCap w (n+m) oc e)) (n+m) (nz++news) 0:=by (have fb:=grownCap_ge w (n+m) oc e;have KU:grownCap w (n+m) oc e<=maxLen:=grownCap_le_maxLen w (n+m) oc e Hd;have hlen:(nz++news).length=(n+m)*size:=by rw[aut,ho,hnw,avr]);refine⟨hlen,.inr ⟨w.heap.size,_,_,rfl,by omega,⟨0,aur _,heap_alloc_new w.drew _⟩,fb,KU,?_,?_⟩⟩;simp only[Array.size_append,avQ,size_zeroCells,hz,ho,hnw,<-avr];congr 1;omega;simp only[Array.toList_append,auM];rw[<-auM,<-hlen];exact List.take_left
end
section
variable {G:Type} {Γ:Env G} {s:AS G} {a:Act} {w w':World} {η:List Value} {hp:List ax} {F:Nat->Nat->Prop} {P:Program}
theorem zH(aN:Γ.Ok)(h:Rel Γ s a w η){t ty e:TypeId}{d:TD}(ht:Γ.P.underlying t=some (.slice e))(dP:gq Γ.P e d)(cY:0<d.size){els aL:List AV}{v0 v2:Value}(hb:v0=.slice none 0 0/\els=[]\/bq w (bw Γ w η s.hp) η s.hp (.clip els) v0)(hx:bq w (bw Γ w η s.hp) η s.hp (.sl aL) v2)(hl:∀x:AV,x∈els->x.cells.length=d.size)(sS:∀x:AV,x∈aL->x.cells.length=d.size)(bW:aL=[]->els=[])(hm:els.length+aL.length<=maxLen)(Sf:(els.length+aL.length)*d.bytes<=140737488355328){ob:ax}(gn:ob=.row e d.size (els++aL)\/ob=.aV e d.size (els++aL)): ∃v' w',(Builtin.append_ #[t,t] ty #[v0,v2]).run Γ.P w=.ok v' w'/\Rel Γ (s.add ob) a w' (η++[v'])/\v'.oneCell'=true:=by
 have oY:∀{w:World}{F:Nat->Nat->Prop}{η:List Value}{hp:List ax}{v:Value},iL w F η hp (.aV e d.size (els++aL)) v->iL w F η hp ob v:=by rcases gn with rfl|rfl;exact fun⟨h1,xs,h2,h3⟩=>⟨h1,xs,h2.more (auv _),h3⟩;exact id
 obtain⟨i,jw,qC,Qq,Nw⟩:=dP.info;have hbs:bq w (bw Γ w η s.hp) η s.hp (.sl els) v0:=by rcases hb with⟨rfl,rfl⟩|hb;exact .mV _;exact hb.mW
 obtain⟨nz,ho⟩:=hbs.yX cY hl;obtain⟨news,hn⟩:=hx.yX cY sS;have K0:(∃ad:Option Addr,v0=.slice ad 0 0/\els=[])\/∃b o,v0=.slice (some ⟨b,o,none⟩) els.length els.length/\∀(k:Nat)(u:Value),nz[k]?=some u->w.cell? ⟨b,o+k,none⟩=some u:=by rcases ho.shape with h1|⟨b,o,c,rfl,_,_,hc⟩;grind;rcases hb with⟨hb,_⟩|hb;cases hb;cases hb with|jv=>simp|clip size els b o f hm Yz aT hr=>grind
 by_cases hz:aL=[];have Sz:=bW hz;subst hz;subst Sz;have hv2:v2=.slice none 0 0\/∃ad k,v2=.slice (some ad) 0 k:=by rcases hn.shape with⟨ad,rfl,_⟩|⟨b,o,c,rfl,_⟩;(cases ad with|none=>simp|some ad=>simp);simp
 rcases K0 with⟨ad,rfl,_⟩|⟨b,o,rfl,_⟩;refine⟨_,w,kH ht dP ad 0 0 (aur _) v2 hv2,?_,rfl⟩;exact h.add aN (cj.refl w) (λb hb=>by cases ad<;>simp[dn]at hb) (oY ⟨cY,[],⟨by simp,.inl ⟨rfl,by cases ad with|none=>simp|some ad=>simp⟩⟩,λi el hi=>by simp at hi⟩);refine⟨_,w,kH ht dP (some ⟨b,o,none⟩) 0 0 (aur _) v2 hv2,?_,rfl⟩;exact h.add aN (cj.refl w) (by simp[dn]) (oY ⟨cY,[],⟨by simp,.inl ⟨rfl,.inr ⟨_,rfl⟩⟩⟩,λi el hi=>by simp at hi⟩);have sj:0<aL.length:=List.length_pos_iff.2 hz;rcases hn.shape with⟨_,_,h1⟩|⟨b2,o2,c2,rfl,_,_,hc2⟩;simp_all;have qD:∀(j:Nat)(u:Value),news[j]?=some u->w.cell? ((⟨b2,o2,none⟩:Addr).add j)=some u:=by simp_all [Addr.add_lit]
 have Hd:els.length+aL.length<=9223372036854775807:=by assumption
 have fin:∀(oc:Nat),Rel Γ (s.add ob) a
   (w.drew.alloc (.cells (nz.toArray++news.toArray++Builtin.zeroCells d.zero.cells (grownCap w (els.length+aL.length) oc e-(els.length+aL.length))) e))
   (η++[.slice (some ⟨w.heap.size,0,none⟩) (els.length+aL.length) (grownCap w (els.length+aL.length) oc e)]):=by
  intro oc;have hs:cj w (w.drew.alloc (.cells (nz.toArray++news.toArray++Builtin.zeroCells d.zero.cells (grownCap w (els.length+aL.length) oc e-(els.length+aL.length))) e)):=
   (cj.drew w).trans (cj.alloc _ _)
  have kb:∀b,dn (.slice (some ⟨w.heap.size,0,none⟩) (els.length+aL.length) (grownCap w (els.length+aL.length) oc e))=some b->w.heap.size<=b:=by
   intro b hb;rw[cK (by grind [grownCap_ge])]at hb
   simp_all
  have he:=tO (Γ:=Γ) (o:=ob) h.heap.len hs kb;refine h.add aN hs kb (oY ⟨cY,nz++news,?_,λi el hi=>⟨?_,?_⟩⟩)
  ·rw[aut];exact vO nz news ho.len hn.len dP.Nv oc sj hm
  ·grind
  ·exact λj x hj=>oX ho.len (ho.ext he.ny) (hn.ext he.ny) i el j x hi hj
 rcases K0 with⟨ad,rfl,rfl⟩|⟨b,o,rfl,hc⟩;have:nz=[]:=auV (by simpa using ho.len);subst this;cases ad with|some ad=>have:=run_append_grow (P:=Γ.P) w t ty e i d.zero ht jw Nw ad 0 0 [] (by simp) (λj u hj=>by simp at hj) ⟨b2,o2,none⟩ aL.length c2 news (by rw[qC];exact hn.len) qD (by omega) (by omega) (by simp_all [growslice_fits]);refine⟨_,_,this,?_,rfl⟩;simp_all|none=>have:=run_append_nil (P:=Γ.P) w t ty e i d.zero ht jw Nw ⟨b2,o2,none⟩ aL.length c2 news (by rw[qC];exact hn.len) qD sj (by omega) (by grind);refine⟨_,_,this,?_,rfl⟩;simp_all
 have holds:∀(j:Nat)(u:Value),nz[j]?=some u->w.cell? ((⟨b,o,none⟩:Addr).add j)=some u:=by simp_all [Addr.add_lit]
 have:=run_append_grow (P:=Γ.P) w t ty e i d.zero ht jw Nw ⟨b,o,none⟩ els.length els.length nz (by rw[qC];exact ho.len) holds ⟨b2,o2,none⟩ aL.length c2 news (by rw[qC];exact hn.len) qD (by omega) (by omega) (by simp_all [growslice_fits]);exact⟨_,_,this,fin els.length,rfl⟩
theorem oZ{g e z:Nat}:∀(us:List Value)(o:Nat)(cur:Array Value)(w:World),w.heap[g]?=some (.cells cur e (0,z))->o+us.length<=cur.size-> w.setCells g o us=w.setRow g (cur.toList.take o++us++cur.toList.drop (o+us.length)).toArray:=by
 intro us;induction us with
  |nil=>
   (intro o cur w hg _;simp only[World.setCells,auF,au7,avu,avl];have aF:g<w.heap.size:=by grind);(have hv:w.heap[g]=.cells cur e (0,z):=by simp_all);unfold World.setRow;cases w with
    |mk heap tape drawn os output=>
     congr 1;apply Array.ext;simp
     ·intro k h1 h2;simp only[Array.getElem_modify];split;all_goals simp_all
  |cons u us ih=>intro o cur w hg hl;rw[auy]at hl;rw[World.setCells,setCell_eq_setRow w g o cur e _ u hg,ih (o+1) _ _ (setRow_heap w g cur _ e _ hg) (by grind),setRow_setRow];congr 2;(apply avf;intro k;have e1:(cur.setIfInBounds o u).toList=cur.toList.set o u:=by simp);(rw[e1];have hlen:cur.toList.length=cur.size:=by simp);rcases Nat.lt_trichotomy k o with h|h|h;grind;grind;(have e2:(cur.toList.take o++(u::us)++cur.toList.drop (o+(us.length+1)))[k]?=(us++cur.toList.drop (o+(us.length+1)))[k-(o+1)]?:=by grind);rw[auy,e2,auM,au9 (by grind)];grind [List.drop_set_of_lt]
theorem lW{w:World}{g e z o:Nat}{cur:Array Value}{us:List Value}(hg:w.heap[g]?=some (.cells cur e (0,z)))(hz:z<=o)(hf:o+us.length<=cur.size): (∀j,j<us.length->(w.cell? ⟨g,o+j,none⟩).isSome=true)/\∀j,j<us.length->w.frozen? ⟨g,o+j,none⟩=false:=by refine⟨λj hj=>?_,λj hj=>?_⟩;rw[cell_of_row w g _ cur e _ hg,avc (by omega)];rfl;grind [World.frozen?]
structure zI(P:Program)(w:World)(F:Nat->Nat->Prop)(t u ty e:TypeId)(d:TD)(aL:List AV)(v2:Value)(news:List Value):Prop where
 len:news.length=aL.length*d.size
 one:∀u∈news,u.oneCell'=true
 rep:∀(i:Nat)(e:AV)(j:Nat)(x:AV),aL[i]?=some e->e.cells[j]?=some x->∃u,news[i*d.size+j]?=some u/\bq w F [] [] x u/\u.oneCell'=true
 nothing:aL=[]->∀b n c,n<=c->(Builtin.append_ #[t,u] ty #[.slice b n c,v2]).run P w=.ok (.slice b n c) w
 nil:0<aL.length->(aL.length:Int)<=9223372036854775807->aL.length*d.bytes<=281474976710656->(Builtin.append_ #[t,u] ty #[.slice none 0 0,v2]).run P w=
  .ok (.slice (some ⟨w.heap.size,0,none⟩) aL.length (grownCap w aL.length 0 e)) (w.drew.alloc (.cells (news.toArray++Builtin.zeroCells d.zero.cells (grownCap w aL.length 0 e-aL.length)) e))
 grow:0<aL.length->∀(b:Addr)(ke sk:Nat)(nz:List Value),nz.length=ke*d.size->(∀j v,nz[j]?=some v->w.cell? (b.add j)=some v)->sk<ke+aL.length->((ke+aL.length:Nat):Int)<=9223372036854775807->
  Builtin.nextslicecap (ke+aL.length) sk*d.bytes<=281474976710656->(Builtin.append_ #[t,u] ty #[.slice (some b) ke sk,v2]).run P w=
   .ok (.slice (some ⟨w.heap.size,0,none⟩) (ke+aL.length) (grownCap w (ke+aL.length) sk e)) (w.drew.alloc (.cells (nz.toArray++news.toArray++Builtin.zeroCells d.zero.cells (grownCap w (ke+aL.length) sk e-(ke+aL.length))) e))
 room:0<aL.length->∀(g ke sk:Nat)(cur:Array Value)(hi:Nat),hi<=ke*d.size->w.heap[g]?=some (.cells cur e (0,hi))->ke+aL.length<=sk->ke*d.size+news.length<=cur.size->(Builtin.append_ #[t,u] ty #[.slice (some ⟨g,0,none⟩) ke sk,v2]).run P w=
   .ok (.slice (some ⟨g,0,none⟩) (ke+aL.length) sk) (w.setRow g (cur.toList.take (ke*d.size)++news++cur.toList.drop (ke*d.size+news.length)).toArray)
theorem zI.ext{P:Program}{F F':Nat->Nat->Prop}{t u ty e:TypeId}{d:TD}{aL:List AV}{v2:Value}{news:List Value}(h:zI P w F t u ty e d aL v2 news)(he:Sw w F w' F'): ∀(i:Nat)(e:AV)(j:Nat)(x:AV),aL[i]?=some e->e.cells[j]?=some x->∃u,news[i*d.size+j]?=some u/\bq w' F' [] [] x u/\u.oneCell'=true:=λi e j x hi hj=>let ⟨u,h1,h2,h3⟩:=h.rep i e j x hi hj;⟨u,h1,h2.ext he.ext,h3⟩
theorem tP{P:Program}{F:Nat->Nat->Prop}{t ty e:TypeId}{d:TD}(ht:P.underlying t=some (.slice e))(dP:gq P e d)(cY:0<d.size){aL:List AV}{v2:Value}(hx:bq w F η hp (.sl aL) v2)(sS:∀x:AV,x∈aL->x.cells.length=d.size):∃news,zI P w F t t ty e d aL v2 news:=by (obtain⟨i,jw,qC,Qq,Nw⟩:=dP.info;obtain⟨news,hn⟩:=hx.yX cY sS;have pos:0<aL.length->∃b2 o2 c2,v2=.slice (some ⟨b2,o2,none⟩) aL.length c2/\∀(j:Nat)(u:Value),news[j]?=some u->w.cell? ((⟨b2,o2,none⟩:Addr).add j)=some u:=λh0=>by rcases hn.shape with⟨_,_,h1⟩|⟨b2,o2,c2,rfl,_,_,hc2⟩;all_goals grind [Addr.add_lit]);refine⟨news,hn.len,hn.one,hn.rep,λh0 b n c KT=>?_,λh0 Hd h48=>?_,λh0 b ke sk nz lX ho hg Hd vP=>?_,λh0 g ke sk cur hi hhi hg fi vP=>?_⟩;refine kH ht dP b n c KT v2 ?_;subst h0;rcases hn.shape with⟨ad,rfl,_⟩|⟨b,o,c,rfl,_⟩;(cases ad with|none=>simp|some ad=>simp);simp;obtain⟨b2,o2,c2,rfl,hc⟩:=pos h0;exact run_append_nil (P:=P) w t ty e i d.zero ht jw Nw ⟨b2,o2,none⟩ aL.length c2 news (by rw[qC];exact hn.len) hc h0 Hd (by simp_all);obtain⟨b2,o2,c2,rfl,hc⟩:=pos h0;exact run_append_grow (P:=P) w t ty e i d.zero ht jw Nw b ke sk nz (by simp_all) ho ⟨b2,o2,none⟩ aL.length c2 news (by rw[qC];exact hn.len) hc hg Hd (by simp_all);obtain⟨b2,o2,c2,rfl,hc⟩:=pos h0;have:=run_append_room_cells (P:=P) w t ty e i ht jw g 0 ke sk ⟨b2,o2,none⟩ aL.length c2 news (by rw[qC];exact hn.len) hc hn.one fi (by rw[qC,auZ];exact(lW hg hhi vP).1) (by rw[qC,auZ];exact(lW hg hhi vP).2);rw[qC,auZ,oZ news _ cur w hg vP]at this;exact this
def jx(b:aw):List AV:=b.data.toList.map λc=>.ay (.int .u8 c.toNat)
theorem vQ(b:aw):(jx b).length=b.size:=by simp[jx]
theorem K1{P:Program}{F:Nat->Nat->Prop}{t u ty e:TypeId}{d:TD}(ht:P.underlying t=some (.slice e))(hu:P.underlying u=some .string)(dP:gq P e d)(h1:d.size=1)(hz:d.zero=.int .u8 0)(b:aw): zI P w F t u ty e d (jx b) (.string b) (Lib.strCells b):=by (obtain⟨i,jw,qC,Qq,Nw⟩:=dP.info;have hl:=vQ b;have e1:(b.data.map λb=>Value.int .u8 b.toNat)=(Lib.strCells b).toArray:=by apply avR;simp[Lib.strCells]);refine⟨by rw[Lib.strCells_length,hl,h1,avt],Lib.strCells_oneCell b,λi el j x hi hj=>?_,λh0 a n c KT=>?_,λh0 Hd h48=>?_,λh0 a ke sk nz lX ho hg Hd vP=>?_,λh0 g ke sk cur hi hhi hg fi vP=>?_⟩;simp only[jx,auA,ave]at hi;obtain⟨c,hc,rfl⟩:=hi;(cases j with|succ j=>simp[AV.cells]at hj|zero=>simp only[AV.cells,avn,aul]at hj;subst hj;exact⟨_,by rw[h1,avt,avu,Lib.strCells,auA,hc];rfl,.ay _,rfl⟩);(have hb:b.size=0:=by rw[<-hl,h0];rfl);have hf:=Lib.run_firstCells_string (P:=P) w i.size b;rw[hb]at hf;have Hc:Lib.strCells b=[]:=auV (by rw[Lib.strCells_length];exact hb);cases a<;>simp[Builtin.append_,run_underlying ht,run_underlying hu,sizeOf,typeInfo,jw,Builtin.lenOf,hb,KT,hf,Hc,storeCells];rw[hl]at *;have:=run_append_nil_string (P:=P) w t u ty e i d.zero ht hu jw Nw b h0 Hd (by rw[Qq];exact h48);rw[e1]at this;exact this;rw[hl]at *;exact Lib.run_append_grow_string (P:=P) w t u ty e i d.zero ht hu jw Nw a ke sk nz (by rw[qC];exact lX) ho b hg Hd (by rw[Qq];exact vP);(rw[hl]at *;rw[h1,avt,Lib.strCells_length]at *;have hl0:ke+(Lib.strCells b).length<=cur.size:=by rw[Lib.strCells_length];exact vP);have hf:=Lib.run_firstCells_string (P:=P) w 1 b;have vR:=run_storeCells_cells (P:=P) g ke (Lib.strCells b) 0 w (lW hg hhi hl0).1 (lW hg hhi hl0).2 (Lib.strCells_oneCell b);rw[avu,oZ _ _ cur w hg hl0,Lib.strCells_length]at vR;simp[Builtin.append_,run_underlying ht,run_underlying hu,sizeOf,typeInfo,jw,show i.size=1 by rw[qC],Builtin.lenOf,fi,hf,Addr.add_lit,vR]
def fI(M:Bool)(e size:Nat)(els:List AV):ax:=match M with|false=>.row e size els|true=>.aV e size els
def kB(M:Bool)(n:Nat):Nat:=match M with|false=>n|true=>0
theorem agu(M:Bool)(n:Nat):kB M n<=n:=by cases M<;>simp[kB]
theorem YT(M:Bool){n m:Nat}(h:n<=m):kB M n<=kB M m:=by cases M<;>simp[kB,h]
theorem lY{F:Nat->Nat->Prop}{M:Bool}{e size:Nat}{els:List AV}{v:Value}:iL w F η hp (fI M e size els) v↔(0<size/\∃xs:List Value,mX w e size v els.length xs (kB M (els.length*size))/\
   ∀(i:Nat)(el:AV),els[i]?=some el->el.cells.length=size/\
    ∀(j:Nat)(x:AV),el.cells[j]?=some x->∃u,xs[i*size+j]?=some u/\bq w F [] [] x u/\u.oneCell'=true):=by cases M<;>exact av9
theorem kf{M:Bool}{e size r n:Nat}{els:List AV}{v:Value}(h:hp[r]?=some (fI M e size els)):bk η hp r n v↔n<=els.length/\(n=els.length->η[r]?=some v):=by unfold bk;rw[h];cases M<;>exact av9
theorem C1{M:Bool}{e size k:Nat}{els:List AV}(h:(fI M e size els).bD k):k<els.length*size:=by cases M<;>first|exact h|exact h.elim
theorem C2{M:Bool}{e size k:Nat}{els aL:List AV}(h:(fI M e size els).bD k):(fI M e size (els++aL)).bD k:=by have h':=C1 h;cases M with|false=>show k<(els++aL).length*size;grind [avr]|true=>exact h.elim
theorem vS(M:Bool)(e size:Nat)(els:List AV):(fI M e size els).live:=by cases M<;>exact ai
theorem zJ(aN:Γ.Ok)(h:Rel Γ s a w η){t u ty e:TypeId}{d:TD}(dP:gq Γ.P e d){M:Bool}{r:Nat}{els aL:List AV}{v0 v2:Value}(hr:s.hp[r]?=some (fI M e d.size els))(hv:bk η s.hp r els.length v0){news:List Value}(hn:zI Γ.P w (bw Γ w η s.hp) t u ty e d aL v2 news)(sS:∀x:AV,x∈aL->x.cells.length=d.size)(hm:els.length+aL.length<=maxLen)(Sf:(els.length+aL.length)*d.bytes<=140737488355328): ∃v' w' bj,(Builtin.append_ #[t,u] ty #[v0,v2]).run Γ.P w=.ok v' w'/\Rel Γ { s with hp:=s.hp.set r (fI M e d.size (els++aL)) } a w' bj/\v'.oneCell'=true/\bj[r]?=some v':=by
 have vT:η[r]?=some v0:=((kf hr).1 hv).2 rfl;obtain⟨cY,xs,fh,fA⟩:=lY.1 (h.heap.obj r _ v0 hr vT);have hold:∀(i:Nat)(e:AV)(j:Nat)(x:AV),els[i]?=some e->e.cells[j]?=some x->∃u,xs[i*d.size+j]?=some u/\bq w (bw Γ w η s.hp) [] [] x u/\u.oneCell'=true:= λi el j x hi hj=>(fA i el hi).2 j x hj;by_cases hz:aL=[];subst hz;have jy:s.hp.set r (fI M e d.size (els++[]))=s.hp:=by apply avf;intro k;by_cases hk:r=k;subst hk;rw[aD hr,auF,hr];rw[getElem?_set_ne hk]
 have SA:∀b n c,v0=.slice b n c->n<=c->∃v' w' bj,(Builtin.append_ #[t,u] ty #[v0,v2]).run Γ.P w=.ok v' w'/\Rel Γ { s with hp:=s.hp.set r (fI M e d.size (els++[])) } a w' bj/\v'.oneCell'=true/\bj[r]?=some v':=by intro b n c e1 e2;subst e1;exact⟨_,w,η,hn.nothing rfl b n c e2,by rw[jy];exact h,rfl,vT⟩
 rcases fh.2 with⟨h0,rfl|⟨ad,rfl⟩⟩|⟨g,cap,cur,rfl,h0,_,KT,_⟩;exact SA none 0 0 rfl (aur _);exact SA _ 0 0 rfl (aur _);exact SA _ _ _ rfl KT;have sj:0<aL.length:=List.length_pos_iff.2 hz;have Hd:els.length+aL.length<=9223372036854775807:=by simp only[maxLen]at hm;omega
 have sR:∀v' n u,bk η s.hp r n u->bk (η.set r v') (s.hp.set r (fI M e d.size (els++aL))) r n u:=by intro v' n u ho;replace ho:=(kf hr).1 ho;refine(kf (aD hr)).2 ⟨by rw[aut];have:=ho.1;omega,λhn'=>?_⟩;rw[aut]at hn';have:=ho.1;omega
 have acS:∀(x:AV),x∈els++aL->x.cells.length=d.size:=by intro x lF;rcases auU.1 lF with h1|h1;obtain⟨k,hk⟩:=avD h1;exact(fA k x hk).1;exact sS _ h1
 have grown:∀(oc:Nat),(∀b es c,dn v0=some b->w.heap[b]?=some (.map es c)->False)->(∀b d,dn v0=some b->w.heap[b]?=some (.deferred d)->False)->(∀x,v0 ≠ .pointer x)->(∀x,v0 ≠ .map x)->
   Rel Γ { s with hp:=s.hp.set r (fI M e d.size (els++aL)) } a
   (w.drew.alloc (.cells (xs.toArray++news.toArray++Builtin.zeroCells d.zero.cells (grownCap w (els.length+aL.length) oc e-(els.length+aL.length))) e))
   (η.set r (.slice (some ⟨w.heap.size,0,none⟩) (els.length+aL.length) (grownCap w (els.length+aL.length) oc e))):=by
  intro oc ad1 alP kX yY;have hs:cj w (w.drew.alloc (.cells (xs.toArray++news.toArray++Builtin.zeroCells d.zero.cells (grownCap w (els.length+aL.length) oc e-(els.length+aL.length))) e)):=
   (cj.drew w).trans (cj.alloc _ _)
  have kb:∀b,dn (.slice (some ⟨w.heap.size,0,none⟩) (els.length+aL.length) (grownCap w (els.length+aL.length) oc e))=some b->w.heap.size<=b:=by
   intro b hb;rw[cK (by have:=grownCap_ge w (els.length+aL.length) oc e;omega)]at hb;obtain rfl:=auo hb;exact aur _
  refine h.change aN (o':=fI M e d.size (els++aL)) hr (vS _ _ _ _) vT (hs.keeps _) (λb hb=>.inr (kb b hb)) (λk hk=>?_) (λb k u hb _ hc=>?_) (λb es c hb _ hh=>ad1 b es c hb hh) (sR _)
   (λx lF=>(kX x lF).elim) (λx lF=>(yY x lF).elim) alP (λhe=>lY.2 ⟨cY,xs++news,?_,λi el hi=>⟨acS _ (auu hi),?_⟩⟩)
  ·exact C2 hk
  ·rw[World.cell?_of_block (hs.block b (h.heap.block hr (vS _ _ _ _) vT hb))];exact hc
  ·rw[aut];exact(vO xs news fh.1 hn.len dP.Nv oc sj hm).more (auv _)
  ·exact λj x hj=>oX fh.1 (λi e j x hi hj=>let ⟨u,h1,h2,h3⟩:=hold i e j x hi hj;⟨u,h1,h2.ext he.ny.ext,h3⟩) (hn.ext he.ny) i el j x hi hj
 have ED:∀v',(η.set r v')[r]?=some v':=λv'=>aD vT;rcases fh.2 with⟨h0,rfl|⟨ad,rfl⟩⟩|⟨g,cap,cur,rfl,h0,⟨hi,hhi,hg⟩,KT,KU,gY,qd⟩;have qy:els=[]:=auV h0;have hxs:xs=[]:=auV (by rw[fh.1,h0];simp);have gr:=grown 0 (λb es c hb=>by simp[dn]at hb) (λb d hb=>by simp[dn]at hb) (λx lF=>by cases lF) (λx lF=>by cases lF);subst qy;subst hxs;have:=hn.nil sj (by simp only[au7,auZ]at Hd;omega) (by simp only[au7,auZ]at Sf;omega);refine⟨_,_,_,this,?_,rfl,ED _⟩;simpa only[au7,auZ,avF,Array.empty_append]using gr;have qy:els=[]:=auV h0;have hxs:xs=[]:=auV (by rw[fh.1,h0];simp);have gr:=grown 0 (λb es c hb=>by simp[dn]at hb) (λb d hb=>by simp[dn]at hb) (λx lF=>by cases lF) (λx lF=>by cases lF);subst qy;subst hxs;have:=hn.grow sj ad 0 0 [] (by simp) (λj u hj=>by simp at hj) (by omega) (by simp only[au7,auZ]at Hd ⊢;omega) (growslice_fits (by omega) (by simpa only[au7]using Sf));refine⟨_,_,_,this,?_,rfl,ED _⟩;simpa only[au7,auZ,avF]using gr;by_cases fi:els.length+aL.length<=cap;have vP:els.length*d.size+news.length<=cur.size:=by rw[hn.len,gY,<-avr];exact au6 _ fi
 have jt:=hn.room sj g els.length cap cur hi (auP hhi (agu _ _)) hg fi vP;refine⟨_,_,_,jt,?_,rfl,ED _⟩;have wX:dn (.slice (some ⟨g,0,none⟩) els.length cap)=some g:=cK h0;have alR:dn (.slice (some ⟨g,0,none⟩) (els.length+aL.length) cap)=some g:=cK h0;have Nx:=setRow_heap w g cur (cur.toList.take (els.length*d.size)++news++cur.toList.drop (els.length*d.size+news.length)).toArray e (0,hi) hg;refine h.change aN (o':=fI M e d.size (els++aL)) hr (vS _ _ _ _) vT ⟨rfl,rfl,rfl,by simp,λk hk hb=>setRow_other w g k _ (λe=>hb (by rw[wX,e]))⟩ (λb hb=>.inl (by rw[wX];rw[alR]at hb;exact hb)) (λk hk=>?_) (λb k u hb hk hc=>?_) (λb es c hb _ hh=>?_) (sR _) (λx lF=>by cases lF) (λx lF=>by cases lF) (λb d hb hh=>?_) (λhe=>lY.2 ⟨cY,xs++news,?_,λi el hi=>⟨acS _ (auu hi),?_⟩⟩);exact C2 hk;rw[wX]at hb;obtain rfl:=auo hb;have vN:k<els.length*d.size:=C1 hk;rw[cell_of_row w g k cur e _ hg]at hc;rw[cell_of_row _ g k _ e _ Nx];have aF:k<cur.size:=(au3.1 hc).1;rw[<-avC]at hc;simp only[List.getElem?_toArray];rw[auM,auB (by simp;omega),auL,if_pos vN];exact hc;rw[wX]at hb;obtain rfl:=auo hb;rw[hg]at hh;cases hh;rw[wX]at hb;obtain rfl:=auo hb;rw[hg]at hh;cases hh;have hlx:(xs++news).length=(els.length+aL.length)*d.size:=by rw[aut,fh.1,hn.len,avr]
 rw[aut];refine⟨hlx,.inr ⟨g,cap,_,rfl,h0,⟨hi,auP hhi (YT M (au6 _ (by omega))),Nx⟩,fi,KU,?_,?_⟩⟩;simp only[avQ,aut,au4,auS,au2];have:els.length*d.size<=cur.size:=by omega
 omega;rw[qd,<-hlx];exact List.take_left;exact λj x hj=>oX fh.1 (λi e j x hi hj=>let ⟨u,h1,h2,h3⟩:=hold i e j x hi hj;⟨u,h1,h2.ext he.ny.ext,h3⟩) (hn.ext he.ny) i el j x hi hj
 ·(have aT:∀(j:Nat)(u:Value),xs[j]?=some u->w.cell? ((⟨g,0,none⟩:Addr).add j)=some u:=by intro j u hj;rw[Addr.add_lit,auZ,cell_of_row w g j cur e _ hg];rw[<-qd,auL]at hj;by_cases aF:j<els.length*d.size;rw[if_pos aF]at hj;simpa using hj;rw[if_neg aF]at hj;cases hj);have wX:dn (.slice (some ⟨g,0,none⟩) els.length cap)=some g:=cK h0;have:=hn.grow sj ⟨g,0,none⟩ els.length cap xs fh.1 aT (by omega) (by omega) (growslice_fits (by omega) Sf);exact⟨_,_,_,this,grown cap (λb es c hb hh=>by rw[wX]at hb;obtain rfl:=auo hb;rw[hg]at hh;cases hh) (λb d hb hh=>by rw[wX]at hb;obtain rfl:=auo hb;rw[hg]at hh;cases hh) (λx lF=>by cases lF) (λx lF=>by cases lF),rfl,ED _⟩
end
section
variable {G:Type} {Γ:Env G} {s:AS G} {a:Act} {w w':World} {η:List Value} {hp:List ax} {F:Nat->Nat->Prop} {P:Program}
def w4:Value->AV
 | .agg cs=>(match cs.toList.all Value.oneCell' with|true=>.agg (cs.toList.map .ay)|false=>.ay (.agg cs))|v=>.ay v
theorem od{w:World}{F:Nat->Nat->Prop}{η:List Value}{hp:List ax}(v:Value):bq w F η hp (w4 v) v:=by unfold w4;split;rename_i cs;split;rename_i h1;refine .agg _ _ (by simp) (by grind) λj x v hx hv=>?_;rw[auA,avC,hv]at hx;obtain rfl:=auo hx;exact .ay _;exact .ay _;exact .ay _
def AS.ev(s:AS G):Operand->AV
 | .tmp t=>s.tmps t| .const v=>w4 v| .global g=>.ay (.pointer (some ⟨g,0,none⟩))| .func f=>.bz f []
theorem Rel.ev(h:Rel Γ s a w η)(x:Operand):bq w (bw Γ w η s.hp) η s.hp (s.ev x) (a.eval x):=by cases x with|tmp t=>exact h.tmps t|const v=>exact od v|global g=>exact .ay _|func f=>exact .bz f [] #[] rfl (λj x v h=>by simp at h)
def AV.eN(hp:List ax):AV->AV
 | .own r n=>(match (AV.own r n).jr hp with|some els=>.sl els|none=>.top)| .clip els=>.sl els| .sl els=>.sl els| .ay v=>(match v with| .slice none 0 0=>.sl []|v=>.ay v)| .fn v=>.fn v| .eo es=>.eo es| .aU e o=>.aU e o| .bz f caps=>(match caps with| []=>.bz f []|_=>.top)|_=>.top
def AV.fE(hp:List ax):AV->AV
 | .agg cs=>.agg (cs.map (AV.eN hp))|x=>x.eN hp
def AV.cd(hp:List ax):AV->AV
 | .aG vs=>.aG (vs.map (AV.fE hp))| .bz f caps=>.bz f (caps.map (AV.fE hp))|x=>x.fE hp
theorem jD(h:ep w (bw Γ w η hp) η hp)(hm:vM Γ η hp){x:AV}{v:Value}(hx:bq w (bw Γ w η hp) η hp x v):bq w (bw Γ w η hp) [] [] (x.eN hp) v:=by
 cases x with
  |own r n=>simp only[AV.eN];split;rename_i els he;have:=lV h hm hx he;(cases this with|mV=>exact .mV _|sl size els b o c f hc hm hl aT hr=>exact .sl size els b o c f hc hm hl aT hr);exact .top _|clip els=>cases hx.mW with|mV=>exact .mV _|sl size els b o c f hc hm hl aT hr=>exact .sl size els b o c f hc hm hl aT hr
  |sl els=>cases hx with|mV=>exact .mV _|sl size els b o c f hc hm hl aT hr=>exact .sl size els b o c f hc hm hl aT hr
  |ay u=>simp only[AV.eN];split;cases hx;exact .mV _;cases hx;exact .ay _|fn u=>cases hx;exact .fn _ (by assumption)|eo es=>cases hx with|eo b es c h1 h2 _ hl=>exact .eo b es c h1 h2 _ hl
  |aU e off=>cases hx with|aU _ _ b o f aT hr=>exact .aU e off b o f aT hr
  |bz f caps=>simp only[AV.eN];split;(cases hx with|bz _ _ vs hl hr=>exact .bz f [] vs hl λj y u hy _=>by cases hy);exact .top _|_=>exact .top _
theorem lG(h:ep w (bw Γ w η hp) η hp)(hm:vM Γ η hp){x:AV}{v:Value}(hx:bq w (bw Γ w η hp) η hp x v):bq w (bw Γ w η hp) [] [] (x.fE hp) v:=by
 cases x with
  |agg cs=>cases hx with|agg _ vs hl h1 hr=>refine .agg _ vs (by simp_all) h1 λj y u hy hu=>?_;grind [jD]
  |_=>exact jD h hm hx
theorem fJ(h:ep w (bw Γ w η hp) η hp)(hm:vM Γ η hp){x:AV}{v:Value}(hx:bq w (bw Γ w η hp) η hp x v):bq w (bw Γ w η hp) [] [] (x.cd hp) v:=by
 cases x with
  |aG cs=>cases hx with|aG _ vs hl hr=>refine .aG _ vs (by simp_all) λj y u hy hu=>?_;grind [lG]
  |bz f cs=>cases hx with|bz _ _ vs hl hr=>refine .bz f _ vs (by simp_all) λj y u hy hu=>?_;grind [lG]
  |_=>exact lG h hm hx
def fieldsOf(tab:Nat->Option TD)(T:Nat):List (Nat×Nat×Bool):=
 match tab T with
 |some d=>(match d.kind with| .cr fs=>fs|_=>[])
 |none=>[]
def AV.isAgg:AV->Bool
 | .agg _=>true|_=>false
def gd(agg:Bool)(size:Nat)(cs:List AV)(o:Nat):Option AV:=if agg then(if o+size<=cs.length then some (.agg ((cs.drop o).take size))else none)else cs[o]?
def zK(agg:Bool)(size:Nat)(e:AV)(o:Nat):Option AV:=if o=0/\e.cells.length=size/\e.isAgg=agg then some e else gd agg size e.cells o
def EE(op:BinOp)(k:IntKind)(a b:Int):Option (Prop×AV):=
 match op with
 | .add=>some (True,.ay (.int k (k.wrap (a+b))))
 | .sub=>some (True,.ay (.int k (k.wrap (a-b))))
 | .mul=>some (True,.ay (.int k (k.wrap (a*b))))
 | .eql=>some (True,.ay (.bool (a==b)))
 | .neq=>some (True,.ay (.bool (a != b)))
 | .lss=>some (True,.ay (.bool (decide (a<b))))
 | .leq=>some (True,.ay (.bool (decide (a<=b))))
 | .gtr=>some (True,.ay (.bool (decide (a>b))))
 | .geq=>some (True,.ay (.bool (decide (a>=b))))
 |_=>none
def lZ(tab:Nat->Option TD)(T:Nat)(op:BinOp)(x y:AV):Option (Prop×AV):=
 match x,y with
 | .ay (.int k a),.ay (.int k' b)=>if k=k' then EE op k a b else none
 | .ay (.bool a),.ay (.bool b)=>
  (match tab T with
   |some d=>(match d.kind,op with
    | .bool,.eql=>some (True,.ay (.bool (a==b)))
    | .bool,.neq=>some (True,.ay (.bool (!(a==b))))
    |_,_=>none)
   |none=>none)
 | .agg [.ay (.int .i64 a1),.ay (.int .i64 a2)],.agg [.ay (.int .i64 b1),.ay (.int .i64 b2)]=>
  (match tab T with
   |some d=>if d.flat then(match op with
    | .eql=>some (True,.ay (.bool (a1==b1&&a2==b2)))
    | .neq=>some (True,.ay (.bool (!(a1==b1&&a2==b2))))
    |_=>none)else none
   |none=>none)
 | .agg [.ay (.int .i64 a0),.ay (.int .i64 a1),.ay (.int .i64 a2),.ay (.string s)],.agg [.ay (.int .i64 b0),.ay (.int .i64 b1),.ay (.int .i64 b2),.ay (.string t)]=>
  (match tab T with
   |some d=>if d.four then(match op with
    | .eql=>some (True,.ay (.bool (a0==b0&&((a1==b1&&a2==b2)&&s.toList==t.toList))))
    | .neq=>some (True,.ay (.bool (!(a0==b0&&((a1==b1&&a2==b2)&&s.toList==t.toList)))))
    |_=>none)else none
   |none=>none)
 |_,_=>none
def Ny:List Prop->Prop
 | []=>True|p::l=>p/\Ny l
def SB(op:BinOp)(k:IntKind)(a b:Int):Option Int:=
 match op with
 | .and=>some (k.wrap (BitVec.ofInt k.bits a &&& BitVec.ofInt k.bits b).toNat)
 | .or=>some (k.wrap (BitVec.ofInt k.bits a ||| BitVec.ofInt k.bits b).toNat)
 | .xor=>some (k.wrap (BitVec.ofInt k.bits a ^^^ BitVec.ofInt k.bits b).toNat)
 | .andNot=>some (k.wrap (BitVec.ofInt k.bits a &&& ~~~ (BitVec.ofInt k.bits b)).toNat)
 |_=>none
def gi(a b:aw):Bool:=a.toList==b.toList
def strLt(a b:aw):Bool:=Op.bytesLess a.toList b.toList
def EF:AV->Option Bool
 | .ptr _ _=>some false| .aU _ _=>some false| .ay (.pointer p)=>some p.isNone|_=>none
def Qr(tab:Nat->Option TD)(T:Nat)(op:BinOp)(x y:AV):Option (List Prop×AV):=
 match y with
 | .ay (.int k' b)=>(match x with
  | .ay (.int k a)=>if k=k' then(match op with
    | .quo=>some ([¬b=0],.ay (.int k (k.wrap (a.tdiv b))))
    | .rem=>some ([¬b=0],.ay (.int k (a.tmod b)))
    |op=>(SB op k a b).map λn=>([],.ay (.int k n)))else none
  |_=>none)
 | .ay (.string b)=>(match x with
  | .ay (.string a)=>(match op with
    | .add=>some ([a.size+b.size<=9223372036854775807],.ay (.string (a++b)))
    | .eql=>some ([],.ay (.bool (gi a b)))
    | .neq=>some ([],.ay (.bool (!(gi a b))))
    | .lss=>some ([],.ay (.bool (strLt a b)))
    | .leq=>some ([],.ay (.bool (strLt a b||gi a b)))
    | .gtr=>some ([],.ay (.bool (!(strLt a b||gi a b))))
    | .geq=>some ([],.ay (.bool (!(strLt a b))))
    |_=>none)
  |_=>none)
 | .ay (.pointer none)=>(match EF x with
  |some b=>(match tab T with
   |some d=>(match d.kind with
    | .ptr _=>(match op with
     | .eql=>some ([],.ay (.bool b))
     | .neq=>some ([],.ay (.bool (!b)))
     |_=>none)
    |_=>none)
   |none=>none)
  |none=>none)
 |_=>none
theorem K2{tab:Nat->Option TD}{T:Nat}{op:BinOp}{x y:AV}{p:List Prop×AV}(h:Qr tab T op x y=some p):lZ tab T op x y=none:=by unfold Qr at h;split at h;split at h;split at h;rename_i hk;subst hk;cases op<;>simp[SB]at h<;>simp[lZ,EE];cases h;cases h;all_goals simp_all [lZ]
def ad2:Operand->Bool
 | .const .nilIface=>true|_=>false
theorem YU{y:Operand}(h:ad2 y=true):y=.const .nilIface:=by grind [ad2]
def YV(tab:Nat->Option TD)(T:Nat)(op:BinOp)(x:AV)(y:Operand):Option AV:=
 match ad2 y with
 |true=>(match tab T,x with
  |some d,.ay .nilIface=>(match d.kind with
   | .ifc=>(match op with
    | .eql=>some (.ay (.bool true))
    | .neq=>some (.ay (.bool false))
    |_=>none)
   |_=>none)
  |_,_=>none)
 |false=>none
def EG(tab:Nat->Option TD)(T:Nat)(op:BinOp)(x y:AV):Option (Prop×AV):=
 match lZ tab T op x y with
 |some r=>some r
 |none=>(Qr tab T op x y).map λp=>(Ny p.1,p.2)
def EH(tab:Nat->Option TD)(S D:Nat)(x:AV):Option AV:=
 match tab S,tab D,x with
 |some _,some d,.ay (.int _ n)=>(match d.kind with
  | .int k=>some (.ay (.int k (k.wrap n)))
  |_=>none)
 |some _,some d,.ay (.string s)=>(match d.kind with
  | .str=>some (.ay (.string s))
  |_=>none)
 |_,_,_=>none
def dV(b:aw)(n:Int):Int:=(((b.data[n.toNat]?).map UInt8.toNat).getD 0:Nat)
def aK{κ:Type}[DecidableEq κ]:List (κ×Value)->κ->Option Value
 | [],_=>none|(k,v)::r,a=>if a=k then some v else aK r a
def AV.C3(hp:List ax):AV->Option ME
 | .eo es=>some es| .mp r=>(match hp[r]? with|some (.cJ es)=>some es|_=>none)|_=>none
def AV.val?:AV->Option Value
 | .ay v=>some v| .agg [.ay a,.ay b,.ay c]=>some (.agg #[a,b,c])|_=>none
def iN{κ:Type}[DecidableEq κ](es:List (κ×Value))(z:Value)(a:κ)(ok:Bool):AV:=if ok=true then .aG [w4 ((aK es a).getD z),.ay (.bool (aK es a).isSome)]else w4 ((aK es a).getD z)
def vU(hp:List ax)(x:AV):Option AV:=
 match x with
 | .ay (.string s)=>some (.ay (.int .i64 s.size))
 |x=>(x.jr hp).map λels=>.ay (.int .i64 els.length)
def AV.oe:AV->Bool
 | .ay v=>v.oneCell'| .top| .aG _| .fY _ _ _ _=>false|_=>true
def zL(n:Nat):List (Nat×Nat×Bool):=(List.range n).map λi=>(i,1,false)
def dQ(fs:List (Nat×Nat×Bool))(cs:List AV):List (Nat×AV)->Option (List AV)
 | []=>some cs|(i,x)::rest=>match fs[i]? with|some p=>if x.cells.length=p.2.1/\p.1+p.2.1<=cs.length/\x.oe=true then dQ fs (setCells cs p.1 x.cells) rest else none|none=>none
def qe:Nat->List (Nat×Operand)->Bool
 |_,[]=>true|k,(i,_)::r=>i==k&&qe (k+1) r
def pc(size:Nat):List AV->Prop
 | []=>True|x::xs=>(x.cells.length=size/\x.oe=true)/\pc size xs
def cq(ρ:Operand->AV)(d:Int):Option Operand->Option Int
 |none=>some d|some x=>(match ρ x with| .ay (.int _ n)=>some n|_=>none)
def vV(hp:List ax):AV->Option (Nat×Nat×Nat×Nat×Nat)
 | .own r m=>(match hp[r]? with|some (.aV e size els)=>some (r,m,e,size,els.length)|_=>none)|_=>none
def bL(tab:Nat->Option TD)(hp:List ax)(ρ:Operand->AV):Op->Option (Prop×AV)
 | .move x=>some (True,ρ x)| .assign x=>some (True,ρ x)| .nilCheck x=>(match ρ x with| .ptr r o=>some (True,.ptr r o)| .aU e o=>some (True,.aU e o)|_=>none)| .pick c x y=>(match ρ c with| .ay (.bool t)=>some (True,if t=true then ρ x else ρ y)|_=>none)| .fieldAddr T x f=>(match (fieldsOf tab T)[f]? with|some p=>if p.2.1=0 then none else(match ρ x with| .ptr r o=>some (True,.ptr r (o+p.1))| .aU e o=>some (True,.aU e (o+p.1))| .fY r m i z=>if p.1=0 then some (True,.fY r m i z)else none|_=>none)|none=>none)| .load T x=>(match tab T with|some d=>(match ρ x with| .ptr r o=>(match hp[r]? with|some (.box cs)=>(gd d.kind.agg d.size cs o).map λv=>(True,v)|_=>none)| .aU e o=>(zK d.kind.agg d.size e o).map λv=>(True,v)| .fY r m i z=>(match hp[r]? with|some (.aV _ z' els)=>if z'=z/\d.size=z then some (m=els.length/\i<els.length/\(els.getD i .top).isAgg=d.kind.agg,els.getD i .top)else none|_=>none)|_=>none)|none=>none)| .indexAddr T x i=>(match tab T with|some d=>(match d.kind with| .kW e=>(match tab e,(ρ x).jr hp,ρ i with|some d',some els,.ay (.int _ n)=>some (0<=n/\n<els.length/\(els.getD n.toNat .top).cells.length=d'.size,.aU (els.getD n.toNat .top) 0)|some d',none,.ay (.int _ n)=>(match vV hp (ρ x)with|some (r,m,e',size,k)=>if e'=e/\size=d'.size then some (0<=n/\n<m/\m=k,.fY r m n.toNat size)else none|none=>none)|_,_,_=>none)| .arr m=>(match ρ x,ρ i with| .ptr r 0,.ay (.int _ n)=>some (0<=n/\n<m,.ptr r n.toNat)| .aU e 0,.ay (.int _ n)=>some (0<=n/\n<m,.aU e n.toNat)|_,_=>none)|_=>none)|none=>none)| .binOp op T x y _=>(match YV tab T op (ρ x) y with|some v=>some (True,v)|none=>EG tab T op (ρ x) (ρ y))| .convert S D x=>(EH tab S D (ρ x)).map λv=>(True,v)| .unOp op _ x=>(match op,ρ x with| .not,.ay (.bool b)=>some (True,.ay (.bool (!b)))| .neg,.ay (.int k n)=>some (True,.ay (.int k (k.wrap (0-n))))|_,_=>none)| .build T parts=>(match tab T with|some d=>(match d.kind with| .cr fs=>(dQ fs (d.zero.cells.toList.map .ay) (parts.toList.map λp=>(p.1,ρ p.2))).map λcs=>(True,.agg cs)| .arr n=>(dQ (zL n) (d.zero.cells.toList.map .ay) (parts.toList.map λp=>(p.1,ρ p.2))).map λcs=>(True,.agg cs)|_=>none)|none=>none)| .buildSlice T n parts=>(match tab T with|some d=>(match d.kind with| .kW e=>(match tab e with|some d'=>if n=parts.toList.length/\qe 0 parts.toList=true/\n<=16777216/\n*d'.size<=16777216 then some (pc d'.size (parts.toList.map λp=>(ρ p.2).cd hp),.clip (parts.toList.map λp=>(ρ p.2).cd hp))else none|none=>none)|_=>none)|none=>none)| .slice T x lo hi mx=>(match tab T with|some d=>(match d.kind,ρ x with| .str,.ay (.string b)=>(match mx,cq ρ 0 lo,cq ρ b.size hi with|none,some l,some h=>some (0<=l/\l<=h/\h<=b.size,.ay (.string (b.extract l.toNat h.toNat)))|_,_,_=>none)| .kW e,v=>(match v.jr hp,tab e with|some els,some d'=>(match cq ρ 0 lo,cq ρ els.length hi,mx.map λm=>cq ρ 0 (some m)with|some l,some h,none=>some (0<=l/\l<=h/\h<=els.length/\(∀y:AV,y∈els->y.cells.length=d'.size),.sl ((els.take h.toNat).drop l.toNat))|some l,some h,some (some m)=>if hi.isSome=true then some (0<=l/\l<=h/\h=m/\h<=els.length/\(∀y:AV,y∈els->y.cells.length=d'.size),.clip ((els.take h.toNat).drop l.toNat))else none|_,_,_=>none)|_,_=>none)|_,_=>none)|none=>none)| .field T x f=>(match (fieldsOf tab T)[f]?,ρ x with|some p,.agg cs=>if p.2.2=true\/p.2.1=1 then(gd p.2.2 p.2.1 cs p.1).map λv=>(True,v)else none|_,_=>none)| .lookup T m k ok=>(match tab T,(ρ m).C3 hp,ρ k with|some d,some (.i es),.ay (.int .i64 a)=>(match d.kind with| .qt kt et=>(match tab kt,tab et with|some dk,some de=>(match dk.kind with| .int _=>some (True,iN es de.zero a ok)|_=>none)|_,_=>none)|_=>none)|some d,some (.s es),.ay (.string a)=>(match d.kind with| .qt kt et=>(match tab kt,tab et with|some dk,some de=>(match dk.kind with| .str=>some (True,iN es de.zero a ok)|_=>none)|_,_=>none)|_=>none)|_,_,_=>none)| .index T x i=>(match tab T,ρ x,ρ i with|some d,.ay (.string b),.ay (.int _ n)=>(match d.kind with| .str=>some (0<=n/\n<b.size,.ay (.int .u8 (dV b n)))|_=>none)|_,_,_=>none)| .extract x i=>(match ρ x with| .aG vs=>(vs[i]?).map λv=>(True,v)|_=>none)| .makeFunc (.func f) first caps=>if first.size=0 then some (True,.bz f (caps.toList.map ρ))else if caps.size=0 then some (True,.dt f (first.toList.map ρ))else none
 | .call c=>(match c.callee,c.args.toList with| .builtin .len,[x]=>(match (c.argTypes[0]?).bind tab with|some d=>(match d.kind,ρ x with| .kW _,.ay (.string _)=>none| .kW _,v=>(match vU hp v with|some u=>some (True,u)|none=>(match vV hp v with|some (_,m,_,_,k)=>some (m=k,.ay (.int .i64 (m:Nat)))|none=>none))| .str,.ay (.string b)=>some (True,.ay (.int .i64 b.size))|_,_=>none)|none=>none)| .builtin .min,[x,y]=>(match ρ x,ρ y with| .ay (.int k m),.ay (.int _ n)=>some (True,.ay (.int k (if n<m then n else m)))|_,_=>none)| .builtin .max,[x,y]=>(match ρ x,ρ y with| .ay (.int k m),.ay (.int _ n)=>some (True,.ay (.int k (if n>m then n else m)))|_,_=>none)|_,_=>none)|_=>none
def fN(Γ:Env G)(o:Oper)(s:AS G)(r:AV):Prop:=∀a w η,Rel Γ s a w η->∃v w',(execOp a.eval o).run Γ.P w=.ok (.value v) w'/\cj w w'/\bq w' (bw Γ w' η s.hp) η s.hp r v
theorem bh{o:Oper}{r:AV}(h:∀a w η,Rel Γ s a w η->∃v,(execOp a.eval o).run Γ.P w=.ok (.value v) w/\bq w (bw Γ w η s.hp) η s.hp r v):fN Γ o s r:=λa w η hr=>by grind [cj.refl]
theorem bq.aB{u v:Value}(h:bq w F η hp (.ay u) v):v=u:=by cases h;rfl
theorem bq.YW{x:AV}{u v:Value}(h:bq w F η hp x v)(hx:x.val?=some u):v=u:=by unfold AV.val? at hx;split at hx;obtain rfl:=auo hx;exact h.aB;obtain rfl:=auo hx;(cases h with|agg cs vs hl h1 hr=>obtain⟨l⟩:=vs;match l,hl with| [x,y,z],_=>obtain rfl:x=_:=(hr 0 _ x rfl rfl).aB;obtain rfl:y=_:=(hr 1 _ y rfl rfl).aB;obtain rfl:z=_:=(hr 2 _ z rfl rfl).aB;rfl);cases hx
theorem fF{agg:Bool}{size:Nat}{cs:List AV}{o:Nat}{r:AV}(cY:agg=false->size=1){vs:List Value}(hl:vs.length=cs.length)(hr:∀(j:Nat)(x:AV)(u:Value),cs[j]?=some x->vs[j]?=some u->bq w F η hp x u/\u.oneCell'=true)(h:gd agg size cs o=some r):o+size<=vs.length/\bq w F η hp r (if agg then .agg ((vs.drop o).take size).toArray else((vs.drop o).take size).headD undef):=by unfold gd at h;cases agg with|true=>simp only[if_true]at h ⊢;split at h;rename_i hle;obtain rfl:=auo h;refine⟨by omega,.agg _ _ (by grind) (λv hv=>?_) λj x v hx hv=>?_⟩;(have hv':v∈(vs.drop o).take size:=by simp_all);obtain⟨k,hk⟩:=avD hv';rw[auL]at hk;split at hk;(rw[avJ]at hk;have aF:o+k<vs.length:=by omega);exact(hr (o+k) (cs[o+k]'(by omega)) v (by simp) hk).2;cases hk;grind;cases h|false=>(simp only[auO,if_false]at h ⊢;have aF:o<cs.length:=by grind);(have h1:=cY rfl;subst h1;refine⟨by omega,?_⟩;have hv:vs[o]?=some (vs[o]'(by omega)):=by simp);(have:((vs.drop o).take 1).headD undef=vs[o]'(by omega):=by simp_all [List.head?_eq_getElem?]);grind
theorem ma{T:TypeId}{d:TD}(ht:gq P T d){b o:Nat}{vs:List Value}(hc:∀(j:Nat)(u:Value),vs[j]?=some u->w.cell? ⟨b,j,none⟩=some u)(hle:o+d.size<=vs.length): (loadVar T ⟨b,o,none⟩).run P w=.ok (if d.kind.agg then .agg ((vs.drop o).take d.size).toArray else((vs.drop o).take d.size).headD undef) w:=by refine ht.run_load (vs:=(vs.drop o).take d.size) (by grind) λj u hj=>?_;grind
theorem vW{b:Nat}{vs:Array Value}{T:TypeId}(hg:w.heap[b]?=some (.cells vs T (0,0)))(j:Nat)(u:Value)(hj:vs.toList[j]?=some u):w.cell? ⟨b,j,none⟩=some u:=by grind [cell_of_row]
theorem bn.sz{tab:Nat->Option TD}(aC:bn P tab){T:Nat}{d:TD}(h:tab T=some d):d.kind.agg=false->d.size=1:=λh1=>((aC T d h).acQ h1).1
theorem C4{tab:Nat->Option TD}(aC:bn Γ.P tab){o:Oper}{T:Nat}{x:Operand}(ho:o.op=.load T x){d:TD}(hd:tab T=some d){r:AV}(h:(∃n off cs,s.ev x=.ptr n off/\s.hp[n]?=some (.box cs)/\gd d.kind.agg d.size cs off=some r)\/(∃e off,s.ev x=.aU e off/\zK d.kind.agg d.size e off=some r)):fN Γ o s r:=by
 refine bh λa w η hr=>?_;have hx:=hr.ev x;have dP:=aC T d hd;rcases h with⟨n,off,cs,he,hn,hld⟩|⟨e,off,he,hld⟩;rw[he]at hx;cases C5:a.eval x<;>rw[C5]at hx<;>cases hx;rename_i b fU;obtain⟨b',vs,T',hb,hg,cY,hc⟩:=hr.heap.obj n _ _ hn fU;simp only[Value.pointer.injEq,aul,Addr.mk.injEq,and_true]at hb;subst hb;obtain⟨h1,h2⟩:=fF (w:=w) (F:=bw Γ w η s.hp) (η:=η) (hp:=s.hp) (aC.sz hd) (vs:=vs.toList) (by simpa using cY) (λj x u hx hu=>hc j x u hx (by simpa using hu)) hld;refine⟨_,?_,h2⟩;simp only[execOp,ho,C5,Instr.loadAt,Instr.sureAddr,ao,aq,al];rw[ma dP (vW hg) h1];rfl
 ·rw[he]at hx;cases C5:a.eval x<;>rw[C5]at hx<;>cases hx;(rename_i b o f aT eD;have ej:∀(j:Nat)(x:AV)(u:Value),e.cells[j]?=some x->((List.range e.cells.length).map f)[j]?=some u->bq w (bw Γ w η s.hp) η s.hp x u/\u.oneCell'=true:=by intro j x u hx hu;have aF:=(aun.1 hx).1;rw[auA,av8 aF]at hu;obtain rfl:=auo hu;exact⟨(eD j x hx).lift,(aT j x hx).2.2⟩);(have gY:∀(j:Nat)(u:Value),((List.range e.cells.length).map f)[j]?=some u->w.cell? ⟨b,o+j,none⟩=some u:=by intro j u hj;rw[auA]at hj;by_cases aF:j<e.cells.length;rw[av8 aF]at hj;obtain rfl:=auo hj;exact(aT j _ (aun.2 ⟨aF,rfl⟩)).1;rw[auQ (by simp;omega)]at hj;cases hj);(have key:off+d.size<=e.cells.length/\bq w (bw Γ w η s.hp) η s.hp r (if d.kind.agg then .agg ((((List.range e.cells.length).map f).drop off).take d.size).toArray else((((List.range e.cells.length).map f).drop off).take d.size).headD undef):=by unfold zK at hld;split at hld;rename_i hc;obtain⟨rfl,hlen,bQ⟩:=hc;obtain rfl:=auo hld;refine⟨by omega,?_⟩;(cases hk:d.kind.agg with|true=>rw[hk]at bQ;(cases e<;>simp only[AV.isAgg]at bQ<;>try (cases bQ;done));rename_i cs;have w5:cs.length=d.size:=hlen;have:=(fF (w:=w) (F:=bw Γ w η s.hp) (η:=η) (hp:=s.hp) (agg:=true) (size:=d.size) (cs:=cs) (o:=0) (r:=.agg cs) (λh=>by cases h) (vs:=(List.range cs.length).map f) (by simp) ej (by simp[gd,<-w5])).2;simpa [AV.cells]using this|false=>(have h1:=aC.sz hd hk;have K3:e.cells=[e]:=by rw[hk]at bQ;cases e<;>first|rfl|(simp[AV.isAgg]at bQ));have:=(fF (w:=w) (F:=bw Γ w η s.hp) (η:=η) (hp:=s.hp) (agg:=false) (size:=d.size) (cs:=e.cells) (o:=0) (r:=e) (λ_=>h1) (vs:=(List.range e.cells.length).map f) (by simp) ej (by rw[K3];rfl)).2;simpa using this);have:=fF (w:=w) (F:=bw Γ w η s.hp) (η:=η) (hp:=s.hp) (aC.sz hd) (vs:=(List.range e.cells.length).map f) (by simp) ej hld;simpa using this);refine⟨_,?_,key.2⟩;simp only[execOp,ho,C5,Instr.loadAt,Instr.sureAddr,ao,aq,al];rw[dP.run_load (vs:=(((List.range e.cells.length).map f).drop off).take d.size) (by simp;omega) (λj u hj=>by rw[auL]at hj;split at hj;rw[avJ]at hj;have:=gY _ _ hj;rw[av1];exact this;·cases hj)];rfl
end
section
variable {G:Type} {Γ:Env G} {s:AS G} {a:Act} {w w':World} {η:List Value} {hp:List ax} {F:Nat->Nat->Prop} {P:Program}
theorem pd{tab:Nat->Option TD}{T:Nat}{f:Nat}{p:Nat×Nat×Bool}(h:(fieldsOf tab T)[f]?=some p):∃d fs,tab T=some d/\d.kind=.cr fs/\fs[f]?=some p:=by grind [fieldsOf]
theorem gq.field{T:Nat}{d:TD}(h:gq P T d){fs:List (Nat×Nat×Bool)}(hk:d.kind=.cr fs){f:Nat}{p:Nat×Nat×Bool}(hf:fs[f]?=some p): ∃fields fd i u,P.underlying T=some (.struct fields)/\fields[f]?=some fd/\fd.offset=p.1/\P.info? fd.type=some i/\i.size=p.2.1/\P.underlying fd.type=some u/\Sy u=p.2.2:=by obtain⟨u,h1,h2⟩:=h.mO;rw[hk]at h2;obtain⟨fields,rfl,h3⟩:=h2;have h4:=congrArg (·[f]?) h3;simp only[auA,hf,auX,avC]at h4;cases hfd:fields[f]? with|none=>simp_all|some fd=>simp_all
theorem qE{tab:Nat->Option TD}(aC:bn Γ.P tab){o:Oper}{T f:Nat}{x:Operand}(ho:o.op=.fieldAddr T x f){p:Nat×Nat×Bool}(hp:(fieldsOf tab T)[f]?=some p)(h0:p.2.1≠0){r:AV}(h:(∃n off,s.ev x=.ptr n off/\r=.ptr n (off+p.1))\/(∃e off,s.ev x=.aU e off/\r=.aU e (off+p.1))):fN Γ o s r:=by (refine bh λa w η hr=>?_;have hx:=hr.ev x;obtain⟨d,fs,hd,hk,hf⟩:=pd hp;obtain⟨fields,fd,i,u,h1,h2,h3,h4,h5,_⟩:=(aC T d hd).field hk hf;have h6:¬i.size=0:=by omega);rcases h with⟨n,off,he,rfl⟩|⟨e,off,he,rfl⟩<;>rw[he]at hx;cases C5:a.eval x<;>rw[C5]at hx<;>cases hx;rename_i b fU;exact⟨.pointer (some ⟨b,off+p.1,none⟩),by simp_all [execOp,Instr.fieldAt,run_underlying,Instr.sureAddr,fieldPlace,sizeOf,typeInfo,Addr.add_lit],.ptr n _ b fU⟩;cases C5:a.eval x<;>rw[C5]at hx<;>cases hx;rename_i b o f' aT eD;refine⟨.pointer (some ⟨b,o+off+p.1,none⟩),by simp_all [execOp,Instr.fieldAt,run_underlying,Instr.sureAddr,fieldPlace,sizeOf,typeInfo,Addr.add_lit],?_⟩;rw[av1];exact .aU e _ b o f' aT eD
theorem yt{tab:Nat->Option TD}(aC:bn Γ.P tab){o:Oper}{T f:Nat}{x:Operand}(ho:o.op=.fieldAddr T x f){p:Nat×Nat×Bool}(hp:(fieldsOf tab T)[f]?=some p)(h0:p.2.1≠0){r m i z:Nat}(he:s.ev x=.fY r m i z)(hz:p.1=0):fN Γ o s (.fY r m i z):=by (refine bh λa w η hr=>?_;have hx:=hr.ev x;obtain⟨d,fs,hd,hk,hf⟩:=pd hp;obtain⟨fields,fd,i',u,h1,h2,h3,h4,h5,_⟩:=(aC T d hd).field hk hf;have h6:¬i'.size=0:=by omega);rw[he]at hx;cases C5:a.eval x<;>rw[C5]at hx<;>cases hx;rename_i b o' c k G2;exact⟨.pointer (some ⟨b,o'+i*z,none⟩),by simp_all [execOp,Instr.fieldAt,run_underlying,Instr.sureAddr,fieldPlace,sizeOf,typeInfo,Addr.add_lit],.fY r m i z b o' c k G2⟩
theorem K4{tab:Nat->Option TD}(aC:bn Γ.P tab){o:Oper}{T:Nat}{x:Operand}(ho:o.op=.load T x){d:TD}(hd:tab T=some d){r m i z e:Nat}{els:List AV}(he:s.ev x=.fY r m i z)(sE:s.hp[r]?=some (.aV e z els))(hm:m=els.length)(Qs:d.size=z)(hi:i<els.length)(bQ:els[i].isAgg=d.kind.agg):fN Γ o s els[i]:=by refine bh λa w η hr=>?_;have hx:=hr.ev x;have dP:=aC T d hd;rw[he]at hx;cases C5:a.eval x<;>rw[C5]at hx<;>cases hx;rename_i b o' c k G2;have zM:=G2;unfold bk at zM;rw[sE]at zM;have fU:=zM.2 hm;obtain⟨Sg,xs,fh,fA⟩:=hr.heap.obj r _ _ sE fU;rcases fh.2 with⟨h0,_⟩|⟨g,cap,cur,hve,h0,⟨Cn,w6,hg⟩,KT,KU,gY,qd⟩;omega;(simp only[Value.slice.injEq,aul,Addr.mk.injEq,and_true]at hve;obtain⟨⟨rfl,rfl⟩,K5,rfl⟩:=hve;have qy:=fA i els[i] (aus hi);have aT:(i+1)*z<=els.length*z:=au6 _ hi;rw[avr,Nat.one_mul]at aT;have hvl:((xs.drop (i*z)).take z).length=z:=by rw[au4,auS,fh.1];omega);(have eh:∀(j:Nat)(u:Value),((xs.drop (i*z)).take z)[j]?=some u->j<z/\xs[i*z+j]?=some u:=by intro j u hj;rw[auL]at hj;split at hj;rename_i aF;rw[avJ]at hj;exact⟨aF,hj⟩;cases hj);(have ej:∀(j:Nat)(y:AV)(u:Value),els[i].cells[j]?=some y->((xs.drop (i*z)).take z)[j]?=some u->bq w (bw Γ w η s.hp) η s.hp y u/\u.oneCell'=true:=by intro j y u hy hu;obtain⟨_,h2⟩:=eh j u hu;obtain⟨u',q1,q2,q3⟩:=qy.2 j y hy;rw[h2]at q1;obtain rfl:=auo q1;exact⟨q2.lift,q3⟩);(have alS:∀(j:Nat)(u:Value),((xs.drop (i*z)).take z)[j]?=some u->w.cell? ⟨b,0+i*z+j,none⟩=some u:=by intro j u hj;obtain⟨h1,h2⟩:=eh j u hj;rw[<-qd,auL]at h2;split at h2;rw[cell_of_row w b (0+i*z+j) cur e (0,Cn) hg,auZ];simpa using h2;cases h2);(have key:bq w (bw Γ w η s.hp) η s.hp els[i] (if d.kind.agg then .agg ((xs.drop (i*z)).take z).toArray else((xs.drop (i*z)).take z).headD undef):=by have hlen:=qy.1;generalize els[i]=el at bQ hlen ej;cases hk:d.kind.agg with|true=>rw[hk]at bQ;(cases el<;>simp only[AV.isAgg]at bQ<;>try (cases bQ;done));rename_i cs;have w5:cs.length=z:=hlen;have:=(fF (w:=w) (F:=bw Γ w η s.hp) (η:=η) (hp:=s.hp) (agg:=true) (size:=z) (cs:=cs) (o:=0) (r:=.agg cs) (λh=>by cases h) (vs:=(xs.drop (i*z)).take z) (by rw[hvl,w5]) ej (by simp[gd,<-w5])).2;simpa [List.take_take]using this|false=>(have h1:=aC.sz hd hk;have K3:el.cells=[el]:=by rw[hk]at bQ;cases el<;>first|rfl|(simp[AV.isAgg]at bQ));have:=(fF (w:=w) (F:=bw Γ w η s.hp) (η:=η) (hp:=s.hp) (agg:=false) (size:=z) (cs:=el.cells) (o:=0) (r:=el) (λ_=>by rw[<-Qs];exact h1) (vs:=(xs.drop (i*z)).take z) (by rw[hvl,hlen]) ej (by rw[K3];rfl)).2;simpa [<-Qs,h1,List.take_take]using this);refine⟨_,?_,key⟩;simp only[execOp,ho,C5,Instr.loadAt,Instr.sureAddr,ao,aq,al];rw[dP.run_load (vs:=(xs.drop (i*z)).take z) (by rw[hvl,Qs]) alS];rfl
theorem zN{tab:Nat->Option TD}(aC:bn Γ.P tab){o:Oper}{T e:Nat}{x i:Operand}(ho:o.op=.indexAddr T x i){d d':TD}(hd:tab T=some d)(hk:d.kind=.kW e)(fj:tab e=some d'){els:List AV}(fA:(s.ev x).jr s.hp=some els){k:IntKind}{n:Int}(hi:s.ev i=.ay (.int k n))(h0:0<=n)(h1:n<els.length)(cY:(els.getD n.toNat .top).cells.length=d'.size):fN Γ o s (.aU (els.getD n.toNat .top) 0):=by (refine bh λa w η hr=>?_;have hx:=lV hr.heap hr.cu (hr.ev x) fA;have K6:=hr.ev i;rw[hi]at K6;have YX:=K6.aB;have hu:Γ.P.underlying T=some (.slice e):=by obtain⟨u,h2,h3⟩:=(aC T d hd).mO;rw[hk]at h3;rw[h2];exact congrArg some h3);(have aF:n.toNat<els.length:=by omega);(have eh:els[n.toNat]?=some (els.getD n.toNat .top):=by simp_all);generalize w7:a.eval x=vx at hx;cases hx with|mV=>simp at aF|sl size els b off c f hc hm hl aT eD=>(have hs:size=d'.size:=by grind);subst hs;obtain⟨i0,Cn,jw,_⟩:=(aC e d' fj).info;refine⟨.pointer (some ⟨b,off+n.toNat*d'.size,none⟩),?_,.aU _ 0 b (off+n.toNat*d'.size) (f n.toNat) (by grind) (by grind)⟩;have hb:0<=n/\n<(els.length:Int):=⟨h0,h1⟩;simp[execOp,ho,w7,YX,Instr.indexAt,asIntOf,run_underlying hu,hb,sizeOf,typeInfo,Cn,jw,Addr.add_lit]
theorem yu{tab:Nat->Option TD}(aC:bn Γ.P tab){o:Oper}{T m:Nat}{x i:Operand}(ho:o.op=.indexAddr T x i){d:TD}(hd:tab T=some d)(hk:d.kind=.arr m){r:Nat}(hx:s.ev x=.ptr r 0){k:IntKind}{n:Int}(hi:s.ev i=.ay (.int k n))(h0:0<=n)(h1:n<m):fN Γ o s (.ptr r n.toNat):=by refine bh λa w η hr=>?_;have eU:=hr.ev x;rw[hx]at eU;have K6:=hr.ev i;rw[hi]at K6;have YX:=K6.aB;obtain⟨u,h2,h3⟩:=(aC T d hd).mO;rw[hk]at h3;obtain⟨e,i0,rfl,Cn,jw⟩:=h3;generalize w7:a.eval x=vx at eU;cases eU with|ptr _ _ b fU=>refine⟨.pointer (some ⟨b,n.toNat,none⟩),?_,.ptr _ _ b fU⟩;have hb:0<=n/\n<(m:Int):=⟨h0,h1⟩;simp[execOp,ho,w7,YX,Instr.indexAt,asIntOf,run_underlying h2,hb,sizeOf,typeInfo,Cn,jw,Addr.add_lit,Instr.sureAddr]
theorem yw{tab:Nat->Option TD}(aC:bn Γ.P tab){o:Oper}{T m:Nat}{x i:Operand}(ho:o.op=.indexAddr T x i){d:TD}(hd:tab T=some d)(hk:d.kind=.arr m){e:AV}(hx:s.ev x=.aU e 0){k:IntKind}{n:Int}(hi:s.ev i=.ay (.int k n))(h0:0<=n)(h1:n<m):fN Γ o s (.aU e n.toNat):=by refine bh λa w η hr=>?_;have eU:=hr.ev x;rw[hx]at eU;have K6:=hr.ev i;rw[hi]at K6;have YX:=K6.aB;obtain⟨u,h2,h3⟩:=(aC T d hd).mO;rw[hk]at h3;obtain⟨e',i0,rfl,Cn,jw⟩:=h3;generalize w7:a.eval x=vx at eU;cases eU with|aU _ _ b q f aT YA=>refine⟨.pointer (some ⟨b,q+n.toNat,none⟩),?_,.aU _ _ b q f aT YA⟩;have hb:0<=n/\n<(m:Int):=⟨h0,h1⟩;simp[execOp,ho,w7,YX,Instr.indexAt,asIntOf,run_underlying h2,hb,sizeOf,typeInfo,Cn,jw,Addr.add_lit,Instr.sureAddr]
theorem rR{hp:List ax}{x:AV}{r m e size k:Nat}(h:vV hp x=some (r,m,e,size,k)):x=.own r m/\∃els,hp[r]?=some (.aV e size els)/\k=els.length:=by unfold vV at h;grind
theorem yx{tab:Nat->Option TD}(aC:bn Γ.P tab){o:Oper}{T e:Nat}{x i:Operand}(ho:o.op=.indexAddr T x i){d d':TD}(hd:tab T=some d)(hk:d.kind=.kW e)(fj:tab e=some d'){r m:Nat}{els:List AV}(hx:s.ev x=.own r m)(sE:s.hp[r]?=some (.aV e d'.size els))(hm:m=els.length){k:IntKind}{n:Int}(hi:s.ev i=.ay (.int k n))(h0:0<=n)(h1:n<m):fN Γ o s (.fY r m n.toNat d'.size):=by (refine bh λa w η hr=>?_;have eU:=hr.ev x;rw[hx]at eU;have K6:=hr.ev i;rw[hi]at K6;have YX:=K6.aB;have hu:Γ.P.underlying T=some (.slice e):=by obtain⟨u,h2,h3⟩:=(aC T d hd).mO;rw[hk]at h3;rw[h2];exact congrArg some h3);generalize w7:a.eval x=vx at eU;cases eU with|own _ _ _ yy G2=>have zM:=G2;unfold bk at zM;rw[sE]at zM;have fU:=zM.2 hm;obtain⟨Si,xs,fh,_⟩:=hr.heap.obj r _ _ sE fU;rcases fh.2 with⟨hz,_⟩|⟨g,cap,cur,rfl,_⟩;omega;rw[<-hm]at G2 w7;obtain⟨i0,Cn,jw,_⟩:=(aC e d' fj).info;refine⟨.pointer (some ⟨g,0+n.toNat*d'.size,none⟩),?_,.fY r m n.toNat d'.size g 0 cap m G2⟩;have hb:0<=n/\n<(m:Int):=⟨h0,h1⟩;simp[execOp,ho,w7,YX,Instr.indexAt,asIntOf,run_underlying hu,hb,sizeOf,typeInfo,Cn,jw,Addr.add_lit]
theorem K7{tab:Nat->Option TD}(aC:bn Γ.P tab){o:Oper}{T T':Nat}{op:BinOp}{x y:Operand}(ho:o.op=.binOp op T x y T'){c:Prop}{r:AV}(h:lZ tab T op (s.ev x) (s.ev y)=some (c,r))(_hc:c):fN Γ o s r:=by
 refine bh λa w η hr=>?_;have hx:=hr.ev x;have hy:=hr.ev y;unfold lZ at h;split at h;rename_i k m k' n e1 e2;rw[e1]at hx;rw[e2]at hy;have lF:=hx.aB;have K8:=hy.aB;split at h
 ·rename_i hkk;subst hkk;unfold EE at h;split at h<;>first
   |cases h;done
   |(simp only[aul,aup]at h;obtain⟨_,rfl⟩:=h;exact⟨_,by simp[execOp,ho,lF,K8,eqGuard,binOp,Op.intArith,Op.intCmp];try rfl,.ay _⟩)
 cases h;rename_i b1 b2 e1 e2;rw[e1]at hx;rw[e2]at hy;have lF:=hx.aB;have K8:=hy.aB;split at h;rename_i d hd;obtain⟨u,h2,h3⟩:=(aC T d hd).mO;split at h;rename_i hk;rw[hk]at h3;have hu:Γ.P.underlying T=some .bool:=by rw[h2];exact congrArg some h3
 simp only[aul,aup]at h;obtain⟨_,rfl⟩:=h;have he:(Op.equal T (.bool b1) (.bool b2)).run Γ.P w=.ok (b1==b2) w:=run_equalIn_bool' w 9999 T b1 b2 hu;refine⟨_,?_,.ay _⟩;simp only[execOp,ho,lF,K8,eqGuard,binOp,ao,avz,auO,if_false,he,al,aq];rename_i hk;rw[hk]at h3;have hu:Γ.P.underlying T=some .bool:=by rw[h2];exact congrArg some h3
 simp only[aul,aup]at h;obtain⟨_,rfl⟩:=h;have he:(Op.equal T (.bool b1) (.bool b2)).run Γ.P w=.ok (b1==b2) w:=run_equalIn_bool' w 9999 T b1 b2 hu;refine⟨_,?_,.ay _⟩;simp only[execOp,ho,lF,K8,eqGuard,binOp,ao,avz,auO,if_false,he,al,aq];cases h;cases h;rename_i a1 a2 b1 b2 e1 e2;rw[e1]at hx;rw[e2]at hy;have SC:∀{m1 m2:Int}{v:Value},bq w (bw Γ w η s.hp) η s.hp (.agg [.ay (.int .i64 m1),.ay (.int .i64 m2)]) v->v=.agg #[.int .i64 m1,.int .i64 m2]:=by intro m1 m2 v hv;cases hv with|agg cs vs hl h1 hr=>obtain⟨vs⟩:=vs;match vs,hl with| [u1,u2],_=>have q1:=(hr 0 _ u1 rfl rfl).aB;have q2:=(hr 1 _ u2 rfl rfl).aB;rw[q1,q2]
 have lF:=SC hx;have K8:=SC hy;split at h;rename_i d hd;split at h;rename_i hfl;obtain⟨g1,g2⟩:=(aC T d hd).feq hfl;split at h;simp only[aul,aup]at h;obtain⟨_,rfl⟩:=h;refine⟨.bool (a1==b1&&a2==b2),?_,.ay _⟩;have:=run_eql_struct (P:=Γ.P) w T #[.int .i64 a1,.int .i64 a2] #[.int .i64 b1,.int .i64 b2];rw[g2]at this;simp only[al]at this;simp only[execOp,ho,lF,K8,ao,run_eqGuard_agg (P:=Γ.P) w _ T x y _ _ g1,al,this];rfl;simp only[aul,aup]at h;obtain⟨_,rfl⟩:=h;refine⟨.bool (!(a1==b1&&a2==b2)),?_,.ay _⟩;have:=run_neq_struct (P:=Γ.P) w T #[.int .i64 a1,.int .i64 a2] #[.int .i64 b1,.int .i64 b2];rw[g2]at this;simp only[al]at this;simp only[execOp,ho,lF,K8,ao,run_eqGuard_agg (P:=Γ.P) w _ T x y _ _ g1,al,this];rfl;cases h;cases h;cases h;rename_i a0 a1 a2 t1 b0 b1 b2 t2 e1 e2;rw[e1]at hx;rw[e2]at hy;have SC:∀{m0 m1 m2:Int}{m3:aw}{v:Value},bq w (bw Γ w η s.hp) η s.hp (.agg [.ay (.int .i64 m0),.ay (.int .i64 m1),.ay (.int .i64 m2),.ay (.string m3)]) v->v=.agg #[.int .i64 m0,.int .i64 m1,.int .i64 m2,.string m3]:=by intro m0 m1 m2 m3 v hv;cases hv with|agg cs vs hl h1 hr=>obtain⟨vs⟩:=vs;match vs,hl with| [u1,u2,u3,u4],_=>have q1:=(hr 0 _ u1 rfl rfl).aB;have q2:=(hr 1 _ u2 rfl rfl).aB;have q3:=(hr 2 _ u3 rfl rfl).aB;have q4:=(hr 3 _ u4 rfl rfl).aB;rw[q1,q2,q3,q4]
 have lF:=SC hx;have K8:=SC hy;split at h;rename_i d hd;split at h;rename_i hfl;obtain⟨g1,g2⟩:=(aC T d hd).alM hfl;split at h;simp only[aul,aup]at h;obtain⟨_,rfl⟩:=h;refine⟨.bool (a0==b0&&((a1==b1&&a2==b2)&&t1.toList==t2.toList)),?_,.ay _⟩;have:=run_eql_struct (P:=Γ.P) w T #[.int .i64 a0,.int .i64 a1,.int .i64 a2,.string t1] #[.int .i64 b0,.int .i64 b1,.int .i64 b2,.string t2];rw[g2]at this;simp only[al]at this;simp only[execOp,ho,lF,K8,ao,run_eqGuard_agg (P:=Γ.P) w _ T x y _ _ g1,al,this];rfl;simp only[aul,aup]at h;obtain⟨_,rfl⟩:=h;refine⟨.bool (!(a0==b0&&((a1==b1&&a2==b2)&&t1.toList==t2.toList))),?_,.ay _⟩;have:=run_neq_struct (P:=Γ.P) w T #[.int .i64 a0,.int .i64 a1,.int .i64 a2,.string t1] #[.int .i64 b0,.int .i64 b1,.int .i64 b2,.string t2];rw[g2]at this;simp only[al]at this;simp only[execOp,ho,lF,K8,ao,run_eqGuard_agg (P:=Γ.P) w _ T x y _ _ g1,al,this];rfl;cases h;cases h;cases h;cases h
theorem ir(h:Rel Γ s a w η):∀l:List Operand,cC w (bw Γ w η s.hp) η s.hp (l.map s.ev) (l.map a.eval)
 | []=>ai|x::l=>⟨h.ev x,ir h l⟩
theorem Ct{o:Oper}{f:Nat}{first caps:Array Operand}(ho:o.op=.makeFunc (.func f) first caps)(h0:first.size=0):fN Γ o s (.bz f (caps.toList.map s.ev)):=by refine bh λa w η hr=>⟨.func (.func f) #[] (caps.map a.eval),?_,.bz f _ _ (by simp) λj x v hx hv=>?_⟩;simp_all [execOp,Instr.makeFunc];exact(ir hr caps.toList).get j x v hx (by simp_all)
theorem yz{o:Oper}{f:Nat}{first caps:Array Operand}(ho:o.op=.makeFunc (.func f) first caps)(h0:caps.size=0):fN Γ o s (.dt f (first.toList.map s.ev)):=by refine bh λa w η hr=>⟨.func (.func f) (first.map a.eval) #[],?_,.dt f _ _ (by simp) λj x v hx hv=>?_⟩;simp_all [execOp,Instr.makeFunc];exact(ir hr first.toList).get j x v hx (by simp_all)
theorem Qt{o:Oper}{c x y:Operand}{t:Bool}(ho:o.op=.pick c x y)(hc:s.ev c=.ay (.bool t)):fN Γ o s (if t=true then s.ev x else s.ev y):=by refine bh λa w η hr=>?_;have h:=hr.ev c;rw[hc]at h;have hv:=h.aB;cases t with|true=>exact⟨a.eval x,by simp_all [execOp,asBool],by simpa using hr.ev x⟩|false=>exact⟨a.eval y,by simp_all [execOp,asBool],by simpa using hr.ev y⟩
theorem rS{w:World}{η:List Value}{hp:List ax}{F:Nat->Nat->Prop}{x:AV}{b:Bool}(h:EF x=some b){v:Value}(hx:bq w F η hp x v):∃p,v=.pointer p/\p.isNone=b:=by unfold EF at h;split at h;cases hx;simp_all;cases hx;simp_all;cases hx;simp_all;cases h
theorem Qu{tab:Nat->Option TD}(aC:bn Γ.P tab){o:Oper}{T T':Nat}{op:BinOp}{x y:Operand}(ho:o.op=.binOp op T x y T'){cs:List Prop}{r:AV}(h:Qr tab T op (s.ev x) (s.ev y)=some (cs,r))(hc:Ny cs):fN Γ o s r:=by
 unfold Qr at h;split at h;rename_i k' b hy;split at h;rename_i k a hx;split at h;rename_i hk;subst hk;refine bh λac w η hr=>?_;have h1:=hr.ev x;have h2:=hr.ev y;rw[hx]at h1;rw[hy]at h2;have h1:=h1.aB;have h2:=h2.aB;split at h;simp only[aul,aup]at h;obtain⟨rfl,rfl⟩:=h;exact⟨_,by simp[execOp,ho,h1,h2,eqGuard,binOp,Op.intDiv,hc.1],.ay _⟩;simp only[aul,aup]at h;obtain⟨rfl,rfl⟩:=h;exact⟨_,by simp[execOp,ho,h1,h2,eqGuard,binOp,Op.intDiv,hc.1],.ay _⟩
 ·obtain⟨n,hn,he⟩:=ave.1 h;simp only[aup]at he;obtain⟨rfl,rfl⟩:=he;refine⟨_,?_,.ay _⟩;unfold SB at hn;split at hn<;>first|cases hn;done|(obtain rfl:=auo hn;simp[execOp,ho,h1,h2,eqGuard,binOp,Op.intBits])
 cases h;cases h;rename_i b hy;split at h
 ·rename_i a hx;refine bh λac w η hr=>?_;have h1:=hr.ev x;have h2:=hr.ev y;rw[hx]at h1;rw[hy]at h2;have h1:=h1.aB;have h2:=h2.aB;split at h;(all_goals first|(cases h;done)|skip);(all_goals simp only[aul,aup]at h);(all_goals obtain⟨rfl,rfl⟩:=h);have Nz:a.size+b.size<=9223372036854775807:=hc.1;refine⟨_,?_,.ay _⟩;simp[execOp,ho,h1,h2,eqGuard,binOp,Op.stringOp,show IntKind.i64.max=9223372036854775807 from rfl];omega;all_goals exact⟨_,by simp[execOp,ho,h1,h2,eqGuard,binOp,Op.stringOp,gi,strLt],.ay _⟩
 cases h;rename_i hy;split at h;rename_i b hb;split at h;rename_i d hd;split at h;rename_i e hk;have hu:Γ.P.underlying T=some (.pointer (Γ.P.pointee T)):=by (obtain⟨u,q2,q3⟩:=(aC T d hd).mO;rw[hk]at q3;have:Γ.P.underlying T=some (.pointer e):=by rw[q2];exact congrArg some q3);grind [Program.pointee]
 split at h;simp only[aul,aup]at h;obtain⟨rfl,rfl⟩:=h;refine bh λa w η hr=>?_;obtain⟨p,hp,hpn⟩:=rS hb (hr.ev x);have h2:=hr.ev y;rw[hy]at h2;have h2:=h2.aB;refine⟨.bool b,?_,.ay _⟩;simp_all [execOp,eqGuard,run_eql_pointer_nil];simp only[aul,aup]at h;obtain⟨rfl,rfl⟩:=h;refine bh λa w η hr=>?_;obtain⟨p,hp,hpn⟩:=rS hb (hr.ev x);have h2:=hr.ev y;rw[hy]at h2;have h2:=h2.aB;refine⟨.bool (!b),?_,.ay _⟩;simp_all [execOp,eqGuard,run_neq_pointer_nil];cases h;cases h;cases h;cases h;cases h
theorem EI{P:Program}(w:World)(k:Nat)(T:TypeId){ms:Array (String×TypeId)}(hu:P.underlying T=some (.interface ms)):(Op.equalIn (k+1) T .nilIface .nilIface).run P w=.ok true w:=by simp[Op.equalIn,run_underlying hu]
theorem og{P:Program}(w:World)(T:TypeId){ms:Array (String×TypeId)}(hu:P.underlying T=some (.interface ms)):(Op.equal T .nilIface .nilIface).run P w=.ok true w:=EI w 9999 T hu
theorem SD{tab:Nat->Option TD}(aC:bn Γ.P tab){o:Oper}{T T':Nat}{op:BinOp}{x y:Operand}(ho:o.op=.binOp op T x y T'){r:AV}(h:YV tab T op (s.ev x) y=some r):fN Γ o s r:=by unfold YV at h;split at h;rename_i hy;split at h;rename_i d hd hx;split at h;rename_i hk;obtain⟨u,q2,q3⟩:=(aC T d hd).mO;rw[hk]at q3;obtain⟨ms,rfl⟩:=q3;obtain rfl:=YU hy;split at h;obtain rfl:=auo h;refine bh λa w η hr=>?_;have h1:=hr.ev x;rw[hx]at h1;have h1:=h1.aB;have he:a.eval (.const .nilIface)=.nilIface:=rfl;refine⟨.bool true,?_,.ay _⟩;simp_all [execOp,eqGuard_nil_constR,binOp,og];obtain rfl:=auo h;refine bh λa w η hr=>?_;have h1:=hr.ev x;rw[hx]at h1;have h1:=h1.aB;have he:a.eval (.const .nilIface)=.nilIface:=rfl;refine⟨.bool false,?_,.ay _⟩;simp_all [execOp,eqGuard_nil_constR,binOp,og];cases h;cases h;cases h;cases h
theorem He{tab:Nat->Option TD}(aC:bn Γ.P tab){o:Oper}{T T':Nat}{op:BinOp}{x y:Operand}(ho:o.op=.binOp op T x y T'){c:Prop}{r:AV}(h:EG tab T op (s.ev x) (s.ev y)=some (c,r))(hc:c):fN Γ o s r:=by grind [EG,K7,ave,Qu]
theorem SE{tab:Nat->Option TD}(aC:bn Γ.P tab){o:Oper}{S D:Nat}{x:Operand}(ho:o.op=.convert S D x){r:AV}(h:EH tab S D (s.ev x)=some r):fN Γ o s r:=by unfold EH at h;split at h;rename_i d1 d k n hS hD hx;split at h;(rename_i k2 hk;obtain rfl:=auo h;refine bh λa w η hr=>?_;have h1:=hr.ev x;rw[hx]at h1;have h1:=h1.aB;obtain⟨u1,q1,_⟩:=(aC S d1 hS).mO;have hu:Γ.P.underlying D=some (.int k2):=by obtain⟨u,q2,q3⟩:=(aC D d hD).mO;rw[hk]at q3;rw[q2];exact congrArg some q3);refine⟨.int k2 (k2.wrap n),?_,.ay _⟩;simp only[execOp,ho,h1,convert,ao,run_underlying q1,run_underlying hu,al];rfl;cases h;rename_i d1 d t hS hD hx;split at h;(rename_i hk;obtain rfl:=auo h;refine bh λa w η hr=>?_;have h1:=hr.ev x;rw[hx]at h1;have h1:=h1.aB;obtain⟨u1,q1,_⟩:=(aC S d1 hS).mO;have hu:Γ.P.underlying D=some .string:=by obtain⟨u,q2,q3⟩:=(aC D d hD).mO;rw[hk]at q3;rw[q2];exact congrArg some q3);simp_all [execOp,convert,run_underlying];cases h;cases h
theorem C6{o:Oper}{op:UnOp}{T:Nat}{x:Operand}(ho:o.op=.unOp op T x){r:AV}(h:(∃b,op=.not/\s.ev x=.ay (.bool b)/\r=.ay (.bool (!b)))\/(∃k n,op=.neg/\s.ev x=.ay (.int k n)/\r=.ay (.int k (k.wrap (0-n))))):fN Γ o s r:=by refine bh λa w η hr=>?_;have hx:=hr.ev x;rcases h with⟨b,rfl,he,rfl⟩|⟨k,n,rfl,he,rfl⟩<;>rw[he]at hx;exact⟨_,by simp[execOp,ho,hx.aB,Op.unary],.ay _⟩;exact⟨_,by simp[execOp,ho,hx.aB,Op.unary,Op.intArith],.ay _⟩
theorem EJ{o:Oper}{x:Operand}{i:Nat}(ho:o.op=.extract x i){vs:List AV}{r:AV}(he:s.ev x=.aG vs)(hi:vs[i]?=some r):fN Γ o s r:=by refine bh λa w η hr=>?_;have hx:=hr.ev x;rw[he]at hx;generalize hv:a.eval x=v at hx;cases hx with|aG cs us hl eD=>(have aF:i<us.size:=by grind);(have hu:us[i]?=some us[i]:=by simp[aF]);exact⟨us[i],by simp[execOp,ho,hv,Instr.extract,hu],eD i r _ hi hu⟩
theorem K9{tab:Nat->Option TD}(aC:bn Γ.P tab){o:Oper}{T f:Nat}{x:Operand}(ho:o.op=.field T x f){p:Nat×Nat×Bool}(hp:(fieldsOf tab T)[f]?=some p){cs:List AV}(hx:s.ev x=.agg cs){r:AV}(h:gd p.2.2 p.2.1 cs p.1=some r)(h1:p.2.2=false->p.2.1=1):fN Γ o s r:=by refine bh λa w η hr=>?_;have eU:=hr.ev x;rw[hx]at eU;obtain⟨d,fs,hd,hk,hf⟩:=pd hp;obtain⟨fields,fd,i,u,e1,e2,e3,e4,e5,e6,e7⟩:=(aC T d hd).field hk hf;generalize hv:a.eval x=v at eU;cases eU with|agg _ vs hl yy eD=>(obtain⟨g1,g2⟩:=fF (w:=w) (F:=bw Γ w η s.hp) (η:=η) (hp:=s.hp) h1 (vs:=vs.toList) (by omega) (by grind) h;refine⟨_,?_,g2⟩;have bQ:(isAgg fd.type).run Γ.P w=.ok p.2.2 w:=by rw[<-e7];simp only[isAgg,ao,run_underlying e6,al];cases u<;>rfl);simp only[execOp,ho,hv,Instr.field,ao,run_underlying e1,al,e2,asAgg,aq,part,bQ];cases Co:p.2.2 with|true=>simp only[if_true,ao,sizeOf,typeInfo,run_program,al,e4,aq,e5,e3];congr 2;apply congrArg;grind|false=>(have hs:=h1 Co;rw[hs]at g1 ⊢;have aF:p.1<vs.size:=by assumption);(have hu:vs[p.1]?=some vs[p.1]:=by simp[aF]);simp only[auO,if_false,e3,hu,aq,al];congr 2;(have:(vs.toList.drop p.1).take 1=[vs[p.1]]:=by apply avf;grind);simp_all
end
section
variable {G:Type} {Γ:Env G} {s:AS G} {a:Act} {w w':World} {η:List Value} {hp:List ax} {F:Nat->Nat->Prop} {P:Program}
theorem bq.SF{els:List AV}{v:Value}(h:bq w F η hp (.sl els) v):∃a c,v=.slice a els.length c:=by cases h with|mV a=>exact⟨a,0,rfl⟩|sl size els b o c f hc hm hl aT hr=>exact⟨_,c,rfl⟩
theorem kY{o:Oper}{c:Call}{b:Builtin}(ho:o.op=.call c)(hb:c.callee=.builtin b){l:List Operand}(hl:c.args.toList=l){r:AV}(h:∀a w η,Rel Γ s a w η->∃v w',(builtin b c.argTypes o.type ((c.args.map λ| .const _=>true|_=>false)) (l.map a.eval).toArray).run Γ.P w=.ok (.value v) w'/\cj w w'/\bq w' (bw Γ w' η s.hp) η s.hp r v):fN Γ o s r:=by (intro a w η hr;obtain⟨v,w',h1,h2,h3⟩:=h a w η hr;refine⟨v,w',?_,h2,h3⟩;have:c.args.map a.eval=(l.map a.eval).toArray:=by rw[<-hl];apply avR;simp);simp only[execOp,ho,resolve,hb,ao,aq,al,invoke,this];exact h1
theorem Hf{tab:Nat->Option TD}(aC:bn Γ.P tab){o:Oper}{c:Call}(ho:o.op=.call c)(hb:c.callee=.builtin .len){x:Operand}(hl:c.args.toList=[x]){T:Nat}(hT:c.argTypes[0]?=some T){d:TD}(hd:tab T=some d){r:AV}(h:(∃e els,d.kind=.kW e/\(s.ev x).jr s.hp=some els/\r=.ay (.int .i64 els.length))\/(∃b,d.kind=.str/\s.ev x=.ay (.string b)/\r=.ay (.int .i64 b.size))):fN Γ o s r:=by refine kY ho hb hl λa w η hr=>?_;obtain⟨u,h2,h3⟩:=(aC T d hd).mO;rcases h with⟨e,els,hk,fA,rfl⟩|⟨b,hk,he,rfl⟩<;>rw[hk]at h3;(have hu:Γ.P.underlying T=some (.slice e):=by rw[h2];exact congrArg some h3);obtain⟨a0,c0,hv⟩:=(lV hr.heap hr.cu (hr.ev x) fA).SF;exact⟨_,w,by simp[builtin,Builtin.len_,hT,hv,run_underlying hu,goInt],cj.refl w,.ay _⟩;(have hu:Γ.P.underlying T=some .string:=by rw[h2];exact congrArg some h3);have hx:=hr.ev x;rw[he]at hx;exact⟨_,w,by simp[builtin,Builtin.len_,hT,hx.aB,run_underlying hu,goInt],cj.refl w,.ay _⟩
theorem Qv{tab:Nat->Option TD}(aC:bn Γ.P tab){o:Oper}{c:Call}(ho:o.op=.call c)(hb:c.callee=.builtin .len){x:Operand}(hl:c.args.toList=[x]){T:Nat}(hT:c.argTypes[0]?=some T){d:TD}(hd:tab T=some d){e r m e' z:Nat}{els:List AV}(hk:d.kind=.kW e)(he:s.ev x=.own r m)(sE:s.hp[r]?=some (.aV e' z els))(hm:m=els.length):fN Γ o s (.ay (.int .i64 (m:Nat))):=by (refine kY ho hb hl λa w η hr=>?_;obtain⟨u,h2,h3⟩:=(aC T d hd).mO;rw[hk]at h3;have hu:Γ.P.underlying T=some (.slice e):=by rw[h2];exact congrArg some h3);have hx:=hr.ev x;rw[he]at hx;generalize hv:a.eval x=v at hx;cases hx with|own _ _ _ h1 G2=>(unfold bk at G2;rw[sE]at G2;obtain⟨Sg,xs,fh,_⟩:=hr.heap.obj r _ _ sE (G2.2 hm);obtain⟨a0,c0,rfl⟩:∃a0 c0,v=.slice a0 m c0:=by rcases fh.2 with⟨h0,rfl|⟨ad,rfl⟩⟩|⟨g,cap,cur,rfl,_⟩;exact⟨_,_,by rw[hm,h0]⟩;exact⟨_,_,by rw[hm,h0]⟩;exact⟨_,_,by rw[hm]⟩);exact⟨_,w,by simp[builtin,Builtin.len_,hT,hv,run_underlying hu,goInt],cj.refl w,.ay _⟩
theorem SG{o:Oper}{c:Call}(ho:o.op=.call c)(hb:c.callee=.builtin .min){x y:Operand}(hl:c.args.toList=[x,y]){k k':IntKind}{m n:Int}(hx:s.ev x=.ay (.int k m))(hy:s.ev y=.ay (.int k' n)):fN Γ o s (.ay (.int k (if n<m then n else m))):=by refine kY ho hb hl λa w η hr=>?_;have h1:=hr.ev x;have h2:=hr.ev y;rw[hx]at h1;rw[hy]at h2;exact⟨_,w,by simp[builtin,Builtin.min_,h1.aB,h2.aB,Builtin.min2],cj.refl w,.ay _⟩
theorem SH{o:Oper}{c:Call}(ho:o.op=.call c)(hb:c.callee=.builtin .max){x y:Operand}(hl:c.args.toList=[x,y]){k k':IntKind}{m n:Int}(hx:s.ev x=.ay (.int k m))(hy:s.ev y=.ay (.int k' n)):fN Γ o s (.ay (.int k (if n>m then n else m))):=by refine kY ho hb hl λa w η hr=>?_;have h1:=hr.ev x;have h2:=hr.ev y;rw[hx]at h1;rw[hy]at h2;exact⟨_,w,by simp[builtin,Builtin.max_,h1.aB,h2.aB,Builtin.max2],cj.refl w,.ay _⟩
def gj(cs:List Value)(off:Nat):List Value->List Value
 | []=>cs|x::xs=>gj (cs.set off x) (off+1) xs
theorem iO(xs:List Value):∀(cs:List Value)(off:Nat),(gj cs off xs).length=cs.length:=by induction xs with|nil=>intro cs off;rfl|cons x xs ih=>intro cs off;simp[gj,ih]
def sT(w:World)(F:Nat->Nat->Prop)(η:List Value)(hp:List ax)(cs:List AV)(vs:List Value):Prop:=vs.length=cs.length/\∀(j:Nat)(x:AV)(u:Value),cs[j]?=some x->vs[j]?=some u->bq w F η hp x u/\u.oneCell'=true
theorem sT.set{cs:List AV}{vs:List Value}(h:sT w F η hp cs vs)(off:Nat){x:AV}{u:Value}(hx:bq w F η hp x u)(h1:u.oneCell'=true):sT w F η hp (cs.set off x) (vs.set off u):=by refine⟨by simp[h.1],λj y z hy hz=>?_⟩;by_cases hj:off=j;subst hj;rw[avq]at hy hz;simp only[if_true]at hy hz;split at hy;rename_i h2;rw[h.1,if_pos h2]at hz;obtain rfl:=auo hy;obtain rfl:=auo hz;exact⟨hx,h1⟩;cases hy;rw[getElem?_set_ne hj]at hy hz;exact h.2 j y z hy hz
theorem sT.ad3(xs:List AV):∀{us:List Value}{cs:List AV}{vs:List Value}(off:Nat),sT w F η hp cs vs->sT w F η hp xs us->sT w F η hp (setCells cs off xs) (gj vs off us):=by induction xs with|nil=>intro us cs vs off h hu;have:us=[]:=auV hu.1;subst this;exact h|cons x xs ih=>intro us cs vs off h hu;match us,hu with| [],hu=>exact absurd hu.1 (by simp)|u::us,hu=>have h0:=hu.2 0 x u rfl rfl;exact ih (off+1) (h.set off h0.1 h0.2) ⟨by simpa using hu.1,λj y z hy hz=>hu.2 (j+1) y z (by simpa using hy) (by simpa using hz)⟩
theorem bq.Hg{x:AV}{v:Value}(h:bq w F η hp x v)(hs:x.oe=true):sT w F η hp x.cells v.cells.toList:=by
 have one:x.isAgg=false->x.Sx=true:=by cases x<;>simp_all [AV.oe,AV.isAgg,AV.Sx]
 cases h with
  |agg cs vs hl h1 hr=>exact⟨by simpa [AV.cells,Value.cells]using hl,λj y u hy hu=>⟨hr j y u hy (by simpa [Value.cells]using hu),h1 u (by have:=auu hu;simpa [Value.cells]using this)⟩⟩|top v=>simp[AV.oe]at hs|aG cs vs hl hr=>simp[AV.oe]at hs|ay v=>(have h1:v.oneCell'=true:=hs;refine⟨by cases v<;>simp_all [AV.cells,Value.cells,Value.oneCell'],λj y u hy hu=>?_⟩;have hv:v.cells=#[v]:=by cases v<;>simp_all [Value.cells,Value.oneCell']);rw[hv]at hu;cases j with|zero=>simp[AV.cells]at hy hu;subst hy;subst hu;exact⟨.ay _,h1⟩|succ j=>simp[AV.cells]at hy
  |own r n v h1 h2=>(refine⟨by cases v<;>simp_all [AV.cells,Value.cells,Value.oneCell'],λj y u hy hu=>?_⟩;have hv:v.cells=#[v]:=by cases v<;>simp_all [Value.cells,Value.oneCell']);rw[hv]at hu;cases j with|zero=>simp[AV.cells]at hy hu;subst hy;subst hu;exact⟨.own r n _ h1 h2,h1⟩|succ j=>simp[AV.cells]at hy
  |fn v h1=>(refine⟨by cases v<;>simp_all [AV.cells,Value.cells,Value.oneCell'],λj y u hy hu=>?_⟩;have hv:v.cells=#[v]:=by cases v<;>simp_all [Value.cells,Value.oneCell']);rw[hv]at hu;cases j with|zero=>simp[AV.cells]at hy hu;subst hy;subst hu;exact⟨.fn _ h1,h1⟩|succ j=>simp[AV.cells]at hy
  |mV a=>exact⟨rfl,λj y u hy hu=>by cases j<;>simp[AV.cells,Value.cells]at hy hu;subst hy;subst hu;exact⟨.mV a,rfl⟩⟩|jv a=>exact⟨rfl,λj y u hy hu=>by cases j<;>simp[AV.cells,Value.cells]at hy hu;subst hy;subst hu;exact⟨.jv a,rfl⟩⟩|sl size els b o c f hc hm hl aT hr=>exact⟨rfl,λj y u hy hu=>by cases j<;>simp[AV.cells,Value.cells]at hy hu;subst hy;subst hu;exact⟨.sl size els b o c f hc hm hl aT hr,rfl⟩⟩|clip size els b o f hm hl aT hr=>exact⟨rfl,λj y u hy hu=>by cases j<;>simp[AV.cells,Value.cells]at hy hu;subst hy;subst hu;exact⟨.clip size els b o f hm hl aT hr,rfl⟩⟩|ptr r off b h=>exact⟨rfl,λj y u hy hu=>by cases j<;>simp[AV.cells,Value.cells]at hy hu;subst hy;subst hu;exact⟨.ptr r off b h,rfl⟩⟩|aU e off b o f aT hr=>exact⟨rfl,λj y u hy hu=>by cases j<;>simp[AV.cells,Value.cells]at hy hu;subst hy;subst hu;exact⟨.aU e off b o f aT hr,rfl⟩⟩|bz fn cs vs hl hr=>exact⟨rfl,λj y u hy hu=>by cases j<;>simp[AV.cells,Value.cells]at hy hu;subst hy;subst hu;exact⟨.bz fn cs vs hl hr,rfl⟩⟩|mp r b h=>exact⟨rfl,λj y u hy hu=>by cases j<;>simp[AV.cells,Value.cells]at hy hu;subst hy;subst hu;exact⟨.mp r b h,rfl⟩⟩|fY r n i size b o c k h=>simp[AV.oe]at hs|dt fn cs vs hl hr=>exact⟨rfl,λj y u hy hu=>by cases j<;>simp[AV.cells,Value.cells]at hy hu;subst hy;subst hu;exact⟨.dt fn cs vs hl hr,rfl⟩⟩|eo b es c h hF l hl=>exact⟨rfl,λj y u hy hu=>by cases j<;>simp[AV.cells,Value.cells]at hy hu;subst hy;subst hu;exact⟨.eo b es c h hF l hl,rfl⟩⟩
theorem zO(v:List Value):∀(cs:Array Value)(off k:Nat),((v.zipIdx k).foldl (λcs (c,j)=>cs.setIfInBounds (off+j) c) cs).toList=gj cs.toList (off+k) v:=by induction v with|nil=>intro cs off k;rfl|cons x v ih=>intro cs off k;simp only[List.zipIdx_cons,List.foldl_cons];rw[ih];simp[gj,Array.toList_setIfInBounds,av1]
theorem NA{fs:List (Nat×Nat×Bool)}{places:Nat->Option (Nat×Nat)}(YY:∀(i:Nat)(p:Nat×Nat×Bool),fs[i]?=some p->places i=some (p.1,p.2.1)): ∀(parts:List (Nat×AV))(nA:List (Nat×Value))(cs:List AV)(vs:Array Value)(r:List AV),dQ fs cs parts=some r->sT w F η hp cs vs.toList->nA.map (·.1)=parts.map (·.1)-> (∀(j:Nat)(p:Nat×AV)(q:Nat×Value),parts[j]?=some p->nA[j]?=some q->bq w F η hp p.2 q.2)->∃vr,Instr.fill places vs nA=some vr/\sT w F η hp r vr.toList:=by
 intro parts;induction parts with
  |nil=>(intro nA cs vs r h hc hm _;have:nA=[]:=by cases nA<;>simp_all);subst this;simp only[dQ,aul]at h;subst h;exact⟨vs,rfl,hc⟩|cons p parts ih=>
   intro nA cs vs r h hc hm hr;cases nA with
    |nil=>simp at hm|cons q nA=>
     obtain⟨i,x⟩:=p;obtain⟨i',v⟩:=q;simp only[auR,List.cons.injEq]at hm;obtain⟨rfl,sn⟩:=hm;have h0:=hr 0 _ _ rfl rfl;simp only at h0;simp only[dQ]at h;split at h;rename_i p hp;split at h
     ·(rename_i oh;have Hh:=h0.Hg oh.2.2;have cY:v.cells.size=p.2.1:=by rw[<-oh.1,<-Hh.1];simp);(have alU:=YY _ p hp;have hle:p.1+p.2.1<=vs.size:=by have:=hc.1;simp at this;omega);have zP:=zO v.cells.toList vs p.1 0;rw[avu]at zP;obtain⟨vr,e1,e2⟩:=ih nA (setCells cs p.1 x.cells) ((v.cells.zipIdx).foldl (λcs (c,j)=>cs.setIfInBounds (p.1+j) c) vs) r h (by (have e:((v.cells.zipIdx).foldl (λcs (c,j)=>cs.setIfInBounds (p.1+j) c) vs).toList=gj vs.toList p.1 v.cells.toList:=by rw[<-zP,<-Array.foldl_toList];simp);rw[e];exact sT.ad3 x.cells p.1 hc Hh) sn (λj p' q' h1 h2=>hr (j+1) p' q' (by simpa using h1) (by simpa using h2));refine⟨vr,?_,e2⟩;simp only[Instr.fill,alU,cY];rw[if_neg (by simp;omega)];exact e1
     cases h;cases h
end
section
variable {G:Type} {Γ:Env G} {s:AS G} {a:Act} {w w':World} {η:List Value} {hp:List ax} {F:Nat->Nat->Prop} {P:Program}
theorem gq.EK{T:Nat}{d:TD}(h:gq P T d):sT w F η hp (d.zero.cells.toList.map .ay) d.zero.cells.toList:=by refine⟨by simp,λj x u hx hu=>?_⟩;rw[auA,hu]at hx;obtain rfl:=auo hx;exact⟨.ay _,h.alL u (by have:=auu hu;simpa using this)⟩
theorem zQ(fields:List Field)(w:World)(h:∀f:Field,f∈fields->∃i,P.info? f.type=some i): (fields.mapM λf=>do pure (f.offset,<-sizeOf f.type):Sem (List (Nat×Nat))).run P w=.ok (fields.map λf=>(f.offset,((P.info? f.type).map (·.size)).getD 0)) w:=by induction fields with|nil=>rfl|cons f fs ih=>obtain⟨i,hi⟩:=h f auC;have ih':=ih λg hg=>h g (auG _ hg);simp only[List.mapM_cons,ao,sizeOf,typeInfo,run_program,al,hi,aq,auR,auX,avj];simp only[sizeOf,typeInfo]at ih';rw[ih'];rfl
theorem La{tab:Nat->Option TD}(aC:bn Γ.P tab){o:Oper}{T:Nat}{parts:Array (Nat×Operand)}(ho:o.op=.build T parts){d:TD}(hd:tab T=some d){fs:List (Nat×Nat×Bool)}(hk:d.kind=.cr fs){r:List AV}(h:dQ fs (d.zero.cells.toList.map .ay) (parts.toList.map λp=>(p.1,s.ev p.2))=some r):fN Γ o s (.agg r):=by (refine bh λa w η hr=>?_;have dP:=aC T d hd;obtain⟨u,h2,h3⟩:=dP.mO;rw[hk]at h3;obtain⟨fields,rfl,h3⟩:=h3;have agv:∀f:Field,f∈fields.toList->∃i,Γ.P.info? f.type=some i:=by intro f hf;obtain⟨k,vN⟩:=avD hf;have h4:=congrArg (·[k]?) h3;simp only[auA,vN,auX]at h4;cases w8:fs[k]? with|none=>rw[w8]at h4;cases h4|some p=>rw[w8]at h4;simp only[auX,aul,aup]at h4;cases hi:Γ.P.info? f.type with|none=>rw[hi]at h4;cases h4.2.1|some i=>exact⟨i,rfl⟩);(have YY:∀(i:Nat)(p:Nat×Nat×Bool),fs[i]?=some p->((fields.toList.map λf=>(f.offset,((Γ.P.info? f.type).map (·.size)).getD 0)).toArray)[i]?=some (p.1,p.2.1):=by intro i p hp;have h4:=congrArg (·[i]?) h3;simp only[auA,hp,auX]at h4;cases hf:fields.toList[i]? with|none=>rw[hf]at h4;cases h4|some f=>rw[hf]at h4;simp only[auX,aul,aup]at h4;simp only[List.getElem?_toArray,auA,hf,auX,h4.1,h4.2.1,avj]);obtain⟨vr,e1,e2⟩:=NA (w:=w) (F:=bw Γ w η s.hp) (η:=η) (hp:=s.hp) YY (parts.toList.map λp=>(p.1,s.ev p.2)) (parts.toList.map λp=>(p.1,a.eval p.2)) _ d.zero.cells r h dP.EK (by simp) (λj p q h1 h2=>by simp only[auA]at h1 h2;cases hj:parts.toList[j]? with|none=>rw[hj]at h1;cases h1|some x=>rw[hj]at h1 h2;obtain rfl:=auo h1;obtain rfl:=auo h2;exact hr.ev x.2);refine⟨.agg vr,?_,.agg r vr (by have:=e2.1;simpa using this) (λv hv=>?_) λj x v hx hv=>(e2.2 j x v hx (by simpa using hv)).1⟩;have hm:=zQ (P:=Γ.P) fields.toList w agv;simp only[execOp,ho,Instr.build,ao,dP.kc,al,run_underlying h2,Array.mapM_eq_mapM_toList,Sem.run_map,hm,av2,e1,aq];(obtain⟨k,vN⟩:=avD (Array.mem_toList_iff.2 hv);have aF:k<r.length:=by rw[<-e2.1];exact(aun.1 vN).1);exact(e2.2 k r[k] v (by simp[aF]) vN).2
theorem Hi{tab:Nat->Option TD}(aC:bn Γ.P tab){o:Oper}{T:Nat}{parts:Array (Nat×Operand)}(ho:o.op=.build T parts){d:TD}(hd:tab T=some d){n:Nat}(hk:d.kind=.arr n){r:List AV}(h:dQ (zL n) (d.zero.cells.toList.map .ay) (parts.toList.map λp=>(p.1,s.ev p.2))=some r):fN Γ o s (.agg r):=by (refine bh λa w η hr=>?_;have dP:=aC T d hd;obtain⟨u,h2,h3⟩:=dP.mO;rw[hk]at h3;obtain⟨e,i0,rfl,Cn,jw⟩:=h3;have YY:∀(i:Nat)(p:Nat×Nat×Bool),(zL n)[i]?=some p->(λi=>some (i*1,1):Nat->Option (Nat×Nat)) i=some (p.1,p.2.1):=by (intro i p hp;simp only[zL,auA]at hp;obtain⟨j,hj,rfl⟩:=ave.1 hp;obtain rfl:j=i:=by obtain⟨h5,h6⟩:=aun.1 hj;rw[<-h6];simp);simp);obtain⟨vr,e1,e2⟩:=NA (w:=w) (F:=bw Γ w η s.hp) (η:=η) (hp:=s.hp) YY (parts.toList.map λp=>(p.1,s.ev p.2)) (parts.toList.map λp=>(p.1,a.eval p.2)) _ d.zero.cells r h dP.EK (by simp) (λj p q h1 h2=>by simp only[auA]at h1 h2;cases hj:parts.toList[j]? with|none=>rw[hj]at h1;cases h1|some x=>rw[hj]at h1 h2;obtain rfl:=auo h1;obtain rfl:=auo h2;exact hr.ev x.2);refine⟨.agg vr,?_,.agg r vr (by have:=e2.1;simpa using this) (λv hv=>?_) λj x v hx hv=>(e2.2 j x v hx (by simpa using hv)).1⟩;simp only[execOp,ho,Instr.build,ao,dP.kc,al,run_underlying h2,sizeOf,typeInfo,run_program,Cn,aq,jw,av2,e1];(obtain⟨k,vN⟩:=avD (Array.mem_toList_iff.2 hv);have aF:k<r.length:=by rw[<-e2.1];exact(aun.1 vN).1);exact(e2.2 k r[k] v (by simp[aF]) vN).2
theorem dx(us:List Value):∀(cs:List Value)(off t:Nat),off+us.length<=cs.length->(gj cs off us)[t]?=if off<=t/\t<off+us.length then us[t-off]? else cs[t]?:=by induction us with|nil=>intro cs off t _;simp only[gj,au7,avu];rw[if_neg (by omega)]|cons u us ih=>intro cs off t h;simp only[auy]at h;simp only[gj,auy];rw[ih (cs.set off u) (off+1) t (by simp;omega)];by_cases h1:off+1<=t/\t<off+1+us.length;(rw[if_pos h1,if_pos (by omega)];have:t-off=(t-(off+1))+1:=by omega);rw[this,ava];rw[if_neg h1];by_cases h2:t=off;subst h2;rw[if_pos (by omega),avV,avn,avq];simp;omega;rw[if_neg (by omega),getElem?_set_ne (λe=>h2 e.symm)]
theorem Cu(v:Array Value)(cs:Array Value)(off:Nat):(v.zipIdx.foldl (λcs (c,j)=>cs.setIfInBounds (off+j) c) cs).toList=gj cs.toList off v.toList:=by have h:=zO v.toList cs off 0;rw[avu]at h;rw[<-h,<-Array.foldl_toList];simp
theorem zR{size:Nat}:∀(l:List Value)(k:Nat)(parts:List (Nat×Value))(cs:Array Value),parts.map (·.2)=l->(∀(j:Nat)(p:Nat×Value),parts[j]?=some p->p.1=k+j)->(∀v:Value,v∈l->v.cells.size=size)->cs.size=(k+l.length)*size-> ∃r,Instr.fill (λi=>some (i*size,size)) cs parts=some r/\r.size=cs.size/\(∀t,t<k*size->r.toList[t]?=cs.toList[t]?)/\ ∀(i:Nat)(v:Value)(j:Nat)(u:Value),l[i]?=some v->v.cells.toList[j]?=some u->r.toList[(k+i)*size+j]?=some u:=by
 intro l;induction l with
  |nil=>(intro k parts cs hm _ _ _;have:parts=[]:=by cases parts<;>simp_all);subst this;exact⟨cs,rfl,rfl,λ_ _=>rfl,λi v j u hi=>by simp at hi⟩|cons v l ih=>
   intro k parts cs hm kZ cY gY;cases parts with
    |nil=>simp at hm|cons p parts=>
     (obtain⟨i0,v0⟩:=p;simp only[auR,List.cons.injEq]at hm;obtain⟨rfl,sn⟩:=hm;have Cn:i0=k:=by have:=kZ 0 _ rfl;simpa using this);subst Cn;have vT:=cY v0 auC;simp only[auy]at gY;have hle:i0*size+size<=cs.size:=by (rw[gY];have:(i0+(l.length+1))*size=i0*size+size+l.length*size:=by rw[avr,avr];omega);omega
     have zP:=Cu v0.cells cs (i0*size);obtain⟨r,e1,e2,e3,e4⟩:=ih (i0+1) parts (v0.cells.zipIdx.foldl (λcs (c,j)=>cs.setIfInBounds (i0*size+j) c) cs) sn
      (λj p hj=>by have:=kZ (j+1) p (by simpa using hj);omega) (λv hv=>cY v (auG _ hv))
      (by rw[<-au2,zP,iO,au2,gY];congr 1;omega)
     (have hlen:(v0.cells.zipIdx.foldl (λcs (c,j)=>cs.setIfInBounds (i0*size+j) c) cs).size=cs.size:=by rw[<-au2,zP,iO,au2]);(have hmul:(i0+1)*size=i0*size+size:=by rw[avr];omega);refine⟨r,?_,by rw[e2,hlen],λt ht=>?_,λi v j u hi hj=>?_⟩;simp only[Instr.fill,vT];rw[if_neg (by simp;omega)];exact e1;rw[e3 t (by omega),zP,dx _ _ _ _ (by simp;omega),if_neg (by omega)];cases i with|zero=>(simp only[avn,aul]at hi;subst hi;have vJ:j<size:=by rw[<-vT,<-au2];exact(aun.1 hj).1);rw[avu,e3 _ (by omega),zP,dx _ _ _ _ (by simp;omega),if_pos ⟨by omega,by rw[au2,vT];omega⟩];rw[Nat.add_sub_cancel_left];exact hj|succ i=>have:=e4 i v j u (by simpa using hi) hj;rw[show i0+(i+1)=i0+1+i from by omega];exact this
theorem Lb:∀(l:List (Nat×Operand))(k:Nat),qe k l=true->∀(j:Nat)(p:Nat×Operand),l[j]?=some p->p.1=k+j:=by intro l;induction l with|nil=>intro k _ j p h;simp at h|cons q l ih=>intro k h j p hj;obtain⟨i,x⟩:=q;simp only[qe,auq,beq_iff_eq]at h;cases j with|zero=>simp only[avn,aul]at hj;subst hj;simpa using h.1|succ j=>have:=ih (k+1) h.2 j p (by simpa using hj);omega
theorem qF{size:Nat}:∀(l:List AV),pc size l->∀x:AV,x∈l->x.cells.length=size/\x.oe=true:=by intro l;induction l with|nil=>intro _ x h;cases h|cons y l ih=>intro h x hx;rcases auJ.1 hx with rfl|h1;exact h.1;exact ih h.2 x h1
theorem NB{T:TypeId}{cs:Array Value}(h:Rel Γ s a w η)(k:Nat)(hX:∀b o,Γ.No b o->b<Γ.w0.heap.size):bw Γ (w.alloc (.cells cs T)) η s.hp w.heap.size k:=by (refine⟨.inr (.inl h.keeps.size),by simp,λhx=>by have:=hX _ _ hx;have:=h.keeps.size;omega,(bp _ _).2 λr v hv hb=>?_⟩;have gJ:r<s.hp.length:=by rw[<-h.heap.len];exact(aun.1 hv).1);(refine⟨s.hp[r],by simp[gJ],?_⟩;have ho:s.hp[r]?=some s.hp[r]:=by simp[gJ]);cases hk:s.hp[r]with|dead=>exact ai|_=>rw[hk]at ho;have:=h.heap.block ho ai hv hb;omega
theorem om(cv:AV->AV)(YB:∀{a w η},Rel Γ s a w η->∀x v,bq w (bw Γ w η s.hp) η s.hp x v->bq w (bw Γ w η s.hp) [] [] (cv x) v)(aN:Γ.Ok){tab:Nat->Option TD}(aC:bn Γ.P tab){o:Oper}{T n e:Nat}{parts:Array (Nat×Operand)}(ho:o.op=.buildSlice T n parts){d d':TD}(hd:tab T=some d)(hk:d.kind=.kW e)(fj:tab e=some d')(hn:n=parts.toList.length)(kZ:qe 0 parts.toList=true)(Hj:n<=16777216)(Hk:n*d'.size<=16777216)(hl:pc d'.size (parts.toList.map λp=>cv (s.ev p.2)))(hr:Rel Γ s a w η): ∃r:Array Value,(execOp a.eval o).run Γ.P w=.ok (.value (.slice (some ⟨w.heap.size,0,none⟩) n n)) (w.alloc (.cells r e))/\r.size=n*d'.size/\ (parts.toList.map λp=>cv (s.ev p.2)).length=n/\ ∀(i:Nat)(el:AV)(j:Nat)(x:AV),(parts.toList.map λp=>cv (s.ev p.2))[i]?=some el->el.cells[j]?=some x->∃u,r[i*d'.size+j]?=some u/\bq w (bw Γ w η s.hp) [] [] x u/\u.oneCell'=true:=by
 have dP:=aC e d' fj;have hu:Γ.P.underlying T=some (.slice e):=by obtain⟨u,h2,h3⟩:=(aC T d hd).mO;rw[hk]at h3;rw[h2];exact congrArg some h3
 have hls:=qF _ hl;have eD:∀(j:Nat)(x:AV)(v:Value),(parts.toList.map λp=>cv (s.ev p.2))[j]?=some x->(parts.toList.map λp=>a.eval p.2)[j]?=some v->bq w (bw Γ w η s.hp) [] [] x v:=by intro j x v h1 h2;simp only[auA]at h1 h2;cases hj:parts.toList[j]? with|none=>rw[hj]at h1;cases h1|some p=>rw[hj]at h1 h2;obtain rfl:=auo h1;obtain rfl:=auo h2;exact YB hr _ _ (hr.ev p.2)
 have oo:(parts.toList.map λp=>cv (s.ev p.2)).length=n:=by simp[hn]
 have SI:(parts.toList.map λp=>a.eval p.2).length=n:=by simp[hn]
 have Hh:∀(j:Nat)(x:AV)(v:Value),(parts.toList.map λp=>cv (s.ev p.2))[j]?=some x->(parts.toList.map λp=>a.eval p.2)[j]?=some v->sT w (bw Γ w η s.hp) [] [] x.cells v.cells.toList:= λj x v h1 h2=>(eD j x v h1 h2).Hg (hls x (auu h1)).2;have alV:∀v:Value,v∈(parts.toList.map λp=>a.eval p.2)->v.cells.size=d'.size:=by (intro v hv;obtain⟨j,hj⟩:=avD hv;have aF:j<n:=by rw[<-SI];exact(aun.1 hj).1);(have hx:(parts.toList.map λp=>cv (s.ev p.2))[j]?=some (parts.toList.map λp=>cv (s.ev p.2))[j]:=by rw[aus (by rw[oo];exact aF)]);have:=(Hh j _ v hx hj).1;rw[au2]at this;rw[this];exact(hls _ (auu hx)).1
 have fin:∀cs0:Array Value,cs0.size=n*d'.size->∃r,Instr.fill (λi=>some (i*d'.size,d'.size)) cs0 (parts.toList.map λp=>(p.1,a.eval p.2))=some r/\r.size=n*d'.size/\
   ∀(i:Nat)(el:AV)(j:Nat)(x:AV),(parts.toList.map λp=>cv (s.ev p.2))[i]?=some el->el.cells[j]?=some x->∃u,r[i*d'.size+j]?=some u/\bq w (bw Γ w η s.hp) [] [] x u/\u.oneCell'=true:=by
  intro cs0 gY;obtain⟨r,e1,e2,e3,e4⟩:=zR (parts.toList.map λp=>a.eval p.2) 0 (parts.toList.map λp=>(p.1,a.eval p.2)) cs0 (by simp[Function.comp_def]) (λj p hj=>by
   rw[auA]at hj
   cases vJ:parts.toList[j]? with
   |none=>rw[vJ]at hj;cases hj
   |some q=>
    rw[vJ]at hj;obtain rfl:=auo hj
    exact Lb _ _ kZ j q vJ) alV (by rw[SI,auZ];exact gY)
  refine⟨r,e1,by rw[e2];exact gY,?_⟩;intro i el j x hi hj;have aF:i<n:=by rw[<-oo];exact(aun.1 hi).1
  have hv:(parts.toList.map λp=>a.eval p.2)[i]?=some (parts.toList.map λp=>a.eval p.2)[i]:=by rw[aus (by rw[SI];exact aF)]
  have h1:=Hh i el _ hi hv;have vJ:j<(parts.toList.map λp=>a.eval p.2)[i].cells.toList.length:=by rw[h1.1];exact(aun.1 hj).1
  have hu:(parts.toList.map λp=>a.eval p.2)[i].cells.toList[j]?=some ((parts.toList.map λp=>a.eval p.2)[i].cells.toList[j]):=by rw[aus vJ]
  have h2:=e4 i _ j _ hv hu;rw[auZ]at h2;exact⟨_,by simpa using h2,h1.2 j x _ hj hu⟩
 have hb:¬n*d'.size>2 ^ 24:=by omega
 by_cases hz:n*d'.size=0;obtain⟨r,e1,e2,e3⟩:=fin ((Array.range (n*d'.size)).map ((#[]:Array Value)[· % (#[]:Array Value).size]!)) (by simp);refine⟨r,?_,e2,oo,e3⟩;simp only[execOp,ho,Instr.buildSlice,ao,run_underlying hu,al,dP.run_sizeOf,Sem.run_ite,if_neg hb,aq,if_pos hz,av2,e1,newRow,run_newObj];rfl;obtain⟨r,e1,e2,e3⟩:=fin ((Array.range (n*d'.size)).map (d'.zero.cells[· % d'.zero.cells.size]!)) (by simp);refine⟨r,?_,e2,oo,e3⟩;simp only[execOp,ho,Instr.buildSlice,ao,run_underlying hu,al,dP.run_sizeOf,Sem.run_ite,if_neg hb,aq,if_neg hz,dP.kc,av2,e1,newRow,run_newObj];rfl
theorem yA(aN:Γ.Ok){tab:Nat->Option TD}(aC:bn Γ.P tab){o:Oper}{T n e:Nat}{parts:Array (Nat×Operand)}(ho:o.op=.buildSlice T n parts){d d':TD}(hd:tab T=some d)(hk:d.kind=.kW e)(fj:tab e=some d')(hn:n=parts.toList.length)(kZ:qe 0 parts.toList=true)(Hj:n<=16777216)(Hk:n*d'.size<=16777216)(hl:pc d'.size (parts.toList.map λp=>(s.ev p.2).cd s.hp))(hr:Rel Γ s a w η): ∃r:Array Value,(execOp a.eval o).run Γ.P w=.ok (.value (.slice (some ⟨w.heap.size,0,none⟩) n n)) (w.alloc (.cells r e))/\r.size=n*d'.size/\ (parts.toList.map λp=>(s.ev p.2).cd s.hp).length=n/\ ∀(i:Nat)(el:AV)(j:Nat)(x:AV),(parts.toList.map λp=>(s.ev p.2).cd s.hp)[i]?=some el->el.cells[j]?=some x->∃u,r[i*d'.size+j]?=some u/\bq w (bw Γ w η s.hp) [] [] x u/\u.oneCell'=true:=om (AV.cd s.hp) (λhr _ _ h=>fJ hr.heap hr.cu h) aN aC ho hd hk fj hn kZ Hj Hk hl hr
theorem ot(cv:AV->AV)(YB:∀{a w η},Rel Γ s a w η->∀x v,bq w (bw Γ w η s.hp) η s.hp x v->bq w (bw Γ w η s.hp) [] [] (cv x) v)(aN:Γ.Ok){tab:Nat->Option TD}(aC:bn Γ.P tab){o:Oper}{T n e:Nat}{parts:Array (Nat×Operand)}(ho:o.op=.buildSlice T n parts){d d':TD}(hd:tab T=some d)(hk:d.kind=.kW e)(fj:tab e=some d')(hn:n=parts.toList.length)(kZ:qe 0 parts.toList=true)(Hj:n<=16777216)(Hk:n*d'.size<=16777216)(hl:pc d'.size (parts.toList.map λp=>cv (s.ev p.2))):fN Γ o s (.clip (parts.toList.map λp=>cv (s.ev p.2))):=by
 intro a w η hr;obtain⟨r,e1,_,oo,eh⟩:=om cv YB aN aC ho hd hk fj hn kZ Hj Hk hl hr;have hls:=qF _ hl;have he:=qB (Γ:=Γ) (η:=η) (hp:=s.hp) (cj.alloc w (.cells r e)) (λ_ _=>fg);refine⟨_,_,e1,cj.alloc w (.cells r e),?_⟩;have hm:(parts.toList.map λp=>cv (s.ev p.2)).length<=maxLen:=by rw[oo];simp only[maxLen];omega
 have:=bq.clip (w:=w.alloc (.cells r e)) (F:=bw Γ (w.alloc (.cells r e)) η s.hp) (η:=η) (hp:=s.hp) d'.size (parts.toList.map λp=>cv (s.ev p.2)) w.heap.size 0 (λi j=>(r[i*d'.size+j]?).getD undef) hm
  (λi el hi=>(hls el (auu hi)).1) (λi el j x hi hj=>by
   obtain⟨u,h1,_,h3⟩:=eh i el j x hi hj;rw[h1];refine⟨?_,NB hr _ (λ_ _=>aN.no),h3⟩;rw[auZ,World.cell?_alloc_new];exact h1) (λi el j x hi hj=>by
   obtain⟨u,h1,h2,_⟩:=eh i el j x hi hj
   rw[h1];exact h2.ext he.ny.ext)
 rw[oo]at this;exact this
theorem yB(aN:Γ.Ok){tab:Nat->Option TD}(aC:bn Γ.P tab){o:Oper}{T n e:Nat}{parts:Array (Nat×Operand)}(ho:o.op=.buildSlice T n parts){d d':TD}(hd:tab T=some d)(hk:d.kind=.kW e)(fj:tab e=some d')(hn:n=parts.toList.length)(kZ:qe 0 parts.toList=true)(Hj:n<=16777216)(Hk:n*d'.size<=16777216)(hl:pc d'.size (parts.toList.map λp=>(s.ev p.2).cd s.hp)):fN Γ o s (.clip (parts.toList.map λp=>(s.ev p.2).cd s.hp)):=ot (AV.cd s.hp) (λhr _ _ h=>fJ hr.heap hr.cu h) aN aC ho hd hk fj hn kZ Hj Hk hl
end
section
variable {G:Type} {Γ:Env G} {s:AS G} {a:Act} {w w':World} {η:List Value} {hp:List ax} {F:Nat->Nat->Prop} {P:Program}
theorem iP(h:Rel Γ s a w η){d n:Int}{x:Operand}(hb:cq s.ev d (some x)=some n):∃k,a.eval x=.int k n:=by unfold cq at hb;simp only at hb;split at hb;rename_i k m he;obtain rfl:=auo hb;have hx:=h.ev x;rw[he]at hx;exact⟨k,hx.aB⟩;cases hb
theorem run_sliceBound(w:World){v:Value}{k:IntKind}{n:Int}(hv:v=.int k n){y:Nat}(h0:0<=n)(h1:n<=y)(code:BoundsCode):(Instr.sliceBound v y code).run P w=.ok n.toNat w:=by subst hv;have:0<=n/\n<=(y:Int):=⟨h0,h1⟩;simp[Instr.sliceBound,asIntOf,this]
theorem bq.YZ{els:List AV}{b o c size:Nat}{x:Value}(cY:∀y:AV,y∈els->y.cells.length=size)(hx:bq w F η hp (.sl els) x)(hv:x=.slice (some ⟨b,o,none⟩) els.length c){l h m:Nat}(hlh:l<=h)(hh:h<=els.length)(hm:h<=m)(hmc:m<=c): bq w F η hp (.sl ((els.take h).drop l)) (.slice (some ⟨b,if m=l then o else o+l*size,none⟩) (h-l) (m-l))/\(h=m->bq w F η hp (.clip ((els.take h).drop l)) (.slice (some ⟨b,if m=l then o else o+l*size,none⟩) (h-l) (h-l))):=by
 have hlen:((els.take h).drop l).length=h-l:=by simp;omega
 cases hx with
  |mV a=>(simp only[au7,Value.slice.injEq,true_and]at hv;obtain⟨rfl,rfl⟩:=hv;obtain rfl:m=0:=by omega);(obtain rfl:h=0:=by omega);(obtain rfl:l=0:=by omega);exact⟨.mV _,λ_=>.jv _⟩|sl wZ _ b' o' c' f hc sn hl aT eD=>
   (simp only[Value.slice.injEq,aul,Addr.mk.injEq,and_true,true_and]at hv;obtain⟨⟨rfl,rfl⟩,rfl⟩:=hv;have eh:∀(i:Nat)(e:AV),((els.take h).drop l)[i]?=some e->els[l+i]?=some e/\m≠l/\wZ=size:=by intro i e hi;have aF:=(aun.1 hi).1;rw[hlen]at aF;rw[avJ,auL,if_pos (by omega)]at hi;exact⟨hi,by omega,by rw[<-hl _ _ hi];exact cY e (auu hi)⟩);have Hl:∀(i j:Nat),m≠l->wZ=size->(if m=l then o' else o'+l*size)+i*size+j=o'+(l+i)*wZ+j:=by intro i j h1 h2;rw[if_neg h1,h2,avr];omega
   have key:∀c2,h-l<=c2->c2<=maxLen->bq w F η hp (.sl ((els.take h).drop l)) (.slice (some ⟨b',if m=l then o' else o'+l*size,none⟩) (h-l) c2)/\(c2=h-l->bq w F η hp (.clip ((els.take h).drop l)) (.slice (some ⟨b',if m=l then o' else o'+l*size,none⟩) (h-l) (h-l))):=by
    intro c2 h1 h2;have p1:∀(i:Nat)(e:AV),((els.take h).drop l)[i]?=some e->e.cells.length=size:=λi e hi=>cY e (auu (eh i e hi).1);have p2:∀(i:Nat)(e:AV)(j:Nat)(x:AV),((els.take h).drop l)[i]?=some e->e.cells[j]?=some x->
      w.cell? ⟨b',(if m=l then o' else o'+l*size)+i*size+j,none⟩=some (f (l+i) j)/\F b' ((if m=l then o' else o'+l*size)+i*size+j)/\(f (l+i) j).oneCell'=true:=by
     intro i e j x hi hj;obtain⟨g1,g2,g3⟩:=eh i e hi;rw[Hl i j g2 g3];exact aT _ _ _ _ g1 hj
    have p3:∀(i:Nat)(e:AV)(j:Nat)(x:AV),((els.take h).drop l)[i]?=some e->e.cells[j]?=some x->bq w F [] [] x (f (l+i) j):= λi e j x hi hj=>eD _ _ _ _ (eh i e hi).1 hj;have q1:=bq.sl (η:=η) (hp:=hp) size ((els.take h).drop l) b' (if m=l then o' else o'+l*size) c2 (λi j=>f (l+i) j) (by rw[hlen];exact h1) h2 p1 p2 p3;rw[hlen]at q1;refine⟨q1,λ_=>?_⟩;have q2:=bq.clip (η:=η) (hp:=hp) size ((els.take h).drop l) b' (if m=l then o' else o'+l*size) (λi j=>f (l+i) j) (by rw[hlen];omega) p1 p2 p3;rw[hlen]at q2;exact q2
   refine⟨(key (m-l) (by omega) (by omega)).1,λe=>?_⟩;exact(key (m-l) (by omega) (by omega)).2 (by omega)
theorem zS{tab:Nat->Option TD}(aC:bn Γ.P tab){o:Oper}{T e:Nat}{x:Operand}{lo hi mx:Option Operand}(ho:o.op=.slice T x lo hi mx){d d':TD}(hd:tab T=some d)(hk:d.kind=.kW e)(fj:tab e=some d'){els:List AV}(fA:(s.ev x).jr s.hp=some els){l h:Int}(hl:cq s.ev 0 lo=some l)(hh:cq s.ev els.length hi=some h)(h0:0<=l)(h1:l<=h)(h2:h<=els.length)(cY:∀y:AV,y∈els->y.cells.length=d'.size){r:AV}(hr:(mx=none/\r=.sl ((els.take h.toNat).drop l.toNat))\/(∃y m,mx=some y/\hi.isSome/\cq s.ev 0 (some y)=some m/\h=m/\r=.clip ((els.take h.toNat).drop l.toNat))):fN Γ o s r:=by (refine bh λa w η hrel=>?_;have hx:=lV hrel.heap hrel.cu (hrel.ev x) fA;have hu:Γ.P.underlying T=some (.slice e):=by obtain⟨u,q2,q3⟩:=(aC T d hd).mO;rw[hk]at q3;rw[q2];exact congrArg some q3);(have KV:lo=none/\l=0\/∃y k,lo=some y/\a.eval y=.int k l:=by cases lo with|none=>simp[cq]at hl;exact .inl ⟨rfl,hl.symm⟩|some y=>obtain⟨k,hk⟩:=iP hrel hl;exact .inr ⟨y,k,rfl,hk⟩);(have hhv:hi=none/\h=els.length\/∃y k,hi=some y/\a.eval y=.int k h:=by cases hi with|none=>simp[cq]at hh;exact .inl ⟨rfl,hh.symm⟩|some y=>obtain⟨k,hk⟩:=iP hrel hh;exact .inr ⟨y,k,rfl,hk⟩);(have K0:∃ad c,a.eval x=.slice ad els.length c/\els.length<=c:=by generalize a.eval x=v at hx;cases hx with|mV a=>exact⟨a,0,rfl,aur _⟩|sl size els b o c f hc hm hl aT hr=>exact⟨_,c,rfl,hc⟩);(obtain⟨ad,c,w7,Sj⟩:=K0;have sF:=(aC e d' fj).run_sizeOf w;have hb:∃m:Nat,(Instr.sliceBounds true els.length c (lo.map a.eval) (hi.map a.eval) (mx.map a.eval)).run Γ.P w=.ok (l.toNat,h.toNat,m) w/\h.toNat<=m/\m<=c/\(mx≠none->m=h.toNat):=by rcases hr with⟨rfl,_⟩|⟨y,m,rfl,his,hm,rfl,_⟩;refine⟨c,?_,by omega,aur _,λh=>(h rfl).elim⟩;rcases hhv with⟨rfl,rfl⟩|⟨y,k,rfl,hv⟩;rcases KV with⟨rfl,rfl⟩|⟨y0,k0,rfl,vT⟩;simp[Instr.sliceBounds];have Si:=run_sliceBound (P:=Γ.P) w vT (y:=els.length) h0 (by omega) .sliceB;simp[Instr.sliceBounds,Si];have hs:=run_sliceBound (P:=Γ.P) w hv (y:=c) (by omega) (by omega) .sliceAcap;rcases KV with⟨rfl,rfl⟩|⟨y0,k0,rfl,vT⟩;simp[Instr.sliceBounds,hs];have Si:=run_sliceBound (P:=Γ.P) w vT (y:=h.toNat) h0 (by omega) .sliceB;simp[Instr.sliceBounds,hs,Si];obtain⟨k2,hv2⟩:=iP hrel hm;refine⟨h.toNat,?_,aur _,by omega,λ_=>rfl⟩;rcases hhv with⟨rfl,_⟩|⟨y',k,rfl,hv⟩;simp at his;have hs2:=run_sliceBound (P:=Γ.P) w hv2 (y:=c) (by omega) (by omega) .slice3Acap;have hs:=run_sliceBound (P:=Γ.P) w hv (y:=h.toNat) (by omega) (by omega) .slice3B;rcases KV with⟨rfl,rfl⟩|⟨y0,k0,rfl,vT⟩;simp[Instr.sliceBounds,hs,hs2];have Si:=run_sliceBound (P:=Γ.P) w vT (y:=h.toNat) h0 (by omega) .slice3C;simp[Instr.sliceBounds,hs,hs2,Si]);(obtain⟨m,jt,C7,sj,hm3⟩:=hb;have hex:(execOp a.eval o).run Γ.P w=.ok (.value (.slice (if m=l.toNat then ad else ad.map (·.add (l.toNat*d'.size))) (h.toNat-l.toNat) (m-l.toNat))) w:=by simp only[execOp,ho,Instr.sliceAt,ao,run_underlying hu,al,Instr.slice,w7,jt,sF,aq]);(refine⟨_,hex,?_⟩;have SJ:(els=[]/\c=0)\/∃b o,ad=some ⟨b,o,none⟩:=by have lF:=hx;rw[w7]at lF;generalize hv:Value.slice ad els.length c=v at lF;cases lF with|mV a=>simp at hv;exact .inl ⟨rfl,hv.2⟩|sl size els b o c f hc hm hl aT hr=>simp at hv;exact .inr ⟨b,o,hv.1⟩);rw[w7]at hx;rcases SJ with⟨rfl,rfl⟩|⟨b,o',rfl⟩;(have e1:l.toNat=0:=by simp at h2;omega);(have e2:h.toNat=0:=by simp at h2;omega);(have e3:m=0:=by omega);rw[e1,e2,e3];simp only[if_true,avV];rcases hr with⟨_,rfl⟩|⟨_,_,_,_,_,_,rfl⟩;simpa using bq.mV ad;simpa using bq.jv ad;(have w7:=w7;obtain⟨q1,q2⟩:=hx.YZ cY rfl (l:=l.toNat) (h:=h.toNat) (m:=m) (by omega) (by omega) C7 sj;have Lc:(if m=l.toNat then some (⟨b,o',none⟩:Addr)else(some (⟨b,o',none⟩:Addr)).map (·.add (l.toNat*d'.size)))=some ⟨b,if m=l.toNat then o' else o'+l.toNat*d'.size,none⟩:=by split<;>simp[Addr.add_lit]);rw[Lc];rcases hr with⟨_,rfl⟩|⟨y,m',hmx,_,_,_,rfl⟩;exact q1;have:=hm3 (by rw[hmx];simp);subst this;exact q2 rfl
theorem SK(a b:aw):(a==b)=decide (a=b):=by obtain⟨a⟩:=a;obtain⟨b⟩:=b;show (a==b)=_;by_cases h:a=b;subst h;simp;have:¬(ByteArray.mk a=ByteArray.mk b):=λe=>h (by injection e);rw[decide_eq_false this];simpa using h
structure Qw{κ:Type}[DecidableEq κ](td:TypeDesc)(kv:κ->Value)(me:List (κ×Value)->ME):Prop where
 me:∀l,Qo (me l)=l.map λp=>(kv p.1,p.2)
 same:∀a b,Instr.sameNow td (kv a) (kv b)=some (decide (a=b))
 check:∀(P:Program)(kt:TypeId)(e:Bool)(v:Value)(w:World),P.underlying kt=some td->(Instr.checkKey e 10000 kt v).run P w=.ok () w
 bits:∀a,Instr.sameBits 10000 (kv a) (kv a)=true
theorem EL{κ:Type}[DecidableEq κ]{td:TypeDesc}{kv:κ->Value}{me:List (κ×Value)->ME}(K:Qw td kv me){a:κ}:∀(es:List MapEntry)(l:List (κ×Value))(i:Nat),(es.map λe=>(e.key,e.val))=l.map (λp=>(kv p.1,p.2))-> (∃r,Instr.findNow td (kv a) es i=some r/\r.map (·.2)=aK l a)/\ (aK l a=none->Instr.findNow td (kv a) es i=some none):=by
 intro es;induction es with
  |nil=>intro l i h;cases l with|nil=>exact⟨⟨none,rfl,rfl⟩,λ_=>rfl⟩|cons p l=>simp at h
  |cons e es ih=>intro l i h;cases l with|nil=>simp at h|cons p l=>obtain⟨key,v⟩:=p;simp only[auR,List.cons.injEq,aup]at h;obtain⟨⟨h1,h2⟩,h3⟩:=h;obtain⟨⟨r,g1,g2⟩,g3⟩:=ih l (i+1) h3;simp only[Instr.findNow,h1,K.same,aK];by_cases hak:a=key;subst hak;simp[h2];simp only[if_neg hak,decide_eq_false hak];exact⟨⟨r,g1,g2⟩,g3⟩
theorem tQ{kt:TypeId}{k:IntKind}(hk:P.underlying kt=some (.int k))(e:Bool)(n:Nat)(v:Value)(w:World):(Instr.checkKey e (n+1) kt v).run P w=.ok () w:=by unfold Instr.checkKey;simp only[ao,run_underlying hk,Result.andThen];cases v<;>rfl
theorem agw(k:IntKind):Qw (.int k) (λa:Int=>.int .i64 a) .i:=⟨λ_=>rfl,λa b=>by simp[Instr.sameNow];rfl,λP kt e v w hk=>tQ hk e 9999 v w,λa=>by simp[Instr.sameBits]⟩
theorem agx:Qw .string (λa:aw=>.string a) .s:=
 ⟨λ_=>rfl,λa b=>by simp only[Instr.sameNow,SK],λP kt e v w hk=>by
  unfold Instr.checkKey;simp only[ao,run_underlying hk,Result.andThen]
  cases v<;>rfl,λa=>by simp[Instr.sameBits,SK]⟩
theorem w9{κ:Type}[DecidableEq κ]{td:TypeDesc}{kv:κ->Value}{me:List (κ×Value)->ME}(K:Qw td kv me){tab:Nat->Option TD}(aC:bn Γ.P tab){o:Oper}{T kt et:Nat}{m key:Operand}{ok:Bool}(ho:o.op=.lookup T m key ok){d dk de:TD}(hd:tab T=some d)(hk:d.kind=.qt kt et)(sq:tab kt=some dk)(yZ:∀u,dk.kind.fits Γ.P u->u=td)(Qx:tab et=some de){es:List (κ×Value)}(hm:(s.ev m).C3 s.hp=some (me es)){a:κ}(alX:s.ev key=.ay (kv a)):fN Γ o s (iN es de.zero a ok):=by
 refine bh λact w η hr=>?_;have hu:Γ.P.underlying T=some (.map kt et):=by obtain⟨u,q2,q3⟩:=(aC T d hd).mO;rw[hk]at q3;rw[q2];exact congrArg some q3
 have huk:Γ.P.underlying kt=some td:=by obtain⟨u,q2,q3⟩:=(aC kt dk sq).mO;rw[q2];exact congrArg some (yZ u q3)
 have hkr:=hr.ev key;rw[alX]at hkr;have hkv:=hkr.aB;have Y1:=hr.ev m;have ad1:∃b en c,act.eval m=.map (some b)/\w.heap[b]?=some (.map en c)/\oa en=Qo (me es):=by
  generalize s.ev m=x at hm Y1;cases x with
   |eo l=>simp only[AV.C3,aul]at hm;subst hm;generalize act.eval m=v at Y1;cases Y1 with|eo b en c h1 h2 _ hl=>exact⟨b,en,c,rfl,h1,hl⟩
   |mp r=>simp only[AV.C3]at hm;split at hm;rename_i es' Y2;obtain rfl:=auo hm;generalize act.eval m=v at Y1;(cases Y1 with|mp _ b fU=>obtain⟨b',en,c,e1,e2,e3⟩:=hr.heap.obj r _ _ Y2 fU;simp only[Value.map.injEq,aul]at e1;subst e1;exact⟨b,en,c,rfl,e2,e3⟩);cases hm|_=>simp[AV.C3]at hm
 obtain⟨b,en,c,Sk,mc,zT⟩:=ad1;obtain⟨⟨r,g1,g2⟩,g3⟩:=EL K (a:=a) en.toList es 0 (zT.trans (K.me es));have eh:(getObj b).run Γ.P w=.ok (.map en c) w:=by simp[getObj,Sem.run,mc]
 have qG:(Instr.findKey kt (kv a) en.toList).run Γ.P w=.ok r w:=by simp only[Instr.findKey,ao,run_underlying huk,al,g1,aq]
 have hz:=(aC et de Qx).kc w;cases r with
  |none=>
   have hg:aK es a=none:=g2.symm;cases ok with
    |true=>refine⟨.tuple #[de.zero,.bool false],?_,?_⟩;simp only[execOp,ho,Sk,hkv,Instr.lookup,ao,run_underlying hu,al,eh,aq,K.check _ _ _ _ _ huk,qG,hz,if_true];simp only[iN,hg,if_true,Option.getD_none,Option.isSome_none];exact .aG _ _ rfl λj x v hx hv=>by match j with|0=>simp at hx hv;subst hx;subst hv;exact od _|1=>simp at hx hv;subst hx;subst hv;exact .ay _|j+2=>simp at hx
    |false=>refine⟨de.zero,?_,?_⟩;simp only[execOp,ho,Sk,hkv,Instr.lookup,ao,run_underlying hu,al,eh,aq,K.check _ _ _ _ _ huk,qG,hz,auO,if_false];simp only[iN,hg,auO,if_false,Option.getD_none];exact od _
  |some q=>
   obtain⟨i,v⟩:=q;have hg:aK es a=some v:=g2.symm;cases ok with
    |true=>refine⟨.tuple #[v,.bool true],?_,?_⟩;simp only[execOp,ho,Sk,hkv,Instr.lookup,ao,run_underlying hu,al,eh,aq,K.check _ _ _ _ _ huk,qG,if_true];simp only[iN,hg,if_true,avj,Option.isSome_some];exact .aG _ _ rfl λj x v hx hv=>by match j with|0=>simp at hx hv;subst hx;subst hv;exact od _|1=>simp at hx hv;subst hx;subst hv;exact .ay _|j+2=>simp at hx
    |false=>refine⟨v,?_,?_⟩;simp only[execOp,ho,Sk,hkv,Instr.lookup,ao,run_underlying hu,al,eh,aq,K.check _ _ _ _ _ huk,qG,auO,if_false];simp only[iN,hg,auO,if_false,avj];exact od _
end
section
variable {G:Type} {Γ:Env G} {s:AS G} {a:Act} {w w':World} {η:List Value} {hp:List ax} {F:Nat->Nat->Prop} {P:Program}
theorem Cv{tab:Nat->Option TD}(aC:bn Γ.P tab){o:Oper}{T:Nat}{x:Operand}{lo hi:Option Operand}(ho:o.op=.slice T x lo hi none){d:TD}(hd:tab T=some d)(hk:d.kind=.str){b:aw}(hx:s.ev x=.ay (.string b)){l h:Int}(hl:cq s.ev 0 lo=some l)(hh:cq s.ev b.size hi=some h)(h0:0<=l)(h1:l<=h)(h2:h<=b.size):fN Γ o s (.ay (.string (b.extract l.toNat h.toNat))):=by (refine bh λa w η hrel=>⟨_,?_,.ay _⟩;have eU:=hrel.ev x;rw[hx]at eU;have w7:=eU.aB;have hu:Γ.P.underlying T=some .string:=by obtain⟨u,q2,q3⟩:=(aC T d hd).mO;rw[hk]at q3;rw[q2];exact congrArg some q3);(have KV:lo=none/\l=0\/∃y k,lo=some y/\a.eval y=.int k l:=by cases lo with|none=>simp[cq]at hl;exact .inl ⟨rfl,hl.symm⟩|some y=>obtain⟨k,hk⟩:=iP hrel hl;exact .inr ⟨y,k,rfl,hk⟩);(have hhv:hi=none/\h=b.size\/∃y k,hi=some y/\a.eval y=.int k h:=by cases hi with|none=>simp[cq]at hh;exact .inl ⟨rfl,hh.symm⟩|some y=>obtain⟨k,hk⟩:=iP hrel hh;exact .inr ⟨y,k,rfl,hk⟩);rcases hhv with⟨rfl,rfl⟩|⟨y,k,rfl,hv⟩;rcases KV with⟨rfl,rfl⟩|⟨y0,k0,rfl,vT⟩;simp[execOp,ho,Instr.sliceAt,run_underlying hu,Instr.slice,w7,Instr.sliceBounds];have Si:=run_sliceBound (P:=Γ.P) w vT (y:=b.size) h0 (by omega) .sliceB;simp[execOp,ho,Instr.sliceAt,run_underlying hu,Instr.slice,w7,Instr.sliceBounds,Si];have hs:=run_sliceBound (P:=Γ.P) w hv (y:=b.size) (by omega) (by omega) .sliceAlen;rcases KV with⟨rfl,rfl⟩|⟨y0,k0,rfl,vT⟩;simp[execOp,ho,Instr.sliceAt,run_underlying hu,Instr.slice,w7,Instr.sliceBounds,hs];have Si:=run_sliceBound (P:=Γ.P) w vT (y:=h.toNat) h0 (by omega) .sliceB;simp[execOp,ho,Instr.sliceAt,run_underlying hu,Instr.slice,w7,Instr.sliceBounds,hs,Si]
theorem sU(aN:Γ.Ok){tab:Nat->Option TD}(aC:bn Γ.P tab){o:Oper}{c:Prop}{r:AV}(h:bL tab s.hp s.ev o.op=some (c,r))(hc:c):fN Γ o s r:=by
 generalize ho:o.op=op at h;cases op with
  |move x=>simp only[bL,aul,aup]at h;obtain⟨_,rfl⟩:=h;exact bh λa w η hr=>⟨a.eval x,by simp[execOp,ho],hr.ev x⟩|assign x=>simp only[bL,aul,aup]at h;obtain⟨_,rfl⟩:=h;exact bh λa w η hr=>⟨a.eval x,by simp[execOp,ho],hr.ev x⟩|nilCheck x=>simp only[bL]at h;split at h;(rename_i r0 o0 hx;simp only[aul,aup]at h;obtain⟨_,rfl⟩:=h;refine bh λa w η hr=>?_;have hp:=hr.ev x;rw[hx]at hp;obtain⟨b,hb⟩:∃b,a.eval x=.pointer (some b):=by generalize a.eval x=v at hp;cases hp;exact⟨_,rfl⟩);exact⟨a.eval x,by simp[execOp,ho,hb],hp⟩;(rename_i r0 o0 hx;simp only[aul,aup]at h;obtain⟨_,rfl⟩:=h;refine bh λa w η hr=>?_;have hp:=hr.ev x;rw[hx]at hp;obtain⟨b,hb⟩:∃b,a.eval x=.pointer (some b):=by generalize a.eval x=v at hp;cases hp;exact⟨_,rfl⟩);exact⟨a.eval x,by simp[execOp,ho,hb],hp⟩;cases h|pick cc x y=>simp only[bL]at h;split at h;rename_i t ht;simp only[aul,aup]at h;obtain⟨_,rfl⟩:=h;exact Qt ho ht;cases h|fieldAddr T x f=>simp only[bL]at h;split at h;rename_i p hp;split at h;cases h;rename_i h0;split at h;rename_i n off he;simp only[aul,aup]at h;exact qE aC ho hp h0 (.inl ⟨n,off,he,h.2.symm⟩);rename_i e off he;simp only[aul,aup]at h;exact qE aC ho hp h0 (.inr ⟨e,off,he,h.2.symm⟩);rename_i r0 m0 i0 z0 he;split at h;rename_i hz;simp only[aul,aup]at h;obtain⟨_,rfl⟩:=h;exact yt aC ho hp h0 he hz;cases h;cases h;cases h|load T x=>simp only[bL]at h;split at h;rename_i d hd;split at h;rename_i n off he;split at h;rename_i cs gY;(cases hl:gd d.kind.agg d.size cs off with|none=>rw[hl]at h;cases h|some v=>rw[hl]at h;simp only[auX,aul,aup]at h;obtain⟨_,rfl⟩:=h;exact C4 aC ho hd (.inl ⟨n,off,cs,he,gY,hl⟩));cases h;rename_i e off he;(cases hl:zK d.kind.agg d.size e off with|none=>rw[hl]at h;cases h|some v=>rw[hl]at h;simp only[auX,aul,aup]at h;obtain⟨_,rfl⟩:=h;exact C4 aC ho hd (.inr ⟨e,off,he,hl⟩));rename_i r0 m0 i0 z0 he;split at h;rename_i e0 z' els sE;split at h;(rename_i qz;obtain⟨rfl,Qs⟩:=qz;simp only[aul,aup]at h;obtain⟨rfl,rfl⟩:=h;have hg:els.getD i0 .top=els[i0]'hc.2.1:=by simp[List.getD,hc.2.1]);rw[hg]at hc ⊢;exact K4 aC ho hd he sE hc.1 Qs hc.2.1 hc.2.2;cases h;cases h;cases h;cases h|indexAddr T x i=>simp only[bL]at h;split at h;rename_i d hd;split at h;rename_i e hk;split at h;rename_i d' els k n fj fA hi;simp only[aul,aup]at h;obtain⟨rfl,rfl⟩:=h;exact zN aC ho hd hk fj fA hi hc.1 hc.2.1 hc.2.2;rename_i d' k n fj fA hi;split at h;rename_i r m e' size k' hm;split at h;rename_i qz;simp only[aul,aup]at h;obtain⟨rfl,rfl⟩:=h;obtain⟨hx,els,sE,rfl⟩:=rR hm;obtain⟨rfl,rfl⟩:=qz;exact yx aC ho hd hk fj hx sE hc.2.2 hi hc.1 hc.2.1;cases h;cases h;cases h;rename_i m hk;split at h;rename_i r k n hx hi;simp only[aul,aup]at h;obtain⟨rfl,rfl⟩:=h;exact yu aC ho hd hk hx hi hc.1 hc.2;rename_i e k n hx hi;simp only[aul,aup]at h;obtain⟨rfl,rfl⟩:=h;exact yw aC ho hd hk hx hi hc.1 hc.2;cases h;cases h;cases h|binOp op T x y T'=>simp only[bL]at h;split at h;rename_i v hv;simp only[aul,aup]at h;obtain⟨_,rfl⟩:=h;exact SD aC ho hv;exact He aC ho h hc|convert S D x=>simp only[bL]at h;obtain⟨r',h1,h2⟩:=ave.1 h;simp only[aup]at h2;rw[<-h2.2];exact SE aC ho h1|unOp op T x=>simp only[bL]at h;split at h;rename_i b he;simp only[aul,aup]at h;exact C6 ho (.inl ⟨b,rfl,he,h.2.symm⟩);rename_i k n he;simp only[aul,aup]at h;exact C6 ho (.inr ⟨k,n,rfl,he,h.2.symm⟩);cases h|build T parts=>simp only[bL]at h;split at h;rename_i d hd;split at h;rename_i fs hk;(cases hl:dQ fs (d.zero.cells.toList.map .ay) (parts.toList.map λp=>(p.1,s.ev p.2))with|none=>rw[hl]at h;cases h|some cs=>rw[hl]at h;simp only[auX,aul,aup]at h;obtain⟨_,rfl⟩:=h;exact La aC ho hd hk hl);rename_i n hk;(cases hl:dQ (zL n) (d.zero.cells.toList.map .ay) (parts.toList.map λp=>(p.1,s.ev p.2))with|none=>rw[hl]at h;cases h|some cs=>rw[hl]at h;simp only[auX,aul,aup]at h;obtain⟨_,rfl⟩:=h;exact Hi aC ho hd hk hl);cases h;cases h|buildSlice T n parts=>simp only[bL]at h;split at h;rename_i d hd;split at h;rename_i e hk;split at h;rename_i d' fj;split at h;rename_i oh;simp only[aul,aup]at h;obtain⟨rfl,rfl⟩:=h;exact yB aN aC ho hd hk fj oh.1 oh.2.1 oh.2.2.1 oh.2.2.2 hc;cases h;cases h;cases h;cases h|field T x f=>simp only[bL]at h;split at h;rename_i p cs hp hx;split at h;rename_i oh;(cases hl:gd p.2.2 p.2.1 cs p.1 with|none=>rw[hl]at h;cases h|some v=>rw[hl]at h;simp only[auX,aul,aup]at h;obtain⟨_,rfl⟩:=h;exact K9 aC ho hp hx hl λhf=>by rcases oh with h1|h1;rw[h1]at hf;cases hf;exact h1);cases h;cases h|lookup T m k ok=>simp only[bL]at h;split at h;rename_i d es a hd hm hk;split at h;rename_i kt et qH;split at h;rename_i dk de sq Qx;split at h;rename_i ik yZ;simp only[aul,aup]at h;obtain⟨_,rfl⟩:=h;exact w9 (agw ik) aC ho hd qH sq (λu hu=>by rw[yZ]at hu;exact hu) Qx hm hk;cases h;cases h;cases h;rename_i d es a hd hm hk;split at h;rename_i kt et qH;split at h;rename_i dk de sq Qx;split at h;rename_i yZ;simp only[aul,aup]at h;obtain⟨_,rfl⟩:=h;exact w9 agx aC ho hd qH sq (λu hu=>by rw[yZ]at hu;exact hu) Qx hm hk;cases h;cases h;cases h;cases h|index T x i=>simp only[bL]at h;split at h;rename_i d b k n hd hx hi;split at h;(rename_i hk;simp only[aul,aup]at h;obtain⟨rfl,rfl⟩:=h;refine bh λa w η hr=>?_;have h1:=hr.ev x;rw[hx]at h1;have h1:=h1.aB;have h2:=hr.ev i;rw[hi]at h2;have h2:=h2.aB;have hu:Γ.P.underlying T=some .string:=by obtain⟨u,q2,q3⟩:=(aC T d hd).mO;rw[hk]at q3;rw[q2];exact congrArg some q3);(obtain⟨h3,h4⟩:=hc;have aF:n.toNat<b.size:=by omega);(refine⟨.int .u8 (dV b n),?_,.ay _⟩;have e:b[n.toNat]?=some b[n.toNat]:=getElem?_pos b n.toNat aF;have e2:dV b n=(b[n.toNat].toNat:Int):=by (unfold dV;have:b.data[n.toNat]?=some b[n.toNat]:=by rw[avc (by exact aF)];rfl);rw[this];rfl);simp only[execOp,ho,h1,h2,Instr.index,asIntOf,ao,aq,al,run_underlying hu,if_pos h3,e,e2];cases h;cases h|extract x i=>simp only[bL]at h;split at h;rename_i vs he;(cases hl:vs[i]? with|none=>rw[hl]at h;cases h|some v=>rw[hl]at h;simp only[auX,aul,aup]at h;obtain⟨_,rfl⟩:=h;exact EJ ho he hl);cases h|makeFunc fn first caps=>cases fn with|func f=>simp only[bL]at h;split at h;rename_i h0;simp only[aul,aup]at h;obtain⟨_,rfl⟩:=h;exact Ct ho h0;split at h;rename_i h0;simp only[aul,aup]at h;obtain⟨_,rfl⟩:=h;exact yz ho h0;cases h|_=>simp[bL]at h
  |slice T x lo hi mx=>simp only[bL]at h;split at h;rename_i d hd;split at h;rename_i b hk hx;split at h;rename_i l h' hl hh;simp only[aul,aup]at h;obtain⟨rfl,rfl⟩:=h;exact Cv aC ho hd hk hx hl hh hc.1 hc.2.1 hc.2.2;cases h;rename_i e hk;split at h;rename_i els d' fA fj;split at h;(rename_i l h' hl hh hm;simp only[aul,aup]at h;obtain⟨rfl,rfl⟩:=h;have hmx:mx=none:=by cases mx<;>simp_all);exact zS aC ho hd hk fj fA hl hh hc.1 hc.2.1 hc.2.2.1 hc.2.2.2 (.inl ⟨hmx,rfl⟩);rename_i l h' m hl hh hm;split at h;rename_i his;simp only[aul,aup]at h;obtain⟨rfl,rfl⟩:=h;(cases mx with|none=>simp at hm|some y=>simp only[auX,aul]at hm;exact zS aC ho hd hk fj fA hl hh hc.1 hc.2.1 hc.2.2.2.1 hc.2.2.2.2 (.inr ⟨y,m,rfl,his,hm,hc.2.2.1,rfl⟩));cases h;cases h;cases h;cases h;cases h|call cl=>
   simp only[bL]at h;split at h;rename_i x hb hl;split at h;(rename_i d hd;have hT:∃T,cl.argTypes[0]?=some T/\tab T=some d:=by cases hT:cl.argTypes[0]? with|none=>rw[hT]at hd;cases hd|some T=>rw[hT]at hd;exact⟨T,rfl,hd⟩);obtain⟨T,hT,hd⟩:=hT;split at h;cases h;rename_i e hk hns;split at h;case h_2=>
    split at h
    ·rename_i r0 m0 e0 z0 k0 hm;simp only[aul,aup]at h;obtain⟨rfl,rfl⟩:=h;obtain⟨hx,els,sE,rfl⟩:=rR hm;exact Qv aC ho hb hl hT hd hk hx sE hc
    ·cases h
   (rename_i u hu;simp only[aul,aup]at h;obtain⟨_,rfl⟩:=h;have h:(vU s.hp (s.ev x))=some u:=hu;have KV:∃els,(s.ev x).jr s.hp=some els/\u=.ay (.int .i64 els.length):=by unfold vU at h;split at h;rename_i sb he;exact(hns sb he).elim;cases fA:(s.ev x).jr s.hp with|none=>rw[fA]at h;cases h|some els=>rw[fA]at h;exact⟨els,rfl,(auo h).symm⟩);obtain⟨els,h1,h2⟩:=KV;exact Hf aC ho hb hl hT hd (.inl ⟨e,els,hk,h1,h2⟩);rename_i b hk hx;simp only[aul,aup]at h;exact Hf aC ho hb hl hT hd (.inr ⟨b,hk,hx,h.2.symm⟩);cases h;cases h;rename_i x y hb hl;split at h;rename_i k m k' n hx hy;simp only[aul,aup]at h;obtain⟨_,rfl⟩:=h;exact SG ho hb hl hx hy;cases h;rename_i x y hb hl;split at h;rename_i k m k' n hx hy;simp only[aul,aup]at h;obtain⟨_,rfl⟩:=h;exact SH ho hb hl hx hy;cases h;cases h
  |_=>simp[bL]at h
end
section
variable {G:Type} {Γ:Env G} {s:AS G} {a:Act} {w w':World} {η:List Value} {hp:List ax} {F:Nat->Nat->Prop} {P:Program}
def gV(Γ:Env G)(o:Oper)(s:AS G)(r:AV)(hp':List ax):Prop:=
 ∀a w η,Rel Γ s a w η->∃v w' bj,((execOp a.eval o).run Γ.P w=.ok (.value v) w'\/(execOp a.eval o).run Γ.P w=.ok .skip w'/\v=undef)/\
  Rel Γ { s with hp:=hp' } a w' bj/\bq w' (bw Γ w' bj hp') bj hp' r v
def bC(d:TD)(n:Nat)(els aL:List AV):Prop:=(∀x:AV,x∈els->x.cells.length=d.size)/\(∀x:AV,x∈aL->x.cells.length=d.size)/\n<=maxLen/\n*d.bytes<=140737488355328
def cD{κ:Type}[DecidableEq κ]:List (κ×Value)->κ->Value->List (κ×Value)
 | [],a,v=>[(a,v)]|(k,u)::r,a,v=>if a=k then(k,v)::r else(k,u)::cD r a v
def y5:Operand->Operand->Bool
 | .tmp a,.tmp b=>Nat.beq a b|_,_=>false
theorem Ld{l c:Operand}(h:y5 l c=true):l=c:=by unfold y5 at h;grind [auN]
def Hm(d:TD):Option Value:=
 match Nat.beq d.size 1,d.zero.cells.toList with
 |true,[z]=>if z.oneCell'=true then some z else none
 |_,_=>none
theorem SL{d:TD}{z:Value}(h:Hm d=some z):d.size=1/\d.zero.cells=#[z]/\z.oneCell'=true:=by grind [Hm,auN]
def eE(tab:Nat->Option TD)(hp:List ax)(ρ:Operand->AV):Op->Option (Prop×AV×List ax)
 | .alloc T=>(match tab T with|some d=>some (True,.ptr hp.length 0,hp++[.box (d.zero.cells.toList.map .ay)])|none=>none)| .box _ x=>if(ρ x).oe=true then some (True,.ptr hp.length 0,hp++[.box (ρ x).cells])else none| .store T p x=>(match tab T,ρ p with|some d,.ptr r o=>(match hp[r]? with|some (.box cs)=>if(ρ x).oe=true then some ((ρ x).cells.length=d.size/\o+d.size<=cs.length,.top,hp.set r (.box (setCells cs o (ρ x).cells)))else none|_=>none)|some d,.fY r m i z=>(match hp[r]? with|some (.aV e size els)=>if((ρ x).fE hp).oe=true/\size=z then(if d.size=z then some (((ρ x).fE hp).cells.length=d.size/\m=els.length/\i<els.length,.top,hp.set r (.aV e size (els.set i ((ρ x).fE hp))))else some (((ρ x).fE hp).cells.length=d.size/\d.size<=z/\m=els.length/\i<els.length,.top,hp.set r (.aV e size (els.set i (.agg (setCells (els.getD i .top).cells 0 ((ρ x).fE hp).cells))))))else none|_=>none)|_,_=>none)| .makeSlice T l c=>(match tab T with|some d=>(match d.kind with| .kW e=>(match y5 l c with|true=>(match tab e,ρ c with|some d',.ay (.int _ n)=>(match Hm d' with|some z=>some (0<=n/\n<=9223372036854775807/\(d'.bytes:Int)*n<=281474976710656,.own hp.length (List.replicate n.toNat (AV.ay z)).length,hp++[.aV e 1 (List.replicate n.toNat (.ay z))])|none=>none)|_,_=>none)|false=>(match tab e,ρ l,ρ c with|some d',.ay (.int _ 0),.ay (.int _ n)=>some (0<=n/\n<=9223372036854775807/\(d'.bytes:Int)*n<=281474976710656/\0<d'.size,.own hp.length 0,hp++[.row e d'.size []])|_,_,_=>none))|_=>none)|none=>none)| .makeMap T none=>(match tab T with|some d=>(match d.kind with| .qt kt _=>(match tab kt with|some dk=>(match dk.kind with| .str=>some (True,.mp hp.length,hp++[.cJ (.s [])])|_=>some (True,.mp hp.length,hp++[.cJ (.i [])]))|none=>none)|_=>none)|none=>none)| .mapUpdate T m k x=>(match tab T,ρ m,ρ k,(ρ x).val? with|some d,.mp r,.ay (.int .i64 a),some v=>(match d.kind,hp[r]? with| .qt kt _,some (.cJ (.i es))=>(match tab kt with|some dk=>(match dk.kind with| .int _=>some (True,.top,hp.set r (.cJ (.i (cD es a v))))|_=>none)|none=>none)|_,_=>none)|some d,.mp r,.ay (.string a),some v=>(match d.kind,hp[r]? with| .qt kt _,some (.cJ (.s es))=>(match tab kt with|some dk=>(match dk.kind with| .str=>some (True,.top,hp.set r (.cJ (.s (cD es a v))))|_=>none)|none=>none)|_,_=>none)|_,_,_,_=>none)| .call c=>(match c.callee,c.args.toList,c.argTypes.toList with| .builtin .append,[b,x],[T,T']=>if T=T' then(match tab T with|some d=>(match d.kind with| .kW e=>(match tab e,(ρ x).jr hp with|some d',some aL=>(match ρ b with| .ay (.slice none 0 0)=>some (0<d'.size/\bC d' aL.length [] aL,.own hp.length aL.length,hp++[.row e d'.size aL])| .clip els=>some (0<d'.size/\(aL=[]->els=[])/\bC d' (els.length+aL.length) els aL,.own hp.length (els.length+aL.length),hp++[.row e d'.size (els++aL)])| .own r n=>(match hp[r]? with|some (.row e' size els)=>if e'=e/\size=d'.size/\n=els.length then some (bC d' (els.length+aL.length) [] aL,.own r (els.length+aL.length),hp.set r (.row e size (els++aL)))else none|some (.aV e' size els)=>if e'=e/\size=d'.size/\n=els.length then some (bC d' (els.length+aL.length) [] aL,.own r (els.length+aL.length),hp.set r (.aV e size (els++aL)))else none|_=>none)|_=>none)|_,_=>none)|_=>none)|none=>none)else none|_,_,_=>none)|_=>none
theorem SM(aN:Γ.Ok){o:Oper}{T:Nat}{x:Operand}(ho:o.op=.box T x)(hs:(s.ev x).oe=true):gV Γ o s (.ptr s.hp.length 0) (s.hp++[.box (s.ev x).cells]):=by
 intro a w η hr;have Hh:=(hr.ev x).Hg hs;have xa:=cj.alloc w (.cells (a.eval x).cells T);have he:=tO (Γ:=Γ) (o:=.box (s.ev x).cells) (v:=.pointer (some ⟨w.heap.size,0,none⟩)) hr.heap.len xa (λb hb=>by simp only[dn,aul]at hb;omega);refine⟨.pointer (some ⟨w.heap.size,0,none⟩),_,η++[.pointer (some ⟨w.heap.size,0,none⟩)],.inl (by simp[execOp,ho,Instr.box,newVar,newRow];rfl),?_,?_⟩
 ·exact hr.add aN xa (by simp[dn]) ⟨w.heap.size,(a.eval x).cells,T,rfl,heap_alloc_new w _,by simpa using Hh.1,λj y u hy hu=>by have:=Hh.2 j y u hy (by simp_all);exact⟨this.1.ext he,this.2⟩⟩
 exact .ptr _ 0 w.heap.size (by rw[<-hr.heap.len];simp)
theorem Le(aN:Γ.Ok){tab:Nat->Option TD}(aC:bn Γ.P tab){o:Oper}{T:Nat}(ho:o.op=.alloc T){d:TD}(hd:tab T=some d):gV Γ o s (.ptr s.hp.length 0) (s.hp++[.box (d.zero.cells.toList.map .ay)]):=by intro a w η hr;have dP:=aC T d hd;have xa:=cj.alloc w (.cells d.zero.cells T);refine⟨.pointer (some ⟨w.heap.size,0,none⟩),_,η++[.pointer (some ⟨w.heap.size,0,none⟩)],.inl (by simp[execOp,ho,Instr.alloc,dP.kc,newVar,newRow];rfl),?_,?_⟩;refine hr.add aN xa (by simp[dn]) ⟨w.heap.size,d.zero.cells,T,rfl,heap_alloc_new w _,by simp,λj y u hy hu=>?_⟩;exact(dP.EK (w:=_) (F:=_) (η:=_) (hp:=_)).2 j y u hy (by simp_all);exact .ptr _ 0 w.heap.size (by rw[<-hr.heap.len];simp)
theorem Hn(aN:Γ.Ok){b r:Nat}:∀(us:List Value)(xs:List AV)(k off:Nat)(cs:List AV)(s:AS G)(w:World),Rel Γ s a w η->s.hp[r]?=some (.box cs)->η[r]?=some (.pointer (some ⟨b,0,none⟩))-> sT w (bw Γ w η s.hp) η s.hp xs us->off+k+xs.length<=cs.length-> ∃w',(storeCells ⟨b,off,none⟩ us k).run Γ.P w=.ok () w'/\Rel Γ { s with hp:=s.hp.set r (.box (setCells cs (off+k) xs)) } a w' η:=by intro us;induction us with|nil=>(intro xs k off cs s w hr hb fU Hh hle;have:xs=[]:=auV (by have:=Hh.1;simp_all);subst this;refine⟨w,rfl,?_⟩;have:s.hp.set r (.box (setCells cs (off+k) []))=s.hp:=by apply avf;intro i;by_cases hi:r=i;subst hi;rw[aD hb,hb];rfl;simp_all);simp_all|cons u us ih=>intro xs k off cs s w hr hb fU Hh hle;cases xs with|nil=>have:=Hh.1;grind|cons x xs=>(have h0:=Hh.2 0 x u rfl rfl;simp only[auy]at hle;obtain⟨h1,h2,u',h3⟩:=hr.write aN (off:=off+k) hb fU (by omega) h0.2 h0.1;have eF:sT (w.setCell ⟨b,off+k,none⟩ u) (bw Γ (w.setCell ⟨b,off+k,none⟩ u) η (s.hp.set r (.box (cs.set (off+k) x)))) η (s.hp.set r (.box (cs.set (off+k) x))) xs us:=by refine⟨by simpa using Hh.1,λj y z hy hz=>?_⟩;have h4:=Hh.2 (j+1) y z (by simp_all) (by simp_all);refine⟨?_,h4.2⟩;refine h4.1.ext ?_;refine⟨λb' o v hf hc=>?_,λb' es c hf hc=>?_,λb' o hf=>?_,λ_ _ h=>h,λ_ _ h=>h,λr' n v ho=>?_⟩;(have bW:b'≠b:=by intro e;subst e;obtain⟨o1,q1,q2⟩:=(bp b' o).1 hf.2.2.2 r _ fU rfl;rw[hb]at q1;obtain rfl:=auo q1;exact q2);grind [World.cell?_of_block,avU];(have bW:b'≠b:=by intro e;subst e;obtain⟨o1,q1,q2⟩:=(bp b' 0).1 hf.2.2.2 r _ fU rfl;rw[hb]at q1;obtain rfl:=auo q1;exact q2);simp_all [avU];refine⟨hf.1,by simpa using hf.2.1,hf.2.2.1,(bp b' o).2 λr' v hv xb=>?_⟩;obtain⟨o1,q1,q2⟩:=(bp b' o).1 hf.2.2.2 r' v hv xb;by_cases YC:r=r';subst YC;rw[hb]at q1;obtain rfl:=auo q1;exact q2.elim;simp_all;grind [bk]);obtain⟨w',e1,e2⟩:=ih xs (k+1) off (cs.set (off+k) x) { s with hp:=s.hp.set r (.box (cs.set (off+k) x)) } (w.setCell ⟨b,off+k,none⟩ u) h1 (aD hb) fU eF (by grind);refine⟨w',?_,?_⟩;simp_all [storeCells,Addr.add_lit,run_store];grind [setCells,List.set_set]
theorem Lf(aN:Γ.Ok){tab:Nat->Option TD}(aC:bn Γ.P tab){o:Oper}{T r off:Nat}{p x:Operand}(ho:o.op=.store T p x){d:TD}(hd:tab T=some d)(hp:s.ev p=.ptr r off){cs:List AV}(hb:s.hp[r]?=some (.box cs))(hs:(s.ev x).oe=true)(hl:(s.ev x).cells.length=d.size)(hle:off+d.size<=cs.length):gV Γ o s .top (s.hp.set r (.box (setCells cs off (s.ev x).cells))):=by intro a w η hr;have zU:=hr.ev p;rw[hp]at zU;have eU:=(hr.ev x).Hg hs;generalize hv:a.eval p=v at zU;cases zU with|ptr _ _ b fU=>(obtain⟨w',e1,e2⟩:=Hn aN (a.eval x).cells.toList (s.ev x).cells 0 off cs s w hr hb fU eU (by omega);refine⟨undef,w',η,.inr ⟨?_,rfl⟩,by omega,.top _⟩;have cY:(a.eval x).cells.size=d.size:=by rw[<-hl,<-eU.1];simp);simp only[execOp,ho,hv,Instr.storeAt,Instr.sureAddr,ao,aq,al,storeVar,(aC T d hd).run_sizeOf,cY,ne_eq,not_true_eq_false,if_false,e1]
theorem C8{b off:Nat}{T:TypeId}:∀(us:List Value)(k:Nat)(cs:Array Value)(w:World),w.heap[b]?=some (.cells cs T (0,0))->off+k+us.length<=cs.size->(∀u∈us,u.oneCell'=true)-> ∃w' eJ,(storeCells ⟨b,off,none⟩ us k).run P w=.ok () w'/\w'.heap[b]?=some (.cells eJ T (0,0))/\eJ.toList=gj cs.toList (off+k) us/\cy (λx=>x=b) w w'
 | [],k,cs,w,hb,_,_=>⟨w,cs,rfl,hb,rfl,cy.refl _ _⟩|u::us,k,cs,w,hb,hle,h1=>by (simp only[auy]at hle;have yr:(w.setCell ⟨b,off+k,none⟩ u).heap[b]?=some (.cells (cs.setIfInBounds (off+k) u) T (0,0)):=by grind [Go.heap_setCell_same]);obtain⟨w',eJ,e1,e2,e3,e4⟩:=C8 (off:=off) us (k+1) _ _ yr (by grind) (by simp_all);refine⟨w',eJ,?_,e2,?_,?_⟩;(have hc:w.cell? ⟨b,off+k,none⟩=some (cs[off+k]'(by omega)):=by rw[cell_of_row w b (off+k) cs T (0,0) hb];simp);have hf:=frozen_of_row w b (off+k) cs T hb;simp_all [storeCells,Addr.add_lit,run_store];simp_all [gj,av1];exact(show cy (λx=>x=b) w (w.setCell ⟨b,off+k,none⟩ u)from⟨rfl,rfl,rfl,by simp,by grind [avU]⟩).trans e4 λ_ _ h=>h
theorem xf(aN:Γ.Ok){tab:Nat->Option TD}(aC:bn Γ.P tab){o:Oper}{T r m i z e:Nat}{p x:Operand}(ho:o.op=.store T p x){d:TD}(hd:tab T=some d)(hp:s.ev p=.fY r m i z){els:List AV}(hb:s.hp[r]?=some (.aV e z els))(hs:((s.ev x).fE s.hp).oe=true)(hl:((s.ev x).fE s.hp).cells.length=d.size)(hm:m=els.length)(Qs:d.size<=z)(hi:i<els.length){el':AV}(hle:els[i].cells.length=z->el'.cells.length=z)(eG:els[i].cells.length=z->∀(j:Nat)(y:AV),el'.cells[j]?=some y->(j<d.size->((s.ev x).fE s.hp).cells[j]?=some y)/\(d.size<=j->els[i].cells[j]?=some y)):gV Γ o s .top (s.hp.set r (.aV e z (els.set i el'))):=by
 intro a w η hr;have zU:=hr.ev p;rw[hp]at zU;have eU:=(lG hr.heap hr.cu (hr.ev x)).Hg hs;generalize (s.ev x).fE s.hp=el at hs hl eU eG;generalize hv:a.eval p=v at zU;cases zU with
  |fY _ _ _ _ b o' c k G2=>
   have zM:=G2;unfold bk at zM;rw[hb]at zM;have fU:=zM.2 hm;obtain⟨Sg,xs,fh,fA⟩:=hr.heap.obj r _ _ hb fU;rcases fh.2 with⟨h0,_⟩|⟨g,cap,cur,he,h0,⟨Cn,w6,hg⟩,KT,KU,gY,qd⟩;omega;obtain rfl:Cn=0:=Nat.le_zero.1 w6;(simp only[Value.slice.injEq,aul,Addr.mk.injEq,and_true]at he;obtain⟨⟨rfl,rfl⟩,rfl,rfl⟩:=he;generalize Cp:(a.eval x).cells.toList=us at eU;have hul:us.length=d.size:=by rw[eU.1,hl]);(have hold:=fA i els[i] (aus hi);have eG:=eG hold.1;have hle:=hle hold.1;have aT:(i+1)*z<=els.length*z:=au6 _ hi;have K0:els.length*z<=c*z:=au6 _ KT;rw[avr,Nat.one_mul]at aT;obtain⟨w',eJ,e1,e2,e3,e4⟩:=C8 (P:=Γ.P) (off:=0+i*z) us 0 cur w hg (by omega) λu hu=>by (obtain⟨j,hj⟩:=avD hu;have aF:j<el.cells.length:=by rw[<-eU.1];exact(aun.1 hj).1);exact(eU.2 j _ u (aus aF) hj).2);(have cY:(a.eval x).cells.size=d.size:=by rw[<-hl,<-eU.1,<-Cp];simp);have wX:dn (.slice (some ⟨b,0,none⟩) els.length c)=some b:=cK h0;have ad6:η.set r (.slice (some ⟨b,0,none⟩) els.length c)=η:=by apply avf;intro k;by_cases hk:r=k;subst hk;rw[aD fU,fU];rw[getElem?_set_ne hk]
   have:=Rel.change (w':=w') (o':=.aV e z (els.set i el')) (v':=.slice (some ⟨b,0,none⟩) els.length c) aN hr hb ai fU
    ⟨e4.os,e4.tape,e4.output,e4.size,λk hk hkb=>e4.block k hk λh=>hkb (by rw[wX,h])⟩
    (λc hc=>.inl hc) (λk hk=>hk.elim) (λ_ _ _ _ hk=>hk.elim) (λ_ _ _ _ hk=>hk.elim)
    (λn u ho=>by
     unfold bk at ho ⊢;rw[hb]at ho;rw[aD hb,ad6]
     exact⟨by rw[avK];exact ho.1,λh=>ho.2 (by rw[avK]at h;exact h)⟩)
    (λ_ _=>rfl) (λ_ hx=>by cases hx)
    (λb' d' gb fj=>by rw[wX]at gb;obtain rfl:=auo gb;rw[hg]at fj;cases fj)
    (λhe=>⟨Sg,gj xs (i*z) us,⟨by rw[iO,avK];exact fh.1,.inr ⟨b,c,eJ,by rw[avK],h0,⟨0,aur _,e2⟩,by rw[avK];exact KT,KU,by
      have:eJ.toList.length=cur.toList.length:=by rw[e3,iO]
      simp only[au2]at this;rw[this,gY],by
      rw[avK];apply avf;intro k;have hlen:i*z+us.length<=cur.toList.length:=by simp only[au2];omega
      have Ho:i*z+us.length<=xs.length:=by rw[fh.1];omega
      rw[auL,dx us xs _ _ Ho,e3,avu,auZ,dx us _ _ _ hlen]
      by_cases hk:k<els.length*z
      ·rw[if_pos hk]
       by_cases eG:i*z<=k/\k<i*z+us.length
       ·rw[if_pos eG,if_pos eG]
       ·rw[if_neg eG,if_neg eG,<-qd,auL,if_pos hk]
      ·rw[if_neg hk,if_neg (by omega),auQ (by rw[fh.1];omega)]⟩⟩,λi' el2 wY=>by
      have Ho:i*z+us.length<=xs.length:=by rw[fh.1];omega
      by_cases K6:i=i'
      ·subst K6;rw[List.getElem?_set_self hi]at wY;obtain rfl:=auo wY;refine⟨hle,λj x hj=>?_⟩
       by_cases hjd:j<d.size
       ·have hj:=(eG j x hj).1 hjd;have Lg:j<us.length:=by omega
        refine⟨us[j],?_,((eU.2 j x _ hj (aus Lg)).1).ext he.ny.ext,(eU.2 j x _ hj (aus Lg)).2⟩;rw[dx us xs _ _ Ho,if_pos (by omega),show i*z+j-i*z=j from by omega,aus Lg]
       ·obtain⟨u,q1,q2,q3⟩:=hold.2 j x ((eG j x hj).2 (by omega));refine⟨u,?_,q2.ext he.ny.ext,q3⟩;rw[dx us xs _ _ Ho,if_neg (by omega)];exact q1
      ·rw[getElem?_set_ne K6]at wY;refine⟨(fA i' el2 wY).1,λj x hj=>?_⟩;obtain⟨u,q1,q2,q3⟩:=(fA i' el2 wY).2 j x hj;refine⟨u,?_,q2.ext he.ny.ext,q3⟩;have hjz:j<z:=by rw[<-(fA i' el2 wY).1];exact(aun.1 hj).1
       rw[dx us xs _ _ Ho,if_neg ?_]
       ·exact q1
       ·rw[hul];rcases Nat.lt_or_gt_of_ne K6 with h|h
        ·have:=au6 z (show i+1<=i' from h);rw[avr,Nat.one_mul]at this;omega
        ·have:=au6 z (show i'+1<=i from h)
         rw[avr,Nat.one_mul]at this;omega⟩)
   rw[ad6]at this;refine⟨undef,w',η,.inr ⟨?_,rfl⟩,this,.top _⟩;simp only[execOp,ho,hv,Instr.storeAt,Instr.sureAddr,ao,aq,al,storeVar,(aC T d hd).run_sizeOf,cY,ne_eq,not_true_eq_false,if_false,Cp,e1]
theorem Hp(aN:Γ.Ok){tab:Nat->Option TD}(aC:bn Γ.P tab){o:Oper}{T r m i z e:Nat}{p x:Operand}(ho:o.op=.store T p x){d:TD}(hd:tab T=some d)(hp:s.ev p=.fY r m i z){els:List AV}(hb:s.hp[r]?=some (.aV e z els))(hs:((s.ev x).fE s.hp).oe=true)(hl:((s.ev x).fE s.hp).cells.length=d.size)(hm:m=els.length)(Qs:d.size=z)(hi:i<els.length):gV Γ o s .top (s.hp.set r (.aV e z (els.set i ((s.ev x).fE s.hp)))):=by grind [xf]
theorem mY:∀(xs cs:List AV)(k j:Nat),k+xs.length<=cs.length->(setCells cs k xs)[j]?=if k<=j/\j<k+xs.length then xs[j-k]? else cs[j]?
 | [],cs,k,j,_=>by simp[setCells,if_neg]|x::xs,cs,k,j,h=>by simp only[auy]at h;rw[setCells,mY xs _ _ _ (by grind)];grind
theorem Hq(aN:Γ.Ok){tab:Nat->Option TD}(aC:bn Γ.P tab){o:Oper}{T r m i z e:Nat}{p x:Operand}(ho:o.op=.store T p x){d:TD}(hd:tab T=some d)(hp:s.ev p=.fY r m i z){els:List AV}(hb:s.hp[r]?=some (.aV e z els))(hs:((s.ev x).fE s.hp).oe=true)(hl:((s.ev x).fE s.hp).cells.length=d.size)(hm:m=els.length)(Qs:d.size<=z)(hi:i<els.length):gV Γ o s .top (s.hp.set r (.aV e z (els.set i (.agg (setCells (els.getD i .top).cells 0 ((s.ev x).fE s.hp).cells))))):=by (have hg:els.getD i .top=els[i]:=by simp_all);rw[hg];refine xf aN aC ho hd hp hb hs hl hm Qs hi (λh=>by show (setCells _ 0 _).length=z;rw[yq,h]) λh j y hy=>?_;have K8:(setCells els[i].cells 0 ((s.ev x).fE s.hp).cells)[j]?=some y:=hy;rw[mY _ _ _ _ (by omega),hl]at K8;grind
theorem zV(aN:Γ.Ok){tab:Nat->Option TD}(aC:bn Γ.P tab){o:Oper}{T e:Nat}{l c:Operand}(ho:o.op=.makeSlice T l c){d d':TD}(hd:tab T=some d)(hk:d.kind=.kW e)(fj:tab e=some d'){k k':IntKind}{n:Int}(hl:s.ev l=.ay (.int k 0))(hc:s.ev c=.ay (.int k' n))(h0:0<=n)(Hd:n<=9223372036854775807)(h48:(d'.bytes:Int)*n<=281474976710656)(cY:0<d'.size): gV Γ o s (.own s.hp.length 0) (s.hp++[.row e d'.size []]):=by (intro a w η hr;have Yz:=hr.ev l;have Nz:=hr.ev c;rw[hl]at Yz;rw[hc]at Nz;have dP:=aC e d' fj;obtain⟨i,jw,qC,Qq,Nw⟩:=dP.info;have hu:Γ.P.underlying T=some (.slice e):=by obtain⟨u,q2,q3⟩:=(aC T d hd).mO;rw[hk]at q3;rw[q2];exact congrArg some q3);(have hw:IntKind.i64.wrap n=n:=by grind [IntKind.wrap,IntKind.bits]);(have hw0:IntKind.i64.wrap 0=0:=by decide);(have Lh:((decide (n<0)||decide ((d'.bytes:Int)*n>2 ^ 48))||decide ((0:Int)<0)||decide ((0:Int)>n))=false:=by grind);(have jt:∃arr:Array Value,arr.size=n.toNat*d'.size/\(execOp a.eval o).run Γ.P w=.ok (.value (.slice (some ⟨w.heap.size,0,none⟩) 0 n.toNat)) (w.alloc (.cells arr e)):=by by_cases hz:n.toNat*d'.size=0;refine⟨(Array.range (n.toNat*d'.size)).map ((#[]:Array Value)[· % (#[]:Array Value).size]!),by simp,?_⟩;simp only[execOp,ho,Instr.makeSlice,ao,run_underlying hu,al,asInt,Yz.aB,Nz.aB,asIntOf,aq,typeInfo,run_program,jw,Qq,hw,hw0,Lh,auO,if_false,run_askRoom,sizeOf,qC,if_pos hz,newRow,run_newObj];rfl;refine⟨(Array.range (n.toNat*d'.size)).map (d'.zero.cells[· % d'.zero.cells.size]!),by simp,?_⟩;simp only[execOp,ho,Instr.makeSlice,ao,run_underlying hu,al,asInt,Yz.aB,Nz.aB,asIntOf,aq,typeInfo,run_program,jw,Qq,hw,hw0,Lh,auO,if_false,run_askRoom,sizeOf,qC,if_neg hz,dP.kc,newRow,run_newObj];rfl);obtain⟨arr,sF,jt⟩:=jt;have xa:=cj.alloc w (.cells arr e);refine⟨_,_,η++[.slice (some ⟨w.heap.size,0,none⟩) 0 n.toNat],.inl jt,?_,?_⟩;refine hr.add aN xa (λb hb=>?_) ⟨cY,[],⟨by simp,?_⟩,λi el hi=>by simp at hi⟩;simp only[dn]at hb;simp_all;by_cases hn:n.toNat=0;simp_all;exact .inr ⟨w.heap.size,n.toNat,arr,rfl,by omega,⟨0,auv _,heap_alloc_new w _⟩,auv _,by simp only[maxLen];omega,sF,by simp⟩;(refine .own _ 0 _ rfl ?_;unfold bk;have:(s.hp++[ax.row e d'.size []])[s.hp.length]?=some (.row e d'.size []):=by simp);rw[this];exact⟨aur _,λ_=>by rw[<-hr.heap.len];simp⟩
theorem Li(aN:Γ.Ok){tab:Nat->Option TD}(aC:bn Γ.P tab){o:Oper}{T e:Nat}{l c:Operand}(ho:o.op=.makeSlice T l c){d d':TD}(hd:tab T=some d)(hk:d.kind=.kW e)(fj:tab e=some d'){k k':IntKind}{n:Int}(hl:s.ev l=.ay (.int k n))(hc:s.ev c=.ay (.int k' n))(h0:0<=n)(Hd:n<=9223372036854775807)(h48:(d'.bytes:Int)*n<=281474976710656){z:Value}(hz:Hm d'=some z): gV Γ o s (.own s.hp.length (List.replicate n.toNat (AV.ay z)).length) (s.hp++[.aV e 1 (List.replicate n.toNat (.ay z))]):=by (intro a w η hr;have Yz:=hr.ev l;have Nz:=hr.ev c;rw[hl]at Yz;rw[hc]at Nz;have dP:=aC e d' fj;obtain⟨i,jw,qC,Qq,Nw⟩:=dP.info;obtain⟨hs1,hzc,yy⟩:=SL hz;have hu:Γ.P.underlying T=some (.slice e):=by obtain⟨u,q2,q3⟩:=(aC T d hd).mO;rw[hk]at q3;rw[q2];exact congrArg some q3);(have hw:IntKind.i64.wrap n=n:=by grind [IntKind.wrap,IntKind.bits]);(have Lh:((decide (n<0)||decide ((d'.bytes:Int)*n>2 ^ 48))||decide (n<0)||decide (n>n))=false:=by grind);(have jt:∃arr:Array Value,arr.toList=List.replicate n.toNat z/\(execOp a.eval o).run Γ.P w=.ok (.value (.slice (some ⟨w.heap.size,0,none⟩) n.toNat n.toNat)) (w.alloc (.cells arr e)):=by by_cases hz:n.toNat*d'.size=0;(have qI:n.toNat=0:=by simp_all);refine⟨(Array.range (n.toNat*d'.size)).map ((#[]:Array Value)[· % (#[]:Array Value).size]!),by grind,?_⟩;simp only[execOp,ho,Instr.makeSlice,ao,run_underlying hu,al,asInt,Yz.aB,Nz.aB,asIntOf,aq,typeInfo,run_program,jw,Qq,hw,Lh,auO,if_false,run_askRoom,sizeOf,qC,if_pos hz,newRow,run_newObj];rfl;refine⟨(Array.range (n.toNat*d'.size)).map (d'.zero.cells[· % d'.zero.cells.size]!),?_,?_⟩;rw[hs1,hzc,avt];refine List.ext_getElem (by simp) λj h1 h2=>?_;grind;simp only[execOp,ho,Instr.makeSlice,ao,run_underlying hu,al,asInt,Yz.aB,Nz.aB,asIntOf,aq,typeInfo,run_program,jw,Qq,hw,Lh,auO,if_false,run_askRoom,sizeOf,qC,if_neg hz,dP.kc,newRow,run_newObj];rfl);(obtain⟨arr,mQ,jt⟩:=jt;have sF:arr.size=n.toNat:=by grind [List.length_replicate]);have xa:=cj.alloc w (.cells arr e);have hle:=List.length_replicate (n:=n.toNat) (a:=AV.ay z);refine⟨_,_,η++[.slice (some ⟨w.heap.size,0,none⟩) n.toNat n.toNat],.inl jt,?_,?_⟩;refine hr.add aN xa (λb hb=>?_) ⟨Nat.one_pos,List.replicate n.toNat z,⟨by simp,?_⟩,λi el hi=>?_⟩;simp only[dn]at hb;simp_all;rw[hle];by_cases hn:n.toNat=0;simp_all;exact .inr ⟨w.heap.size,n.toNat,arr,rfl,by omega,⟨0,aur _,heap_alloc_new w _⟩,aur _,by simp only[maxLen];omega,by omega,by rw[mQ,auE (by simp)]⟩;(obtain⟨aF,rfl⟩:i<n.toNat/\el=.ay z:=by grind);refine⟨rfl,λj x hj=>?_⟩;have vJ:[AV.ay z][j]?=some x:=hj;(cases j with|zero=>obtain rfl:=auo vJ;exact⟨z,by rw[List.getElem?_replicate,if_pos (by omega)],.ay z,yy⟩|succ j=>simp at vJ);(refine .own _ _ _ rfl ?_;unfold bk;have:(s.hp++[ax.aV e 1 (List.replicate n.toNat (.ay z))])[s.hp.length]?=some (.aV e 1 (List.replicate n.toNat (.ay z))):=by simp);rw[this];refine⟨aur _,λ_=>?_⟩;have hlen:η.length=s.hp.length:=hr.heap.len;simp_all
theorem mZ(aN:Γ.Ok){tab:Nat->Option TD}(aC:bn Γ.P tab){o:Oper}{c:Call}(ho:o.op=.call c)(hb:c.callee=.builtin .append){b x:Operand}(hl:c.args.toList=[b,x]){T e:Nat}(hT:c.argTypes.toList=[T,T]){d d':TD}(hd:tab T=some d)(hk:d.kind=.kW e)(fj:tab e=some d'){aL:List AV}(hx:(s.ev x).jr s.hp=some aL){r:AV}{hp':List ax}(h:(∃els,(s.ev b=.ay (.slice none 0 0)/\els=[]\/s.ev b=.clip els)/\0<d'.size/\(aL=[]->els=[])/\bC d' (els.length+aL.length) els aL/\r=.own s.hp.length (els.length+aL.length)/\hp'=s.hp++[.row e d'.size (els++aL)])\/ (∃M n els,s.ev b=.own n els.length/\s.hp[n]?=some (fI M e d'.size els)/\bC d' (els.length+aL.length) [] aL/\r=.own n (els.length+aL.length)/\hp'=s.hp.set n (fI M e d'.size (els++aL)))):gV Γ o s r hp':=by (intro a w η hr;have hu:Γ.P.underlying T=some (.slice e):=by obtain⟨u,q2,q3⟩:=(aC T d hd).mO;rw[hk]at q3;rw[q2];exact congrArg some q3);(have eU:=lV hr.heap hr.cu (hr.ev x) hx;have SN:=hr.ev b;have xg:c.argTypes=#[T,T]:=by grind);(have bl:c.args=#[b,x]:=by grind);(have qf:∀v w',(Builtin.append_ #[T,T] o.type #[a.eval b,a.eval x]).run Γ.P w=.ok v w'->(execOp a.eval o).run Γ.P w=.ok (.value v) w':=by simp_all [execOp,resolve,invoke,builtin]);rcases h with⟨els,xb,cY,bW,tR,rfl,rfl⟩|⟨M,n,els,xb,fh,tR,rfl,rfl⟩;(have Hl:a.eval b=.slice none 0 0/\els=[]\/bq w (bw Γ w η s.hp) η s.hp (.clip els) (a.eval b):=by rcases xb with⟨h1,h2⟩|h1;rw[h1]at SN;exact .inl ⟨SN.aB,h2⟩;simp_all);(obtain⟨v',w',h1,h2,h3⟩:=zH aN hr (ty:=o.type) hu (aC e d' fj) cY Hl eU tR.1 tR.2.1 bW tR.2.2.1 tR.2.2.2 (ob:=.row e d'.size (els++aL)) (.inl rfl);refine⟨v',w',η++[v'],.inl (qf _ _ h1),h2,.own _ _ _ h3 ?_⟩;unfold bk;have:(s.hp++[ax.row e d'.size (els++aL)])[s.hp.length]?=some (.row e d'.size (els++aL)):=by simp);rw[this];exact⟨by simp,λ_=>by rw[<-hr.heap.len];simp⟩;(rw[xb]at SN;have sR:bk η s.hp n els.length (a.eval b):=by cases SN;assumption);(have vT:η[n]?=some (a.eval b):=by grind [kf]);obtain⟨news,hn⟩:=tP (ty:=o.type) hu (aC e d' fj) (lY.1 (hr.heap.obj n _ _ fh vT)).1 eU tR.2.1;obtain⟨v',w',bj,h1,h2,h3,h4⟩:=zJ aN hr (aC e d' fj) fh sR hn tR.2.1 tR.2.2.1 tR.2.2.2;exact⟨v',w',bj,.inl (qf _ _ h1),h2,.own _ _ _ h3 ((kf (aD fh)).2 ⟨by simp,λ_=>h4⟩)⟩
theorem EM(aN:Γ.Ok){tab:Nat->Option TD}(aC:bn Γ.P tab){o:Oper}{c:Call}(ho:o.op=.call c)(hb:c.callee=.builtin .append){b x:Operand}(hl:c.args.toList=[b,x]){T e:Nat}(hT:c.argTypes.toList=[T,T]){d d':TD}(hd:tab T=some d)(hk:d.kind=.kW e)(fj:tab e=some d'){aL:List AV}(hx:(s.ev x).jr s.hp=some aL){els:List AV}(xb:s.ev b=.ay (.slice none 0 0)/\els=[]\/s.ev b=.clip els)(cY:0<d'.size)(bW:aL=[]->els=[])(tR:bC d' (els.length+aL.length) els aL): gV Γ o s (.own s.hp.length (els++aL).length) (s.hp++[.aV e d'.size (els++aL)]):=by (intro a w η hr;have hu:Γ.P.underlying T=some (.slice e):=by obtain⟨u,q2,q3⟩:=(aC T d hd).mO;rw[hk]at q3;rw[q2];exact congrArg some q3);(have eU:=lV hr.heap hr.cu (hr.ev x) hx;have SN:=hr.ev b;have xg:c.argTypes=#[T,T]:=by grind);(have bl:c.args=#[b,x]:=by grind);(have qf:∀v w',(Builtin.append_ #[T,T] o.type #[a.eval b,a.eval x]).run Γ.P w=.ok v w'->(execOp a.eval o).run Γ.P w=.ok (.value v) w':=by simp_all [execOp,resolve,invoke,builtin]);(have Hl:a.eval b=.slice none 0 0/\els=[]\/bq w (bw Γ w η s.hp) η s.hp (.clip els) (a.eval b):=by rcases xb with⟨h1,h2⟩|h1;rw[h1]at SN;exact .inl ⟨SN.aB,h2⟩;simp_all);(obtain⟨v',w',h1,h2,h3⟩:=zH aN hr (ty:=o.type) hu (aC e d' fj) cY Hl eU tR.1 tR.2.1 bW tR.2.2.1 tR.2.2.2 (ob:=.aV e d'.size (els++aL)) (.inr rfl);refine⟨v',w',η++[v'],.inl (qf _ _ h1),h2,.own _ _ _ h3 ?_⟩;unfold bk;have:(s.hp++[ax.aV e d'.size (els++aL)])[s.hp.length]?=some (.aV e d'.size (els++aL)):=by simp);rw[this];exact⟨aur _,λ_=>by rw[<-hr.heap.len];simp⟩
theorem tS(aN:Γ.Ok){o:Oper}{T:Nat}(ho:o.op=.makeMap T none){me:ME}(hme:Qo me=[]):gV Γ o s (.mp s.hp.length) (s.hp++[.cJ me]):=by intro a w η hr;have xa:=cj.alloc w (.map #[] 0);refine⟨.map (some w.heap.size),_,η++[.map (some w.heap.size)],.inl (by simp[execOp,ho,Instr.makeMap];rfl),?_,?_⟩;exact hr.add aN xa (λb hb=>by simp only[dn,aul]at hb;omega) ⟨w.heap.size,#[],0,rfl,World.alloc_heap_new w _,hme.symm⟩;exact .mp _ w.heap.size (by rw[<-hr.heap.len];simp)
theorem SP{κ:Type}[DecidableEq κ]{td:TypeDesc}{kv:κ->Value}{me:List (κ×Value)->ME}(K:Qw td kv me){a:κ}{v:Value}:∀(es:List MapEntry)(l:List (κ×Value))(i:Nat),(es.map λe=>(e.key,e.val))=l.map (λp=>(kv p.1,p.2))-> (∃j u,Instr.findNow td (kv a) es i=some (some (i+j,u))/\(es[j]?).map (·.key)=some (kv a)/\((es.modify j λe=>{ e with key:=kv a,val:=v }).map λe=>(e.key,e.val))=(cD l a v).map (λp=>(kv p.1,p.2)))\/ (Instr.findNow td (kv a) es i=some none/\(cD l a v).map (λp=>(kv p.1,p.2))=(es.map λe=>(e.key,e.val))++[(kv a,v)]):=by
 intro es;induction es with
  |nil=>intro l i h;cases l with|nil=>exact .inr ⟨rfl,rfl⟩|cons p l=>simp at h
  |cons e es ih=>intro l i h;cases l with|nil=>simp at h|cons p l=>obtain⟨key,u⟩:=p;simp only[auR,List.cons.injEq,aup]at h;obtain⟨⟨h1,h2⟩,h3⟩:=h;simp only[Instr.findNow,h1,K.same,cD];by_cases hak:a=key;simp_all;simp only[if_neg hak,decide_eq_false hak];rcases ih l (i+1) h3 with⟨j,u',g1,g2,g3⟩|⟨g1,g2⟩;refine .inl ⟨j+1,u',by rw[g1];congr 3;omega,by simpa using g2,?_⟩;simp only[List.modify_succ_cons,auR,h1,h2];rw[g3];simp_all
theorem qJ{κ:Type}[DecidableEq κ]{td:TypeDesc}{kv:κ->Value}{me:List (κ×Value)->ME}(K:Qw td kv me)(aN:Γ.Ok){tab:Nat->Option TD}(aC:bn Γ.P tab){o:Oper}{T kt et r:Nat}{m k x:Operand}(ho:o.op=.mapUpdate T m k x){d dk:TD}(hd:tab T=some d)(qH:d.kind=.qt kt et)(sq:tab kt=some dk)(yZ:∀u,dk.kind.fits Γ.P u->u=td)(hm:s.ev m=.mp r){es:List (κ×Value)}(Y2:s.hp[r]?=some (.cJ (me es))){a:κ}(hk:s.ev k=.ay (kv a)){v:Value}(hx:(s.ev x).val?=some v):gV Γ o s .top (s.hp.set r (.cJ (me (cD es a v)))):=by
 intro act w η hr;have hu:Γ.P.underlying T=some (.map kt et):=by obtain⟨u,q2,q3⟩:=(aC T d hd).mO;rw[qH]at q3;rw[q2];exact congrArg some q3
 have huk:Γ.P.underlying kt=some td:=by obtain⟨u,q2,q3⟩:=(aC kt dk sq).mO;rw[q2];exact congrArg some (yZ u q3)
 have hkr:=hr.ev k;rw[hk]at hkr;have hkv:=hkr.aB;have w7:=(hr.ev x).YW hx;have Y1:=hr.ev m;rw[hm]at Y1;generalize Sk:act.eval m=mv at Y1;cases Y1 with
  |mp _ b fU=>
   (obtain⟨b',en,c,e1,mc,zT⟩:=hr.heap.obj r _ _ Y2 fU;simp only[Value.map.injEq,aul]at e1;subst e1;have aF:=ck mc;have eh:(getObj b).run Γ.P w=.ok (.map en c) w:=by simp_all [getObj,Sem.run]);have yr:∀o',(setObj b o').run Γ.P w=.ok () (w.putObj b o'):=λo'=>by simp[setObj,Sem.run,mc,World.putObj]
   have key:∀en' c',oa en'=Qo (me (cD es a v))->Rel Γ { s with hp:=s.hp.set r (.cJ (me (cD es a v))) } act (w.putObj b (.map en' c')) η:=by
    intro en' c' hp';have ad6:η.set r (.map (some b))=η:=by apply avf;grind
    have:=Rel.change (w':=w.putObj b (.map en' c')) (o':=.cJ (me (cD es a v))) (v':=.map (some b)) aN hr Y2 ai fU
     ⟨rfl,rfl,rfl,by simp,λq hq hb=>World.putObj_heap_other (λe=>hb (by rw[e];rfl))⟩
     (λq hq=>.inl hq) (λq hq=>hq.elim) (λ_ _ _ _ hq=>hq.elim) (λ_ _ _ _ hq=>hq.elim)
     (λn u Hb=>by simp[bk,Y2]at Hb) (λ_ hq=>by cases hq) (λ_ _=>rfl)
     (λq dd hb hdd=>by simp only[dn,aul]at hb;subst hb;rw[mc]at hdd;cases hdd)
     (λ_=>⟨b,en',c',rfl,World.putObj_heap_same aF,hp'⟩)
    simp_all
   (have hfk:∀q,Instr.findNow td (kv a) en.toList 0=some q->(Instr.findKey kt (kv a) en.toList).run Γ.P w=.ok q w:=by simp_all [Instr.findKey,run_underlying]);rcases SP K (a:=a) (v:=v) en.toList es 0 (zT.trans (K.me es))with⟨j,u,g1,g2,g3⟩|⟨g1,g2⟩;(rw[auZ]at g1;have hj:(en[j]?).map (·.key)=some (kv a):=by simp_all);(have alZ:(Instr.keyThatStays (((en[j]?).map (·.key)).getD (kv a)) (kv a)).run Γ.P w=.ok (kv a) w:=by rw[hj];simp[Instr.keyThatStays,K.bits]);refine⟨undef,_,η,.inr ⟨?_,rfl⟩,key (en.modify j λe=>{ e with key:=kv a,val:=v }) c ?_,.top _⟩;simp only[execOp,ho,Sk,hkv,w7,Instr.mapUpdate,ao,run_underlying hu,al,eh,K.check _ _ _ _ _ huk,hfk _ g1,alZ,yr,aq];unfold oa;rw[Array.toList_modify,K.me];exact g3;refine⟨undef,_,η,.inr ⟨?_,rfl⟩,key (en.push { key:=kv a,val:=v,born:=c }) (c+1) ?_,.top _⟩;simp only[execOp,ho,Sk,hkv,w7,Instr.mapUpdate,ao,run_underlying hu,al,eh,K.check _ _ _ _ _ huk,hfk _ g1,yr,aq];unfold oa;rw[K.me,g2];simp
theorem mf(aN:Γ.Ok){tab:Nat->Option TD}(aC:bn Γ.P tab){o:Oper}{c:Prop}{r:AV}{hp':List ax}(h:eE tab s.hp s.ev o.op=some (c,r,hp'))(hc:c):gV Γ o s r hp':=by
 generalize ho:o.op=op at h;cases op with
  |alloc T=>grind [eE,Le]|box T x=>grind [eE,SM]|store T p x=>grind [eE,Lf,Hp,Hq]|makeSlice T l c'=>simp only[eE]at h;split at h;all_goals grind [Ld,Li,zV]|makeMap T r'=>cases r' with|some r'=>simp[eE]at h|none=>simp only[eE]at h;split at h;split at h;split at h;split at h;simp only[aul,aup]at h;obtain⟨_,rfl,rfl⟩:=h;exact tS aN ho rfl;simp only[aul,aup]at h;obtain⟨_,rfl,rfl⟩:=h;exact tS aN ho rfl;cases h;cases h;cases h
  |mapUpdate T m k x=>simp only[eE]at h;split at h;rename_i d r' a v hd hm hk hx;split at h;rename_i kt et es qH Y2;split at h;rename_i dk sq;split at h;rename_i ik yZ;simp only[aul,aup]at h;obtain⟨_,rfl,rfl⟩:=h;exact qJ (agw ik) aN aC ho hd qH sq (λu hu=>by rw[yZ]at hu;exact hu) hm Y2 hk hx;cases h;cases h;cases h;rename_i d r' a v hd hm hk hx;split at h;rename_i kt et es qH Y2;split at h;rename_i dk sq;split at h;rename_i yZ;simp only[aul,aup]at h;obtain⟨_,rfl,rfl⟩:=h;exact qJ agx aN aC ho hd qH sq (λu hu=>by rw[yZ]at hu;exact hu) hm Y2 hk hx;cases h;cases h;cases h;cases h|call cl=>simp only[eE]at h;split at h;rename_i b x T T' hb hl hT;split at h;rename_i hTT;subst hTT;split at h;rename_i d hd;split at h;rename_i e hk;split at h;rename_i d' aL fj hx;split at h;rename_i xb;simp only[aul,aup]at h;obtain⟨rfl,rfl,rfl⟩:=h;exact mZ aN aC ho hb hl hT hd hk fj hx (by simp_all);grind [mZ];rename_i n m xb;split at h;rename_i e' size els fh;split at h;rename_i oh;obtain⟨rfl,rfl,rfl⟩:=oh;simp only[aul,aup]at h;obtain⟨rfl,rfl,rfl⟩:=h;exact mZ aN aC ho hb hl hT hd hk fj hx (.inr ⟨false,n,els,xb,fh,hc,rfl,rfl⟩);cases h;rename_i e' size els fh;split at h;rename_i oh;obtain⟨rfl,rfl,rfl⟩:=oh;simp only[aul,aup]at h;obtain⟨rfl,rfl,rfl⟩:=h;exact mZ aN aC ho hb hl hT hd hk fj hx (.inr ⟨true,n,els,xb,fh,hc,rfl,rfl⟩);cases h;cases h;cases h;cases h;cases h;cases h;cases h;cases h|_=>simp[eE]at h
end
section
variable {G:Type} {Γ:Env G} {s s':AS G} {a:Act} {w w':World} {η:List Value} {hp:List ax} {P:Program}
def Env.fO(Γ:Env G):Fence:={ fn:=λ_=>True,depth:=none,alive:=false,round:=Γ.EA }
theorem tT{ρ:Operand->Value}{o:Oper}{c:Call}(ho:o.op=.defer c)(w w':World)(v:Value):(execOp ρ o).run P w ≠ .ok (.value v) w'/\(execOp ρ o).run P w ≠ .ok .skip w':=by simp only[execOp,ho,ao];cases (resolve ρ c o.type).run P w<;>simp[Result.andThen]
theorem lH{ro:Option Nat}{ρ:Operand->Value}{o:Oper}{w w':World}{n:Next}(h:(execOp ρ o).run P w=.ok n w')(hn:(∃v,n=.value v)\/n=.skip):(o.semAt ro ρ).run P w=.ok n w':=by by_cases hd:∃c,o.op=.defer c;obtain⟨c,hc⟩:=hd;rcases hn with⟨v,rfl⟩|rfl;exact((tT hc w w' v).1 h).elim;exact((tT hc w w' undef).2 h).elim;rw[Oper.semAt_eq ro ρ o λc hc=>hd ⟨c,hc⟩];exact h
def eu(nt:Nat):Option Nat->Prop
 |none=>True|some d=>d<nt
theorem da{nt:Nat}{d:Option Nat}(h:eu nt d):∀t,d=some t->t<nt:=by intro t ht;subst ht;exact h
def bR(Γ:Env G)(o:Oper)(s:AS G)(K:AS G->Prop):Prop:=∀a w η (Kc:Act->World->Prop) (Qc:Exit->Act->World->Prop),(∀s' a' w' bj,K s'->Rel Γ s' a' w' bj->Kc a' w')->Rel Γ s a w η->o.wpIn Γ.fO 0 Γ.P a w Kc Qc
theorem bR.val(aN:Γ.Ok){o:Oper}{r:AV}{K:AS G->Prop}(hv:fN Γ o s r)(hd:eu Γ.nt o.dst)(hK:K (s.put o.dst r)):bR Γ o s K:=by intro a w η Kc Qc hk hr;obtain⟨v,w',h1,h2,h3⟩:=hv a w η hr;refine⟨λ_ _=>trivial,?_⟩;rw[lH h1 (.inl ⟨v,rfl⟩)];exact hk _ _ _ _ hK ((hr.same aN h2).put (da hd) h3)
theorem bR.cR{o:Oper}{r:AV}{hp':List ax}{K:AS G->Prop}(hv:gV Γ o s r hp')(hd:eu Γ.nt o.dst)(hK:K (AS.put { s with hp:=hp' } o.dst r)):bR Γ o s K:=by intro a w η Kc Qc hk hr;obtain⟨v,w',bj,h1,h2,h3⟩:=hv a w η hr;refine⟨λ_ _=>trivial,?_⟩;rcases h1 with h1|⟨h1,rfl⟩;rw[lH h1 (.inl ⟨v,rfl⟩)];exact hk _ _ _ _ hK (h2.put (da hd) h3);rw[lH h1 (.inr rfl)];exact hk _ _ _ _ hK (h2.put (da hd) h3)
def jz(Γ:Env G)(ops:Array Oper)(K:AS G->Prop)(l:List Oper)(s:AS G):Prop:=∀a w η (Qc:Exit->Act->World->Prop),(∀s' a' w' bj,K s'->Rel Γ s' a' w' bj->Qc .normal a' w')->Rel Γ s a w η->wpListIn Γ.fO 0 Γ.P ops Qc l a w
def kO(ops:Array Oper)(s:AS G)(j:Nat):Option (Option Bool):=
 match (ops[j]?).bind (·.dst)with
 |some d=>(match s.tmps d with| .ay (.bool b)=>some (some b)| .ay (.tuple _)=>some none|_=>none)
 |none=>none
theorem gZ{ops:Array Oper}(hr:Rel Γ s a w η){j:Nat}{b:Option Bool}(h:kO ops s j=some b):yielded ops a.tmps j=b:=by unfold kO at h;split at h;rename_i d hd;have YD:=hr.tmps d;split at h;rename_i b' hb;obtain rfl:=auo h;rw[hb]at YD;have hv:=YD.aB;unfold yielded;rw[hd];simp only[Option.bind_some];(cases ht:a.tmps[d]? with|none=>simp[au8,ht,undef]at hv|some v=>simp[au8,ht]at hv;subst hv;rfl);rename_i b' hb;obtain rfl:=auo h;rw[hb]at YD;have hv:=YD.aB;unfold yielded;rw[hd];simp only[Option.bind_some];(cases ht:a.tmps[d]? with|none=>rfl|some v=>simp[au8,ht]at hv;subst hv;rfl);cases h;cases h
theorem jz.step{ops:Array Oper}{K:AS G->Prop}{o:Oper}{rest:List Oper}(hg:∀a w η,Rel Γ s a w η->Region.wanted o (yielded ops a.tmps)=true)(h:bR Γ o s (jz Γ ops K rest)):jz Γ ops K (o::rest) s:=by intro a w η Qc hQ hr;simp only[wpListIn];rw[if_pos (hg a w η hr)];exact h a w η _ Qc (λs' a' w' bj hs gJ=>hs a' w' bj Qc hQ gJ) hr
theorem jz.skip{ops:Array Oper}{K:AS G->Prop}{o:Oper}{rest:List Oper}(hg:∀a w η,Rel Γ s a w η->Region.wanted o (yielded ops a.tmps)=false)(hd:eu Γ.nt o.dst)(h:jz Γ ops K rest (s.put o.dst (.ay (.tuple #[])))):jz Γ ops K (o::rest) s:=by intro a w η Qc hQ hr;simp only[wpListIn];rw[if_neg (by rw[hg a w η hr];simp)];exact⟨λ_ _=>trivial,h _ w η Qc hQ (hr.put (da hd) (.ay _))⟩
def gk(Γ:Env G)(c:Code)(Q:Exit->AS G->Prop)(s:AS G):Prop:=∀a w η,Rel Γ s a w η->c.wpIn Γ.fO 0 Γ.P (λe a' w'=>∃s' bj,Q e s'/\Rel Γ s' a' w' bj) a w
def sG(next:AS G->Prop)(Q:Exit->AS G->Prop):Exit->AS G->Prop
 | .normal,s=>next s|e,s=>Q e s
def zW(id:Nat)(Q:Exit->AS G->Prop):Exit->AS G->Prop
 | .exit id',s=>if id'=id then Q .normal s else Q (.exit id') s|e,s=>Q e s
variable {Q:Exit->AS G->Prop}
theorem gk.al0{x y:Code}(h:∀K:AS G->Prop,(∀s,gk Γ y Q s->K s)->gk Γ x (sG K Q) s):gk Γ (.seq x y) Q s:=by intro a w η hr;refine wpIn_seq (wpIn_mono (h _ (λ_ h=>h) a w η hr) λe a' w' hq=>?_);obtain⟨s',bj,h1,h2⟩:=hq;cases e with|normal=>exact h1 a' w' bj h2|_=>exact⟨s',bj,h1,h2⟩
theorem gk.skip(h:Q .normal s):gk Γ .skip Q s:=λ_ _ η hr=>wpIn_skip ⟨s,η,h,hr⟩
theorem gk.exit{id:Nat}(h:Q (.exit id) s):gk Γ (.exit id) Q s:=λ_ _ η hr=>wpIn_exit ⟨s,η,h,hr⟩
theorem gk.ret(h:Q .ret s):gk Γ .ret Q s:=λ_ _ η hr=>wpIn_ret ⟨s,η,h,hr⟩
theorem gk.label{l:Nat}(h:Q .normal s):gk Γ (.label l) Q s:=λ_ _ η hr=>wpIn_label ⟨s,η,h,hr⟩
theorem gk.block{id:Nat}{c:Code}(h:gk Γ c (zW id Q) s):gk Γ (.block id c) Q s:=by intro a w η hr;refine wpIn_block (wpIn_mono (h a w η hr) λe a' w' hq=>?_);obtain⟨s',bj,h1,h2⟩:=hq;cases e with|exit id'=>simp only[zW]at h1;simp only[Exit.inBlock];split;rename_i hid;rw[if_pos hid]at h1;exact⟨s',bj,h1,h2⟩;rename_i hid;rw[if_neg hid]at h1;exact⟨s',bj,h1,h2⟩|_=>exact⟨s',bj,h1,h2⟩
def acX:AV->Prop->Prop->Prop
 | .ay (.bool t),p,q=>(t=true->p)/\(t=false->q)|_,_,_=>False
theorem gk.agA{c:Operand}{x y:Code}(h:∀P1 P2:Prop,(gk Γ x Q s->P1)->(gk Γ y Q s->P2)->acX (s.ev c) P1 P2):gk Γ (.cond c x y) Q s:=by intro a w η hr;have h1:=h _ _ (λh=>h) λh=>h;have hc:=hr.ev c;generalize s.ev c=v at h1 hc;unfold acX at h1;split at h1;rename_i t p q;exact wpIn_cond_split hc.aB (λht=>h1.1 ht a w η hr) (λht=>h1.2 ht a w η hr);exact h1.elim
def cU(Γ:Env G)(s s':AS G):Prop:=∀a w η,Rel Γ s a w η->∃bj,Rel Γ s' a w bj
theorem cU.refl(s:AS G):cU Γ s s:=λ_ _ η h=>⟨η,h⟩
theorem cU.trans{s1 s2 s3:AS G}(h:cU Γ s1 s2)(k:cU Γ s2 s3):cU Γ s1 s3:=λa w η hr=>let ⟨bj,h'⟩:=h a w η hr;k a w bj h'
theorem gk.sr{c:Code}(hw:cU Γ s s')(h:gk Γ c Q s'):gk Γ c Q s:=λa w η hr=>let ⟨bj,gJ⟩:=hw a w η hr;h a w bj gJ
theorem gk.mono{c:Code}{Q':Exit->AS G->Prop}(h:gk Γ c Q s)(hq:∀e s,Q e s->Q' e s):gk Γ c Q' s:=λa w η hr=>wpIn_mono (h a w η hr) λe a' w' ⟨s',bj,h1,h2⟩=>⟨s',bj,hq e s' h1,h2⟩
end
section
variable {G:Type} {Γ:Env G} {s s':AS G} {a:Act} {w w':World} {η:List Value} {hp:List ax} {P:Program}
def ou(P:Program)(f:FuncId):Prop:=∃fn,P.funcs[f]?=some fn/\(fn.name == "runtime.NumGoroutine")=false/\fn.body.isNone=false
theorem pf{f:FuncId}(h:ou P f)(args:Array Value)(w:World):(callFunc f args).run P w=.ok (.enter f args) w:=by obtain⟨fn,h1,h2,h3⟩:=h;simp only[callFunc,ao,run_program,al,h1,h2,h3,auO,if_false,aq]
def Lj(F:Nat->Nat->Prop)(w w':World)(b o:Nat):Prop:=F b o\/(w.heap.size<=b/\b<w'.heap.size)
def Pure(P:Program)(f:FuncId)(args:List AV)(R:AV->Prop):Prop:=
 ou P f/\∀(w:World)(F:Nat->Nat->Prop)(vals:List Value),(∀b o,F b o->b<w.heap.size)->oW w->cC w F [] [] args vals->
  CallsIn Fence.wide 0 P f vals.toArray w (λe w'=>∃v r,e=.returned v/\R r/\cj w w'/\bq w' (Lj F w w') [] [] r v)
theorem Pure.mono{f:FuncId}{args:List AV}{R R':AV->Prop}(h:Pure P f args R)(hR:∀r,R r->R' r):Pure P f args R':=⟨h.1,λw F vals hF hg hv=>(h.2 w F vals hF hg hv).mono λ_ _ ⟨v,r,h1,h2,h3,h4⟩=>⟨v,r,h1,hR r h2,h3,h4⟩⟩
abbrev az(P:Program)(f:FuncId)(args:List AV)(r:AV):Prop:=Pure P f args (λx=>x=r)
theorem zX(aN:Γ.Ok)(h:Rel Γ s a w η)(hs:cj w w'){b o:Nat}(hb:Lj (bw Γ w η s.hp) w w' b o):bw Γ w' η s.hp b o:=by rcases hb with h1|⟨h1,h2⟩;exact⟨h1.1,auK h1.2.1 hs.size,h1.2.2⟩;(refine⟨.inr (.inl (auP h.keeps.size h1)),h2,λhx=>by have:=aN.no hx;have:=h.keeps.size;omega,(bp b o).2 λr v hv xb=>?_⟩;have gJ:r<s.hp.length:=by rw[<-h.heap.len];exact(aun.1 hv).1);(have ho:s.hp[r]?=some s.hp[r]:=by simp[gJ]);refine⟨s.hp[r],ho,?_⟩;cases hk:s.hp[r]with|dead=>exact ai|_=>rw[hk]at ho;have:=h.heap.block ho ai hv xb;omega
theorem bq.bD{F F':Nat->Nat->Prop}{x:AV}{v:Value}(h:bq w F [] [] x v)(hF:∀b o,F b o->F' b o):bq w F' [] [] x v:=h.ext ⟨λ_ _ _ _ h=>h,λ_ _ _ _ h=>h,hF,λ_ _ h=>h,λ_ _ h=>h,λ_ _ _ h=>h⟩
theorem na(h:Rel Γ s a w η):∀(xs:List AV)(vs:List Value),cC w (bw Γ w η s.hp) η s.hp xs vs->cC w (bw Γ w η s.hp) [] [] (xs.map (AV.cd s.hp)) vs
 | [],[],_=>ai|_::xs,_::vs,hx=>⟨fJ h.heap h.cu hx.1,na h xs vs hx.2⟩
theorem eO{F:Nat->Nat->Prop}:∀(xs:List AV)(vs:List Value){ys:List AV}{us:List Value},cC w F η hp xs vs->cC w F η hp ys us->cC w F η hp (xs++ys) (vs++us)
 | [],[],_,_,_,h2=>h2|_::xs,_::vs,_,_,h1,h2=>⟨h1.1,eO xs vs h1.2 h2⟩
theorem gK{o:Oper}{c:Call}{x:Operand}(ho:o.op=.call c)(hc:c.callee=.value x){f:FuncId}(hf:ou Γ.P f){caps:Array Value}(hx:a.eval x=.func (.func f) #[] caps): (execOp a.eval o).run Γ.P w=.ok (.enter f (c.args.map a.eval++caps)) w:=by simp[execOp,ho,resolve,hc,hx,Deferred.ofValue,invoke,pf hf]
theorem bR.pure(aN:Γ.Ok){o:Oper}{c:Call}{x:Operand}(ho:o.op=.call c)(hc:c.callee=.value x){f:FuncId}{caps:List AV}(hx:s.ev x=.bz f caps){R:AV->Prop}(hP:Pure Γ.P f ((c.args.toList.map s.ev++caps).map (AV.cd s.hp)) R)(hd:eu Γ.nt o.dst){K:AS G->Prop}(hK:∀r,R r->K (s.put o.dst r)):bR Γ o s K:=by intro a w η Kc Qc hk hr;have eU:=hr.ev x;rw[hx]at eU;generalize hv:a.eval x=v at eU;cases eU with|bz _ _ vs hl eD=>(refine⟨λ_ _=>trivial,?_⟩;have bW:∀c',o.op ≠ .defer c':=by intro c' h;rw[ho]at h;cases h);(rw[Oper.semAt_eq _ _ _ bW,gK ho hc hP.1 hv];have bl:(c.args.map a.eval++vs)=(c.args.toList.map a.eval++vs.toList).toArray:=by apply avR;simp);have ej:cC w (bw Γ w η s.hp) η s.hp caps vs.toList:=dK (by simpa using hl) λj y u hy hu=>eD j y u hy (by simpa using hu);have iD:=na hr _ _ (eO _ _ (ir hr c.args.toList) ej);refine⟨λh=>(by cases h),?_⟩;rw[bl];have ee:=hP.2 w (bw Γ w η s.hp) _ (λ_ _=>fg) (hr.iK aN) iD;refine CallsIn.mono (F:=Γ.fO) ?_ (R:=λe w'=>∃v r,e=.returned v/\R r/\cj w w'/\bq w' (Lj (bw Γ w η s.hp) w w') [] [] r v) λe w' ⟨u,r,he,hR,hs,hru⟩=>?_;exact ee;subst he;exact hk _ _ _ _ (hK r hR) ((hr.same aN hs).put (da hd) ((hru.bD λb o h=>zX aN hr hs h).lift))
def dS:Nat->List AV->Nat->AV
 |_,[]=>λ_=>.top|k,x::l=>Cm (dS (k+1) l) k x
def EN(tab:Nat->Option TD)(s:AS G):ResultVar->Option AV
 | .tmp t=>some (s.tmps t)| .cell t T=>(match tab T,s.tmps t with|some d,.ptr r o=>(match s.hp[r]? with|some (.box cs)=>gd d.kind.agg d.size cs o|_=>none)|_,_=>none)
def fZ(tab:Nat->Option TD)(s:AS G):List ResultVar->Option (List AV)
 | []=>some []|x::l=>(match EN tab s x,fZ tab s l with|some v,some vs=>some (v::vs)|_,_=>none)
def iQ:List AV->AV
 | [x]=>x|l=>.aG l
def Hr:List AV->AV
 | [x]=>x|l=>.agg l
def AV.NC(hp:List ax):AV->AV
 | .ptr r 0=>(match hp[r]? with|some (.box cs)=>.aU (Hr (cs.map (AV.eN hp))) 0|_=>.top)|x=>x.fE hp
def AV.rT(hp:List ax):AV->AV
 | .bz f cs=>.bz f (cs.map (AV.NC hp))|x=>x.cd hp
theorem Hs(hp:List ax)(x:AV):(x.eN hp).cells=[x.eN hp]:=by cases x with|own r n=>simp only[AV.eN];split<;>rfl|ay v=>simp only[AV.eN];split<;>rfl|bz f caps=>simp only[AV.eN];split<;>rfl|_=>rfl
theorem pg(hp:List ax)(cs:List AV):(Hr (cs.map (AV.eN hp))).cells=cs.map (AV.eN hp):=by match cs with| []=>rfl| [x]=>exact Hs hp x|x::y::l=>rfl
theorem Ht(h:ep w (bw Γ w η hp) η hp)(hm:vM Γ η hp){F2:Nat->Nat->Prop}(hF:∀b o,bw Γ w η hp b o->F2 b o)(hN:∀b o,(Γ.w0.heap.size<=b\/Γ.Y b)->b<w.heap.size->F2 b o){x:AV}{v:Value}(hx:bq w (bw Γ w η hp) η hp x v): bq w F2 [] [] (x.rT hp) v:=by
 cases x with
  |bz f cs=>cases hx with|bz _ _ vs hl hr=>refine .bz f _ vs (by simpa using hl) λj y u hy hu=>?_;rw[auA]at hy;cases hj:cs[j]? with|none=>rw[hj]at hy;cases hy|some z=>rw[hj]at hy;obtain rfl:=auo hy;have hz:=hr j z u hj hu;unfold AV.NC;split;rename_i r;split;rename_i eJ hb;(cases hz with|ptr _ _ b fU=>(obtain⟨b',ws,T,hbe,hg,cY,hc⟩:=h.obj r _ _ hb fU;simp only[Value.pointer.injEq,aul,Addr.mk.injEq,and_true]at hbe;subst hbe;have hmi:=(hm r _ _ b hb ai fU rfl).1;have eh:∀(j:Nat)(x:AV),(eJ.map (AV.eN hp))[j]?=some x->∃y u,eJ[j]?=some y/\x=y.eN hp/\ws[j]?=some u:=by intro j x hx;rw[auA]at hx;cases hj:eJ[j]? with|none=>rw[hj]at hx;cases hx|some y=>(rw[hj]at hx;obtain rfl:=auo hx;have:j<ws.size:=by rw[cY];exact(aun.1 hj).1);exact⟨y,ws[j],rfl,rfl,by simp[this]⟩);refine .aU _ 0 b 0 (λj=>(ws[j]?).getD undef) (λj x hx=>?_) λj x hx=>?_;rw[pg]at hx;obtain⟨y,u,h1,h2,h3⟩:=eh j x hx;refine⟨?_,hN b _ hmi (ck hg),?_⟩;simp[World.cell?,hg,h3];simp only[h3,avj];exact(hc j y u h1 h3).2;rw[pg]at hx;obtain⟨y,u,h1,h2,h3⟩:=eh j x hx;subst h2;simp only[h3,avj];exact(jD h hm (hc j y u h1 h3).1).ext ⟨λ_ _ _ _ h=>h,λ_ _ _ _ h=>h,hF,λ_ _ h=>h,λ_ _ h=>h,λ_ _ _ h=>h⟩);exact .top _;exact(lG h hm hz).ext ⟨λ_ _ _ _ h=>h,λ_ _ _ _ h=>h,hF,λ_ _ h=>h,λ_ _ h=>h,λ_ _ _ h=>h⟩
  |_=>exact(fJ h hm hx).ext ⟨λ_ _ _ _ h=>h,λ_ _ _ _ h=>h,hF,λ_ _ h=>h,λ_ _ h=>h,λ_ _ _ h=>h⟩
def SQ(tab:Nat->Option TD)(rs:List ResultVar)(R:AV->AS G->Prop):Exit->AS G->Prop
 | .normal,s| .ret,s=>(match fZ tab s rs with|some l=>R ((iQ l).rT s.hp) s|none=>False)|_,_=>False
theorem Lk{tab:Nat->Option TD}(aC:bn Γ.P tab)(hr:Rel Γ s a w η){x:ResultVar}{r:AV}(h:EN tab s x=some r): ∃v,(match x with| .tmp t=>Pure.pure (a.tmps.getD t undef)| .cell p t=>do loadVar t (<-asAddr (a.tmps.getD p undef)):Sem Value).run Γ.P w=.ok v w/\bq w (bw Γ w η s.hp) η s.hp r v:=by cases x with|tmp t=>simp only[EN,aul]at h;subst h;exact⟨_,rfl,hr.tmps t⟩|cell p T=>simp only[EN]at h;split at h;rename_i d r' off hd hp;split at h;rename_i cs gY;have zU:=hr.tmps p;rw[hp]at zU;generalize hv:a.tmps.getD p undef=v at zU;(cases zU with|ptr _ _ b fU=>obtain⟨b',vs,T',hb,hg,cY,hc⟩:=hr.heap.obj r' _ _ gY fU;simp only[Value.pointer.injEq,aul,Addr.mk.injEq,and_true]at hb;subst hb;obtain⟨h1,h2⟩:=fF (w:=w) (F:=bw Γ w η s.hp) (η:=η) (hp:=s.hp) (aC.sz hd) (vs:=vs.toList) (by simpa using cY) (λj x u hx hu=>hc j x u hx (by simpa using hu)) h;refine⟨_,?_,h2⟩;simp only[ao];rw[hv];simp only[asAddr,aq,al];exact ma (aC T d hd) (vW hg) h1);cases h;cases h
theorem Ll{tab:Nat->Option TD}(aC:bn Γ.P tab)(hr:Rel Γ s a w η):∀(l:List ResultVar)(rs:List AV),fZ tab s l=some rs-> ∃vs,(l.mapM λx=>(match x with| .tmp t=>Pure.pure (a.tmps.getD t undef)| .cell p t=>do loadVar t (<-asAddr (a.tmps.getD p undef)):Sem Value)).run Γ.P w=.ok vs w/\cC w (bw Γ w η s.hp) η s.hp rs vs:=by intro l;induction l with|nil=>intro rs h;simp only[fZ,aul]at h;subst h;exact⟨[],rfl,ai⟩|cons x l ih=>intro rs h;simp only[fZ]at h;split at h;rename_i v vs h1 h2;obtain rfl:=auo h;obtain⟨u,e1,e2⟩:=Lk aC hr h1;obtain⟨us,e3,e4⟩:=ih vs h2;refine⟨u::us,?_,e2,e4⟩;rw[List.mapM_cons];simp only[ao];rw[e1];simp only[al];rw[e3];rfl;cases h
theorem qK{tab:Nat->Option TD}(aC:bn Γ.P tab)(hr:Rel Γ s a w η){fn:Func}{rs:List AV}(h:fZ tab s fn.results.toList=some rs): ∃v,(results fn a.tmps).run Γ.P w=.ok v w/\bq w (bw Γ w η s.hp) η s.hp (iQ rs) v:=by (obtain⟨vs,h1,h2⟩:=Ll aC hr _ _ h;have hm:(fn.results.mapM λx=>(match x with| .tmp t=>Pure.pure (a.tmps.getD t undef)| .cell p t=>do loadVar t (<-asAddr (a.tmps.getD p undef)):Sem Value)).run Γ.P w=.ok vs.toArray w:=by rw[Array.mapM_eq_mapM_toList,Sem.run_map,h1];rfl);refine⟨if h:vs.toArray.size=1 then vs.toArray[0]else .tuple vs.toArray,?_,?_⟩;simp only[results,ao];exact(congrArg (λr=>Result.andThen r λvs w=>(Pure.pure (if h:vs.size=1 then vs[0]else .tuple vs):Sem Value).run Γ.P w) hm);have hl:=h2.length;match rs,vs,h2,hl with| [],[],_,_=>exact .aG [] #[] rfl λj x v hx=>by simp at hx| [r],[v],h2,_=>exact h2.1|r1::r2::rs,v1::v2::vs,h2,hl=>rw[dif_neg (by simp)];exact .aG _ _ (by simpa using hl) λj x v hx hv=>h2.get j x v hx (by simpa using hv)
theorem Rel.shut{ts:Array Value}{d:Deferred}{ds:List Deferred}{r:Nat}(aN:Γ.Ok)(h:Rel Γ s ⟨ts,d::ds⟩ w η)(hd:d.target=.collected r)(hr:w.heap[r]?=some (.deferred (some [])))(hN:Γ.w0.heap.size<=r): Rel Γ s ⟨ts,ds⟩ (w.putObj r (.deferred none)) η:=by
 have aF:=ck hr;have hs:∀k,k≠r->(w.putObj r (.deferred none)).heap[k]?=w.heap[k]?:=λk hk=>World.putObj_heap_other hk;have aT:∀b o v,w.cell? ⟨b,o,none⟩=some v->(w.putObj r (.deferred none)).cell? ⟨b,o,none⟩=some v:=by intro b o v hc;by_cases hb:b=r;subst hb;simp[World.cell?,hr]at hc;rw[World.cell?_of_block (hs b hb)];exact hc
 have he:Ext w (bw Γ w η s.hp) η s.hp (w.putObj r (.deferred none)) (bw Γ (w.putObj r (.deferred none)) η s.hp) η s.hp:=
  ⟨λb o v _ hc=>aT b o v hc,λb es c _ hc=>by
   by_cases hb:b=r
   ·subst hb;rw[hr]at hc;cases hc
   ·rw[hs b hb];exact hc,λb o hf=>⟨hf.1,by simpa using hf.2.1,hf.2.2⟩,λ_ _ h=>h,λ_ _ h=>h,λ_ _ _ h=>h⟩
 have kb:∀(q:Nat)(o:ax)(v:Value)(b:Nat),s.hp[q]?=some o->o.live->η[q]?=some v->dn v=some b->b≠r:=by intro q o v b h1 h2 h3 h4 hb;subst hb;have gn:=h.heap.obj q o v h1 h3;cases o with|dead=>exact h2.elim|box cs=>obtain⟨b',vs,T,rfl,g1,_⟩:=gn;simp only[dn,aul]at h4;subst h4;rw[hr]at g1;cases g1|row e size els=>obtain⟨_,xs,g1,_⟩:=gn;obtain⟨cur,g2⟩:=g1.lt h4;rw[hr]at g2;cases g2|cJ es=>obtain⟨b',en,c,rfl,g1,_⟩:=gn;simp only[dn,aul]at h4;subst h4;rw[hr]at g1;cases g1|jm q k=>obtain⟨b',vs,rfl,g1,_⟩:=gn;simp only[dn,aul]at h4;subst h4;rw[hr]at g1;cases g1|aV e size els=>obtain⟨_,xs,g1,_⟩:=gn;obtain⟨cur,g2⟩:=g1.lt h4;rw[hr]at g2;cases g2|fz e m ns=>obtain⟨cur,g2⟩:=gp.lt gn h4;rw[hr]at g2;cases g2
 refine⟨h.nt,λt=>(h.tmps t).ext he,⟨h.heap.len,λq o v h1 h2=>?_,h.heap.sep⟩,h.cu,?_,?_,?_,h.ext.trans he⟩
 ·by_cases hl:o.live;exact(h.heap.obj q o v h1 h2).ext he (by simp) λb hb _=>hs b (kb q o v b h1 hl h2 hb)
  ·cases o<;>first|exact ai|exact(hl ai).elim
 refine⟨h.keeps.os,h.keeps.tape,h.keeps.output,by simpa using h.keeps.size,λk hk hx=>?_⟩;rw[hs k (by omega)];exact h.keeps.block k hk hx;exact aN.qA _ _ _ (λb hb=>hs b (by have:=aN.x b hb;omega)) (by simp) h.inv;refine⟨λd' fj=>?_,(List.pairwise_cons.1 h.marks.apart).2⟩;obtain⟨r',g1,g2,g3⟩:=h.marks.all d' (auG _ fj);refine⟨r',g1,?_,g3⟩;have bW:r'≠r:=by intro e;subst e;exact(List.pairwise_cons.1 h.marks.apart).1 d' fj (by rw[hd,g1])
 rw[hs r' bW];exact g2
theorem ND(aN:Γ.Ok)(ss:∀r,Γ.m0 r->Γ.w0.heap.size<=r){fn:Func}{ts:Array Value}{R:Ending->World->Prop}(SA:∀w,Rel Γ s ⟨ts,[]⟩ w η->∃v,(results fn ts).run Γ.P w=.ok v w/\R (.returned v) w):∀(ds:List Deferred)(w:World),Rel Γ s ⟨ts,ds⟩ w η-> LeavesInM Γ.fO 0 Γ.P fn ts R ds .returning w:=by intro ds;induction ds with|nil=>intro w hr;exact SA w hr|cons d ds ih=>intro w hr;obtain⟨r,h1,h2,h3⟩:=hr.marks.all d auC;exact⟨by simp,.inl ⟨r,_,h1,run_takeDeferred h2,ih _ (hr.shut aN h1 h2 (ss _ h3))⟩⟩
theorem EO{tab:Nat->Option TD}(aC:bn P tab){f:FuncId}{fn:Func}{c:Code}{args:List AV}{R:AV->Prop}(hf:P.funcs[f]?=some fn)(hb:fn.body=some c)(gO:(fn.name == "runtime.NumGoroutine")=false)(hn:args.length<=fn.ntmps)(h:∀Γ:Env Unit,Γ.Ok->Γ.P=P->fn.ntmps=Γ.nt->Γ.mP.length=0->Γ.Ha->gk Γ c (SQ tab fn.results.toList (λr _=>R r)) ⟨dS 0 args,[],()⟩):Pure P f args R:=by refine⟨⟨fn,hf,gO,by rw[hb];rfl⟩,λw F vals hF hg hv=>?_⟩;let Γ:Env Unit:={ P:=P,w0:=w,F0:=F,X:=λ_=>False,Y:=λ_=>False,Inv:=λ_ _=>True,nt:=fn.ntmps,EA:=none,m0:=λr=>w.heap.size<=r,Z:=λ_ _=>False,Cs:=[],mP:=[] };(have aN:Γ.Ok:=⟨rfl,λ_ h=>h.elim,λ_ h=>h.elim,λ_ _ _ _ _ h=>h,λ_ _ h=>h.elim,hg,λ_ _ h=>h.elim (λh=>h) λh=>h⟩;have hvl:=hv.length;have iM:∀b o,F b o->bw Γ w [] [] b o:=λb o hb=>⟨.inl hb,hF b o hb,λh=>h.elim (λh=>h) λh=>h,λr v hr=>by simp at hr⟩;have vR:∀(l:List AV)(us:List Value)(k:Nat),cC w F [] [] l us->∀t,bq w (bw Γ w [] []) [] [] (dS k l t) (if t<k then undef else(us[t-k]?).getD undef)\/t<k:=by intro l;induction l with|nil=>intro us k _ t;exact .inl (.top _)|cons x l ih=>intro us k hl t;cases us with|nil=>exact hl.elim|cons u us=>by_cases htk:t<k;exact .inr htk;refine .inl ?_;rw[if_neg htk];simp only[dS,gS];by_cases hte:t=k;subst hte;rw[if_pos rfl,avV];exact hl.1.bD iM;rw[if_neg hte];rcases ih us (k+1) hl.2 t with h1|h1;(rw[if_neg (by omega)]at h1;have:t-k=(t-(k+1))+1:=by omega);rw[this,ava];exact h1;omega);(have hrel:Rel Γ ⟨dS 0 args,[],()⟩ ⟨vals.toArray++Array.replicate (fn.ntmps-vals.toArray.size) undef,[]⟩ w []:=by (refine⟨by simp[Γ];omega,λt=>?_,⟨rfl,λr o v h=>by simp at h,λr r' o o' v v' b _ h=>by simp at h⟩,λr o v b h=>by simp at h,cy.refl _ w,ai,⟨λd hd=>(by cases hd),List.Pairwise.nil⟩,⟨λ_ _ _ _ h=>h,λ_ _ _ _ h=>h,iM,λ_ _ h=>h,λ_ _ h=>h,λ_ _ _ h=>h⟩⟩;have:=vR args vals 0 hv t;simp only[Nat.not_lt_zero,if_false,or_false,Nat.sub_zero]at this;have e:(vals.toArray++Array.replicate (fn.ntmps-vals.toArray.size) undef).getD t undef=(vals[t]?).getD undef:=by rw[au8];by_cases ht:t<vals.length;rw[Array.getElem?_append_left (by simpa using ht)];simp;rw[Array.getElem?_append_right (by simpa using ht),auQ (by omega)];rw[Array.getElem?_replicate];split<;>rfl);show bq w _ _ _ _ ((vals.toArray++Array.replicate (fn.ntmps-vals.toArray.size) undef).getD t undef);rw[e];exact this);(have kP:=h Γ aN rfl rfl rfl ⟨rfl,λ_ h=>h⟩ _ _ _ hrel;refine callsIn_of_wp_marks (F:=Fence.wide) hf hb trivial (wpIn_mono (F:=Fence.wide) kP λe a' w' ⟨s',bj,hq,gJ⟩=>?_);have fin:(∃l,fZ tab s' fn.results.toList=some l/\R ((iQ l).rT s'.hp))->LeavesInM Fence.wide 0 P fn a'.tmps (λe w'=>∃v r,e=.returned v/\R r/\cj w w'/\bq w' (Lj F w w') [] [] r v) a'.defers .returning w':=by intro ⟨l,hl,hR⟩;have:=ND (Γ:=Γ) (s:=s') (η:=bj) (fn:=fn) (ts:=a'.tmps) (R:=λe w'=>∃v r,e=.returned v/\R r/\cj w w'/\bq w' (Lj F w w') [] [] r v) aN (λ_ h=>h) (λw2 oU=>by obtain⟨v,h1,h2⟩:=qK aC oU hl;refine⟨v,h1,v,_,rfl,hR,oU.keeps.same λb _ hx=>by rcases hx with h|h<;>exact h,?_⟩;refine Ht oU.heap oU.cu (λb o hf=>?_) (λb o hb aF=>hb.elim (λhb=>.inr ⟨hb,aF⟩) λhb=>hb.elim) h2;rcases hf.1 with h3|h3|h3;exact .inl h3;exact .inr ⟨h3,hf.2.1⟩;·exact h3.elim) a'.defers w' gJ;exact this);cases e with|normal=>simp only[SQ]at hq;split at hq;rename_i l hl;exact fin ⟨l,hl,hq⟩;exact hq.elim|ret=>simp only[SQ]at hq;split at hq;rename_i l hl;exact fin ⟨l,hl,hq⟩;exact hq.elim|_=>exact hq.elim
end
section
variable {G:Type} {Γ:Env G} {s s':AS G} {a:Act} {w w':World} {η:List Value} {hp:List ax} {P:Program} {ops:Array Oper}
def tU(Γ:Env G)(o:Oper)(s:AS G)(r:AV):Prop:=∀a w η (Kc:Act->World->Prop) (Qc:Exit->Act->World->Prop),Rel Γ s a w η->(∀v w',cj w w'->bq w' (bw Γ w' η s.hp) η s.hp r v->Kc (a.put o.dst v) w')->o.wpIn Γ.fO 0 Γ.P a w Kc Qc
def AS.only(s:AS G)(L:List Nat):AS G:={ s with tmps:=λt=>if t∈L then s.tmps t else .top }
theorem Rel.only(h:Rel Γ s a w η)(L:List Nat):Rel Γ (s.only L) a w η:=by refine⟨h.nt,λt=>?_,h.heap,h.cu,h.keeps,h.inv,h.marks,h.ext⟩;show bq w _ η s.hp (if t∈L then s.tmps t else .top) _;split;exact h.tmps t;exact .top _
def fG:Op->Bool
 | .alloc _| .box ..| .store ..| .makeSlice ..| .makeMap ..| .mapUpdate ..| .insert ..| .range ..| .next ..=>true| .call { callee:=.builtin .append,.. }| .call { callee:=.builtin .copy,.. }| .call { callee:=.builtin .delete,.. }=>true|_=>false
def bf(ops:Array Oper)(s:AS G)(o:Oper):Option Bool:=
 match o.guard with
 |none=>some true
 |some (j,want)=>(kO ops s j).map (·==some want)
def Yields(Γ:Env G)(ops:Array Oper)(o:Oper)(s:AS G)(x:AV):Prop:=eu Γ.nt o.dst/\((bf ops s o=some true/\tU Γ o (s.only (o.looksAt ops)) x)\/(bf ops s o=some false/\x=.ay (.tuple #[])))
theorem iu(hr:Rel Γ s a w η){o:Oper}{b:Bool}(h:bf ops s o=some b):Region.wanted o (yielded ops a.tmps)=b:=by unfold bf at h;split at h;rename_i hg;obtain rfl:=auo h;simp[Region.wanted,hg];rename_i j want hg;cases hs:kO ops s j with|none=>rw[hs]at h;cases h|some c=>rw[hs]at h;obtain rfl:=auo h;simp[Region.wanted,hg,gZ hr hs]
inductive Reach (ops:Array Oper) (i:Nat):Nat->Prop
 |agD (j:Nat) (o:Oper) (e:Edge) (ho:ops[j]?=some o) (he:e∈o.after) (hb:Region.binds .any e=true) (hi:e.on=i):Reach ops i j
 |step (j:Nat) (o:Oper) (e:Edge) (ho:ops[j]?=some o) (he:e∈o.after) (hb:Region.binds .any e=true) (h:Reach ops i e.on):Reach ops i j
def Shut(ops:Array Oper)(listed:Array Bool):Prop:=∀(k:Nat)(o:Oper),listed.getD k false=true->ops[k]?=some o->∀e∈o.after,Region.binds .any e=true->listed.getD e.on false=true
theorem Reach.listed{listed:Array Bool}(hs:Shut ops listed){i j:Nat}(h:Reach ops i j)(hj:∀o,ops[j]?=some o->∀e∈o.after,Region.binds .any e=true->listed.getD e.on false=true):listed.getD i false=true:=by induction h with|agD j o e ho he hb hi=>rw[<-hi];exact hj o ho e he hb|step j o e ho he hb _ ih=>exact ih λo' Hb=>hs e.on o' (hj o ho e he hb) Hb
theorem gu{listed:Array Bool}(hs:Shut ops listed){i:Nat}(hi:i∈Region.ready .any ops listed):Shut ops (listed.setIfInBounds i true):=by obtain⟨_,o,ho,Y3⟩:=mem_ready.1 hi;intro k o' hk Hb e he hb;by_cases hki:k=i;subst hki;rw[ho]at Hb;obtain rfl:=auo Hb;exact getD_set_true (Y3 e he hb);refine getD_set_true (hs k o' ?_ Hb e he hb);simpa [Array.getElem?_setIfInBounds_ne (avW hki)]using hk
theorem C9{listed:Array Bool}(hs:Shut ops listed){i j:Nat}(hi:i∈Region.ready .any ops listed)(hj:j∈Region.ready .any ops listed):¬Reach ops i j:=by (intro h;obtain⟨_,oj,KW,agE⟩:=mem_ready.1 hj;have h1:=h.listed hs λo ho e he hb=>by rw[KW]at ho;obtain rfl:=auo ho;exact agE e he hb);have h0:=(mem_ready.1 hi).1;rcases Nat.lt_or_ge i listed.size with h'| h';simp[h']at h0 h1;rw[h0]at h1;cases h1;simp[Array.getElem?_eq_none h']at h1
theorem SR{d:Option Nat}{x:AV}{L:List Nat}(h:∀t,d=some t->t∉L):(s.put d x).only L=s.only L:=by cases d with|none=>rfl|some d=>unfold AS.only AS.put;simp only;congr 1;funext t;by_cases ht:t∈L;(have bW:¬t=d:=by intro e;subst e;exact h t rfl ht);rw[if_pos ht,if_pos ht,gS,if_neg bW];rw[if_neg ht,if_neg ht]
theorem ph{d:Option Nat}{x:AV}{o:Oper}(h:∀t,d=some t->t∉o.looksAt ops):bf ops (s.put d x) o=bf ops s o:=by unfold bf;split;rfl;(rename_i j want hg;have:kO ops (s.put d x) j=kO ops s j:=by unfold kO;split;rename_i t ht;(cases d with|none=>rfl|some d=>(have bW:t≠d:=by intro e;refine h d rfl ?_;simp[Oper.looksAt,hg,ht,e]);(have:(s.put (some d) x).tmps t=s.tmps t:=by show Cm s.tmps d x t=_;rw[gS,if_neg bW]);rw[this]);rfl);rw[this]
theorem put_comm{d e:Option Nat}{x y:AV}(h:∀t,d=some t->e≠some t):(s.put d x).put e y=(s.put e y).put d x:=by cases d with|none=>rfl|some d=>cases e with|none=>rfl|some e=>have bW:e≠d:=λhe=>h d rfl (he▸rfl);unfold AS.put;simp only;congr 1;funext t;simp only[gS];split<;>split<;>first|rfl|(rename_i h1 h2;exact(bW (h1▸h2)).elim)|omega
def NF(acc:List Nat)(o:Oper):Nat:=o.after.toList.foldl (λm e=>if Region.binds .any e=true then m ||| 2 ^ e.on ||| acc.getD e.on 0 else m) 0
def Cw:List Oper->List Nat->List Nat
 | [],acc=>acc|o::l,acc=>Cw l (acc++[NF acc o])
theorem Lm{acc:List Nat}{o:Oper}{k:Nat}(ho:ops[k]?=some o)(Hu:∀(j:Nat) m i,acc[j]?=some m->m.testBit i=true->Reach ops i j){i:Nat}(h:(NF acc o).testBit i=true):Reach ops i k:=by (unfold NF at h;have key:∀(es:List Edge)(m:Nat),(∀e∈es,e∈o.after)->(es.foldl (λm e=>if Region.binds .any e=true then m ||| 2 ^ e.on ||| acc.getD e.on 0 else m) m).testBit i=true->m.testBit i=true\/Reach ops i k:=by intro es;induction es with|nil=>intro m _ h;exact .inl h|cons e es ih=>intro m hm h;rcases ih _ (λe' SS=>hm e' (auG _ SS)) h with h1|h1;simp only at h1;split at h1;rename_i hb;rw[Nat.testBit_or,Nat.testBit_or,avo,avo]at h1;rcases h1 with(h1|h1)|h1;exact .inl h1;rw[Nat.testBit_two_pow]at h1;exact .inr (.agD k o e ho (hm e auC) hb (by simpa using h1));(cases hj:acc[e.on]? with|none=>simp[List.getD,hj]at h1|some m'=>simp only[List.getD,hj,avj]at h1;exact .inr (.step k o e ho (hm e auC) hb (Hu _ _ _ hj h1)));exact .inl h1;exact .inr h1);rcases key o.after.toList 0 (λe he=>by simpa using he) h with h1|h1;simp at h1;exact h1
theorem Da:∀(l:List Oper)(acc:List Nat),(∀(j:Nat),l[j]?=ops[acc.length+j]?)->(∀(j:Nat) m i,acc[j]?=some m->m.testBit i=true->Reach ops i j)->∀(j:Nat) m i,(Cw l acc)[j]?=some m->m.testBit i=true->Reach ops i j:=by intro l;induction l with|nil=>intro acc _ h;exact h|cons o l ih=>intro acc hl Hu;refine ih (acc++[NF acc o]) (λj=>?_) (λj m i hj hm=>?_);have:=hl (j+1);simp only[ava]at this;rw[this];congr 1;simp;omega;rcases ea hj with h1|⟨rfl,rfl⟩;exact Hu j m i h1 hm;exact Lm (by have:=hl 0;simpa using this.symm) Hu hm
def Qy(Γ:Env G)(ops:Array Oper)(K:AS G->Prop):List Oper->AS G->Prop
 | [],s=>K s|o::rest,s=>if fG o.op=true then eu Γ.nt o.dst/\o.guard=none/\∃r hp',gV Γ o s r hp'/\Qy Γ ops K rest (AS.put { s with hp:=hp' } o.dst r)else ∃x,Yields Γ ops o s x/\Qy Γ ops K rest (s.put o.dst x)
end
end Go.Proofs.YthnnplohnceogaaGreatDoor
