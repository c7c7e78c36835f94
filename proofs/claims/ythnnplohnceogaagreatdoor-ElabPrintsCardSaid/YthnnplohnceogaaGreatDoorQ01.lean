/- Lemmas. -/
import Derived.WalkKit
import Derived.CallsIn
import Derived.RangeFuncRecord
import Derived.Laws.AppendOwn
import Derived.Lib.AppendStr
import Derived.ArgAppend
import Derived.OrdersIn
namespace Go.Proofs.YthnnplohnceogaaGreatDoor
open Go
open _root_.List renaming getD->ae
open _root_.True renaming intro->ai
open Go.Result renaming andThen_ok->al
open Go.Sem renaming run_bind->ao,run_pure->aq
theorem aug:type_of% @Option.some.injEq:=@Option.some.injEq
theorem auh:type_of% @List.getElem?_eq_some_iff:=@List.getElem?_eq_some_iff
theorem aui:type_of% @List.length_map:=@List.length_map
theorem auj:type_of% @Option.some.inj:=@Option.some.inj
theorem auk:type_of% @Prod.mk.injEq:=@Prod.mk.injEq
theorem aul:type_of% @Bool.and_eq_true:=@Bool.and_eq_true
theorem aum:type_of% @Nat.le_refl:=@Nat.le_refl
theorem aun:type_of% @List.getElem?_eq_getElem:=@List.getElem?_eq_getElem
theorem auo:type_of% @List.length_append:=@List.length_append
theorem aup:type_of% @List.getElem?_append_left:=@List.getElem?_append_left
theorem auq:type_of% @List.mem_of_getElem?:=@List.mem_of_getElem?
theorem aur:type_of% @List.length_cons:=@List.length_cons
theorem aus:type_of% @Nat.zero_le:=@Nat.zero_le
theorem aut:type_of% @List.drop_eq_getElem_cons:=@List.drop_eq_getElem_cons
theorem auu:type_of% @List.getElem?_map:=@List.getElem?_map
theorem auv:type_of% @List.getElem_mem:=@List.getElem_mem
theorem auw:type_of% @List.mem_cons_self:=@List.mem_cons_self
theorem auy:type_of% @List.mem_singleton:=@List.mem_singleton
theorem auz:type_of% @List.mem_cons_of_mem:=@List.mem_cons_of_mem
theorem auA:type_of% @List.take_of_length_le:=@List.take_of_length_le
theorem auB:type_of% @List.all_eq_true:=@List.all_eq_true
theorem auC:type_of% @List.getElem?_take:=@List.getElem?_take
theorem auD:type_of% @List.append_nil:=@List.append_nil
theorem auE:type_of% @Bool.false_eq_true:=@Bool.false_eq_true
theorem auF:type_of% @List.drop_eq_nil_of_le:=@List.drop_eq_nil_of_le
theorem auG:type_of% @Nat.eq_of_beq_eq_true:=@Nat.eq_of_beq_eq_true
theorem auH:type_of% @List.append_assoc:=@List.append_assoc
theorem auI:type_of% @Nat.le_of_ble_eq_true:=@Nat.le_of_ble_eq_true
theorem auJ:type_of% @List.mem_cons:=@List.mem_cons
theorem auK:type_of% @Nat.lt_of_lt_of_le:=@Nat.lt_of_lt_of_le
theorem auL:type_of% @List.map_cons:=@List.map_cons
theorem auM:type_of% @Nat.le_trans:=@Nat.le_trans
theorem auN:type_of% @List.getElem?_append_right:=@List.getElem?_append_right
theorem auO:type_of% @Nat.zero_add:=@Nat.zero_add
theorem auP:type_of% @List.getElem?_eq_none:=@List.getElem?_eq_none
theorem auQ:type_of% @List.mem_append:=@List.mem_append
theorem auR:type_of% @List.length_drop:=@List.length_drop
theorem auS:type_of% @Nat.le_add_right:=@Nat.le_add_right
theorem auT:type_of% @Option.map_some:=@Option.map_some
theorem auU:type_of% @List.eq_nil_of_length_eq_zero:=@List.eq_nil_of_length_eq_zero
theorem auV:type_of% @List.length_nil:=@List.length_nil
theorem auW:type_of% @Array.getElem?_eq_some_iff:=@Array.getElem?_eq_some_iff
theorem auX:type_of% @Array.length_toList:=@Array.length_toList
theorem auY:type_of% @List.map_nil:=@List.map_nil
theorem auZ:type_of% @List.map_append:=@List.map_append
theorem au0:type_of% @List.length_take:=@List.length_take
theorem au1:type_of% @Array.toArray_toList:=@Array.toArray_toList
theorem au2:type_of% @Array.getD_eq_getD_getElem?:=@Array.getD_eq_getD_getElem?
theorem au3:type_of% @List.getElem?_cons_succ:=@List.getElem?_cons_succ
theorem au4:type_of% @List.getElem?_cons_zero:=@List.getElem?_cons_zero
theorem au5:type_of% @Bool.true_and:=@Bool.true_and
theorem au6:type_of% @Nat.mul_le_mul_right:=@Nat.mul_le_mul_right
theorem au7:type_of% @Bool.not_eq_true':=@Bool.not_eq_true'
theorem au8:type_of% @Option.map_eq_some_iff:=@Option.map_eq_some_iff
theorem au9:type_of% @Option.bind_eq_some_iff:=@Option.bind_eq_some_iff
theorem ava:type_of% @Array.getElem?_eq_getElem:=@Array.getElem?_eq_getElem
theorem avb:type_of% @List.ext_getElem?:=@List.ext_getElem?
theorem avc:type_of% @List.getD_eq_getElem?_getD:=@List.getD_eq_getElem?_getD
theorem avd:type_of% @Option.getD_some:=@Option.getD_some
theorem ave:type_of% @Bool.false_and:=@Bool.false_and
theorem avf:type_of% @List.take_succ_eq_append_getElem:=@List.take_succ_eq_append_getElem
theorem avg:type_of% @List.mem_map:=@List.mem_map
theorem avh:type_of% @Bool.or_eq_true:=@Bool.or_eq_true
theorem avi:type_of% @List.take_append_drop:=@List.take_append_drop
theorem avj:type_of% @List.length_singleton:=@List.length_singleton
theorem avk:type_of% @Int.toNat_natCast:=@Int.toNat_natCast
theorem avl:type_of% @List.getElem?_set:=@List.getElem?_set
theorem avm:type_of% @Bool.not_true:=@Bool.not_true
theorem avn:type_of% @Nat.add_mul:=@Nat.add_mul
theorem avo:type_of% @Nat.add_zero:=@Nat.add_zero
theorem avp:type_of% @List.getElem?_drop:=@List.getElem?_drop
theorem avq:type_of% @Nat.mul_one:=@Nat.mul_one
theorem avr:type_of% @List.nil_append:=@List.nil_append
theorem avs:type_of% @List.mem_append_left:=@List.mem_append_left
theorem avt:type_of% @Array.getElem?_setIfInBounds:=@Array.getElem?_setIfInBounds
theorem avu:type_of% @Bool.false_or:=@Bool.false_or
theorem avv:type_of% @Nat.le_succ_of_le:=@Nat.le_succ_of_le
theorem avw:type_of% @List.length_set:=@List.length_set
theorem avx:type_of% @List.cons_append:=@List.cons_append
theorem avy:type_of% @Array.ext':=@Array.ext'
theorem avz:type_of% @List.not_mem_nil:=@List.not_mem_nil
theorem avA:type_of% @Array.getElem?_toList:=@Array.getElem?_toList
theorem avB:type_of% @List.getElem?_of_mem:=@List.getElem?_of_mem
theorem avC:type_of% @List.forall_mem_cons:=@List.forall_mem_cons
theorem avD:type_of% @List.map_congr_left:=@List.map_congr_left
theorem avE:type_of% @List.map_toArray:=@List.map_toArray
theorem avF:type_of% @Nat.lt_succ_self:=@Nat.lt_succ_self
theorem avG:type_of% @List.drop_zero:=@List.drop_zero
theorem avH:type_of% @Nat.sub_self:=@Nat.sub_self
theorem avI:type_of% @List.all_cons:=@List.all_cons
theorem avJ:type_of% @Array.mem_toList_iff:=@Array.mem_toList_iff
theorem avK:type_of% @Nat.mul_le_mul:=@Nat.mul_le_mul
theorem avL:type_of% @Bool.eq_iff_iff:=@Bool.eq_iff_iff
theorem avM:type_of% @ByteArray.size_extract:=@ByteArray.size_extract
theorem avN:type_of% @Array.getElem?_setIfInBounds_ne:=@Array.getElem?_setIfInBounds_ne
theorem avO:type_of% @List.size_toArray:=@List.size_toArray
theorem avP:type_of% @Decidable.not_not:=@Decidable.not_not
theorem avQ:type_of% @List.take_zero:=@List.take_zero
theorem avR:type_of% @Go.heap_setCell_other:=@Go.heap_setCell_other
theorem avS:type_of% @List.getElem?_toArray:=@List.getElem?_toArray
theorem avT:type_of% @Array.mem_append:=@Array.mem_append
theorem avU:type_of% @Ne.symm:=@Ne.symm
theorem avV:type_of% @Nat.min_eq_left:=@Nat.min_eq_left
theorem avW:type_of% @Classical.byContradiction:=@Classical.byContradiction
theorem avX:type_of% @Array.setIfInBounds_comm:=@Array.setIfInBounds_comm
theorem avY:type_of% @Array.size_setIfInBounds:=@Array.size_setIfInBounds
theorem avZ:type_of% @List.flatten_cons:=@List.flatten_cons
theorem av0:type_of% @Nat.add_assoc:=@Nat.add_assoc
theorem av1:type_of% @Array.toList_map:=@Array.toList_map
theorem av2:type_of% @List.flatten_nil:=@List.flatten_nil
theorem av3:type_of% @Nat.le_of_eq:=@Nat.le_of_eq
theorem av4:type_of% @List.contains_iff_mem:=@List.contains_iff_mem
theorem av5:type_of% @List.mem_append_right:=@List.mem_append_right
theorem av6:type_of% @List.singleton_append:=@List.singleton_append
theorem av7:type_of% @List.take_left:=@List.take_left
theorem av8:type_of% @List.getElem?_range:=@List.getElem?_range
theorem av9:type_of% @Iff.rfl:=@Iff.rfl
theorem awa:type_of% @List.flatten_append:=@List.flatten_append
theorem awb:type_of% @List.takeWhile_cons:=@List.takeWhile_cons
set_option linter.unusedSimpArgs false
set_option linter.unusedVariables false
section
abbrev aw:=ByteArray
inductive ME where
 |i (l:List (Int×Value))
 |s (l:List (aw×Value))
def Cw:TypeId:=134
inductive AV where
 |top
 |ay (v:Value)
 |fn (v:Value)
 |sl (els:List AV)
 |clip (els:List AV)
 |own (r n:Nat)
 |ptr (r off:Nat)
 |aV (e:AV) (off:Nat)
 |agg (cs:List AV)
 |aG (vs:List AV)
 |bw (f:Nat) (caps:List AV)
 |mp (r:Nat)
 |eo (es:ME)
 |gb (r n i size:Nat)
 |dt (f:Nat) (first:List AV)
instance:Inhabited AV:=⟨.top⟩
def AV.cells:AV->List AV
 | .agg cs=>cs|v=>[v]
inductive ax where
 |dead
 |box (cs:List AV)
 |row (e size:Nat) (els:List AV)
 |cJ (es:ME)
 |jq (r n:Nat)
 |aW (e size:Nat) (els:List AV)
 |fC (e m:Nat) (ns:List Int)
def ax.live:ax->Prop
 | .dead=>False|_=>True
def da:Value->Option Nat
 | .pointer (some a)=>some a.block| .slice (some a) _ c=>if c=0 then none else some a.block| .map (some b)=>some b|_=>none
def bk(η:List Value)(hp:List ax)(r n:Nat)(v:Value):Prop:=
 match hp[r]? with
 |some (.row _ _ els)=>n<=els.length/\(n=els.length->η[r]?=some v)
 |some (.aW _ _ els)=>n<=els.length/\(n=els.length->η[r]?=some v)
 |some (.fC _ m _)=>n<=m/\(n=m->η[r]?=some v)
 |some .dead=>True
 |_=>False
def nZ(es:Array MapEntry):List (Value×Value):=es.toList.map λe=>(e.key,e.val)
def Qt:ME->List (Value×Value)
 | .i l=>l.map λp=>(.int .i64 p.1,p.2)| .s l=>l.map λp=>(.string p.1,p.2)
inductive bo (w:World) (F:Nat->Nat->Prop):List Value->List ax->AV->Value->Prop
 |top {η:List Value} {hp:List ax} (v:Value):bo w F η hp .top v
 |ay {η:List Value} {hp:List ax} (v:Value):bo w F η hp (.ay v) v
 |fn {η:List Value} {hp:List ax} (v:Value) (h1:v.oneCell'=true):bo w F η hp (.fn v) v
 |mR {η:List Value} {hp:List ax} (a:Option Addr):bo w F η hp (.sl []) (.slice a 0 0)
 |jy {η:List Value} {hp:List ax} (a:Option Addr):bo w F η hp (.clip []) (.slice a 0 0)
 |sl {η:List Value} {hp:List ax} (size:Nat) (els:List AV) (b o c:Nat) (f:Nat->Nat->Value) (hc:els.length<=c) (hm:c<=maxLen)
   (hl:∀(i:Nat)(e:AV),els[i]?=some e->e.cells.length=size)
   (aR:∀(i:Nat)(e:AV)(j:Nat)(x:AV),els[i]?=some e->e.cells[j]?=some x->w.cell? ⟨b,o+i*size+j,none⟩=some (f i j)/\F b (o+i*size+j)/\(f i j).oneCell'=true)
   (hr:∀(i:Nat)(e:AV)(j:Nat)(x:AV),els[i]?=some e->e.cells[j]?=some x->bo w F [] [] x (f i j)):
   bo w F η hp (.sl els) (.slice (some ⟨b,o,none⟩) els.length c)
 |clip {η:List Value} {hp:List ax} (size:Nat) (els:List AV) (b o:Nat) (f:Nat->Nat->Value) (hm:els.length<=maxLen)
   (hl:∀(i:Nat)(e:AV),els[i]?=some e->e.cells.length=size)
   (aR:∀(i:Nat)(e:AV)(j:Nat)(x:AV),els[i]?=some e->e.cells[j]?=some x->w.cell? ⟨b,o+i*size+j,none⟩=some (f i j)/\F b (o+i*size+j)/\(f i j).oneCell'=true)
   (hr:∀(i:Nat)(e:AV)(j:Nat)(x:AV),els[i]?=some e->e.cells[j]?=some x->bo w F [] [] x (f i j)):
   bo w F η hp (.clip els) (.slice (some ⟨b,o,none⟩) els.length els.length)
 |own {η:List Value} {hp:List ax} (r n:Nat) (v:Value) (h1:v.oneCell'=true) (h:bk η hp r n v):bo w F η hp (.own r n) v
 |ptr {η:List Value} {hp:List ax} (r off b:Nat) (h:η[r]?=some (.pointer (some ⟨b,0,none⟩))):bo w F η hp (.ptr r off) (.pointer (some ⟨b,off,none⟩))
 |aV {η:List Value} {hp:List ax} (e:AV) (off b o:Nat) (f:Nat->Value)
   (aR:∀(j:Nat)(x:AV),e.cells[j]?=some x->w.cell? ⟨b,o+j,none⟩=some (f j)/\F b (o+j)/\(f j).oneCell'=true)
   (hr:∀(j:Nat)(x:AV),e.cells[j]?=some x->bo w F [] [] x (f j)):
   bo w F η hp (.aV e off) (.pointer (some ⟨b,o+off,none⟩))
 |agg {η:List Value} {hp:List ax} (cs:List AV) (vs:Array Value) (hl:vs.size=cs.length) (h1:∀v:Value,v∈vs->v.oneCell'=true)
   (hr:∀(j:Nat)(x:AV)(v:Value),cs[j]?=some x->vs[j]?=some v->bo w F η hp x v):bo w F η hp (.agg cs) (.agg vs)
 |aG {η:List Value} {hp:List ax} (cs:List AV) (vs:Array Value) (hl:vs.size=cs.length)
   (hr:∀(j:Nat)(x:AV)(v:Value),cs[j]?=some x->vs[j]?=some v->bo w F η hp x v):bo w F η hp (.aG cs) (.tuple vs)
 |bw {η:List Value} {hp:List ax} (fn:Nat) (cs:List AV) (vs:Array Value) (hl:vs.size=cs.length)
   (hr:∀(j:Nat)(x:AV)(v:Value),cs[j]?=some x->vs[j]?=some v->bo w F η hp x v):bo w F η hp (.bw fn cs) (.func (.func fn) #[] vs)
 |mp {η:List Value} {hp:List ax} (r b:Nat) (h:η[r]?=some (.map (some b))):bo w F η hp (.mp r) (.map (some b))
 |eo {η:List Value} {hp:List ax} (b:Nat) (es:Array MapEntry) (c:Nat) (h:w.heap[b]?=some (.map es c)) (hF:F b 0) (l:ME) (hl:nZ es=Qt l):bo w F η hp (.eo l) (.map (some b))
 |gb {η:List Value} {hp:List ax} (r n i size b o c k:Nat) (h:bk η hp r n (.slice (some ⟨b,o,none⟩) k c)):bo w F η hp (.gb r n i size) (.pointer (some ⟨b,o+i*size,none⟩))
 |dt {η:List Value} {hp:List ax} (fn:Nat) (cs:List AV) (vs:Array Value) (hl:vs.size=cs.length)
   (hr:∀(j:Nat)(x:AV)(v:Value),cs[j]?=some x->vs[j]?=some v->bo w F η hp x v):bo w F η hp (.dt fn cs) (.func (.func fn) vs #[])
structure Sx(w:World)(F:Nat->Nat->Prop)(w':World)(F':Nat->Nat->Prop):Prop where
 cell:∀b o v,F b o->w.cell? ⟨b,o,none⟩=some v->w'.cell? ⟨b,o,none⟩=some v
 kH:∀b es c,F b 0->w.heap[b]?=some (.map es c)->w'.heap[b]?=some (.map es c)
 bC:∀b o,F b o->F' b o
structure Ext(w:World)(F:Nat->Nat->Prop)(η:List Value)(hp:List ax)(w':World)(F':Nat->Nat->Prop)(bh:List Value)(hp':List ax):Prop where
 cell:∀b o v,F b o->w.cell? ⟨b,o,none⟩=some v->w'.cell? ⟨b,o,none⟩=some v
 kH:∀b es c,F b 0->w.heap[b]?=some (.map es c)->w'.heap[b]?=some (.map es c)
 bC:∀b o,F b o->F' b o
 ptr:∀(r:Nat) a,η[r]?=some (.pointer a)->bh[r]?=some (.pointer a)
 mp:∀(r:Nat) a,η[r]?=some (.map a)->bh[r]?=some (.map a)
 own:∀r n v,bk η hp r n v->bk bh hp' r n v
variable {w w':World} {F F':Nat->Nat->Prop} {η bh:List Value} {hp hp':List ax}
theorem Sx.ext(h:Sx w F w' F'):Ext w F [] [] w' F' [] []:=⟨h.cell,h.kH,h.bC,λ_ _ h=>h,λ_ _ h=>h,λ_ _ _ h=>h⟩
theorem Ext.nv(h:Ext w F η hp w' F' bh hp'):Sx w F w' F':=⟨h.cell,h.kH,h.bC⟩
theorem bo.ext(h:Ext w F η hp w' F' bh hp'){x:AV}{v:Value}(hx:bo w F η hp x v):bo w' F' bh hp' x v:=by induction hx generalizing bh hp' with|top v=>exact .top v|ay v=>exact .ay v|fn v h1=>exact .fn v h1|mR a=>exact .mR a|jy a=>exact .jy a|sl size els b o c f hc hm hl aR _ ih=>exact .sl size els b o c f hc hm hl (λi e j x hi hj=>let ⟨h1,h2,h3⟩:=aR i e j x hi hj;⟨h.cell _ _ _ h2 h1,h.bC _ _ h2,h3⟩) λi e j x hi hj=>ih i e j x hi hj h.nv.ext|clip size els b o f hm hl aR _ ih=>exact .clip size els b o f hm hl (λi e j x hi hj=>let ⟨h1,h2,h3⟩:=aR i e j x hi hj;⟨h.cell _ _ _ h2 h1,h.bC _ _ h2,h3⟩) λi e j x hi hj=>ih i e j x hi hj h.nv.ext|own r n v h1 h2=>exact .own r n v h1 (h.own _ _ _ h2)|ptr r off b h1=>exact .ptr r off b (h.ptr _ _ h1)|aV e off b o f aR _ ih=>exact .aV e off b o f (λj x hj=>let ⟨h1,h2,h3⟩:=aR j x hj;⟨h.cell _ _ _ h2 h1,h.bC _ _ h2,h3⟩) λj x hj=>ih j x hj h.nv.ext|agg cs vs hl h1 _ ih=>exact .agg cs vs hl h1 λj x v h1 h2=>ih j x v h1 h2 h|aG cs vs hl _ ih=>exact .aG cs vs hl λj x v h1 h2=>ih j x v h1 h2 h|bw fn cs vs hl _ ih=>exact .bw fn cs vs hl λj x v h1 h2=>ih j x v h1 h2 h|mp r b h1=>exact .mp r b (h.mp _ _ h1)|eo b es c h1 h2 l hl=>exact .eo b es c (h.kH _ _ _ h2 h1) (h.bC _ _ h2) l hl|gb r n i size b o c k h1=>exact .gb r n i size b o c k (h.own _ _ _ h1)|dt fn cs vs hl _ ih=>exact .dt fn cs vs hl λj x v h1 h2=>ih j x v h1 h2 h
theorem bo.lift{x:AV}{v:Value}(hx:bo w F [] [] x v):bo w F η hp x v:=hx.ext ⟨λ_ _ _ _ h=>h,λ_ _ _ _ h=>h,λ_ _ h=>h,λ_ _ h=>by simp at h,λ_ _ h=>by simp at h,λ_ _ _ h=>by simp[bk]at h⟩
theorem Ext.trans{w1 w2 w3:World}{F1 F2 F3:Nat->Nat->Prop}{oS yT Se:List Value}{h1 h2 h3:List ax}(h:Ext w1 F1 oS h1 w2 F2 yT h2)(k:Ext w2 F2 yT h2 w3 F3 Se h3):Ext w1 F1 oS h1 w3 F3 Se h3:=
 ⟨λb o v hf hc=>k.cell b o v (h.bC _ _ hf) (h.cell b o v hf hc),λb es c hf hc=>k.kH b es c (h.bC _ _ hf) (h.kH b es c hf hc),λb o hf=>k.bC _ _ (h.bC _ _ hf),
  λr a hr=>k.ptr r a (h.ptr r a hr),λr a hr=>k.mp r a (h.mp r a hr),λr n v ho=>k.own r n v (h.own r n v ho)⟩
def AV.Sy:AV->Bool
 | .ay v=>v.oneCell'| .top| .agg _| .aG _=>false|_=>true
def cC(w:World)(F:Nat->Nat->Prop)(η:List Value)(hp:List ax):List AV->List Value->Prop
 | [],[]=>True|x::xs,v::vs=>bo w F η hp x v/\cC w F η hp xs vs|_,_=>False
theorem cC.length{xs:List AV}{vs:List Value}(h:cC w F η hp xs vs):vs.length=xs.length:=by induction xs generalizing vs with|nil=>cases vs<;>simp_all [cC]|cons x xs ih=>cases vs with|nil=>simp[cC]at h|cons v vs=>simp only[aur];rw[ih h.2]
theorem cC.get{xs:List AV}{vs:List Value}(h:cC w F η hp xs vs):∀(j:Nat)(x:AV)(v:Value),xs[j]?=some x->vs[j]?=some v->bo w F η hp x v:=by induction xs generalizing vs with|nil=>intro j x v hx;simp at hx|cons x xs ih=>cases vs with|nil=>simp[cC]at h|cons v vs=>intro j y u hy hu;cases j with|zero=>simp at hy hu;subst hy;subst hu;exact h.1|succ j=>exact ih h.2 j y u (by simpa using hy) (by simpa using hu)
theorem dM{xs:List AV}{vs:List Value}(hl:vs.length=xs.length)(h:∀(j:Nat)(x:AV)(v:Value),xs[j]?=some x->vs[j]?=some v->bo w F η hp x v):cC w F η hp xs vs:=by
 induction xs generalizing vs with
  |nil=>cases vs with|nil=>exact ai|cons v vs=>simp at hl
  |cons x xs ih=>cases vs with|nil=>simp at hl|cons v vs=>exact⟨h 0 x v rfl rfl,ih (by simpa using hl) λj y u hy hu=>h (j+1) y u (by simpa using hy) (by simpa using hu)⟩
theorem cC.ext(h:Ext w F η hp w' F' bh hp'){xs:List AV}{vs:List Value}(hx:cC w F η hp xs vs):cC w' F' bh hp' xs vs:=dM hx.length λj x v h1 h2=>(hx.get j x v h1 h2).ext h
def Hc:List (Nat×List Value):=[(1,(List.range 20).map λi=>.int .u64 ((10 ^ i:Nat):Int))]
def lU(b:Nat):Prop:=∃p,p∈Hc/\p.1=b
def oU(w:World):Prop:=∀p,p∈Hc->∃T,w.heap[p.1]?=some (.cells p.2.toArray T (0,0))
structure ck(w w':World):Prop where
 os:w'.os=w.os
 tape:w'.tape=w.tape
 output:w'.output=w.output
 size:w.heap.size<=w'.heap.size
 block:∀k,k<w.heap.size->w'.heap[k]?=w.heap[k]?
structure cy(X:Nat->Prop)(w w':World):Prop where
 os:w'.os=w.os
 tape:w'.tape=w.tape
 output:w'.output=w.output
 size:w.heap.size<=w'.heap.size
 block:∀k,k<w.heap.size->¬X k->w'.heap[k]?=w.heap[k]?
theorem bo.mS{els:List AV}{v:Value}(h:bo w F η hp (.clip els) v):bo w F η hp (.sl els) v:=by cases h with|jy a=>exact .mR a|clip size els b o f hm hl aR hr=>exact .sl size els b o _ f (aum _) hm hl aR hr
def mT(w:World)(e:TypeId)(size:Nat)(v:Value)(n:Nat)(xs:List Value)(k:Nat):Prop:=
 xs.length=n*size/\((n=0/\(v=.slice none 0 0\/∃ad:Addr,v=.slice (some ad) 0 0))\/
  ∃g cap cur,v=.slice (some ⟨g,0,none⟩) n cap/\0<cap/\(∃hi,hi<=k/\w.heap[g]?=some (.cells cur e (0,hi)))/\n<=cap/\cap<=maxLen/\cur.size=cap*size/\cur.toList.take (n*size)=xs)
theorem cK{a:Addr}{n c:Nat}(h:0<c):da (.slice (some a) n c)=some a.block:=by simp[da];omega
theorem mT.lt{w:World}{e size n k:Nat}{v:Value}{xs:List Value}(h:mT w e size v n xs k){b:Nat}(hb:da v=some b):∃cz:Array Value×Nat,w.heap[b]?=some (.cells cz.1 e (0,cz.2)):=by rcases h.2 with⟨_,rfl|⟨ad,rfl⟩⟩|⟨g,cap,cur,rfl,h0,⟨hi,_,h1⟩,_⟩;simp[da]at hb;simp[da]at hb;rw[cK h0]at hb;obtain rfl:=auj hb;exact⟨(cur,hi),h1⟩
theorem mT.YS{w w':World}{e size n k:Nat}{v:Value}{xs:List Value}(h:mT w e size v n xs k)(hb:∀b,da v=some b->b<w.heap.size->w'.heap[b]?=w.heap[b]?):mT w' e size v n xs k:=by refine⟨h.1,?_⟩;rcases h.2 with h1|⟨g,cap,cur,rfl,h0,⟨hi,hk,h1⟩,h2⟩;exact .inl h1;exact .inr ⟨g,cap,cur,rfl,h0,⟨hi,hk,by rw[hb g (cK h0) (auW.1 h1).1];exact h1⟩,h2⟩
theorem mT.more{w:World}{e size n k k':Nat}{v:Value}{xs:List Value}(h:mT w e size v n xs k)(hk:k<=k'):mT w e size v n xs k':=⟨h.1,h.2.imp id fun⟨g,cap,cur,h1,h2,⟨hi,h3,h4⟩,h5⟩=>⟨g,cap,cur,h1,h2,⟨hi,auM h3 hk,h4⟩,h5⟩⟩
def gv(w:World)(e:TypeId)(v:Value)(ns:List Int):Prop:=
 (ns=[]/\∃ad,v=.slice ad 0 0)\/
  ∃g o cap cur,v=.slice (some ⟨g,o,none⟩) ns.length cap/\0<cap/\w.heap[g]?=some (.cells cur e (0,0))/\ns.length<=cap/\cap<=maxLen/\o+cap<=cur.size/\
   ∀(i:Nat)(n:Int),ns[i]?=some n->cur[o+i]?=some (.int .i64 n)
theorem gv.lt{w:World}{e:Nat}{v:Value}{ns:List Int}(h:gv w e v ns){b:Nat}(hb:da v=some b):∃cur,w.heap[b]?=some (.cells cur e (0,0)):=by rcases h with⟨_,ad,rfl⟩|⟨g,o,cap,cur,rfl,h0,h1,_⟩;cases ad<;>simp[da]at hb;rw[cK h0]at hb;obtain rfl:=auj hb;exact⟨cur,h1⟩
theorem gv.YS{w w':World}{e:Nat}{v:Value}{ns:List Int}(h:gv w e v ns)(hb:∀b,da v=some b->b<w.heap.size->w'.heap[b]?=w.heap[b]?):gv w' e v ns:=by rcases h with h1|⟨g,o,cap,cur,rfl,h0,h1,h2⟩;exact .inl h1;exact .inr ⟨g,o,cap,cur,rfl,h0,by rw[hb g (cK h0) (auW.1 h1).1];exact h1,h2⟩
theorem ck.refl(w:World):ck w w:=⟨rfl,rfl,rfl,aum _,λ_ _=>rfl⟩
theorem ck.trans{a b c:World}(h:ck a b)(k:ck b c):ck a c:=⟨k.os.trans h.os,k.tape.trans h.tape,k.output.trans h.output,auM h.size k.size,λi hi=>(k.block i (auK hi h.size)).trans (h.block i hi)⟩
theorem ck.alloc(w:World)(o:Obj):ck w (w.alloc o):=⟨rfl,rfl,rfl,by simp,λk hk=>heap_alloc_old w o hk⟩
theorem ck.drew(w:World):ck w w.drew:=⟨rfl,rfl,rfl,aum _,λ_ _=>rfl⟩
theorem ck.keeps{w w':World}(X:Nat->Prop)(h:ck w w'):cy X w w':=⟨h.os,h.tape,h.output,h.size,λk hk _=>h.block k hk⟩
theorem cy.same{w w':World}{X:Nat->Prop}(h:cy X w w')(hX:∀b,b<w.heap.size->¬X b):ck w w':=⟨h.os,h.tape,h.output,h.size,λk hk=>h.block k hk (hX k hk)⟩
theorem cy.refl(X:Nat->Prop)(w:World):cy X w w:=⟨rfl,rfl,rfl,aum _,λ_ _ _=>rfl⟩
theorem cy.trans{X Z:Nat->Prop}{a b c:World}(h:cy X a b)(k:cy Z b c)(hZ:∀i,i<a.heap.size->Z i->X i):cy X a c:=
 ⟨k.os.trans h.os,k.tape.trans h.tape,k.output.trans h.output,auM h.size k.size,
  λi hi hx=>(k.block i (auK hi h.size) (λhz=>hx (hZ i hi hz))).trans (h.block i hi hx)⟩
theorem cy.cell{X:Nat->Prop}{w w':World}(h:cy X w w'){b o:Nat}(hb:b<w.heap.size)(hx:¬X b):w'.cell? ⟨b,o,none⟩=w.cell? ⟨b,o,none⟩:=by simp[World.cell?,h.block b hb hx]
theorem oU.lt{w:World}(h:oU w){b:Nat}(hb:lU b):b<w.heap.size:=by obtain⟨p,hp,rfl⟩:=hb;obtain⟨T,h1⟩:=h p hp;exact(auW.1 h1).1
theorem oU.keeps{X:Nat->Prop}{w w':World}(h:oU w)(k:cy X w w')(hx:∀b,lU b->¬X b):oU w':=λp hp=>by
 obtain⟨T,h1⟩:=h p hp;exact⟨T,by rw[k.block p.1 (h.lt ⟨p,hp,rfl⟩) (hx p.1 ⟨p,hp,rfl⟩)];exact h1⟩
theorem oU.same{w w':World}(h:oU w)(k:ck w w'):oU w':=h.keeps (k.keeps λ_=>False) λ_ _=>not_false
theorem cf{w:World}{b:Nat}{o:Obj}(h:w.heap[b]?=some o):b<w.heap.size:=(auW.1 h).1
end
section
structure Env(G:Type) where
 P:Program
 w0:World
 F0:Nat->Nat->Prop
 X:Nat->Prop
 Y:Nat->Prop
 Inv:G->World->Prop
 nt:Nat
 Ez:Option Nat
 m0:Nat->Prop
 Z:Nat->Nat->Prop
 Cx:List Value
 mU:List ax
def Env.No{G:Type}(Γ:Env G)(b o:Nat):Prop:=Γ.X b\/Γ.Z b o
structure Env.Ok{G:Type}(Γ:Env G):Prop where
 l0:Γ.Cx.length=Γ.mU.length
 x:∀b,Γ.X b->b<Γ.w0.heap.size
 y:∀b,Γ.Y b->b<Γ.w0.heap.size
 qx:∀g w w',(∀b,Γ.X b->w'.heap[b]?=w.heap[b]?)->w.heap.size<=w'.heap.size->Γ.Inv g w->Γ.Inv g w'
 z:∀b o,Γ.Z b o->b<Γ.w0.heap.size
 iN:oU Γ.w0
 gx:∀b,lU b->¬(Γ.X b\/Γ.Y b)
def Env.K1{G:Type}(Γ:Env G):Prop:=Γ.Ez=none/\∀r,Γ.w0.heap.size<=r->Γ.m0 r
theorem Env.Ok.no{G:Type}{Γ:Env G}(h:Γ.Ok){b o:Nat}(hb:Γ.No b o):b<Γ.w0.heap.size:=hb.elim (h.x b) (h.z b o)
structure AS(G:Type) where
 tmps:Nat->AV
 hp:List ax
 g:G
def ke(η:List Value)(hp:List ax)(b o:Nat):Prop:=
 ∀(r:Nat)(v:Value),η[r]?=some v->da v=some b->
  match hp[r]? with
  |some (.row _ size els)=>o<els.length*size
  |some .dead=>True
  |_=>False
def bu{G:Type}(Γ:Env G)(w:World)(η:List Value)(hp:List ax)(b o:Nat):Prop:=(Γ.F0 b o\/Γ.w0.heap.size<=b\/Γ.Y b)/\b<w.heap.size/\¬Γ.No b o/\ke η hp b o
def iO(w:World)(F:Nat->Nat->Prop)(η:List Value)(hp:List ax):ax->Value->Prop
 | .dead,_=>True| .box cs,v=>∃(b:Nat)(vs:Array Value)(T:TypeId),v=.pointer (some ⟨b,0,none⟩)/\w.heap[b]?=some (.cells vs T (0,0))/\vs.size=cs.length/\ ∀(j:Nat)(x:AV)(u:Value),cs[j]?=some x->vs[j]?=some u->bo w F η hp x u/\u.oneCell'=true| .row e size els,v=>0<size/\∃xs:List Value,mT w e size v els.length xs (els.length*size)/\
   ∀(i:Nat)(el:AV),els[i]?=some el->el.cells.length=size/\
    ∀(j:Nat)(x:AV),el.cells[j]?=some x->∃u,xs[i*size+j]?=some u/\bo w F [] [] x u/\u.oneCell'=true
 | .jq r n,v=>∃(b:Nat)(vs:Array Value),v=.pointer (some ⟨b,0,none⟩)/\w.heap[b]?=some (.cells vs Cw (0,0))/\(vs.size=2/\(n=0->vs[1]?=some (.slice none 0 0)))/\(vs[0]?=some (.pointer none)\/vs[0]?=some v)/\∃u,vs[1]?=some u/\bo w F η hp (.own r n) u| .cJ es,v=>∃(b:Nat)(en:Array MapEntry)(c:Nat),v=.map (some b)/\w.heap[b]?=some (.map en c)/\nZ en=Qt es| .aW e size els,v=>0<size/\∃xs:List Value,mT w e size v els.length xs 0/\
   ∀(i:Nat)(el:AV),els[i]?=some el->el.cells.length=size/\
    ∀(j:Nat)(x:AV),el.cells[j]?=some x->∃u,xs[i*size+j]?=some u/\bo w F [] [] x u/\u.oneCell'=true
 | .fC e _ ns,v=>gv w e v ns
structure ep(w:World)(F:Nat->Nat->Prop)(η:List Value)(hp:List ax):Prop where
 len:η.length=hp.length
 obj:∀(r:Nat)(o:ax)(v:Value),hp[r]?=some o->η[r]?=some v->iO w F η hp o v
 sep:∀(r r':Nat)(o o':ax)(v v':Value)(b:Nat),r≠r'->hp[r]?=some o->hp[r']?=some o'->o.live->o'.live->
  η[r]?=some v->η[r']?=some v'->da v=some b->da v'≠some b
def vP{G:Type}(Γ:Env G)(η:List Value)(hp:List ax):Prop:=∀(r:Nat)(o:ax)(v:Value)(b:Nat),hp[r]?=some o->o.live->η[r]?=some v->da v=some b->(Γ.w0.heap.size<=b\/Γ.Y b)/\∀o,¬Γ.No b o
structure Marks(N:Nat->Prop)(ds:List Deferred)(w:World):Prop where
 all:∀d,d∈ds->∃r,d.target=.collected r/\w.heap[r]?=some (.deferred (some []))/\N r
 apart:ds.Pairwise λd d'=>d.target≠d'.target
structure Rel{G:Type}(Γ:Env G)(s:AS G)(a:Act)(w:World)(η:List Value):Prop where
 nt:a.tmps.size=Γ.nt
 tmps:∀t,bo w (bu Γ w η s.hp) η s.hp (s.tmps t) (a.tmps.getD t undef)
 heap:ep w (bu Γ w η s.hp) η s.hp
 cu:vP Γ η s.hp
 keeps:cy (λb=>Γ.X b\/Γ.Y b) Γ.w0 w
 inv:Γ.Inv s.g w
 marks:Marks Γ.m0 a.defers w
 ext:Ext Γ.w0 Γ.F0 Γ.Cx Γ.mU w (bu Γ w η s.hp) η s.hp
def Cp(f:Nat->AV)(t:Nat)(x:AV):Nat->AV:=λu=>if u=t then x else f u
theorem gW(f:Nat->AV)(t:Nat)(x:AV)(u:Nat):Cp f t x u=if u=t then x else f u:=rfl
def AS.put{G:Type}(s:AS G)(d:Option Nat)(x:AV):AS G:=
 match d with
 |some d=>{ s with tmps:=Cp s.tmps d x }
 |none=>s
variable {G:Type} {Γ:Env G} {s:AS G} {a:Act} {w w':World} {η bh:List Value} {hp:List ax}
theorem cy.marks{X:Nat->Prop}{N:Nat->Prop}{ds:List Deferred}(h:Marks N ds w)(k:cy X w w')(hX:∀b,X b->¬N b\/∀d,w.heap[b]?≠some (.deferred d)):Marks N ds w':=by refine⟨λd hd=>?_,h.apart⟩;obtain⟨r,h1,h2,h3⟩:=h.all d hd;refine⟨r,h1,?_,h3⟩;rw[k.block r (cf h2)];exact h2;intro hx;rcases hX r hx with h4|h4;exact h4 h3;exact h4 _ h2
theorem qy(hs:ck w w')(hF:∀b o,bu Γ w η hp b o->b<w.heap.size):Ext w (bu Γ w η hp) η hp w' (bu Γ w' η hp) η hp where
 cell b o v hf hc:=by rw[World.cell?_of_block (hs.block b (hF b o hf))];exact hc
 kH b es c hf hc:=by rw[hs.block b (hF b 0 hf)];exact hc
 bC b o hf:=⟨hf.1,auK hf.2.1 hs.size,hf.2.2⟩
 ptr _ _ h:=h
 mp _ _ h:=h
 own _ _ _ h:=h
theorem fk{b o:Nat}(h:bu Γ w η hp b o):b<w.heap.size:=h.2.1
theorem iO.ext{F F':Nat->Nat->Prop}{hp':List ax}{o:ax}{v:Value}(h:iO w F η hp o v)(he:Ext w F η hp w' F' bh hp')(cP:w.heap.size<=w'.heap.size)(hb:∀b,da v=some b->b<w.heap.size->w'.heap[b]?=w.heap[b]?):iO w' F' bh hp' o v:=by cases o with|dead=>exact ai|box cs=>obtain⟨b,vs,T,rfl,h1,h2,h3⟩:=h;exact⟨b,vs,T,rfl,by rw[hb b rfl (cf h1)];exact h1,h2,λj x u hx hu=>⟨(h3 j x u hx hu).1.ext he,(h3 j x u hx hu).2⟩⟩|row e size els=>obtain⟨h0,xs,h1,h2⟩:=h;refine⟨h0,xs,h1.YS hb,λi el hi=>⟨(h2 i el hi).1,λj x hj=>?_⟩⟩;obtain⟨u,h3,h4,h5⟩:=(h2 i el hi).2 j x hj;exact⟨u,h3,h4.ext he.nv.ext,h5⟩|jq q k=>obtain⟨b,vs,rfl,h1,h2,h3,u,h4,h5⟩:=h;exact⟨b,vs,rfl,by rw[hb b rfl (cf h1)];exact h1,h2,h3,u,h4,h5.ext he⟩|cJ es=>obtain⟨b,en,c,rfl,h1,h2⟩:=h;exact⟨b,en,c,rfl,by rw[hb b rfl (cf h1)];exact h1,h2⟩|aW e size els=>obtain⟨h0,xs,h1,h2⟩:=h;refine⟨h0,xs,h1.YS hb,λi el hi=>⟨(h2 i el hi).1,λj x hj=>?_⟩⟩;obtain⟨u,h3,h4,h5⟩:=(h2 i el hi).2 j x hj;exact⟨u,h3,h4.ext he.nv.ext,h5⟩|fC e m ns=>exact gv.YS h hb
theorem ep.same(h:ep w (bu Γ w η hp) η hp)(hs:ck w w'):ep w' (bu Γ w' η hp) η hp:=⟨h.len,λr o v h1 h2=>(h.obj r o v h1 h2).ext (qy hs λ_ _=>fk) hs.size λb _ aE=>hs.block b aE,h.sep⟩
theorem cy.EA{X:Nat->Prop}{w0:World}(h:cy X w0 w)(hs:ck w w'):cy X w0 w':=h.trans (hs.keeps λ_=>False) λ_ _ hf=>hf.elim
theorem Rel.same(aK:Γ.Ok)(h:Rel Γ s a w η)(hs:ck w w'):Rel Γ s a w' η where
 nt:=h.nt
 tmps t:=(h.tmps t).ext (qy hs λ_ _=>fk)
 heap:=h.heap.same hs
 cu:=h.cu
 keeps:=h.keeps.EA hs
 inv:=aK.qx _ _ _ (λb hb=>hs.block b (auK (aK.x b hb) h.keeps.size)) hs.size h.inv
 marks:=(hs.keeps λ_=>False).marks h.marks λ_ hf=>hf.elim
 ext:=h.ext.trans (qy hs λ_ _=>fk)
theorem Rel.iN(aK:Γ.Ok)(h:Rel Γ s a w η):oU w:=aK.iN.keeps h.keeps aK.gx
theorem Rel.put(h:Rel Γ s a w η){d:Option Nat}{x:AV}{v:Value}(hd:∀t,d=some t->t<Γ.nt)(hr:bo w (bu Γ w η s.hp) η s.hp x v):Rel Γ (s.put d x) (a.put d v) w η:=by cases d with|none=>exact h|some d=>refine⟨by simpa [Act.put]using h.nt,λt=>?_,h.heap,h.cu,h.keeps,h.inv,h.marks,h.ext⟩;show bo w _ η s.hp (Cp s.tmps d x t) ((a.tmps.setIfInBounds d v).getD t undef);by_cases htd:t=d;(subst htd;have aE:t<a.tmps.size:=by rw[h.nt];exact hd t rfl);(have e:(a.tmps.setIfInBounds t v).getD t undef=v:=by simp[aE]);rw[gW,if_pos rfl,e];exact hr;(have e:(a.tmps.setIfInBounds d v).getD t undef=a.tmps.getD t undef:=by simp only[au2];rw[avN (avU htd)]);rw[gW,if_neg htd,e];exact h.tmps t
def AS.add(s:AS G)(o:ax):AS G:={ s with hp:=s.hp++[o] }
theorem cV{α:Type}{l:List α}{x y:α}{r:Nat}(h:l[r]?=some y):(l++[x])[r]?=some y:=by rw[aup (auh.1 h).1];exact h
theorem ef{α:Type}{l:List α}{x y:α}{r:Nat}(h:(l++[x])[r]?=some y):l[r]?=some y\/(r=l.length/\y=x):=by rcases Nat.lt_trichotomy r l.length with h1|h1|h1;rw[aup h1]at h;exact .inl h;subst h1;simp at h;exact .inr ⟨rfl,h.symm⟩;(rw[auN (by omega)]at h;have:r-l.length≠0:=by omega);cases hk:r-l.length with|zero=>omega|succ k=>rw[hk]at h;simp at h
theorem ke.snoc{o:ax}{v:Value}{b k:Nat}(hl:η.length=hp.length)(h:ke η hp b k)(hv:da v=some b->False):ke (η++[v]) (hp++[o]) b k:=by intro r u hu hb;rcases ef hu with h1|⟨rfl,rfl⟩;(have:=h r u h1 hb;have hr:r<hp.length:=by rw[<-hl];exact(auh.1 h1).1);rw[aup hr];exact this;exact(hv hb).elim
theorem bk.snoc{o:ax}{v u:Value}{r n:Nat}(h:bk η hp r n u):bk (η++[v]) (hp++[o]) r n u:=by unfold bk at h ⊢;cases hr:hp[r]? with|none=>simp[hr]at h|some x=>rw[cV hr];rw[hr]at h;cases x with|row e size els=>exact⟨h.1,λhn=>cV (h.2 hn)⟩|dead=>exact ai|box cs=>exact h|cJ es=>exact h|jq q k=>exact h|aW e size els=>exact⟨h.1,λhn=>cV (h.2 hn)⟩|fC e m ns=>exact⟨h.1,λhn=>cV (h.2 hn)⟩
theorem tR{o:ax}{v:Value}(hl:η.length=hp.length)(hs:ck w w')(hv:∀b,da v=some b->w.heap.size<=b):
  Ext w (bu Γ w η hp) η hp w' (bu Γ w' (η++[v]) (hp++[o])) (η++[v]) (hp++[o]) where
 cell b k u hf hc:=by rw[World.cell?_of_block (hs.block b (fk hf))];exact hc
 kH b es c hf hc:=by rw[hs.block b (fk hf)];exact hc
 bC b k hf:=⟨hf.1,auK hf.2.1 hs.size,hf.2.2.1,hf.2.2.2.snoc hl λhb=>by have:=hv b hb;have:=fk hf;omega⟩
 ptr _ _ h:=cV h
 mp _ _ h:=cV h
 own _ _ _ h:=h.snoc
theorem Rel.add(aK:Γ.Ok)(h:Rel Γ s a w η){o:ax}{v:Value}(hs:ck w w')(hv:∀b,da v=some b->w.heap.size<=b)(ho:iO w' (bu Γ w' (η++[v]) (s.hp++[o])) (η++[v]) (s.hp++[o]) o v):Rel Γ (s.add o) a w' (η++[v]):=by (have he:=tR (Γ:=Γ) (o:=o) (v:=v) h.heap.len hs hv;have cP:=h.keeps.size;have jv:∀(r:Nat)(u:Value)(b:Nat),η[r]?=some u->da u=some b->b<w.heap.size\/¬∃o:ax,s.hp[r]?=some o/\o.live:=by intro r u b hu hb;by_cases aE:b<w.heap.size;exact .inl aE;refine .inr fun⟨o',Cy,YA⟩=>aE ?_;have fe:=h.heap.obj r o' u Cy hu;cases o' with|dead=>exact YA.elim|box cs=>obtain⟨b',vs,T,rfl,h1,_⟩:=fe;simp only[da,aug]at hb;subst hb;exact cf h1|row e size els=>obtain⟨_,xs,h1,_⟩:=fe;obtain⟨cur,h5⟩:=h1.lt hb;exact cf h5|cJ es=>obtain⟨b',en,c,rfl,h1,_⟩:=fe;simp only[da,aug]at hb;subst hb;exact cf h1|jq q k=>obtain⟨b',vs,rfl,h1,_⟩:=fe;simp only[da,aug]at hb;subst hb;exact cf h1|aW e size els=>obtain⟨_,xs,h1,_⟩:=fe;obtain⟨cur,h5⟩:=h1.lt hb;exact cf h5|fC e m ns=>obtain⟨cur,h5⟩:=gv.lt fe hb;exact cf h5);refine⟨h.nt,λt=>(h.tmps t).ext he,⟨by simp[AS.add,h.heap.len],?_,?_⟩,?_,h.keeps.EA hs, aK.qx _ _ _ (λb hb=>hs.block b (auK (aK.x b hb) h.keeps.size)) hs.size h.inv,(hs.keeps λ_=>False).marks h.marks λ_ hf=>hf.elim,h.ext.trans he⟩;intro r o' u h1 h2;rcases ef h1 with h3|⟨rfl,rfl⟩;rcases ef h2 with h4|⟨rfl,rfl⟩;exact(h.heap.obj r o' u h3 h4).ext he hs.size λb _ aE=>hs.block b aE;have:=(auh.1 h3).1;have:=h.heap.len;omega;(have:(η++[v])[s.hp.length]?=some v:=by rw[<-h.heap.len];simp);rw[this]at h2;obtain rfl:=auj h2;exact ho;intro r r' o1 o2 v1 v2 b bV h1 h2 l1 l2 e1 e2 hb;rcases ef h1 with h3|⟨rfl,rfl⟩<;>rcases ef h2 with h4|⟨rfl,rfl⟩;(have hr:r<η.length:=by rw[h.heap.len];exact(auh.1 h3).1);(have gM:r' < η.length:=by rw[h.heap.len];exact(auh.1 h4).1);rw[aup hr]at e1;rw[aup gM]at e2;exact h.heap.sep r r' o1 o2 v1 v2 b bV h3 h4 l1 l2 e1 e2 hb;(have hr:r<η.length:=by rw[h.heap.len];exact(auh.1 h3).1);(rw[aup hr]at e1;have:(η++[v])[s.hp.length]?=some v:=by rw[<-h.heap.len];simp);rw[this]at e2;obtain rfl:=auj e2;intro fX;have:=hv b fX;rcases jv r v1 b e1 hb with h5|h5;omega;exact h5 ⟨o1,h3,l1⟩;(have gM:r' < η.length:=by rw[h.heap.len];exact(auh.1 h4).1);(rw[aup gM]at e2;have:(η++[v])[s.hp.length]?=some v:=by rw[<-h.heap.len];simp);rw[this]at e1;obtain rfl:=auj e1;intro fX;have:=hv b hb;rcases jv r' v2 b e2 fX with h5|h5;omega;exact h5 ⟨o2,h4,l2⟩;exact(bV rfl).elim;intro r o' u b h1 YA h2 hb;rcases ef h1 with h3|⟨rfl,rfl⟩;(have hr:r<η.length:=by rw[h.heap.len];exact(auh.1 h3).1);rw[aup hr]at h2;exact h.cu r o' u b h3 YA h2 hb;(have:(η++[v])[s.hp.length]?=some v:=by rw[<-h.heap.len];simp);rw[this]at h2;obtain rfl:=auj h2;have h5:=hv b hb;exact⟨.inl (auM cP h5),λo hx=>by have:=aK.no hx;omega⟩
end
section
variable {G:Type} {Γ:Env G} {s:AS G} {a:Act} {w w':World} {η bh:List Value} {hp:List ax}
theorem getElem?_set_ne{α:Type}{l:List α}{r r':Nat}{x:α}(h:r≠r'):(l.set r x)[r']?=l[r']?:=by rw[avl];simp[h]
theorem aD{α:Type}{l:List α}{r:Nat}{x y:α}(h:l[r]?=some y):(l.set r x)[r]?=some x:=by rw[avl];simp[(auh.1 h).1]
def ax.bC(k:Nat):ax->Prop
 | .row _ size els=>k<els.length*size| .dead=>True|_=>False
theorem bn(b k:Nat):ke η hp b k↔∀(r:Nat)(v:Value),η[r]?=some v->da v=some b->∃o,hp[r]?=some o/\o.bC k:=by constructor;intro h r v h1 h2;have:=h r v h1 h2;(cases hr:hp[r]? with|none=>simp[hr]at this|some o=>rw[hr]at this;refine⟨o,rfl,?_⟩;cases o<;>exact this);intro h r v h1 h2;obtain⟨o,h3,h4⟩:=h r v h1 h2;rw[h3];cases o<;>exact h4
theorem ep.block(h:ep w (bu Γ w η hp) η hp){r:Nat}{o:ax}{u:Value}{b:Nat}(ho:hp[r]?=some o)(hl:o.live)(hu:η[r]?=some u)(hb:da u=some b):b<w.heap.size:=by have fe:=h.obj r o u ho hu;cases o with|dead=>exact hl.elim|box cs=>obtain⟨b',vs,T,rfl,h1,_⟩:=fe;simp only[da,aug]at hb;subst hb;exact cf h1|row e size els=>obtain⟨_,xs,h1,_⟩:=fe;obtain⟨cur,h5⟩:=h1.lt hb;exact cf h5|cJ es=>obtain⟨b',en,c,rfl,h1,_⟩:=fe;simp only[da,aug]at hb;subst hb;exact cf h1|jq q k=>obtain⟨b',vs,rfl,h1,_⟩:=fe;simp only[da,aug]at hb;subst hb;exact cf h1|aW e size els=>obtain⟨_,xs,h1,_⟩:=fe;obtain⟨cur,h5⟩:=h1.lt hb;exact cf h5|fC e m ns=>obtain⟨cur,h5⟩:=gv.lt fe hb;exact cf h5
theorem Rel.change(aK:Γ.Ok)(h:Rel Γ s a w η){r:Nat}{o o':ax}{v v':Value}(hr:s.hp[r]?=some o)(eE:o.live)(hv:η[r]?=some v)(hk:cy (λk=>da v=some k) w w')(Sf:∀b,da v'=some b->da v=some b\/w.heap.size<=b)(iP:∀k,o.bC k->o'.bC k)(aR:∀b k u,da v=some b->o.bC k->w.cell? ⟨b,k,none⟩=some u->w'.cell? ⟨b,k,none⟩=some u)(agu:∀b es c,da v=some b->o.bC 0->w.heap[b]?=some (.map es c)->False)(sf:∀n u,bk η s.hp r n u->bk (η.set r v') (s.hp.set r o') r n u)(alK:∀x,v=.pointer x->v'=v)(hmp:∀x,v=.map x->v'=v)(ad2:∀b d,da v=some b->w.heap[b]?=some (.deferred d)->False)(Cy:Ext w (bu Γ w η s.hp) η s.hp w' (bu Γ w' (η.set r v') (s.hp.set r o')) (η.set r v') (s.hp.set r o')->iO w' (bu Γ w' (η.set r v') (s.hp.set r o')) (η.set r v') (s.hp.set r o') o' v'): Rel Γ { s with hp:=s.hp.set r o' } a w' (η.set r v'):=by
 have fe:∀b k,bu Γ w η s.hp b k->da v=some b->o.bC k:=λb k hf hb=>by obtain⟨o1,h1,h2⟩:=(bn b k).1 hf.2.2.2 r v hv hb;rw[hr]at h1;obtain rfl:=auj h1;exact h2
 have he:Ext w (bu Γ w η s.hp) η s.hp w' (bu Γ w' (η.set r v') (s.hp.set r o')) (η.set r v') (s.hp.set r o'):=by refine⟨λb k u hf hc=>?_,λb es c hf hc=>?_,λb k hf=>?_,λr1 x h1=>?_,λr1 x h1=>?_,λr1 n u h1=>?_⟩;by_cases hb:da v=some b;exact aR b k u hb (fe b k hf hb) hc;rw[hk.cell (fk hf) hb];exact hc;by_cases hb:da v=some b;exact(agu b es c hb (fe b 0 hf hb) hc).elim;rw[hk.block b (fk hf) hb];exact hc;refine⟨hf.1,auK hf.2.1 hk.size,hf.2.2.1,(bn b k).2 λr1 u h1 hb=>?_⟩;by_cases bV:r=r1;subst bV;rw[aD hv]at h1;obtain rfl:=auj h1;refine⟨o',aD hr,?_⟩;rcases Sf b hb with h2|h2;exact iP k (fe b k hf h2);have:=fk hf;omega;rw[getElem?_set_ne bV]at h1 ⊢;exact(bn b k).1 hf.2.2.2 r1 u h1 hb;by_cases bV:r=r1;subst bV;rw[hv]at h1;obtain rfl:=auj h1;rw[aD hv,alK _ rfl];rw[getElem?_set_ne bV];exact h1;by_cases bV:r=r1;subst bV;rw[hv]at h1;obtain rfl:=auj h1;rw[aD hv,hmp _ rfl];rw[getElem?_set_ne bV];exact h1;by_cases bV:r=r1;subst bV;exact sf n u h1;unfold bk at h1 ⊢;rw[getElem?_set_ne bV,getElem?_set_ne bV];exact h1
 refine⟨h.nt,λt=>(h.tmps t).ext he,⟨by simp[h.heap.len],λr1 o1 u h1 h2=>?_,λr1 r2 o1 o2 v1 v2 b bV h1 h2 l1 l2 e1 e2 hb=>?_⟩,λr1 o1 u b h1 hl h2 hb=>?_,?_,?_,?_,h.ext.trans he⟩;simp only at h1;by_cases bV:r=r1;subst bV;rw[aD hr]at h1;rw[aD hv]at h2;obtain rfl:=auj h1;obtain rfl:=auj h2;exact Cy he
 ·rw[getElem?_set_ne bV]at h1 h2;by_cases yU:o1.live;exact(h.heap.obj r1 o1 u h1 h2).ext he hk.size λb hb aE=>hk.block b aE λfX=>h.heap.sep r1 r o1 o u v b (avU bV) h1 hr yU eE h2 hv hb fX
  ·cases o1<;>first|exact ai|exact(yU ai).elim
 simp only at h1 h2;by_cases n1:r=r1;subst n1;rw[aD hv]at e1;obtain rfl:=auj e1;rw[getElem?_set_ne bV]at h2 e2;intro fX;rcases Sf b hb with h3|h3;exact h.heap.sep r r2 o o2 v v2 b bV hr h2 eE l2 hv e2 h3 fX;have:=h.heap.block h2 l2 e2 fX;omega;rw[getElem?_set_ne n1]at h1 e1;by_cases n2:r=r2;subst n2;rw[aD hv]at e2;obtain rfl:=auj e2;intro fX;rcases Sf b fX with h3|h3;exact h.heap.sep r r1 o o1 v v1 b (λe=>n1 e) hr h1 eE l1 hv e1 h3 hb;have:=h.heap.block h1 l1 e1 hb;omega;rw[getElem?_set_ne n2]at h2 e2;exact h.heap.sep r1 r2 o1 o2 v1 v2 b bV h1 h2 l1 l2 e1 e2 hb;simp only at h1;by_cases bV:r=r1;subst bV;rw[aD hv]at h2;obtain rfl:=auj h2;rcases Sf b hb with h3|h3;exact h.cu r o v b hr eE hv h3;exact⟨.inl (auM h.keeps.size h3),λo hx=>by have:=aK.no hx;have:=h.keeps.size;omega⟩;rw[getElem?_set_ne bV]at h1 h2;exact h.cu r1 o1 u b h1 hl h2 hb;refine h.keeps.trans hk λb hb wZ=>?_;rcases (h.cu r o v b hr eE hv wZ).1 with h1|h1;omega;exact .inr h1;refine aK.qx _ _ _ (λb hb=>hk.block b (auK (aK.x b hb) h.keeps.size) λwZ=>?_) hk.size h.inv;exact(h.cu r o v b hr eE hv wZ).2 0 (.inl hb);exact hk.marks h.marks λb wZ=>.inr λd hd=>ad2 b d wZ hd
def setCells(cs:List AV)(off:Nat):List AV->List AV
 | []=>cs|x::xs=>setCells (cs.set off x) (off+1) xs
theorem yn(xs:List AV):∀(cs:List AV)(off:Nat),(setCells cs off xs).length=cs.length:=by induction xs with|nil=>intro cs off;rfl|cons x xs ih=>intro cs off;simp[setCells,ih]
theorem Rel.write(aK:Γ.Ok)(h:Rel Γ s a w η){r off b:Nat}{cs:List AV}{x:AV}{v:Value}(hr:s.hp[r]?=some (.box cs))(hv:η[r]?=some (.pointer (some ⟨b,0,none⟩)))(YT:off<cs.length)(h1:v.oneCell'=true)(hx:bo w (bu Γ w η s.hp) η s.hp x v): Rel Γ { s with hp:=s.hp.set r (.box (cs.set off x)) } a (w.setCell ⟨b,off,none⟩ v) η/\w.frozen? ⟨b,off,none⟩=false/\∃u,w.cell? ⟨b,off,none⟩=some u:=by
 have fe:=h.heap.obj r _ _ hr hv;obtain⟨b',vs,T,he,hg,cP,hc⟩:=fe;simp only[Value.pointer.injEq,aug,Addr.mk.injEq,and_true]at he;subst he;have yo:(w.setCell ⟨b,off,none⟩ v).heap[b]?=some (.cells (vs.setIfInBounds off v) T (0,0)):=Go.heap_setCell_same w b off vs T v hg;have fL:η.set r (.pointer (some ⟨b,0,none⟩))=η:=by apply avb;intro i;by_cases hi:r=i;subst hi;rw[aD hv,hv];rw[getElem?_set_ne hi]
 refine⟨?_,frozen_of_row w b off vs T hg,?_⟩;have:=Rel.change (w':=w.setCell ⟨b,off,none⟩ v) (o':=.box (cs.set off x)) (v':=.pointer (some ⟨b,0,none⟩)) aK h hr ai hv
  ⟨rfl,rfl,rfl,by simp[World.setCell],λk hk hb=>avR w _ k v (by intro e;exact hb (by rw[e];rfl))⟩
  (λc hc=>.inl hc) (λk hk=>hk.elim) (λ_ _ _ _ hk=>hk.elim) (λ_ _ _ _ hk=>hk.elim)
  (λn u ho=>by simp[bk,hr]at ho)
  (λ_ _=>rfl) (λ_ hx=>by cases hx)
  (λc d hb hd=>by simp only[da,aug]at hb;subst hb;rw[hg]at hd;cases hd)
  (λhe=>⟨b,vs.setIfInBounds off v,T,rfl,yo,by simp[cP],λj y u hy hu=>by
   by_cases hj:off=j
   ·subst hj;have aE:off<vs.size:=by rw[cP];exact YT
    have e1:(cs.set off x)[off]?=some x:=by rw[avl];simp[YT]
    have e2:(vs.setIfInBounds off v)[off]?=some v:=by rw[avt];simp[aE]
    rw[e1]at hy;rw[e2]at hu;obtain rfl:=auj hy;obtain rfl:=auj hu;exact⟨hx.ext he,h1⟩
   ·rw[getElem?_set_ne hj]at hy;have e2:(vs.setIfInBounds off v)[j]?=vs[j]?:=by rw[avt];simp[hj]
    rw[e2]at hu
    exact⟨(hc j y u hy hu).1.ext he,(hc j y u hy hu).2⟩⟩)
 rw[fL]at this;exact this;rw[cell_of_row w b off vs T (0,0) hg];exact⟨vs[off]'(by rw[cP];exact YT),by simp[cP,YT]⟩
end
section
inductive TK where
 |other
 |int (k:IntKind)
 |str
 |bool
 |cr (fields:List (Nat×Nat×Bool))
 |kY (e:Nat)
 |qo (k e:Nat)
 |ptr (e:Nat)
 |arr (n:Nat)
 |ifc
structure TD where
 flat:Bool:=false
 four:Bool:=false
 kind:TK
 size:Nat
 bytes:Nat
 zero:Value
def TK.agg:TK->Bool
 | .cr _=>true| .arr _=>true|_=>false
def Sz:TypeDesc->Bool
 | .struct _| .array _ _=>true|_=>false
def TK.fits(P:Program)(u:TypeDesc):TK->Prop
 | .other=>(match u with| .struct _| .array _ _=>False|_=>True)| .int k=>u=.int k| .str=>u=.string| .bool=>u=.bool| .cr fs=>∃fields,u=.struct fields/\fields.toList.map (λf=>(f.offset,(P.info? f.type).map (·.size),(P.underlying f.type).map Sz))=fs.map λp=>(p.1,some p.2.1,some p.2.2)| .kY e=>u=.slice e| .qo k e=>u=.map k e| .ptr e=>u=.pointer e| .ifc=>∃ms,u=.interface ms| .arr n=>∃e i,u=.array n e/\P.info? e=some i/\i.size=1
structure gy(P:Program)(T:TypeId)(d:TD):Prop where
 info:∃i,P.info? T=some i/\i.size=d.size/\i.bytes=d.bytes/\i.zero=some d.zero
 mL:∃u,P.underlying T=some u/\d.kind.fits P u
 Nz:d.zero.cells.size=d.size
 alL:∀v:Value,v∈d.zero.cells->v.oneCell'=true
 arj:d.kind.agg=true->∃cs,d.zero=.agg cs
 acZ:d.kind.agg=false->d.size=1/\d.zero.oneCell'=true
 feq:d.flat=true->P.eqGuardType P.depth T=false/\∀(w:World)(a1 a2 b1 b2:Int),(Op.equalIn 10000 T (.agg #[.int .i64 a1,.int .i64 a2]) (.agg #[.int .i64 b1,.int .i64 b2])).run P w=.ok (a1==b1&&a2==b2) w
 alM:d.four=true->P.eqGuardType P.depth T=false/\∀(w:World)(a0 a1 a2 b0 b1 b2:Int)(s t:aw),(Op.equalIn 10000 T (.agg #[.int .i64 a0,.int .i64 a1,.int .i64 a2,.string s]) (.agg #[.int .i64 b0,.int .i64 b1,.int .i64 b2,.string t])).run P w=.ok (a0==b0&&((a1==b1&&a2==b2)&&s.toList==t.toList)) w
def bp(P:Program)(tab:Nat->Option TD):Prop:=∀T d,tab T=some d->gy P T d
variable {G:Type} {Γ:Env G} {s:AS G} {a:Act} {w w':World} {η:List Value} {hp:List ax} {F:Nat->Nat->Prop} {P:Program}
theorem gy.Qu{T:TypeId}{d:TD}(h:gy P T d)(w:World):(isAgg T).run P w=.ok d.kind.agg w:=by
 obtain⟨u,h1,h2⟩:=h.mL;simp only[isAgg,ao,run_underlying h1,al];revert h2;cases hk:d.kind<;>intro h2<;>simp only[TK.fits]at h2
 ·cases u<;>first|rfl|exact h2.elim
 subst h2;rfl;subst h2;rfl;subst h2;rfl;obtain⟨f,rfl,_⟩:=h2;rfl;subst h2;rfl;subst h2;rfl;subst h2;rfl;obtain⟨e,i,rfl,_⟩:=h2;rfl;obtain⟨m,rfl⟩:=h2;rfl
theorem gy.run_sizeOf{T:TypeId}{d:TD}(h:gy P T d)(w:World):(sizeOf T).run P w=.ok d.size w:=by obtain⟨i,h1,h2,_⟩:=h.info;simp[sizeOf,typeInfo,h1,h2]
theorem gy.kf{T:TypeId}{d:TD}(h:gy P T d)(w:World):(zeroValue T).run P w=.ok d.zero w:=by obtain⟨i,h1,_,_,h4⟩:=h.info;simp[zeroValue,typeInfo,h1,h4]
theorem gy.run_load{T:TypeId}{d:TD}(h:gy P T d){b o:Nat}{vs:List Value}(hl:vs.length=d.size)(hc:∀(j:Nat)(v:Value),vs[j]?=some v->w.cell? ⟨b,o+j,none⟩=some v): (loadVar T ⟨b,o,none⟩).run P w=.ok (if d.kind.agg then .agg vs.toArray else vs.headD undef) w:=by simp only[loadVar,ao,h.Qu,al];cases hk:d.kind.agg with|true=>simp only[if_true,ao,h.run_sizeOf,al];rw[<-hl,run_loadCells_list (P:=P) w ⟨b,o,none⟩ vs (λj v hj=>by rw[Addr.add_lit];exact hc j v hj)];rfl|false=>have h1:=(h.acZ hk).1;rw[h1]at hl;match vs,hl with| [v],_=>have:=hc 0 v rfl;simp only[avo]at this;simp[run_load,this]
def AV.iQ(hp:List ax):AV->Option (List AV)
 | .sl els=>some els| .clip els=>some els| .ay (.slice none 0 0)=>some []| .own r n=>match hp[r]? with|some (.row _ _ els)=>if n=els.length then some els else none|_=>none
 |_=>none
theorem Rel.ad3{r:Nat}{e size:Nat}{els:List AV}{v:Value}(hF:∀b k,(∃u,η[r]?=some u/\da u=some b)->k<els.length*size->F b k)(fe:iO w F η hp (.row e size els) v)(hv:η[r]?=some v):bo w F η hp (.sl els) v:=by obtain⟨h0,xs,eH,fD⟩:=fe;rcases eH.2 with⟨hn,rfl|⟨ad,rfl⟩⟩|⟨g,cap,cur,rfl,Hd,⟨hi,_,hg⟩,KV,KW,gK,qb⟩;have:els=[]:=auU hn;subst this;exact .mR _;have:els=[]:=auU hn;subst this;exact .mR _;(have aR:∀(i:Nat)(el:AV)(j:Nat)(x:AV),els[i]?=some el->el.cells[j]?=some x->∃u,w.cell? ⟨g,0+i*size+j,none⟩=some u/\xs.getD (i*size+j) undef=u/\F g (0+i*size+j)/\u.oneCell'=true/\bo w F [] [] x u:=by (intro i el j x hi hj;obtain⟨hlen,hx⟩:=fD i el hi;obtain⟨u,hu,dW,h1⟩:=hx j x hj;have tS:i<els.length:=(auh.1 hi).1;have vK:j<size:=by rw[<-hlen];exact(auh.1 hj).1);(have aE:i*size+j<els.length*size:=by have:=au6 size (show i+1<=els.length from tS);rw[avn]at this;omega);refine⟨u,?_,by simp[ae,hu],hF _ _ ⟨_,hv,cK Hd⟩ (by omega),h1,dW⟩;rw[auO,cell_of_row w g _ cur e _ hg];rw[<-qb,auC,if_pos aE]at hu;simpa using hu);refine .sl size els g 0 cap (λi j=>xs.getD (i*size+j) undef) KV KW (λi el hi=>(fD i el hi).1) (λi el j x hi hj=>?_) (λi el j x hi hj=>?_);obtain⟨u,h1,h2,h3,h4,_⟩:=aR i el j x hi hj;exact⟨by rw[h2];exact h1,h3,by rw[h2];exact h4⟩;obtain⟨u,h1,h2,h3,h4,h5⟩:=aR i el j x hi hj;rw[h2];exact h5
theorem YU(h:ep w (bu Γ w η hp) η hp)(hm:vP Γ η hp){r e size:Nat}{els:List AV}{v:Value}(hr:hp[r]?=some (.row e size els))(hv:η[r]?=some v){b k:Nat}(hb:da v=some b)(vQ:k<els.length*size):bu Γ w η hp b k:=by have h1:=hm r _ v b hr ai hv hb;refine⟨.inr h1.1,h.block hr ai hv hb,h1.2 _,(bn b k).2 λr' u hu fX=>?_⟩;by_cases bV:r=r';subst bV;exact⟨_,hr,vQ⟩;(have gM:r' < hp.length:=by rw[<-h.len];exact(auh.1 hu).1);refine⟨hp[r'],by simp[gM],?_⟩;cases ho:hp[r']with|dead=>exact ai|box cs=>exact(h.sep r r' _ (.box cs) v u b bV hr (by rw[<-ho];simp[gM]) ai ai hv hu hb fX).elim|row e' s' gX=>exact(h.sep r r' _ (.row e' s' gX) v u b bV hr (by rw[<-ho];simp[gM]) ai ai hv hu hb fX).elim|cJ es=>exact(h.sep r r' _ (.cJ es) v u b bV hr (by rw[<-ho];simp[gM]) ai ai hv hu hb fX).elim|jq q k=>exact(h.sep r r' _ (.jq q k) v u b bV hr (by rw[<-ho];simp[gM]) ai ai hv hu hb fX).elim|aW e' s' gX=>exact(h.sep r r' _ (.aW e' s' gX) v u b bV hr (by rw[<-ho];simp[gM]) ai ai hv hu hb fX).elim|fC e' m' ns'=>exact(h.sep r r' _ (.fC e' m' ns') v u b bV hr (by rw[<-ho];simp[gM]) ai ai hv hu hb fX).elim
end
section
variable {G:Type} {Γ:Env G} {s:AS G} {a:Act} {w w':World} {η:List Value} {hp:List ax} {F:Nat->Nat->Prop} {P:Program}
theorem YV(h:ep w (bu Γ w η hp) η hp)(hm:vP Γ η hp){r n e size:Nat}{els:List AV}{v:Value}(hr:hp[r]?=some (.row e size els))(ho:bk η hp r n v)(hn:n=els.length): bo w (bu Γ w η hp) η hp (.sl els) v:=by (have hv:η[r]?=some v:=by unfold bk at ho;rw[hr]at ho;exact ho.2 hn);exact Rel.ad3 (λb k ⟨u,h1,h2⟩ hk=>YU h hm hr h1 h2 hk) (h.obj r _ v hr hv) hv
theorem lV(h:ep w (bu Γ w η hp) η hp)(hm:vP Γ η hp){x:AV}{els:List AV}{v:Value}(hx:bo w (bu Γ w η hp) η hp x v)(he:x.iQ hp=some els): bo w (bu Γ w η hp) η hp (.sl els) v:=by
 cases x with
  |sl l=>simp only[AV.iQ,aug]at he;subst he;exact hx|clip l=>simp only[AV.iQ,aug]at he;subst he;exact hx.mS|ay u=>(have:u=v:=by cases hx;rfl);subst this;unfold AV.iQ at he;(split at he<;>try (simp at he;done));rename_i h1;cases h1;rename_i h1;cases h1;rename_i h1;simp only[AV.ay.injEq]at h1;subst h1;obtain rfl:=auj he;exact .mR _;rename_i h1;cases h1|own r n=>(have ho:bk η hp r n v:=by cases hx;assumption);simp only[AV.iQ]at he;cases hr:hp[r]? with|none=>simp[hr]at he|some o=>cases o with|row e size l=>simp only[hr]at he;split at he;rename_i hn;obtain rfl:=auj he;exact YV h hm hr ho hn;cases he|_=>simp[hr]at he
  |_=>simp[AV.iQ]at he
structure EB(w:World)(F:Nat->Nat->Prop)(size:Nat)(els:List AV)(v:Value)(news:List Value):Prop where
 shape:(∃ad:Option Addr,v=.slice ad 0 0/\els=[])\/∃b o c,v=.slice (some ⟨b,o,none⟩) els.length c/\els.length<=c/\c<=maxLen/\∀(k:Nat)(u:Value),news[k]?=some u->w.cell? ⟨b,o+k,none⟩=some u
 len:news.length=els.length*size
 one:∀u:Value,u∈news->u.oneCell'=true
 rep:∀(i:Nat)(e:AV)(j:Nat)(x:AV),els[i]?=some e->e.cells[j]?=some x->∃u,news[i*size+j]?=some u/\bo w F [] [] x u/\u.oneCell'=true
theorem bo.yV{size:Nat}{els:List AV}{v:Value}(h:bo w F η hp (.sl els) v)(cP:0<size)(hl:∀e:AV,e∈els->e.cells.length=size):∃news,EB w F size els v news:=by cases h with|mR a=>exact⟨[],.inl ⟨a,rfl,rfl⟩,by simp,(λu hu=>by cases hu),λi e j x hi=>by simp at hi⟩|sl w4 els b o c f hc hm YB aR hr=>have alN:∀k,k<els.length*size->k / size<els.length/\k % size<size/\k=k / size*size+k % size:=λk hk=> ⟨Nat.div_lt_of_lt_mul (by rw[Nat.mul_comm];exact hk),Nat.mod_lt _ cP,by rw[Nat.mul_comm];exact(Nat.div_add_mod k size).symm⟩;(have dT:∀k,k<els.length*size->w.cell? ⟨b,o+k,none⟩=some (f (k / size) (k % size))/\(f (k / size) (k % size)).oneCell'=true:=λk hk=>by (obtain⟨h1,h2,h3⟩:=alN k hk;have he:els[k / size]?=some els[k / size]:=by simp[h1]);(have hlen:=hl _ (auv h1);have hj:els[k / size].cells[k % size]?=some (els[k / size].cells[k % size]'(by rw[hlen];exact h2)):=by simp[hlen,h2]);(have hs':w4=size:=by rw[<-YB _ _ he];exact hlen);have:=aR _ _ _ _ he hj;rw[hs',av0,<-h3]at this;exact⟨this.1,this.2.2⟩);refine⟨(List.range (els.length*size)).map λk=>f (k / size) (k % size),.inr ⟨b,o,c,rfl,hc,hm,λk u hk=>?_⟩,by simp,λu hu=>?_,λi e j x hi hj=>?_⟩;rw[auu]at hk;by_cases aE:k<els.length*size;rw[av8 aE]at hk;obtain rfl:=auj hk;exact(dT k aE).1;rw[auP (by simp;omega)]at hk;cases hk;obtain⟨k,hk,rfl⟩:=avg.1 hu;exact(dT k (List.mem_range.1 hk)).2;(have hlen:=hl e (auq hi);have tS:i<els.length:=(auh.1 hi).1;have vK:j<size:=by rw[<-hlen];exact(auh.1 hj).1);(have aE:i*size+j<els.length*size:=by have:=au6 size (show i+1<=els.length from tS);rw[avn]at this;omega);(have e1:(i*size+j) / size=i:=by rw[Nat.mul_comm,Nat.mul_add_div cP,Nat.div_eq_of_lt vK,avo]);(have e2:(i*size+j) % size=j:=by rw[Nat.mul_comm,Nat.mul_add_mod,Nat.mod_eq_of_lt vK]);refine⟨f i j,?_,hr i e j x hi hj,(aR i e j x hi hj).2.2⟩;rw[auu,av8 aE];simp[e1,e2]
theorem EB.ext{w':World}{F':Nat->Nat->Prop}{size:Nat}{els:List AV}{v:Value}{news:List Value}(h:EB w F size els v news)(he:Sx w F w' F'): ∀(i:Nat)(e:AV)(j:Nat)(x:AV),els[i]?=some e->e.cells[j]?=some x->∃u,news[i*size+j]?=some u/\bo w' F' [] [] x u/\u.oneCell'=true:=λi e j x hi hj=>let ⟨u,h1,h2,h3⟩:=h.rep i e j x hi hj;⟨u,h1,h2.ext he.ext,h3⟩
theorem oV{R:AV->Value->Prop}{size:Nat}{l1 l2:List AV}{x1 x2:List Value}(hx1:x1.length=l1.length*size)(h1:∀(i:Nat)(e:AV)(j:Nat)(x:AV),l1[i]?=some e->e.cells[j]?=some x->∃u,x1[i*size+j]?=some u/\R x u/\u.oneCell'=true)(h2:∀(i:Nat)(e:AV)(j:Nat)(x:AV),l2[i]?=some e->e.cells[j]?=some x->∃u,x2[i*size+j]?=some u/\R x u/\u.oneCell'=true): ∀(i:Nat)(e:AV)(j:Nat)(x:AV),(l1++l2)[i]?=some e->e.cells[j]?=some x->∃u,(x1++x2)[i*size+j]?=some u/\R x u/\u.oneCell'=true:=by intro i e j x hi hj;by_cases aE:i<l1.length;rw[aup aE]at hi;obtain⟨u,h3,h4⟩:=h1 i e j x hi hj;exact⟨u,by rw[aup (auh.1 h3).1];exact h3,h4⟩;(rw[auN (by omega)]at hi;obtain⟨u,h3,h4⟩:=h2 _ e j x hi hj;refine⟨u,?_,h4⟩;have:x1.length<=i*size+j:=by rw[hx1];have:=au6 size (show l1.length<=i by omega);omega);rw[auN this,hx1,<-h3];congr 1;rw[Nat.sub_mul];have:=au6 size (show l1.length<=i by omega);omega
theorem kJ{t ty e:TypeId}{ed:TD}(ht:P.underlying t=some (.slice e))(he:gy P e ed)(b:Option Addr)(n c:Nat)(hn:n<=c)(x:Value)(hx:x=.slice none 0 0\/∃ad k,x=.slice (some ad) 0 k): (Builtin.append_ #[t,t] ty #[.slice b n c,x]).run P w=.ok (.slice b n c) w:=by obtain⟨i,h1,h2,_⟩:=he.info;rcases hx with rfl|⟨ad,k,rfl⟩<;>cases b <;> simp[Builtin.append_,run_underlying ht,sizeOf,typeInfo,h1,Builtin.lenOf,hn,Builtin.firstCells,storeCells,loadCells,loadCellsFrom]
theorem vR{e size:Nat}{n m:Nat}{z:Array Value}(nw news:List Value)(ho:nw.length=n*size)(hnw:news.length=m*size)(hz:z.size=size)(nX:Nat)(hm:0<m)(EC:n+m<=maxLen): mT (w.drew.alloc (.cells (nw.toArray++news.toArray++Builtin.zeroCells z (grownCap w (n+m) nX e-(n+m))) e)) e size (.slice (some ⟨w.heap.size,0,none⟩) (n+m) (grownCap w (n+m) nX e)) (n+m) (nw++news) 0:=by (have fh:=grownCap_ge w (n+m) nX e;have KW:grownCap w (n+m) nX e<=maxLen:=grownCap_le_maxLen w (n+m) nX e EC;have hlen:(nw++news).length=(n+m)*size:=by rw[auo,ho,hnw,avn]);refine⟨hlen,.inr ⟨w.heap.size,_,_,rfl,by omega,⟨0,aum _,heap_alloc_new w.drew _⟩,fh,KW,?_,?_⟩⟩;simp only[Array.size_append,avO,size_zeroCells,hz,ho,hnw,<-avn];congr 1;omega;simp only[Array.toList_append,auH];rw[<-auH,<-hlen];exact av7
end
section
variable {G:Type} {Γ:Env G} {s:AS G} {a:Act} {w w':World} {η:List Value} {hp:List ax} {F:Nat->Nat->Prop} {P:Program}
theorem zE(aK:Γ.Ok)(h:Rel Γ s a w η){t ty e:TypeId}{d:TD}(ht:Γ.P.underlying t=some (.slice e))(dK:gy Γ.P e d)(cP:0<d.size){els aM:List AV}{v0 v2:Value}(hb:v0=.slice none 0 0/\els=[]\/bo w (bu Γ w η s.hp) η s.hp (.clip els) v0)(hx:bo w (bu Γ w η s.hp) η s.hp (.sl aM) v2)(hl:∀x:AV,x∈els->x.cells.length=d.size)(rN:∀x:AV,x∈aM->x.cells.length=d.size)(bV:aM=[]->els=[])(hm:els.length+aM.length<=maxLen)(K2:(els.length+aM.length)*d.bytes<=140737488355328){ob:ax}(fe:ob=.row e d.size (els++aM)\/ob=.aW e d.size (els++aM)): ∃v' w',(Builtin.append_ #[t,t] ty #[v0,v2]).run Γ.P w=.ok v' w'/\Rel Γ (s.add ob) a w' (η++[v'])/\v'.oneCell'=true:=by
 have oW:∀{w:World}{F:Nat->Nat->Prop}{η:List Value}{hp:List ax}{v:Value},iO w F η hp (.aW e d.size (els++aM)) v->iO w F η hp ob v:=by rcases fe with rfl|rfl;exact fun⟨h1,xs,h2,h3⟩=>⟨h1,xs,h2.more (aus _),h3⟩;exact id
 obtain⟨i,jz,qv,G4,NA⟩:=dK.info;have hbs:bo w (bu Γ w η s.hp) η s.hp (.sl els) v0:=by rcases hb with⟨rfl,rfl⟩|hb;exact .mR _;exact hb.mS
 obtain⟨nw,ho⟩:=hbs.yV cP hl;obtain⟨news,hn⟩:=hx.yV cP rN;have K3:(∃ad:Option Addr,v0=.slice ad 0 0/\els=[])\/∃b o,v0=.slice (some ⟨b,o,none⟩) els.length els.length/\∀(k:Nat)(u:Value),nw[k]?=some u->w.cell? ⟨b,o+k,none⟩=some u:=by rcases ho.shape with h1|⟨b,o,c,rfl,_,_,hc⟩;exact .inl h1;rcases hb with⟨hb,_⟩|hb;cases hb;cases hb with|jy=>exact .inl ⟨_,rfl,rfl⟩|clip size els b o f hm YB aR hr=>exact .inr ⟨_,_,rfl,hc⟩
 by_cases hz:aM=[];have SA:=bV hz;subst hz;subst SA;have hv2:v2=.slice none 0 0\/∃ad k,v2=.slice (some ad) 0 k:=by rcases hn.shape with⟨ad,rfl,_⟩|⟨b,o,c,rfl,_⟩;(cases ad with|none=>exact .inl rfl|some ad=>exact .inr ⟨_,_,rfl⟩);exact .inr ⟨_,_,rfl⟩
 rcases K3 with⟨ad,rfl,_⟩|⟨b,o,rfl,_⟩;refine⟨_,w,kJ ht dK ad 0 0 (aum _) v2 hv2,?_,rfl⟩;exact h.add aK (ck.refl w) (λb hb=>by cases ad<;>simp[da]at hb) (oW ⟨cP,[],⟨by simp,.inl ⟨rfl,by cases ad with|none=>exact .inl rfl|some ad=>exact .inr ⟨ad,rfl⟩⟩⟩,λi el hi=>by simp at hi⟩);refine⟨_,w,kJ ht dK (some ⟨b,o,none⟩) 0 0 (aum _) v2 hv2,?_,rfl⟩;exact h.add aK (ck.refl w) (λb hb=>by simp[da]at hb) (oW ⟨cP,[],⟨by simp,.inl ⟨rfl,.inr ⟨_,rfl⟩⟩⟩,λi el hi=>by simp at hi⟩);have si:0<aM.length:=List.length_pos_iff.2 hz;rcases hn.shape with⟨_,_,h1⟩|⟨b2,o2,c2,rfl,_,_,Sg⟩;exact(hz h1).elim;have qz:∀(j:Nat)(u:Value),news[j]?=some u->w.cell? ((⟨b2,o2,none⟩:Addr).add j)=some u:=λj u hj=>by rw[Addr.add_lit];exact Sg j u hj
 have EC:els.length+aM.length<=9223372036854775807:=by simp only[maxLen]at hm;omega
 have fin:∀(nX:Nat),Rel Γ (s.add ob) a
   (w.drew.alloc (.cells (nw.toArray++news.toArray++Builtin.zeroCells d.zero.cells (grownCap w (els.length+aM.length) nX e-(els.length+aM.length))) e))
   (η++[.slice (some ⟨w.heap.size,0,none⟩) (els.length+aM.length) (grownCap w (els.length+aM.length) nX e)]):=by
  intro nX;have hs:ck w (w.drew.alloc (.cells (nw.toArray++news.toArray++Builtin.zeroCells d.zero.cells (grownCap w (els.length+aM.length) nX e-(els.length+aM.length))) e)):=
   (ck.drew w).trans (ck.alloc _ _)
  have jv:∀b,da (.slice (some ⟨w.heap.size,0,none⟩) (els.length+aM.length) (grownCap w (els.length+aM.length) nX e))=some b->w.heap.size<=b:=by
   intro b hb;rw[cK (by have:=grownCap_ge w (els.length+aM.length) nX e;omega)]at hb;obtain rfl:=auj hb;exact aum _
  have he:=tR (Γ:=Γ) (o:=ob) h.heap.len hs jv;refine h.add aK hs jv (oW ⟨cP,nw++news,?_,λi el hi=>⟨?_,?_⟩⟩)
  ·rw[auo];exact vR nw news ho.len hn.len dK.Nz nX si hm
  ·rcases auQ.1 (auq hi)with h1|h1
   ·exact hl _ h1
   ·exact rN _ h1
  ·exact λj x hj=>oV ho.len (ho.ext he.nv) (hn.ext he.nv) i el j x hi hj
 rcases K3 with⟨ad,rfl,rfl⟩|⟨b,o,rfl,hc⟩;have:nw=[]:=auU (by simpa using ho.len);subst this;cases ad with|some ad=>have:=run_append_grow (P:=Γ.P) w t ty e i d.zero ht jz NA ad 0 0 [] (by simp) (λj u hj=>by simp at hj) ⟨b2,o2,none⟩ aM.length c2 news (by rw[qv];exact hn.len) qz (by omega) (by simp only[auV,auO]at EC ⊢;omega) (growslice_fits (by omega) (by rw[G4];simpa only[auV]using K2));refine⟨_,_,this,?_,rfl⟩;have f0:=fin 0;simpa only[auV,auO,avr]using f0|none=>have:=run_append_nil (P:=Γ.P) w t ty e i d.zero ht jz NA ⟨b2,o2,none⟩ aM.length c2 news (by rw[qv];exact hn.len) qz si (by simp only[auV,auO]at EC;omega) (by rw[G4];simp only[auV,auO]at K2;omega);refine⟨_,_,this,?_,rfl⟩;have f0:=fin 0;simpa only[auV,auO,avr,Array.empty_append]using f0
 have holds:∀(j:Nat)(u:Value),nw[j]?=some u->w.cell? ((⟨b,o,none⟩:Addr).add j)=some u:=λj u hj=>by rw[Addr.add_lit];exact hc j u hj
 have:=run_append_grow (P:=Γ.P) w t ty e i d.zero ht jz NA ⟨b,o,none⟩ els.length els.length nw (by rw[qv];exact ho.len) holds ⟨b2,o2,none⟩ aM.length c2 news (by rw[qv];exact hn.len) qz (by omega) (by omega) (growslice_fits (by omega) (by rw[G4];exact K2));exact⟨_,_,this,fin els.length,rfl⟩
theorem oX{g e z:Nat}:∀(us:List Value)(o:Nat)(cur:Array Value)(w:World),w.heap[g]?=some (.cells cur e (0,z))->o+us.length<=cur.size-> w.setCells g o us=w.setRow g (cur.toList.take o++us++cur.toList.drop (o+us.length)).toArray:=by
 intro us;induction us with
  |nil=>intro o cur w hg _;simp only[World.setCells,auD,auV,avo,avi];have aE:g<w.heap.size:=(auW.1 hg).1;have hv:w.heap[g]=.cells cur e (0,z):=(auW.1 hg).2;unfold World.setRow;cases w with|mk heap tape drawn os output=>congr 1;apply Array.ext;simp;intro k h1 h2;simp only[Array.getElem_modify];split;rename_i hk;subst hk;simp at hv;simp[hv];rfl
  |cons u us ih=>intro o cur w hg hl;rw[aur]at hl;rw[World.setCells,setCell_eq_setRow w g o cur e _ u hg,ih (o+1) _ _ (setRow_heap w g cur _ e _ hg) (by simp;omega),setRow_setRow];congr 2;(apply avb;intro k;have e1:(cur.setIfInBounds o u).toList=cur.toList.set o u:=by simp);(rw[e1];have hlen:cur.toList.length=cur.size:=by simp);rcases Nat.lt_trichotomy k o with h|h|h;rw[auH,auH,aup (by simp;omega),aup (by simp;omega),auC,auC,if_pos (by omega),if_pos h,List.getElem?_set_ne (by omega)];(subst h;have hk:(cur.toList.take k).length=k:=by rw[au0];omega);rw[auH,auH,aup (by simp;omega),auN (by omega),hk,avH,auC,if_pos (by omega),List.getElem?_set_self (by omega)];rfl;(have e2:(cur.toList.take o++(u::us)++cur.toList.drop (o+(us.length+1)))[k]?=(us++cur.toList.drop (o+(us.length+1)))[k-(o+1)]?:=by (rw[auH,auN (by simp;omega),avx];have:k-(List.take o cur.toList).length=(k-(o+1))+1:=by rw[au0];omega);rw[this,au3]);(rw[aur,e2,auH,auN (by simp;omega)];have:k-(List.take (o+1) (cur.toList.set o u)).length=k-(o+1):=by rw[au0,avw];omega);rw[this,List.drop_set_of_lt (by omega),show o+1+us.length=o+(us.length+1) by omega]
theorem lW{w:World}{g e z o:Nat}{cur:Array Value}{us:List Value}(hg:w.heap[g]?=some (.cells cur e (0,z)))(hz:z<=o)(hf:o+us.length<=cur.size): (∀j,j<us.length->(w.cell? ⟨g,o+j,none⟩).isSome=true)/\∀j,j<us.length->w.frozen? ⟨g,o+j,none⟩=false:=by refine⟨λj hj=>?_,λj hj=>?_⟩;rw[cell_of_row w g _ cur e _ hg,ava (by omega)];rfl;(simp only[World.frozen?,hg];have:¬(o+j<z):=by omega);simp[this]
structure zF(P:Program)(w:World)(F:Nat->Nat->Prop)(t u ty e:TypeId)(d:TD)(aM:List AV)(v2:Value)(news:List Value):Prop where
 len:news.length=aM.length*d.size
 one:∀u∈news,u.oneCell'=true
 rep:∀(i:Nat)(e:AV)(j:Nat)(x:AV),aM[i]?=some e->e.cells[j]?=some x->∃u,news[i*d.size+j]?=some u/\bo w F [] [] x u/\u.oneCell'=true
 nothing:aM=[]->∀b n c,n<=c->(Builtin.append_ #[t,u] ty #[.slice b n c,v2]).run P w=.ok (.slice b n c) w
 nil:0<aM.length->(aM.length:Int)<=9223372036854775807->aM.length*d.bytes<=281474976710656->(Builtin.append_ #[t,u] ty #[.slice none 0 0,v2]).run P w=
  .ok (.slice (some ⟨w.heap.size,0,none⟩) aM.length (grownCap w aM.length 0 e)) (w.drew.alloc (.cells (news.toArray++Builtin.zeroCells d.zero.cells (grownCap w aM.length 0 e-aM.length)) e))
 grow:0<aM.length->∀(b:Addr)(kg sj:Nat)(nw:List Value),nw.length=kg*d.size->(∀j v,nw[j]?=some v->w.cell? (b.add j)=some v)->sj<kg+aM.length->((kg+aM.length:Nat):Int)<=9223372036854775807->
  Builtin.nextslicecap (kg+aM.length) sj*d.bytes<=281474976710656->(Builtin.append_ #[t,u] ty #[.slice (some b) kg sj,v2]).run P w=
   .ok (.slice (some ⟨w.heap.size,0,none⟩) (kg+aM.length) (grownCap w (kg+aM.length) sj e)) (w.drew.alloc (.cells (nw.toArray++news.toArray++Builtin.zeroCells d.zero.cells (grownCap w (kg+aM.length) sj e-(kg+aM.length))) e))
 room:0<aM.length->∀(g kg sj:Nat)(cur:Array Value)(hi:Nat),hi<=kg*d.size->w.heap[g]?=some (.cells cur e (0,hi))->kg+aM.length<=sj->kg*d.size+news.length<=cur.size->(Builtin.append_ #[t,u] ty #[.slice (some ⟨g,0,none⟩) kg sj,v2]).run P w=
   .ok (.slice (some ⟨g,0,none⟩) (kg+aM.length) sj) (w.setRow g (cur.toList.take (kg*d.size)++news++cur.toList.drop (kg*d.size+news.length)).toArray)
theorem zF.ext{P:Program}{F F':Nat->Nat->Prop}{t u ty e:TypeId}{d:TD}{aM:List AV}{v2:Value}{news:List Value}(h:zF P w F t u ty e d aM v2 news)(he:Sx w F w' F'): ∀(i:Nat)(e:AV)(j:Nat)(x:AV),aM[i]?=some e->e.cells[j]?=some x->∃u,news[i*d.size+j]?=some u/\bo w' F' [] [] x u/\u.oneCell'=true:=λi e j x hi hj=>let ⟨u,h1,h2,h3⟩:=h.rep i e j x hi hj;⟨u,h1,h2.ext he.ext,h3⟩
theorem tT{P:Program}{F:Nat->Nat->Prop}{t ty e:TypeId}{d:TD}(ht:P.underlying t=some (.slice e))(dK:gy P e d)(cP:0<d.size){aM:List AV}{v2:Value}(hx:bo w F η hp (.sl aM) v2)(rN:∀x:AV,x∈aM->x.cells.length=d.size):∃news,zF P w F t t ty e d aM v2 news:=by (obtain⟨i,jz,qv,G4,NA⟩:=dK.info;obtain⟨news,hn⟩:=hx.yV cP rN;have pos:0<aM.length->∃b2 o2 c2,v2=.slice (some ⟨b2,o2,none⟩) aM.length c2/\∀(j:Nat)(u:Value),news[j]?=some u->w.cell? ((⟨b2,o2,none⟩:Addr).add j)=some u:=λh0=>by rcases hn.shape with⟨_,_,h1⟩|⟨b2,o2,c2,rfl,_,_,Sg⟩;rw[h1]at h0;simp at h0;exact⟨b2,o2,c2,rfl,λj u hj=>by rw[Addr.add_lit];exact Sg j u hj⟩);refine⟨news,hn.len,hn.one,hn.rep,λh0 b n c KV=>?_,λh0 EC h48=>?_,λh0 b kg sj nw lF ho hg EC tU=>?_,λh0 g kg sj cur hi hhi hg fp tU=>?_⟩;refine kJ ht dK b n c KV v2 ?_;subst h0;rcases hn.shape with⟨ad,rfl,_⟩|⟨b,o,c,rfl,_⟩;(cases ad with|none=>exact .inl rfl|some ad=>exact .inr ⟨_,_,rfl⟩);exact .inr ⟨_,_,rfl⟩;obtain⟨b2,o2,c2,rfl,hc⟩:=pos h0;exact run_append_nil (P:=P) w t ty e i d.zero ht jz NA ⟨b2,o2,none⟩ aM.length c2 news (by rw[qv];exact hn.len) hc h0 EC (by rw[G4];exact h48);obtain⟨b2,o2,c2,rfl,hc⟩:=pos h0;exact run_append_grow (P:=P) w t ty e i d.zero ht jz NA b kg sj nw (by rw[qv];exact lF) ho ⟨b2,o2,none⟩ aM.length c2 news (by rw[qv];exact hn.len) hc hg EC (by rw[G4];exact tU);obtain⟨b2,o2,c2,rfl,hc⟩:=pos h0;have:=run_append_room_cells (P:=P) w t ty e i ht jz g 0 kg sj ⟨b2,o2,none⟩ aM.length c2 news (by rw[qv];exact hn.len) hc hn.one fp (by rw[qv,auO];exact(lW hg hhi tU).1) (by rw[qv,auO];exact(lW hg hhi tU).2);rw[qv,auO,oX news _ cur w hg tU]at this;exact this
def jA(b:aw):List AV:=b.data.toList.map λc=>.ay (.int .u8 c.toNat)
theorem vS(b:aw):(jA b).length=b.size:=by simp[jA]
theorem K4{P:Program}{F:Nat->Nat->Prop}{t u ty e:TypeId}{d:TD}(ht:P.underlying t=some (.slice e))(hu:P.underlying u=some .string)(dK:gy P e d)(h1:d.size=1)(hz:d.zero=.int .u8 0)(b:aw): zF P w F t u ty e d (jA b) (.string b) (Lib.strCells b):=by (obtain⟨i,jz,qv,G4,NA⟩:=dK.info;have hl:=vS b;have e1:(b.data.map λb=>Value.int .u8 b.toNat)=(Lib.strCells b).toArray:=by apply avy;simp[Lib.strCells]);refine⟨by rw[Lib.strCells_length,hl,h1,avq],Lib.strCells_oneCell b,λi el j x hi hj=>?_,λh0 a n c KV=>?_,λh0 EC h48=>?_,λh0 a kg sj nw lF ho hg EC tU=>?_,λh0 g kg sj cur hi hhi hg fp tU=>?_⟩;simp only[jA,auu,au8]at hi;obtain⟨c,hc,rfl⟩:=hi;(cases j with|succ j=>simp[AV.cells]at hj|zero=>simp only[AV.cells,au4,aug]at hj;subst hj;exact⟨_,by rw[h1,avq,avo,Lib.strCells,auu,hc];rfl,.ay _,rfl⟩);(have hb:b.size=0:=by rw[<-hl,h0];rfl);have hf:=Lib.run_firstCells_string (P:=P) w i.size b;rw[hb]at hf;have Hd:Lib.strCells b=[]:=auU (by rw[Lib.strCells_length];exact hb);cases a<;>simp[Builtin.append_,run_underlying ht,run_underlying hu,sizeOf,typeInfo,jz,Builtin.lenOf,hb,KV,hf,Hd,storeCells];rw[hl]at *;have:=run_append_nil_string (P:=P) w t u ty e i d.zero ht hu jz NA b h0 EC (by rw[G4];exact h48);rw[e1]at this;exact this;rw[hl]at *;exact Lib.run_append_grow_string (P:=P) w t u ty e i d.zero ht hu jz NA a kg sj nw (by rw[qv];exact lF) ho b hg EC (by rw[G4];exact tU);(rw[hl]at *;rw[h1,avq,Lib.strCells_length]at *;have YW:kg+(Lib.strCells b).length<=cur.size:=by rw[Lib.strCells_length];exact tU);have hf:=Lib.run_firstCells_string (P:=P) w 1 b;have tV:=run_storeCells_cells (P:=P) g kg (Lib.strCells b) 0 w (lW hg hhi YW).1 (lW hg hhi YW).2 (Lib.strCells_oneCell b);rw[avo,oX _ _ cur w hg YW,Lib.strCells_length]at tV;simp[Builtin.append_,run_underlying ht,run_underlying hu,sizeOf,typeInfo,jz,show i.size=1 by rw[qv],Builtin.lenOf,fp,hf,Addr.add_lit,tV]
def fM(M:Bool)(e size:Nat)(els:List AV):ax:=match M with|false=>.row e size els|true=>.aW e size els
def kB(M:Bool)(n:Nat):Nat:=match M with|false=>n|true=>0
theorem agx(M:Bool)(n:Nat):kB M n<=n:=by cases M<;>simp[kB]
theorem YX(M:Bool){n m:Nat}(h:n<=m):kB M n<=kB M m:=by cases M<;>simp[kB,h]
theorem lX{F:Nat->Nat->Prop}{M:Bool}{e size:Nat}{els:List AV}{v:Value}:iO w F η hp (fM M e size els) v↔(0<size/\∃xs:List Value,mT w e size v els.length xs (kB M (els.length*size))/\
   ∀(i:Nat)(el:AV),els[i]?=some el->el.cells.length=size/\
    ∀(j:Nat)(x:AV),el.cells[j]?=some x->∃u,xs[i*size+j]?=some u/\bo w F [] [] x u/\u.oneCell'=true):=by cases M<;>exact av9
theorem kh{M:Bool}{e size r n:Nat}{els:List AV}{v:Value}(h:hp[r]?=some (fM M e size els)):bk η hp r n v↔n<=els.length/\(n=els.length->η[r]?=some v):=by unfold bk;rw[h];cases M<;>exact av9
theorem C5{M:Bool}{e size k:Nat}{els:List AV}(h:(fM M e size els).bC k):k<els.length*size:=by cases M<;>first|exact h|exact h.elim
theorem C6{M:Bool}{e size k:Nat}{els aM:List AV}(h:(fM M e size els).bC k):(fM M e size (els++aM)).bC k:=by have h':=C5 h;cases M with|false=>show k<(els++aM).length*size;rw[auo,avn];omega|true=>exact h.elim
theorem vT(M:Bool)(e size:Nat)(els:List AV):(fM M e size els).live:=by cases M<;>exact ai
theorem zG(aK:Γ.Ok)(h:Rel Γ s a w η){t u ty e:TypeId}{d:TD}(dK:gy Γ.P e d){M:Bool}{r:Nat}{els aM:List AV}{v0 v2:Value}(hr:s.hp[r]?=some (fM M e d.size els))(hv:bk η s.hp r els.length v0){news:List Value}(hn:zF Γ.P w (bu Γ w η s.hp) t u ty e d aM v2 news)(rN:∀x:AV,x∈aM->x.cells.length=d.size)(hm:els.length+aM.length<=maxLen)(K2:(els.length+aM.length)*d.bytes<=140737488355328): ∃v' w' bh,(Builtin.append_ #[t,u] ty #[v0,v2]).run Γ.P w=.ok v' w'/\Rel Γ { s with hp:=s.hp.set r (fM M e d.size (els++aM)) } a w' bh/\v'.oneCell'=true/\bh[r]?=some v':=by
 have vU:η[r]?=some v0:=((kh hr).1 hv).2 rfl;obtain⟨cP,xs,eH,fD⟩:=lX.1 (h.heap.obj r _ v0 hr vU);have hold:∀(i:Nat)(e:AV)(j:Nat)(x:AV),els[i]?=some e->e.cells[j]?=some x->∃u,xs[i*d.size+j]?=some u/\bo w (bu Γ w η s.hp) [] [] x u/\u.oneCell'=true:= λi el j x hi hj=>(fD i el hi).2 j x hj;by_cases hz:aM=[];subst hz;have iR:s.hp.set r (fM M e d.size (els++[]))=s.hp:=by apply avb;intro k;by_cases hk:r=k;subst hk;rw[aD hr,auD,hr];rw[getElem?_set_ne hk]
 have SB:∀b n c,v0=.slice b n c->n<=c->∃v' w' bh,(Builtin.append_ #[t,u] ty #[v0,v2]).run Γ.P w=.ok v' w'/\Rel Γ { s with hp:=s.hp.set r (fM M e d.size (els++[])) } a w' bh/\v'.oneCell'=true/\bh[r]?=some v':=by intro b n c e1 e2;subst e1;exact⟨_,w,η,hn.nothing rfl b n c e2,by rw[iR];exact h,rfl,vU⟩
 rcases eH.2 with⟨h0,rfl|⟨ad,rfl⟩⟩|⟨g,cap,cur,rfl,h0,_,KV,_⟩;exact SB none 0 0 rfl (aum _);exact SB _ 0 0 rfl (aum _);exact SB _ _ _ rfl KV;have si:0<aM.length:=List.length_pos_iff.2 hz;have EC:els.length+aM.length<=9223372036854775807:=by simp only[maxLen]at hm;omega
 have sf:∀v' n u,bk η s.hp r n u->bk (η.set r v') (s.hp.set r (fM M e d.size (els++aM))) r n u:=by intro v' n u ho;replace ho:=(kh hr).1 ho;refine(kh (aD hr)).2 ⟨by rw[auo];have:=ho.1;omega,λYY=>?_⟩;rw[auo]at YY;have:=ho.1;omega
 have ac1:∀(x:AV),x∈els++aM->x.cells.length=d.size:=by intro x lG;rcases auQ.1 lG with h1|h1;obtain⟨k,hk⟩:=avB h1;exact(fD k x hk).1;exact rN _ h1
 have grown:∀(nX:Nat),(∀b es c,da v0=some b->w.heap[b]?=some (.map es c)->False)->(∀b d,da v0=some b->w.heap[b]?=some (.deferred d)->False)->(∀x,v0 ≠ .pointer x)->(∀x,v0 ≠ .map x)->
   Rel Γ { s with hp:=s.hp.set r (fM M e d.size (els++aM)) } a
   (w.drew.alloc (.cells (xs.toArray++news.toArray++Builtin.zeroCells d.zero.cells (grownCap w (els.length+aM.length) nX e-(els.length+aM.length))) e))
   (η.set r (.slice (some ⟨w.heap.size,0,none⟩) (els.length+aM.length) (grownCap w (els.length+aM.length) nX e))):=by
  intro nX ad4 alO jW yp;have hs:ck w (w.drew.alloc (.cells (xs.toArray++news.toArray++Builtin.zeroCells d.zero.cells (grownCap w (els.length+aM.length) nX e-(els.length+aM.length))) e)):=
   (ck.drew w).trans (ck.alloc _ _)
  have jv:∀b,da (.slice (some ⟨w.heap.size,0,none⟩) (els.length+aM.length) (grownCap w (els.length+aM.length) nX e))=some b->w.heap.size<=b:=by
   intro b hb;rw[cK (by have:=grownCap_ge w (els.length+aM.length) nX e;omega)]at hb;obtain rfl:=auj hb;exact aum _
  refine h.change aK (o':=fM M e d.size (els++aM)) hr (vT _ _ _ _) vU (hs.keeps _) (λb hb=>.inr (jv b hb)) (λk hk=>?_) (λb k u hb _ hc=>?_) (λb es c hb _ hh=>ad4 b es c hb hh) (sf _)
   (λx lG=>(jW x lG).elim) (λx lG=>(yp x lG).elim) alO (λhe=>lX.2 ⟨cP,xs++news,?_,λi el hi=>⟨ac1 _ (auq hi),?_⟩⟩)
  ·exact C6 hk
  ·rw[World.cell?_of_block (hs.block b (h.heap.block hr (vT _ _ _ _) vU hb))];exact hc
  ·rw[auo];exact(vR xs news eH.1 hn.len dK.Nz nX si hm).more (aus _)
  ·exact λj x hj=>oV eH.1 (λi e j x hi hj=>let ⟨u,h1,h2,h3⟩:=hold i e j x hi hj;⟨u,h1,h2.ext he.nv.ext,h3⟩) (hn.ext he.nv) i el j x hi hj
 have ED:∀v',(η.set r v')[r]?=some v':=λv'=>aD vU;rcases eH.2 with⟨h0,rfl|⟨ad,rfl⟩⟩|⟨g,cap,cur,rfl,h0,⟨hi,hhi,hg⟩,KV,KW,gK,qb⟩;have qw:els=[]:=auU h0;have hxs:xs=[]:=auU (by rw[eH.1,h0];simp);have gr:=grown 0 (λb es c hb=>by simp[da]at hb) (λb d hb=>by simp[da]at hb) (λx lG=>by cases lG) (λx lG=>by cases lG);subst qw;subst hxs;have:=hn.nil si (by simp only[auV,auO]at EC;omega) (by simp only[auV,auO]at K2;omega);refine⟨_,_,_,this,?_,rfl,ED _⟩;simpa only[auV,auO,avr,Array.empty_append]using gr;have qw:els=[]:=auU h0;have hxs:xs=[]:=auU (by rw[eH.1,h0];simp);have gr:=grown 0 (λb es c hb=>by simp[da]at hb) (λb d hb=>by simp[da]at hb) (λx lG=>by cases lG) (λx lG=>by cases lG);subst qw;subst hxs;have:=hn.grow si ad 0 0 [] (by simp) (λj u hj=>by simp at hj) (by omega) (by simp only[auV,auO]at EC ⊢;omega) (growslice_fits (by omega) (by simpa only[auV]using K2));refine⟨_,_,_,this,?_,rfl,ED _⟩;simpa only[auV,auO,avr]using gr;by_cases fp:els.length+aM.length<=cap;have tU:els.length*d.size+news.length<=cur.size:=by rw[hn.len,gK,<-avn];exact au6 _ fp
 have gY:=hn.room si g els.length cap cur hi (auM hhi (agx _ _)) hg fp tU;refine⟨_,_,_,gY,?_,rfl,ED _⟩;have wZ:da (.slice (some ⟨g,0,none⟩) els.length cap)=some g:=cK h0;have alQ:da (.slice (some ⟨g,0,none⟩) (els.length+aM.length) cap)=some g:=cK h0;have NB:=setRow_heap w g cur (cur.toList.take (els.length*d.size)++news++cur.toList.drop (els.length*d.size+news.length)).toArray e (0,hi) hg;refine h.change aK (o':=fM M e d.size (els++aM)) hr (vT _ _ _ _) vU ⟨rfl,rfl,rfl,by simp,λk hk hb=>setRow_other w g k _ (λe=>hb (by rw[wZ,e]))⟩ (λb hb=>.inl (by rw[wZ];rw[alQ]at hb;exact hb)) (λk hk=>?_) (λb k u hb hk hc=>?_) (λb es c hb _ hh=>?_) (sf _) (λx lG=>by cases lG) (λx lG=>by cases lG) (λb d hb hh=>?_) (λhe=>lX.2 ⟨cP,xs++news,?_,λi el hi=>⟨ac1 _ (auq hi),?_⟩⟩);exact C6 hk;rw[wZ]at hb;obtain rfl:=auj hb;have vQ:k<els.length*d.size:=C5 hk;rw[cell_of_row w g k cur e _ hg]at hc;rw[cell_of_row _ g k _ e _ NB];have aE:k<cur.size:=(auW.1 hc).1;rw[<-avA]at hc;simp only[avS];rw[auH,aup (by simp;omega),auC,if_pos vQ];exact hc;rw[wZ]at hb;obtain rfl:=auj hb;rw[hg]at hh;cases hh;rw[wZ]at hb;obtain rfl:=auj hb;rw[hg]at hh;cases hh;have Qv:(xs++news).length=(els.length+aM.length)*d.size:=by rw[auo,eH.1,hn.len,avn]
 rw[auo];refine⟨Qv,.inr ⟨g,cap,_,rfl,h0,⟨hi,auM hhi (YX M (au6 _ (by omega))),NB⟩,fp,KW,?_,?_⟩⟩;simp only[avO,auo,au0,auR,auX];have:els.length*d.size<=cur.size:=by omega
 omega;rw[qb,<-Qv];exact av7;exact λj x hj=>oV eH.1 (λi e j x hi hj=>let ⟨u,h1,h2,h3⟩:=hold i e j x hi hj;⟨u,h1,h2.ext he.nv.ext,h3⟩) (hn.ext he.nv) i el j x hi hj
 ·(have aR:∀(j:Nat)(u:Value),xs[j]?=some u->w.cell? ((⟨g,0,none⟩:Addr).add j)=some u:=by intro j u hj;rw[Addr.add_lit,auO,cell_of_row w g j cur e _ hg];rw[<-qb,auC]at hj;by_cases aE:j<els.length*d.size;rw[if_pos aE]at hj;simpa using hj;rw[if_neg aE]at hj;cases hj);have wZ:da (.slice (some ⟨g,0,none⟩) els.length cap)=some g:=cK h0;have:=hn.grow si ⟨g,0,none⟩ els.length cap xs eH.1 aR (by omega) (by omega) (growslice_fits (by omega) K2);exact⟨_,_,_,this,grown cap (λb es c hb hh=>by rw[wZ]at hb;obtain rfl:=auj hb;rw[hg]at hh;cases hh) (λb d hb hh=>by rw[wZ]at hb;obtain rfl:=auj hb;rw[hg]at hh;cases hh) (λx lG=>by cases lG) (λx lG=>by cases lG),rfl,ED _⟩
end
section
variable {G:Type} {Γ:Env G} {s:AS G} {a:Act} {w w':World} {η:List Value} {hp:List ax} {F:Nat->Nat->Prop} {P:Program}
def w5:Value->AV
 | .agg cs=>(match cs.toList.all Value.oneCell' with|true=>.agg (cs.toList.map .ay)|false=>.ay (.agg cs))|v=>.ay v
theorem oa{w:World}{F:Nat->Nat->Prop}{η:List Value}{hp:List ax}(v:Value):bo w F η hp (w5 v) v:=by unfold w5;split;rename_i cs;split;rename_i h1;refine .agg _ _ (by simp) (λv hv=>auB.1 h1 v (by simpa using hv)) λj x v hx hv=>?_;rw[auu,avA,hv]at hx;obtain rfl:=auj hx;exact .ay _;exact .ay _;exact .ay _
def AS.ev(s:AS G):Operand->AV
 | .tmp t=>s.tmps t| .const v=>w5 v| .global g=>.ay (.pointer (some ⟨g,0,none⟩))| .func f=>.bw f []
theorem Rel.ev(h:Rel Γ s a w η)(x:Operand):bo w (bu Γ w η s.hp) η s.hp (s.ev x) (a.eval x):=by cases x with|tmp t=>exact h.tmps t|const v=>exact oa v|global g=>exact .ay _|func f=>exact .bw f [] #[] rfl (λj x v h=>by simp at h)
def AV.eF(hp:List ax):AV->AV
 | .own r n=>(match (AV.own r n).iQ hp with|some els=>.sl els|none=>.top)| .clip els=>.sl els| .sl els=>.sl els| .ay v=>(match v with| .slice none 0 0=>.sl []|v=>.ay v)| .fn v=>.fn v| .eo es=>.eo es| .aV e o=>.aV e o| .bw f caps=>(match caps with| []=>.bw f []|_=>.top)|_=>.top
def AV.fI(hp:List ax):AV->AV
 | .agg cs=>.agg (cs.map (AV.eF hp))|x=>x.eF hp
def AV.cd(hp:List ax):AV->AV
 | .aG vs=>.aG (vs.map (AV.fI hp))| .bw f caps=>.bw f (caps.map (AV.fI hp))|x=>x.fI hp
theorem jF(h:ep w (bu Γ w η hp) η hp)(hm:vP Γ η hp){x:AV}{v:Value}(hx:bo w (bu Γ w η hp) η hp x v):bo w (bu Γ w η hp) [] [] (x.eF hp) v:=by
 cases x with
  |own r n=>simp only[AV.eF];split;rename_i els he;have:=lV h hm hx he;(cases this with|mR=>exact .mR _|sl size els b o c f hc hm hl aR hr=>exact .sl size els b o c f hc hm hl aR hr);exact .top _|clip els=>cases hx.mS with|mR=>exact .mR _|sl size els b o c f hc hm hl aR hr=>exact .sl size els b o c f hc hm hl aR hr
  |sl els=>cases hx with|mR=>exact .mR _|sl size els b o c f hc hm hl aR hr=>exact .sl size els b o c f hc hm hl aR hr
  |ay u=>simp only[AV.eF];split;cases hx;exact .mR _;cases hx;exact .ay _|fn u=>cases hx;exact .fn _ (by assumption)|eo es=>cases hx with|eo b es c h1 h2 _ hl=>exact .eo b es c h1 h2 _ hl
  |aV e off=>cases hx with|aV _ _ b o f aR hr=>exact .aV e off b o f aR hr
  |bw f caps=>simp only[AV.eF];split;(cases hx with|bw _ _ vs hl hr=>exact .bw f [] vs hl λj y u hy _=>by cases hy);exact .top _|_=>exact .top _
theorem lH(h:ep w (bu Γ w η hp) η hp)(hm:vP Γ η hp){x:AV}{v:Value}(hx:bo w (bu Γ w η hp) η hp x v):bo w (bu Γ w η hp) [] [] (x.fI hp) v:=by
 cases x with
  |agg cs=>cases hx with|agg _ vs hl h1 hr=>refine .agg _ vs (by simpa using hl) h1 λj y u hy hu=>?_;rw[auu]at hy;cases hj:cs[j]? with|none=>rw[hj]at hy;cases hy|some z=>rw[hj]at hy;obtain rfl:=auj hy;exact jF h hm (hr j z u hj hu)
  |_=>exact jF h hm hx
theorem fN(h:ep w (bu Γ w η hp) η hp)(hm:vP Γ η hp){x:AV}{v:Value}(hx:bo w (bu Γ w η hp) η hp x v):bo w (bu Γ w η hp) [] [] (x.cd hp) v:=by
 cases x with
  |aG cs=>cases hx with|aG _ vs hl hr=>refine .aG _ vs (by simpa using hl) λj y u hy hu=>?_;rw[auu]at hy;cases hj:cs[j]? with|none=>rw[hj]at hy;cases hy|some z=>rw[hj]at hy;obtain rfl:=auj hy;exact lH h hm (hr j z u hj hu)
  |bw f cs=>cases hx with|bw _ _ vs hl hr=>refine .bw f _ vs (by simpa using hl) λj y u hy hu=>?_;rw[auu]at hy;cases hj:cs[j]? with|none=>rw[hj]at hy;cases hy|some z=>rw[hj]at hy;obtain rfl:=auj hy;exact lH h hm (hr j z u hj hu)
  |_=>exact lH h hm hx
def fieldsOf(tab:Nat->Option TD)(T:Nat):List (Nat×Nat×Bool):=
 match tab T with
 |some d=>(match d.kind with| .cr fs=>fs|_=>[])
 |none=>[]
def AV.isAgg:AV->Bool
 | .agg _=>true|_=>false
def gj(agg:Bool)(size:Nat)(cs:List AV)(o:Nat):Option AV:=if agg then(if o+size<=cs.length then some (.agg ((cs.drop o).take size))else none)else cs[o]?
def zH(agg:Bool)(size:Nat)(e:AV)(o:Nat):Option AV:=if o=0/\e.cells.length=size/\e.isAgg=agg then some e else gj agg size e.cells o
def EE(op:BinOp)(k:IntKind)(a b:Int):Option (Prop×AV):=
 match op with
 | .add=>some (True,.ay (.int k (k.wrap (a+b))))
 | .sub=>some (True,.ay (.int k (k.wrap (a-b))))
 | .mul=>some (True,.ay (.int k (k.wrap (a*b))))
 | .eql=>some (True,.ay (.bool (a==b)))
 | .neq=>some (True,.ay (.bool (a != b)))
 | .lss=>some (True,.ay (.bool (decide (a<b))))
 | .leq=>some (True,.ay (.bool (decide (a<=b))))
 | .gtr=>some (True,.ay (.bool (decide (a>b))))
 | .geq=>some (True,.ay (.bool (decide (a>=b))))
 |_=>none
def kK(tab:Nat->Option TD)(T:Nat)(op:BinOp)(x y:AV):Option (Prop×AV):=
 match x,y with
 | .ay (.int k a),.ay (.int k' b)=>if k=k' then EE op k a b else none
 | .ay (.bool a),.ay (.bool b)=>
  (match tab T with
   |some d=>(match d.kind,op with
    | .bool,.eql=>some (True,.ay (.bool (a==b)))
    | .bool,.neq=>some (True,.ay (.bool (!(a==b))))
    |_,_=>none)
   |none=>none)
 | .agg [.ay (.int .i64 a1),.ay (.int .i64 a2)],.agg [.ay (.int .i64 b1),.ay (.int .i64 b2)]=>
  (match tab T with
   |some d=>if d.flat then(match op with
    | .eql=>some (True,.ay (.bool (a1==b1&&a2==b2)))
    | .neq=>some (True,.ay (.bool (!(a1==b1&&a2==b2))))
    |_=>none)else none
   |none=>none)
 | .agg [.ay (.int .i64 a0),.ay (.int .i64 a1),.ay (.int .i64 a2),.ay (.string s)],.agg [.ay (.int .i64 b0),.ay (.int .i64 b1),.ay (.int .i64 b2),.ay (.string t)]=>
  (match tab T with
   |some d=>if d.four then(match op with
    | .eql=>some (True,.ay (.bool (a0==b0&&((a1==b1&&a2==b2)&&s.toList==t.toList))))
    | .neq=>some (True,.ay (.bool (!(a0==b0&&((a1==b1&&a2==b2)&&s.toList==t.toList)))))
    |_=>none)else none
   |none=>none)
 |_,_=>none
def NC:List Prop->Prop
 | []=>True|p::l=>p/\NC l
def SC(op:BinOp)(k:IntKind)(a b:Int):Option Int:=
 match op with
 | .and=>some (k.wrap (BitVec.ofInt k.bits a &&& BitVec.ofInt k.bits b).toNat)
 | .or=>some (k.wrap (BitVec.ofInt k.bits a ||| BitVec.ofInt k.bits b).toNat)
 | .xor=>some (k.wrap (BitVec.ofInt k.bits a ^^^ BitVec.ofInt k.bits b).toNat)
 | .andNot=>some (k.wrap (BitVec.ofInt k.bits a &&& ~~~ (BitVec.ofInt k.bits b)).toNat)
 |_=>none
def gk(a b:aw):Bool:=a.toList==b.toList
def strLt(a b:aw):Bool:=Op.bytesLess a.toList b.toList
def EF:AV->Option Bool
 | .ptr _ _=>some false| .aV _ _=>some false| .ay (.pointer p)=>some p.isNone|_=>none
def Qw(tab:Nat->Option TD)(T:Nat)(op:BinOp)(x y:AV):Option (List Prop×AV):=
 match y with
 | .ay (.int k' b)=>(match x with
  | .ay (.int k a)=>if k=k' then(match op with
    | .quo=>some ([¬b=0],.ay (.int k (k.wrap (a.tdiv b))))
    | .rem=>some ([¬b=0],.ay (.int k (a.tmod b)))
    |op=>(SC op k a b).map λn=>([],.ay (.int k n)))else none
  |_=>none)
 | .ay (.string b)=>(match x with
  | .ay (.string a)=>(match op with
    | .add=>some ([a.size+b.size<=9223372036854775807],.ay (.string (a++b)))
    | .eql=>some ([],.ay (.bool (gk a b)))
    | .neq=>some ([],.ay (.bool (!(gk a b))))
    | .lss=>some ([],.ay (.bool (strLt a b)))
    | .leq=>some ([],.ay (.bool (strLt a b||gk a b)))
    | .gtr=>some ([],.ay (.bool (!(strLt a b||gk a b))))
    | .geq=>some ([],.ay (.bool (!(strLt a b))))
    |_=>none)
  |_=>none)
 | .ay (.pointer none)=>(match EF x with
  |some b=>(match tab T with
   |some d=>(match d.kind with
    | .ptr _=>(match op with
     | .eql=>some ([],.ay (.bool b))
     | .neq=>some ([],.ay (.bool (!b)))
     |_=>none)
    |_=>none)
   |none=>none)
  |none=>none)
 |_=>none
theorem K5{tab:Nat->Option TD}{T:Nat}{op:BinOp}{x y:AV}{p:List Prop×AV}(h:Qw tab T op x y=some p):kK tab T op x y=none:=by
 unfold Qw at h;split at h;split at h;split at h;rename_i hk;subst hk;cases op<;>simp[SC]at h<;>simp[kK,EE];cases h;cases h;split at h;simp[kK];cases h
 ·unfold kK;split<;>first|rfl|(rename_i e;cases e)
 cases h
def ad5:Operand->Bool
 | .const .nilIface=>true|_=>false
theorem YZ{y:Operand}(h:ad5 y=true):y=.const .nilIface:=by unfold ad5 at h;split at h;rfl;cases h
def Y1(tab:Nat->Option TD)(T:Nat)(op:BinOp)(x:AV)(y:Operand):Option AV:=
 match ad5 y with
 |true=>(match tab T,x with
  |some d,.ay .nilIface=>(match d.kind with
   | .ifc=>(match op with
    | .eql=>some (.ay (.bool true))
    | .neq=>some (.ay (.bool false))
    |_=>none)
   |_=>none)
  |_,_=>none)
 |false=>none
def EG(tab:Nat->Option TD)(T:Nat)(op:BinOp)(x y:AV):Option (Prop×AV):=
 match kK tab T op x y with
 |some r=>some r
 |none=>(Qw tab T op x y).map λp=>(NC p.1,p.2)
def EH(tab:Nat->Option TD)(S D:Nat)(x:AV):Option AV:=
 match tab S,tab D,x with
 |some _,some d,.ay (.int _ n)=>(match d.kind with
  | .int k=>some (.ay (.int k (k.wrap n)))
  |_=>none)
 |some _,some d,.ay (.string s)=>(match d.kind with
  | .str=>some (.ay (.string s))
  |_=>none)
 |_,_,_=>none
def dX(b:aw)(n:Int):Int:=(((b.data[n.toNat]?).map UInt8.toNat).getD 0:Nat)
def aL{κ:Type}[DecidableEq κ]:List (κ×Value)->κ->Option Value
 | [],_=>none|(k,v)::r,a=>if a=k then some v else aL r a
def AV.C7(hp:List ax):AV->Option ME
 | .eo es=>some es| .mp r=>(match hp[r]? with|some (.cJ es)=>some es|_=>none)|_=>none
def AV.val?:AV->Option Value
 | .ay v=>some v| .agg [.ay a,.ay b,.ay c]=>some (.agg #[a,b,c])|_=>none
def iS{κ:Type}[DecidableEq κ](es:List (κ×Value))(z:Value)(a:κ)(ok:Bool):AV:=if ok=true then .aG [w5 ((aL es a).getD z),.ay (.bool (aL es a).isSome)]else w5 ((aL es a).getD z)
def vV(hp:List ax)(x:AV):Option AV:=
 match x with
 | .ay (.string s)=>some (.ay (.int .i64 s.size))
 |x=>(x.iQ hp).map λels=>.ay (.int .i64 els.length)
def AV.oc:AV->Bool
 | .ay v=>v.oneCell'| .top| .aG _| .gb _ _ _ _=>false|_=>true
def zI(n:Nat):List (Nat×Nat×Bool):=(List.range n).map λi=>(i,1,false)
def dR(fs:List (Nat×Nat×Bool))(cs:List AV):List (Nat×AV)->Option (List AV)
 | []=>some cs|(i,x)::rest=>match fs[i]? with|some p=>if x.cells.length=p.2.1/\p.1+p.2.1<=cs.length/\x.oc=true then dR fs (setCells cs p.1 x.cells) rest else none|none=>none
def qc:Nat->List (Nat×Operand)->Bool
 |_,[]=>true|k,(i,_)::r=>i==k&&qc (k+1) r
def oY(size:Nat):List AV->Prop
 | []=>True|x::xs=>(x.cells.length=size/\x.oc=true)/\oY size xs
def cq(ρ:Operand->AV)(d:Int):Option Operand->Option Int
 |none=>some d|some x=>(match ρ x with| .ay (.int _ n)=>some n|_=>none)
def vW(hp:List ax):AV->Option (Nat×Nat×Nat×Nat×Nat)
 | .own r m=>(match hp[r]? with|some (.aW e size els)=>some (r,m,e,size,els.length)|_=>none)|_=>none
def bK(tab:Nat->Option TD)(hp:List ax)(ρ:Operand->AV):Op->Option (Prop×AV)
 | .move x=>some (True,ρ x)| .assign x=>some (True,ρ x)| .nilCheck x=>(match ρ x with| .ptr r o=>some (True,.ptr r o)| .aV e o=>some (True,.aV e o)|_=>none)| .pick c x y=>(match ρ c with| .ay (.bool t)=>some (True,if t=true then ρ x else ρ y)|_=>none)| .fieldAddr T x f=>(match (fieldsOf tab T)[f]? with|some p=>if p.2.1=0 then none else(match ρ x with| .ptr r o=>some (True,.ptr r (o+p.1))| .aV e o=>some (True,.aV e (o+p.1))| .gb r m i z=>if p.1=0 then some (True,.gb r m i z)else none|_=>none)|none=>none)| .load T x=>(match tab T with|some d=>(match ρ x with| .ptr r o=>(match hp[r]? with|some (.box cs)=>(gj d.kind.agg d.size cs o).map λv=>(True,v)|_=>none)| .aV e o=>(zH d.kind.agg d.size e o).map λv=>(True,v)| .gb r m i z=>(match hp[r]? with|some (.aW _ z' els)=>if z'=z/\d.size=z then some (m=els.length/\i<els.length/\(els.getD i .top).isAgg=d.kind.agg,els.getD i .top)else none|_=>none)|_=>none)|none=>none)| .indexAddr T x i=>(match tab T with|some d=>(match d.kind with| .kY e=>(match tab e,(ρ x).iQ hp,ρ i with|some d',some els,.ay (.int _ n)=>some (0<=n/\n<els.length/\(els.getD n.toNat .top).cells.length=d'.size,.aV (els.getD n.toNat .top) 0)|some d',none,.ay (.int _ n)=>(match vW hp (ρ x)with|some (r,m,e',size,k)=>if e'=e/\size=d'.size then some (0<=n/\n<m/\m=k,.gb r m n.toNat size)else none|none=>none)|_,_,_=>none)| .arr m=>(match ρ x,ρ i with| .ptr r 0,.ay (.int _ n)=>some (0<=n/\n<m,.ptr r n.toNat)| .aV e 0,.ay (.int _ n)=>some (0<=n/\n<m,.aV e n.toNat)|_,_=>none)|_=>none)|none=>none)| .binOp op T x y _=>(match Y1 tab T op (ρ x) y with|some v=>some (True,v)|none=>EG tab T op (ρ x) (ρ y))| .convert S D x=>(EH tab S D (ρ x)).map λv=>(True,v)| .unOp op _ x=>(match op,ρ x with| .not,.ay (.bool b)=>some (True,.ay (.bool (!b)))| .neg,.ay (.int k n)=>some (True,.ay (.int k (k.wrap (0-n))))|_,_=>none)| .build T parts=>(match tab T with|some d=>(match d.kind with| .cr fs=>(dR fs (d.zero.cells.toList.map .ay) (parts.toList.map λp=>(p.1,ρ p.2))).map λcs=>(True,.agg cs)| .arr n=>(dR (zI n) (d.zero.cells.toList.map .ay) (parts.toList.map λp=>(p.1,ρ p.2))).map λcs=>(True,.agg cs)|_=>none)|none=>none)| .buildSlice T n parts=>(match tab T with|some d=>(match d.kind with| .kY e=>(match tab e with|some d'=>if n=parts.toList.length/\qc 0 parts.toList=true/\n<=16777216/\n*d'.size<=16777216 then some (oY d'.size (parts.toList.map λp=>(ρ p.2).cd hp),.clip (parts.toList.map λp=>(ρ p.2).cd hp))else none|none=>none)|_=>none)|none=>none)| .slice T x lo hi mx=>(match tab T with|some d=>(match d.kind,ρ x with| .str,.ay (.string b)=>(match mx,cq ρ 0 lo,cq ρ b.size hi with|none,some l,some h=>some (0<=l/\l<=h/\h<=b.size,.ay (.string (b.extract l.toNat h.toNat)))|_,_,_=>none)| .kY e,v=>(match v.iQ hp,tab e with|some els,some d'=>(match cq ρ 0 lo,cq ρ els.length hi,mx.map λm=>cq ρ 0 (some m)with|some l,some h,none=>some (0<=l/\l<=h/\h<=els.length/\(∀y:AV,y∈els->y.cells.length=d'.size),.sl ((els.take h.toNat).drop l.toNat))|some l,some h,some (some m)=>if hi.isSome=true then some (0<=l/\l<=h/\h=m/\h<=els.length/\(∀y:AV,y∈els->y.cells.length=d'.size),.clip ((els.take h.toNat).drop l.toNat))else none|_,_,_=>none)|_,_=>none)|_,_=>none)|none=>none)| .field T x f=>(match (fieldsOf tab T)[f]?,ρ x with|some p,.agg cs=>if p.2.2=true\/p.2.1=1 then(gj p.2.2 p.2.1 cs p.1).map λv=>(True,v)else none|_,_=>none)| .lookup T m k ok=>(match tab T,(ρ m).C7 hp,ρ k with|some d,some (.i es),.ay (.int .i64 a)=>(match d.kind with| .qo kt et=>(match tab kt,tab et with|some dk,some de=>(match dk.kind with| .int _=>some (True,iS es de.zero a ok)|_=>none)|_,_=>none)|_=>none)|some d,some (.s es),.ay (.string a)=>(match d.kind with| .qo kt et=>(match tab kt,tab et with|some dk,some de=>(match dk.kind with| .str=>some (True,iS es de.zero a ok)|_=>none)|_,_=>none)|_=>none)|_,_,_=>none)| .index T x i=>(match tab T,ρ x,ρ i with|some d,.ay (.string b),.ay (.int _ n)=>(match d.kind with| .str=>some (0<=n/\n<b.size,.ay (.int .u8 (dX b n)))|_=>none)|_,_,_=>none)| .extract x i=>(match ρ x with| .aG vs=>(vs[i]?).map λv=>(True,v)|_=>none)| .makeFunc (.func f) first caps=>if first.size=0 then some (True,.bw f (caps.toList.map ρ))else if caps.size=0 then some (True,.dt f (first.toList.map ρ))else none
 | .call c=>(match c.callee,c.args.toList with| .builtin .len,[x]=>(match (c.argTypes[0]?).bind tab with|some d=>(match d.kind,ρ x with| .kY _,.ay (.string _)=>none| .kY _,v=>(match vV hp v with|some u=>some (True,u)|none=>(match vW hp v with|some (_,m,_,_,k)=>some (m=k,.ay (.int .i64 (m:Nat)))|none=>none))| .str,.ay (.string b)=>some (True,.ay (.int .i64 b.size))|_,_=>none)|none=>none)| .builtin .min,[x,y]=>(match ρ x,ρ y with| .ay (.int k m),.ay (.int _ n)=>some (True,.ay (.int k (if n<m then n else m)))|_,_=>none)| .builtin .max,[x,y]=>(match ρ x,ρ y with| .ay (.int k m),.ay (.int _ n)=>some (True,.ay (.int k (if n>m then n else m)))|_,_=>none)|_,_=>none)|_=>none
def fQ(Γ:Env G)(o:Oper)(s:AS G)(r:AV):Prop:=∀a w η,Rel Γ s a w η->∃v w',(execOp a.eval o).run Γ.P w=.ok (.value v) w'/\ck w w'/\bo w' (bu Γ w' η s.hp) η s.hp r v
theorem bj{o:Oper}{r:AV}(h:∀a w η,Rel Γ s a w η->∃v,(execOp a.eval o).run Γ.P w=.ok (.value v) w/\bo w (bu Γ w η s.hp) η s.hp r v):fQ Γ o s r:=λa w η hr=>let ⟨v,h1,h2⟩:=h a w η hr;⟨v,w,h1,ck.refl w,h2⟩
theorem bo.aC{u v:Value}(h:bo w F η hp (.ay u) v):v=u:=by cases h;rfl
theorem bo.Y2{x:AV}{u v:Value}(h:bo w F η hp x v)(hx:x.val?=some u):v=u:=by unfold AV.val? at hx;split at hx;obtain rfl:=auj hx;exact h.aC;obtain rfl:=auj hx;(cases h with|agg cs vs hl h1 hr=>obtain⟨l⟩:=vs;match l,hl with| [x,y,z],_=>obtain rfl:x=_:=(hr 0 _ x rfl rfl).aC;obtain rfl:y=_:=(hr 1 _ y rfl rfl).aC;obtain rfl:z=_:=(hr 2 _ z rfl rfl).aC;rfl);cases hx
theorem fJ{agg:Bool}{size:Nat}{cs:List AV}{o:Nat}{r:AV}(cP:agg=false->size=1){vs:List Value}(hl:vs.length=cs.length)(hr:∀(j:Nat)(x:AV)(u:Value),cs[j]?=some x->vs[j]?=some u->bo w F η hp x u/\u.oneCell'=true)(h:gj agg size cs o=some r):o+size<=vs.length/\bo w F η hp r (if agg then .agg ((vs.drop o).take size).toArray else((vs.drop o).take size).headD undef):=by unfold gj at h;cases agg with|true=>simp only[if_true]at h ⊢;split at h;rename_i hle;obtain rfl:=auj h;refine⟨by omega,.agg _ _ (by simp;omega) (λv hv=>?_) λj x v hx hv=>?_⟩;(have Sf:v∈(vs.drop o).take size:=by simpa using hv);obtain⟨k,hk⟩:=avB Sf;rw[auC]at hk;split at hk;rw[avp]at hk;have aE:o+k<vs.length:=(auh.1 hk).1;exact(hr (o+k) (cs[o+k]'(by omega)) v (by simp) hk).2;cases hk;(have Sf:((vs.drop o).take size)[j]?=some v:=by simpa using hv);rw[auC]at hx Sf;split at hx;rename_i hj;rw[if_pos hj,avp]at Sf;rw[avp]at hx;exact(hr (o+j) x v hx Sf).1;cases hx;cases h|false=>(simp only[auE,if_false]at h ⊢;have aE:o<cs.length:=(auh.1 h).1;have h1:=cP rfl;subst h1;refine⟨by omega,?_⟩;have hv:vs[o]?=some (vs[o]'(by omega)):=by simp);(have:((vs.drop o).take 1).headD undef=vs[o]'(by omega):=by rw[List.headD_eq_head?_getD,List.head?_eq_getElem?,auC,if_pos (by omega),avp];simp only[avo];rw[hv];rfl);rw[this];exact(hr o r _ h hv).1
theorem lY{T:TypeId}{d:TD}(ht:gy P T d){b o:Nat}{vs:List Value}(hc:∀(j:Nat)(u:Value),vs[j]?=some u->w.cell? ⟨b,j,none⟩=some u)(hle:o+d.size<=vs.length): (loadVar T ⟨b,o,none⟩).run P w=.ok (if d.kind.agg then .agg ((vs.drop o).take d.size).toArray else((vs.drop o).take d.size).headD undef) w:=by refine ht.run_load (vs:=(vs.drop o).take d.size) (by simp;omega) λj u hj=>?_;rw[auC]at hj;split at hj;rw[avp]at hj;exact hc _ _ hj;cases hj
theorem vX{b:Nat}{vs:Array Value}{T:TypeId}(hg:w.heap[b]?=some (.cells vs T (0,0)))(j:Nat)(u:Value)(hj:vs.toList[j]?=some u):w.cell? ⟨b,j,none⟩=some u:=by rw[cell_of_row w b j vs T (0,0) hg];simpa using hj
theorem bp.sz{tab:Nat->Option TD}(aB:bp P tab){T:Nat}{d:TD}(h:tab T=some d):d.kind.agg=false->d.size=1:=λh1=>((aB T d h).acZ h1).1
theorem C8{tab:Nat->Option TD}(aB:bp Γ.P tab){o:Oper}{T:Nat}{x:Operand}(ho:o.op=.load T x){d:TD}(hd:tab T=some d){r:AV}(h:(∃n off cs,s.ev x=.ptr n off/\s.hp[n]?=some (.box cs)/\gj d.kind.agg d.size cs off=some r)\/(∃e off,s.ev x=.aV e off/\zH d.kind.agg d.size e off=some r)):fQ Γ o s r:=by
 refine bj λa w η hr=>?_;have hx:=hr.ev x;have dK:=aB T d hd;rcases h with⟨n,off,cs,he,hn,hld⟩|⟨e,off,he,hld⟩;rw[he]at hx;cases zJ:a.eval x<;>rw[zJ]at hx<;>cases hx;rename_i b fL;obtain⟨b',vs,T',hb,hg,cP,hc⟩:=hr.heap.obj n _ _ hn fL;simp only[Value.pointer.injEq,aug,Addr.mk.injEq,and_true]at hb;subst hb;obtain⟨h1,h2⟩:=fJ (w:=w) (F:=bu Γ w η s.hp) (η:=η) (hp:=s.hp) (aB.sz hd) (vs:=vs.toList) (by simpa using cP) (λj x u hx hu=>hc j x u hx (by simpa using hu)) hld;refine⟨_,?_,h2⟩;simp only[execOp,ho,zJ,Instr.loadAt,Instr.sureAddr,ao,aq,al];rw[lY dK (vX hg) h1];rfl
 ·rw[he]at hx;cases zJ:a.eval x<;>rw[zJ]at hx<;>cases hx;(rename_i b o f aR dW;have dL:∀(j:Nat)(x:AV)(u:Value),e.cells[j]?=some x->((List.range e.cells.length).map f)[j]?=some u->bo w (bu Γ w η s.hp) η s.hp x u/\u.oneCell'=true:=by intro j x u hx hu;have aE:=(auh.1 hx).1;rw[auu,av8 aE]at hu;obtain rfl:=auj hu;exact⟨(dW j x hx).lift,(aR j x hx).2.2⟩);(have gK:∀(j:Nat)(u:Value),((List.range e.cells.length).map f)[j]?=some u->w.cell? ⟨b,o+j,none⟩=some u:=by intro j u hj;rw[auu]at hj;by_cases aE:j<e.cells.length;rw[av8 aE]at hj;obtain rfl:=auj hj;exact(aR j _ (auh.2 ⟨aE,rfl⟩)).1;rw[auP (by simp;omega)]at hj;cases hj);(have key:off+d.size<=e.cells.length/\bo w (bu Γ w η s.hp) η s.hp r (if d.kind.agg then .agg ((((List.range e.cells.length).map f).drop off).take d.size).toArray else((((List.range e.cells.length).map f).drop off).take d.size).headD undef):=by unfold zH at hld;split at hld;rename_i hc;obtain⟨rfl,hlen,bP⟩:=hc;obtain rfl:=auj hld;refine⟨by omega,?_⟩;(cases hk:d.kind.agg with|true=>rw[hk]at bP;(cases e<;>simp only[AV.isAgg]at bP<;>try (cases bP;done));rename_i cs;have w6:cs.length=d.size:=hlen;have:=(fJ (w:=w) (F:=bu Γ w η s.hp) (η:=η) (hp:=s.hp) (agg:=true) (size:=d.size) (cs:=cs) (o:=0) (r:=.agg cs) (λh=>by cases h) (vs:=(List.range cs.length).map f) (by simp) dL (by simp[gj,<-w6])).2;simpa [AV.cells]using this|false=>(have h1:=aB.sz hd hk;have K6:e.cells=[e]:=by rw[hk]at bP;cases e<;>first|rfl|(simp[AV.isAgg]at bP));have:=(fJ (w:=w) (F:=bu Γ w η s.hp) (η:=η) (hp:=s.hp) (agg:=false) (size:=d.size) (cs:=e.cells) (o:=0) (r:=e) (λ_=>h1) (vs:=(List.range e.cells.length).map f) (by simp) dL (by rw[K6];rfl)).2;simpa using this);have:=fJ (w:=w) (F:=bu Γ w η s.hp) (η:=η) (hp:=s.hp) (aB.sz hd) (vs:=(List.range e.cells.length).map f) (by simp) dL hld;simpa using this);refine⟨_,?_,key.2⟩;simp only[execOp,ho,zJ,Instr.loadAt,Instr.sureAddr,ao,aq,al];rw[dK.run_load (vs:=(((List.range e.cells.length).map f).drop off).take d.size) (by simp;omega) (λj u hj=>by rw[auC]at hj;split at hj;rw[avp]at hj;have:=gK _ _ hj;rw[av0];exact this;·cases hj)];rfl
end
section
variable {G:Type} {Γ:Env G} {s:AS G} {a:Act} {w w':World} {η:List Value} {hp:List ax} {F:Nat->Nat->Prop} {P:Program}
theorem oZ{tab:Nat->Option TD}{T:Nat}{f:Nat}{p:Nat×Nat×Bool}(h:(fieldsOf tab T)[f]?=some p):∃d fs,tab T=some d/\d.kind=.cr fs/\fs[f]?=some p:=by unfold fieldsOf at h;split at h;rename_i d hd;split at h;rename_i fs hk;exact⟨d,fs,hd,hk,h⟩;simp at h;simp at h
theorem gy.field{T:Nat}{d:TD}(h:gy P T d){fs:List (Nat×Nat×Bool)}(hk:d.kind=.cr fs){f:Nat}{p:Nat×Nat×Bool}(hf:fs[f]?=some p): ∃fields fd i u,P.underlying T=some (.struct fields)/\fields[f]?=some fd/\fd.offset=p.1/\P.info? fd.type=some i/\i.size=p.2.1/\P.underlying fd.type=some u/\Sz u=p.2.2:=by obtain⟨u,h1,h2⟩:=h.mL;rw[hk]at h2;obtain⟨fields,rfl,h3⟩:=h2;have h4:=congrArg (·[f]?) h3;simp only[auu,hf,auT,avA]at h4;cases hfd:fields[f]? with|none=>rw[hfd]at h4;cases h4|some fd=>rw[hfd]at h4;simp only[auT,aug,auk]at h4;obtain⟨e1,e2,e3⟩:=h4;cases hi:P.info? fd.type with|none=>rw[hi]at e2;cases e2|some i=>cases hu:P.underlying fd.type with|none=>rw[hu]at e3;cases e3|some u=>rw[hi]at e2;rw[hu]at e3;exact⟨fields,fd,i,u,h1,hfd,e1,hi,by simpa using e2,hu,by simpa using e3⟩
theorem qA{tab:Nat->Option TD}(aB:bp Γ.P tab){o:Oper}{T f:Nat}{x:Operand}(ho:o.op=.fieldAddr T x f){p:Nat×Nat×Bool}(hp:(fieldsOf tab T)[f]?=some p)(h0:p.2.1≠0){r:AV}(h:(∃n off,s.ev x=.ptr n off/\r=.ptr n (off+p.1))\/(∃e off,s.ev x=.aV e off/\r=.aV e (off+p.1))):fQ Γ o s r:=by (refine bj λa w η hr=>?_;have hx:=hr.ev x;obtain⟨d,fs,hd,hk,hf⟩:=oZ hp;obtain⟨fields,fd,i,u,h1,h2,h3,h4,h5,_⟩:=(aB T d hd).field hk hf;have h6:¬i.size=0:=by rw[h5];exact h0);rcases h with⟨n,off,he,rfl⟩|⟨e,off,he,rfl⟩<;>rw[he]at hx;cases zJ:a.eval x<;>rw[zJ]at hx<;>cases hx;rename_i b fL;exact⟨.pointer (some ⟨b,off+p.1,none⟩),by simp[execOp,ho,zJ,Instr.fieldAt,run_underlying h1,h2,Instr.sureAddr,fieldPlace,sizeOf,typeInfo,h4,h6,h3,Addr.add_lit],.ptr n _ b fL⟩;cases zJ:a.eval x<;>rw[zJ]at hx<;>cases hx;rename_i b o f' aR dW;refine⟨.pointer (some ⟨b,o+off+p.1,none⟩),by simp[execOp,ho,zJ,Instr.fieldAt,run_underlying h1,h2,Instr.sureAddr,fieldPlace,sizeOf,typeInfo,h4,h6,h3,Addr.add_lit],?_⟩;rw[av0];exact .aV e _ b o f' aR dW
theorem yq{tab:Nat->Option TD}(aB:bp Γ.P tab){o:Oper}{T f:Nat}{x:Operand}(ho:o.op=.fieldAddr T x f){p:Nat×Nat×Bool}(hp:(fieldsOf tab T)[f]?=some p)(h0:p.2.1≠0){r m i z:Nat}(he:s.ev x=.gb r m i z)(hz:p.1=0):fQ Γ o s (.gb r m i z):=by (refine bj λa w η hr=>?_;have hx:=hr.ev x;obtain⟨d,fs,hd,hk,hf⟩:=oZ hp;obtain⟨fields,fd,i',u,h1,h2,h3,h4,h5,_⟩:=(aB T d hd).field hk hf;have h6:¬i'.size=0:=by rw[h5];exact h0);rw[he]at hx;cases zJ:a.eval x<;>rw[zJ]at hx<;>cases hx;rename_i b o' c k G5;exact⟨.pointer (some ⟨b,o'+i*z,none⟩),by simp[execOp,ho,zJ,Instr.fieldAt,run_underlying h1,h2,Instr.sureAddr,fieldPlace,sizeOf,typeInfo,h4,h6,h3,Addr.add_lit,hz],.gb r m i z b o' c k G5⟩
theorem K7{tab:Nat->Option TD}(aB:bp Γ.P tab){o:Oper}{T:Nat}{x:Operand}(ho:o.op=.load T x){d:TD}(hd:tab T=some d){r m i z e:Nat}{els:List AV}(he:s.ev x=.gb r m i z)(sk:s.hp[r]?=some (.aW e z els))(hm:m=els.length)(He:d.size=z)(hi:i<els.length)(bP:els[i].isAgg=d.kind.agg):fQ Γ o s els[i]:=by refine bj λa w η hr=>?_;have hx:=hr.ev x;have dK:=aB T d hd;rw[he]at hx;cases zJ:a.eval x<;>rw[zJ]at hx<;>cases hx;rename_i b o' c k G5;have zK:=G5;unfold bk at zK;rw[sk]at zK;have fL:=zK.2 hm;obtain⟨Si,xs,eH,fD⟩:=hr.heap.obj r _ _ sk fL;rcases eH.2 with⟨h0,_⟩|⟨g,cap,cur,hve,h0,⟨Cq,w7,hg⟩,KV,KW,gK,qb⟩;omega;(simp only[Value.slice.injEq,aug,Addr.mk.injEq,and_true]at hve;obtain⟨⟨rfl,rfl⟩,K8,rfl⟩:=hve;have qw:=fD i els[i] (aun hi);have aR:(i+1)*z<=els.length*z:=au6 _ hi;rw[avn,Nat.one_mul]at aR;have Y3:((xs.drop (i*z)).take z).length=z:=by rw[au0,auR,eH.1];omega);(have dT:∀(j:Nat)(u:Value),((xs.drop (i*z)).take z)[j]?=some u->j<z/\xs[i*z+j]?=some u:=by intro j u hj;rw[auC]at hj;split at hj;rename_i aE;rw[avp]at hj;exact⟨aE,hj⟩;cases hj);(have dL:∀(j:Nat)(y:AV)(u:Value),els[i].cells[j]?=some y->((xs.drop (i*z)).take z)[j]?=some u->bo w (bu Γ w η s.hp) η s.hp y u/\u.oneCell'=true:=by intro j y u hy hu;obtain⟨_,h2⟩:=dT j u hu;obtain⟨u',q1,q2,q3⟩:=qw.2 j y hy;rw[h2]at q1;obtain rfl:=auj q1;exact⟨q2.lift,q3⟩);(have alS:∀(j:Nat)(u:Value),((xs.drop (i*z)).take z)[j]?=some u->w.cell? ⟨b,0+i*z+j,none⟩=some u:=by intro j u hj;obtain⟨h1,h2⟩:=dT j u hj;rw[<-qb,auC]at h2;split at h2;rw[cell_of_row w b (0+i*z+j) cur e (0,Cq) hg,auO];simpa using h2;cases h2);(have key:bo w (bu Γ w η s.hp) η s.hp els[i] (if d.kind.agg then .agg ((xs.drop (i*z)).take z).toArray else((xs.drop (i*z)).take z).headD undef):=by have hlen:=qw.1;generalize els[i]=el at bP hlen dL;cases hk:d.kind.agg with|true=>rw[hk]at bP;(cases el<;>simp only[AV.isAgg]at bP<;>try (cases bP;done));rename_i cs;have w6:cs.length=z:=hlen;have:=(fJ (w:=w) (F:=bu Γ w η s.hp) (η:=η) (hp:=s.hp) (agg:=true) (size:=z) (cs:=cs) (o:=0) (r:=.agg cs) (λh=>by cases h) (vs:=(xs.drop (i*z)).take z) (by rw[Y3,w6]) dL (by simp[gj,<-w6])).2;simpa [List.take_take]using this|false=>(have h1:=aB.sz hd hk;have K6:el.cells=[el]:=by rw[hk]at bP;cases el<;>first|rfl|(simp[AV.isAgg]at bP));have:=(fJ (w:=w) (F:=bu Γ w η s.hp) (η:=η) (hp:=s.hp) (agg:=false) (size:=z) (cs:=el.cells) (o:=0) (r:=el) (λ_=>by rw[<-He];exact h1) (vs:=(xs.drop (i*z)).take z) (by rw[Y3,hlen]) dL (by rw[K6];rfl)).2;simpa [<-He,h1,List.take_take]using this);refine⟨_,?_,key⟩;simp only[execOp,ho,zJ,Instr.loadAt,Instr.sureAddr,ao,aq,al];rw[dK.run_load (vs:=(xs.drop (i*z)).take z) (by rw[Y3,He]) alS];rfl
theorem zL{tab:Nat->Option TD}(aB:bp Γ.P tab){o:Oper}{T e:Nat}{x i:Operand}(ho:o.op=.indexAddr T x i){d d':TD}(hd:tab T=some d)(hk:d.kind=.kY e)(eJ:tab e=some d'){els:List AV}(fD:(s.ev x).iQ s.hp=some els){k:IntKind}{n:Int}(hi:s.ev i=.ay (.int k n))(h0:0<=n)(h1:n<els.length)(cP:(els.getD n.toNat .top).cells.length=d'.size):fQ Γ o s (.aV (els.getD n.toNat .top) 0):=by (refine bj λa w η hr=>?_;have hx:=lV hr.heap hr.cu (hr.ev x) fD;have K9:=hr.ev i;rw[hi]at K9;have Y4:=K9.aC;have hu:Γ.P.underlying T=some (.slice e):=by obtain⟨u,h2,h3⟩:=(aB T d hd).mL;rw[hk]at h3;rw[h2];exact congrArg some h3);(have aE:n.toNat<els.length:=by omega);(have dT:els[n.toNat]?=some (els.getD n.toNat .top):=by simp[ae,aE]);generalize vL:a.eval x=vx at hx;cases hx with|mR=>simp at aE|sl size els b off c f hc hm hl aR dW=>(have hs:size=d'.size:=by rw[<-hl _ _ dT];exact cP);subst hs;obtain⟨i0,Cq,jz,_⟩:=(aB e d' eJ).info;refine⟨.pointer (some ⟨b,off+n.toNat*d'.size,none⟩),?_,.aV _ 0 b (off+n.toNat*d'.size) (f n.toNat) (λj x hj=>aR _ _ _ _ dT hj) (λj x hj=>dW _ _ _ _ dT hj)⟩;have hb:0<=n/\n<(els.length:Int):=⟨h0,h1⟩;simp[execOp,ho,vL,Y4,Instr.indexAt,asIntOf,run_underlying hu,hb,sizeOf,typeInfo,Cq,jz,Addr.add_lit]
theorem yr{tab:Nat->Option TD}(aB:bp Γ.P tab){o:Oper}{T m:Nat}{x i:Operand}(ho:o.op=.indexAddr T x i){d:TD}(hd:tab T=some d)(hk:d.kind=.arr m){r:Nat}(hx:s.ev x=.ptr r 0){k:IntKind}{n:Int}(hi:s.ev i=.ay (.int k n))(h0:0<=n)(h1:n<m):fQ Γ o s (.ptr r n.toNat):=by refine bj λa w η hr=>?_;have eV:=hr.ev x;rw[hx]at eV;have K9:=hr.ev i;rw[hi]at K9;have Y4:=K9.aC;obtain⟨u,h2,h3⟩:=(aB T d hd).mL;rw[hk]at h3;obtain⟨e,i0,rfl,Cq,jz⟩:=h3;generalize vL:a.eval x=vx at eV;cases eV with|ptr _ _ b fL=>refine⟨.pointer (some ⟨b,n.toNat,none⟩),?_,.ptr _ _ b fL⟩;have hb:0<=n/\n<(m:Int):=⟨h0,h1⟩;simp[execOp,ho,vL,Y4,Instr.indexAt,asIntOf,run_underlying h2,hb,sizeOf,typeInfo,Cq,jz,Addr.add_lit,Instr.sureAddr]
theorem yt{tab:Nat->Option TD}(aB:bp Γ.P tab){o:Oper}{T m:Nat}{x i:Operand}(ho:o.op=.indexAddr T x i){d:TD}(hd:tab T=some d)(hk:d.kind=.arr m){e:AV}(hx:s.ev x=.aV e 0){k:IntKind}{n:Int}(hi:s.ev i=.ay (.int k n))(h0:0<=n)(h1:n<m):fQ Γ o s (.aV e n.toNat):=by refine bj λa w η hr=>?_;have eV:=hr.ev x;rw[hx]at eV;have K9:=hr.ev i;rw[hi]at K9;have Y4:=K9.aC;obtain⟨u,h2,h3⟩:=(aB T d hd).mL;rw[hk]at h3;obtain⟨e',i0,rfl,Cq,jz⟩:=h3;generalize vL:a.eval x=vx at eV;cases eV with|aV _ _ b q f aR YC=>refine⟨.pointer (some ⟨b,q+n.toNat,none⟩),?_,.aV _ _ b q f aR YC⟩;have hb:0<=n/\n<(m:Int):=⟨h0,h1⟩;simp[execOp,ho,vL,Y4,Instr.indexAt,asIntOf,run_underlying h2,hb,sizeOf,typeInfo,Cq,jz,Addr.add_lit,Instr.sureAddr]
theorem rO{hp:List ax}{x:AV}{r m e size k:Nat}(h:vW hp x=some (r,m,e,size,k)):x=.own r m/\∃els,hp[r]?=some (.aW e size els)/\k=els.length:=by unfold vW at h;split at h;split at h;rename_i hr;simp only[aug,auk]at h;obtain⟨rfl,rfl,rfl,rfl,rfl⟩:=h;exact⟨rfl,_,hr,rfl⟩;cases h;cases h
theorem yu{tab:Nat->Option TD}(aB:bp Γ.P tab){o:Oper}{T e:Nat}{x i:Operand}(ho:o.op=.indexAddr T x i){d d':TD}(hd:tab T=some d)(hk:d.kind=.kY e)(eJ:tab e=some d'){r m:Nat}{els:List AV}(hx:s.ev x=.own r m)(sk:s.hp[r]?=some (.aW e d'.size els))(hm:m=els.length){k:IntKind}{n:Int}(hi:s.ev i=.ay (.int k n))(h0:0<=n)(h1:n<m):fQ Γ o s (.gb r m n.toNat d'.size):=by (refine bj λa w η hr=>?_;have eV:=hr.ev x;rw[hx]at eV;have K9:=hr.ev i;rw[hi]at K9;have Y4:=K9.aC;have hu:Γ.P.underlying T=some (.slice e):=by obtain⟨u,h2,h3⟩:=(aB T d hd).mL;rw[hk]at h3;rw[h2];exact congrArg some h3);generalize vL:a.eval x=vx at eV;cases eV with|own _ _ _ tW G5=>have zK:=G5;unfold bk at zK;rw[sk]at zK;have fL:=zK.2 hm;obtain⟨Sj,xs,eH,_⟩:=hr.heap.obj r _ _ sk fL;rcases eH.2 with⟨hz,_⟩|⟨g,cap,cur,rfl,_⟩;omega;rw[<-hm]at G5 vL;obtain⟨i0,Cq,jz,_⟩:=(aB e d' eJ).info;refine⟨.pointer (some ⟨g,0+n.toNat*d'.size,none⟩),?_,.gb r m n.toNat d'.size g 0 cap m G5⟩;have hb:0<=n/\n<(m:Int):=⟨h0,h1⟩;simp[execOp,ho,vL,Y4,Instr.indexAt,asIntOf,run_underlying hu,hb,sizeOf,typeInfo,Cq,jz,Addr.add_lit]
theorem La{tab:Nat->Option TD}(aB:bp Γ.P tab){o:Oper}{T T':Nat}{op:BinOp}{x y:Operand}(ho:o.op=.binOp op T x y T'){c:Prop}{r:AV}(h:kK tab T op (s.ev x) (s.ev y)=some (c,r))(_hc:c):fQ Γ o s r:=by
 refine bj λa w η hr=>?_;have hx:=hr.ev x;have hy:=hr.ev y;unfold kK at h;split at h;rename_i k m k' n e1 e2;rw[e1]at hx;rw[e2]at hy;have lG:=hx.aC;have EI:=hy.aC;split at h
 ·rename_i hkk;subst hkk;unfold EE at h;split at h<;>first
   |cases h;done
   |(simp only[aug,auk]at h;obtain⟨_,rfl⟩:=h;exact⟨_,by simp[execOp,ho,lG,EI,eqGuard,binOp,Op.intArith,Op.intCmp];try rfl,.ay _⟩)
 cases h;rename_i b1 b2 e1 e2;rw[e1]at hx;rw[e2]at hy;have lG:=hx.aC;have EI:=hy.aC;split at h;rename_i d hd;obtain⟨u,h2,h3⟩:=(aB T d hd).mL;split at h;rename_i hk;rw[hk]at h3;have hu:Γ.P.underlying T=some .bool:=by rw[h2];exact congrArg some h3
 simp only[aug,auk]at h;obtain⟨_,rfl⟩:=h;have he:(Op.equal T (.bool b1) (.bool b2)).run Γ.P w=.ok (b1==b2) w:=run_equalIn_bool' w 9999 T b1 b2 hu;refine⟨_,?_,.ay _⟩;simp only[execOp,ho,lG,EI,eqGuard,binOp,ao,avm,auE,if_false,he,al,aq];rename_i hk;rw[hk]at h3;have hu:Γ.P.underlying T=some .bool:=by rw[h2];exact congrArg some h3
 simp only[aug,auk]at h;obtain⟨_,rfl⟩:=h;have he:(Op.equal T (.bool b1) (.bool b2)).run Γ.P w=.ok (b1==b2) w:=run_equalIn_bool' w 9999 T b1 b2 hu;refine⟨_,?_,.ay _⟩;simp only[execOp,ho,lG,EI,eqGuard,binOp,ao,avm,auE,if_false,he,al,aq];cases h;cases h;rename_i a1 a2 b1 b2 e1 e2;rw[e1]at hx;rw[e2]at hy;have SD:∀{m1 m2:Int}{v:Value},bo w (bu Γ w η s.hp) η s.hp (.agg [.ay (.int .i64 m1),.ay (.int .i64 m2)]) v->v=.agg #[.int .i64 m1,.int .i64 m2]:=by intro m1 m2 v hv;cases hv with|agg cs vs hl h1 hr=>obtain⟨vs⟩:=vs;match vs,hl with| [u1,u2],_=>have q1:=(hr 0 _ u1 rfl rfl).aC;have q2:=(hr 1 _ u2 rfl rfl).aC;rw[q1,q2]
 have lG:=SD hx;have EI:=SD hy;split at h;rename_i d hd;split at h;rename_i hfl;obtain⟨g1,g2⟩:=(aB T d hd).feq hfl;split at h;simp only[aug,auk]at h;obtain⟨_,rfl⟩:=h;refine⟨.bool (a1==b1&&a2==b2),?_,.ay _⟩;have:=run_eql_struct (P:=Γ.P) w T #[.int .i64 a1,.int .i64 a2] #[.int .i64 b1,.int .i64 b2];rw[g2]at this;simp only[al]at this;simp only[execOp,ho,lG,EI,ao,run_eqGuard_agg (P:=Γ.P) w _ T x y _ _ g1,al,this];rfl;simp only[aug,auk]at h;obtain⟨_,rfl⟩:=h;refine⟨.bool (!(a1==b1&&a2==b2)),?_,.ay _⟩;have:=run_neq_struct (P:=Γ.P) w T #[.int .i64 a1,.int .i64 a2] #[.int .i64 b1,.int .i64 b2];rw[g2]at this;simp only[al]at this;simp only[execOp,ho,lG,EI,ao,run_eqGuard_agg (P:=Γ.P) w _ T x y _ _ g1,al,this];rfl;cases h;cases h;cases h;rename_i a0 a1 a2 t1 b0 b1 b2 t2 e1 e2;rw[e1]at hx;rw[e2]at hy;have SD:∀{m0 m1 m2:Int}{m3:aw}{v:Value},bo w (bu Γ w η s.hp) η s.hp (.agg [.ay (.int .i64 m0),.ay (.int .i64 m1),.ay (.int .i64 m2),.ay (.string m3)]) v->v=.agg #[.int .i64 m0,.int .i64 m1,.int .i64 m2,.string m3]:=by intro m0 m1 m2 m3 v hv;cases hv with|agg cs vs hl h1 hr=>obtain⟨vs⟩:=vs;match vs,hl with| [u1,u2,u3,u4],_=>have q1:=(hr 0 _ u1 rfl rfl).aC;have q2:=(hr 1 _ u2 rfl rfl).aC;have q3:=(hr 2 _ u3 rfl rfl).aC;have q4:=(hr 3 _ u4 rfl rfl).aC;rw[q1,q2,q3,q4]
 have lG:=SD hx;have EI:=SD hy;split at h;rename_i d hd;split at h;rename_i hfl;obtain⟨g1,g2⟩:=(aB T d hd).alM hfl;split at h;simp only[aug,auk]at h;obtain⟨_,rfl⟩:=h;refine⟨.bool (a0==b0&&((a1==b1&&a2==b2)&&t1.toList==t2.toList)),?_,.ay _⟩;have:=run_eql_struct (P:=Γ.P) w T #[.int .i64 a0,.int .i64 a1,.int .i64 a2,.string t1] #[.int .i64 b0,.int .i64 b1,.int .i64 b2,.string t2];rw[g2]at this;simp only[al]at this;simp only[execOp,ho,lG,EI,ao,run_eqGuard_agg (P:=Γ.P) w _ T x y _ _ g1,al,this];rfl;simp only[aug,auk]at h;obtain⟨_,rfl⟩:=h;refine⟨.bool (!(a0==b0&&((a1==b1&&a2==b2)&&t1.toList==t2.toList))),?_,.ay _⟩;have:=run_neq_struct (P:=Γ.P) w T #[.int .i64 a0,.int .i64 a1,.int .i64 a2,.string t1] #[.int .i64 b0,.int .i64 b1,.int .i64 b2,.string t2];rw[g2]at this;simp only[al]at this;simp only[execOp,ho,lG,EI,ao,run_eqGuard_agg (P:=Γ.P) w _ T x y _ _ g1,al,this];rfl;cases h;cases h;cases h;cases h
theorem iu(h:Rel Γ s a w η):∀l:List Operand,cC w (bu Γ w η s.hp) η s.hp (l.map s.ev) (l.map a.eval)
 | []=>ai|x::l=>⟨h.ev x,iu h l⟩
theorem Cz{o:Oper}{f:Nat}{first caps:Array Operand}(ho:o.op=.makeFunc (.func f) first caps)(h0:first.size=0):fQ Γ o s (.bw f (caps.toList.map s.ev)):=by
 refine bj λa w η hr=>⟨.func (.func f) #[] (caps.map a.eval),?_,.bw f _ _ (by simp) λj x v hx hv=>?_⟩
 ·(have:first=#[]:=Array.eq_empty_of_size_eq_zero h0);subst this;simp[execOp,ho,Instr.makeFunc]
 exact(iu hr caps.toList).get j x v hx (by simpa using hv)
theorem yw{o:Oper}{f:Nat}{first caps:Array Operand}(ho:o.op=.makeFunc (.func f) first caps)(h0:caps.size=0):fQ Γ o s (.dt f (first.toList.map s.ev)):=by refine bj λa w η hr=>⟨.func (.func f) (first.map a.eval) #[],?_,.dt f _ _ (by simp) λj x v hx hv=>?_⟩;have:caps=#[]:=Array.eq_empty_of_size_eq_zero h0;subst this;simp[execOp,ho,Instr.makeFunc];exact(iu hr first.toList).get j x v hx (by simpa using hv)
theorem Qx{o:Oper}{c x y:Operand}{t:Bool}(ho:o.op=.pick c x y)(hc:s.ev c=.ay (.bool t)):fQ Γ o s (if t=true then s.ev x else s.ev y):=by refine bj λa w η hr=>?_;have h:=hr.ev c;rw[hc]at h;have hv:=h.aC;cases t with|true=>exact⟨a.eval x,by simp[execOp,ho,hv,asBool],by simpa using hr.ev x⟩|false=>exact⟨a.eval y,by simp[execOp,ho,hv,asBool],by simpa using hr.ev y⟩
theorem rP{w:World}{η:List Value}{hp:List ax}{F:Nat->Nat->Prop}{x:AV}{b:Bool}(h:EF x=some b){v:Value}(hx:bo w F η hp x v):∃p,v=.pointer p/\p.isNone=b:=by unfold EF at h;split at h;cases hx;exact⟨_,rfl,by simpa using h⟩;cases hx;exact⟨_,rfl,by simpa using h⟩;cases hx;exact⟨_,rfl,by simpa using h⟩;cases h
theorem Qy{tab:Nat->Option TD}(aB:bp Γ.P tab){o:Oper}{T T':Nat}{op:BinOp}{x y:Operand}(ho:o.op=.binOp op T x y T'){cs:List Prop}{r:AV}(h:Qw tab T op (s.ev x) (s.ev y)=some (cs,r))(hc:NC cs):fQ Γ o s r:=by
 unfold Qw at h;split at h;rename_i k' b hy;split at h;rename_i k a hx;split at h;rename_i hk;subst hk;refine bj λac w η hr=>?_;have h1:=hr.ev x;have h2:=hr.ev y;rw[hx]at h1;rw[hy]at h2;have h1:=h1.aC;have h2:=h2.aC;split at h;simp only[aug,auk]at h;obtain⟨rfl,rfl⟩:=h;exact⟨_,by simp[execOp,ho,h1,h2,eqGuard,binOp,Op.intDiv,hc.1],.ay _⟩;simp only[aug,auk]at h;obtain⟨rfl,rfl⟩:=h;exact⟨_,by simp[execOp,ho,h1,h2,eqGuard,binOp,Op.intDiv,hc.1],.ay _⟩
 ·obtain⟨n,hn,he⟩:=au8.1 h;simp only[auk]at he;obtain⟨rfl,rfl⟩:=he;refine⟨_,?_,.ay _⟩;unfold SC at hn;split at hn<;>first|cases hn;done|(obtain rfl:=auj hn;simp[execOp,ho,h1,h2,eqGuard,binOp,Op.intBits])
 cases h;cases h;rename_i b hy;split at h
 ·rename_i a hx;refine bj λac w η hr=>?_;have h1:=hr.ev x;have h2:=hr.ev y;rw[hx]at h1;rw[hy]at h2;have h1:=h1.aC;have h2:=h2.aC;split at h;(all_goals first|(cases h;done)|skip);(all_goals simp only[aug,auk]at h);(all_goals obtain⟨rfl,rfl⟩:=h);have ND:a.size+b.size<=9223372036854775807:=hc.1;refine⟨_,?_,.ay _⟩;simp[execOp,ho,h1,h2,eqGuard,binOp,Op.stringOp,show IntKind.i64.max=9223372036854775807 from rfl];omega;all_goals exact⟨_,by simp[execOp,ho,h1,h2,eqGuard,binOp,Op.stringOp,gk,strLt],.ay _⟩
 cases h;rename_i hy;split at h;rename_i b hb;split at h;rename_i d hd;split at h;rename_i e hk;have hu:Γ.P.underlying T=some (.pointer (Γ.P.pointee T)):=by (obtain⟨u,q2,q3⟩:=(aB T d hd).mL;rw[hk]at q3;have:Γ.P.underlying T=some (.pointer e):=by rw[q2];exact congrArg some q3);rw[this,Program.pointee,this]
 split at h;simp only[aug,auk]at h;obtain⟨rfl,rfl⟩:=h;refine bj λa w η hr=>?_;obtain⟨p,hp,Y5⟩:=rP hb (hr.ev x);have h2:=hr.ev y;rw[hy]at h2;have h2:=h2.aC;refine⟨.bool b,?_,.ay _⟩;simp only[execOp,ho,hp,h2,eqGuard,avm,auE,if_false,ao,aq,al,run_eql_pointer_nil w T p hu,Y5];simp only[aug,auk]at h;obtain⟨rfl,rfl⟩:=h;refine bj λa w η hr=>?_;obtain⟨p,hp,Y5⟩:=rP hb (hr.ev x);have h2:=hr.ev y;rw[hy]at h2;have h2:=h2.aC;refine⟨.bool (!b),?_,.ay _⟩;simp only[execOp,ho,hp,h2,eqGuard,avm,auE,if_false,ao,aq,al,run_neq_pointer_nil w T p hu,Y5];cases h;cases h;cases h;cases h;cases h
theorem EJ{P:Program}(w:World)(k:Nat)(T:TypeId){ms:Array (String×TypeId)}(hu:P.underlying T=some (.interface ms)):(Op.equalIn (k+1) T .nilIface .nilIface).run P w=.ok true w:=by simp[Op.equalIn,run_underlying hu]
theorem od{P:Program}(w:World)(T:TypeId){ms:Array (String×TypeId)}(hu:P.underlying T=some (.interface ms)):(Op.equal T .nilIface .nilIface).run P w=.ok true w:=EJ w 9999 T hu
theorem SE{tab:Nat->Option TD}(aB:bp Γ.P tab){o:Oper}{T T':Nat}{op:BinOp}{x y:Operand}(ho:o.op=.binOp op T x y T'){r:AV}(h:Y1 tab T op (s.ev x) y=some r):fQ Γ o s r:=by unfold Y1 at h;split at h;rename_i hy;split at h;rename_i d hd hx;split at h;rename_i hk;obtain⟨u,q2,q3⟩:=(aB T d hd).mL;rw[hk]at q3;obtain⟨ms,rfl⟩:=q3;obtain rfl:=YZ hy;split at h;obtain rfl:=auj h;refine bj λa w η hr=>?_;have h1:=hr.ev x;rw[hx]at h1;have h1:=h1.aC;have he:a.eval (.const .nilIface)=.nilIface:=rfl;refine⟨.bool true,?_,.ay _⟩;simp only[execOp,ho,h1,he,eqGuard_nil_constR,ao,aq,al,binOp,od w T q2];obtain rfl:=auj h;refine bj λa w η hr=>?_;have h1:=hr.ev x;rw[hx]at h1;have h1:=h1.aC;have he:a.eval (.const .nilIface)=.nilIface:=rfl;refine⟨.bool false,?_,.ay _⟩;simp only[execOp,ho,h1,he,eqGuard_nil_constR,ao,aq,al,binOp,od w T q2];rfl;cases h;cases h;cases h;cases h
theorem Hf{tab:Nat->Option TD}(aB:bp Γ.P tab){o:Oper}{T T':Nat}{op:BinOp}{x y:Operand}(ho:o.op=.binOp op T x y T'){c:Prop}{r:AV}(h:EG tab T op (s.ev x) (s.ev y)=some (c,r))(hc:c):fQ Γ o s r:=by unfold EG at h;split at h;rename_i r' hr;obtain rfl:=auj h;exact La aB ho hr hc;obtain⟨⟨cs,r'⟩,h1,h2⟩:=au8.1 h;simp only[auk]at h2;obtain⟨rfl,rfl⟩:=h2;exact Qy aB ho h1 hc
theorem SF{tab:Nat->Option TD}(aB:bp Γ.P tab){o:Oper}{S D:Nat}{x:Operand}(ho:o.op=.convert S D x){r:AV}(h:EH tab S D (s.ev x)=some r):fQ Γ o s r:=by unfold EH at h;split at h;rename_i d1 d k n hS hD hx;split at h;(rename_i k2 hk;obtain rfl:=auj h;refine bj λa w η hr=>?_;have h1:=hr.ev x;rw[hx]at h1;have h1:=h1.aC;obtain⟨u1,q1,_⟩:=(aB S d1 hS).mL;have hu:Γ.P.underlying D=some (.int k2):=by obtain⟨u,q2,q3⟩:=(aB D d hD).mL;rw[hk]at q3;rw[q2];exact congrArg some q3);refine⟨.int k2 (k2.wrap n),?_,.ay _⟩;simp only[execOp,ho,h1,convert,ao,run_underlying q1,run_underlying hu,al];rfl;cases h;rename_i d1 d t hS hD hx;split at h;(rename_i hk;obtain rfl:=auj h;refine bj λa w η hr=>?_;have h1:=hr.ev x;rw[hx]at h1;have h1:=h1.aC;obtain⟨u1,q1,_⟩:=(aB S d1 hS).mL;have hu:Γ.P.underlying D=some .string:=by obtain⟨u,q2,q3⟩:=(aB D d hD).mL;rw[hk]at q3;rw[q2];exact congrArg some q3);refine⟨.string t,?_,.ay _⟩;simp[execOp,ho,h1,convert,run_underlying hu,run_underlying q1];cases h;cases h
theorem C9{o:Oper}{op:UnOp}{T:Nat}{x:Operand}(ho:o.op=.unOp op T x){r:AV}(h:(∃b,op=.not/\s.ev x=.ay (.bool b)/\r=.ay (.bool (!b)))\/(∃k n,op=.neg/\s.ev x=.ay (.int k n)/\r=.ay (.int k (k.wrap (0-n))))):fQ Γ o s r:=by refine bj λa w η hr=>?_;have hx:=hr.ev x;rcases h with⟨b,rfl,he,rfl⟩|⟨k,n,rfl,he,rfl⟩<;>rw[he]at hx;exact⟨_,by simp[execOp,ho,hx.aC,Op.unary],.ay _⟩;exact⟨_,by simp[execOp,ho,hx.aC,Op.unary,Op.intArith],.ay _⟩
theorem EK{o:Oper}{x:Operand}{i:Nat}(ho:o.op=.extract x i){vs:List AV}{r:AV}(he:s.ev x=.aG vs)(hi:vs[i]?=some r):fQ Γ o s r:=by refine bj λa w η hr=>?_;have hx:=hr.ev x;rw[he]at hx;generalize hv:a.eval x=v at hx;cases hx with|aG cs us hl dW=>(have aE:i<us.size:=by rw[hl];exact(auh.1 hi).1);(have hu:us[i]?=some us[i]:=by simp[aE]);exact⟨us[i],by simp[execOp,ho,hv,Instr.extract,hu],dW i r _ hi hu⟩
theorem Lb{tab:Nat->Option TD}(aB:bp Γ.P tab){o:Oper}{T f:Nat}{x:Operand}(ho:o.op=.field T x f){p:Nat×Nat×Bool}(hp:(fieldsOf tab T)[f]?=some p){cs:List AV}(hx:s.ev x=.agg cs){r:AV}(h:gj p.2.2 p.2.1 cs p.1=some r)(h1:p.2.2=false->p.2.1=1):fQ Γ o s r:=by refine bj λa w η hr=>?_;have eV:=hr.ev x;rw[hx]at eV;obtain⟨d,fs,hd,hk,hf⟩:=oZ hp;obtain⟨fields,fd,i,u,e1,e2,e3,e4,e5,e6,e7⟩:=(aB T d hd).field hk hf;generalize hv:a.eval x=v at eV;cases eV with|agg _ vs hl tW dW=>(obtain⟨g1,g2⟩:=fJ (w:=w) (F:=bu Γ w η s.hp) (η:=η) (hp:=s.hp) h1 (vs:=vs.toList) (by simpa using hl) (λj x u hx hu=>⟨dW j x u hx (by simpa using hu),tW u (by rw[<-avJ];exact auq hu)⟩) h;refine⟨_,?_,g2⟩;have bP:(isAgg fd.type).run Γ.P w=.ok p.2.2 w:=by rw[<-e7];simp only[isAgg,ao,run_underlying e6,al];cases u<;>rfl);simp only[execOp,ho,hv,Instr.field,ao,run_underlying e1,al,e2,asAgg,aq,part,bP];cases Cr:p.2.2 with|true=>simp only[if_true,ao,sizeOf,typeInfo,run_program,al,e4,aq,e5,e3];congr 2;apply congrArg;apply avy;simp[Array.toList_extract,List.extract_eq_take_drop]|false=>(have hs:=h1 Cr;rw[hs]at g1 ⊢;have aE:p.1<vs.size:=by simp at g1;omega);(have hu:vs[p.1]?=some vs[p.1]:=by simp[aE]);simp only[auE,if_false,e3,hu,aq,al];congr 2;(have:(vs.toList.drop p.1).take 1=[vs[p.1]]:=by apply avb;intro k;rw[auC];cases k with|zero=>simp[aE]|succ k=>simp);rw[this];rfl
end
section
variable {G:Type} {Γ:Env G} {s:AS G} {a:Act} {w w':World} {η:List Value} {hp:List ax} {F:Nat->Nat->Prop} {P:Program}
theorem bo.SG{els:List AV}{v:Value}(h:bo w F η hp (.sl els) v):∃a c,v=.slice a els.length c:=by cases h with|mR a=>exact⟨a,0,rfl⟩|sl size els b o c f hc hm hl aR hr=>exact⟨_,c,rfl⟩
theorem kZ{o:Oper}{c:Call}{b:Builtin}(ho:o.op=.call c)(hb:c.callee=.builtin b){l:List Operand}(hl:c.args.toList=l){r:AV}(h:∀a w η,Rel Γ s a w η->∃v w',(builtin b c.argTypes o.type ((c.args.map λ| .const _=>true|_=>false)) (l.map a.eval).toArray).run Γ.P w=.ok (.value v) w'/\ck w w'/\bo w' (bu Γ w' η s.hp) η s.hp r v):fQ Γ o s r:=by (intro a w η hr;obtain⟨v,w',h1,h2,h3⟩:=h a w η hr;refine⟨v,w',?_,h2,h3⟩;have:c.args.map a.eval=(l.map a.eval).toArray:=by rw[<-hl];apply avy;simp);simp only[execOp,ho,resolve,hb,ao,aq,al,invoke,this];exact h1
theorem Hg{tab:Nat->Option TD}(aB:bp Γ.P tab){o:Oper}{c:Call}(ho:o.op=.call c)(hb:c.callee=.builtin .len){x:Operand}(hl:c.args.toList=[x]){T:Nat}(hT:c.argTypes[0]?=some T){d:TD}(hd:tab T=some d){r:AV}(h:(∃e els,d.kind=.kY e/\(s.ev x).iQ s.hp=some els/\r=.ay (.int .i64 els.length))\/(∃b,d.kind=.str/\s.ev x=.ay (.string b)/\r=.ay (.int .i64 b.size))):fQ Γ o s r:=by refine kZ ho hb hl λa w η hr=>?_;obtain⟨u,h2,h3⟩:=(aB T d hd).mL;rcases h with⟨e,els,hk,fD,rfl⟩|⟨b,hk,he,rfl⟩<;>rw[hk]at h3;(have hu:Γ.P.underlying T=some (.slice e):=by rw[h2];exact congrArg some h3);obtain⟨a0,c0,hv⟩:=(lV hr.heap hr.cu (hr.ev x) fD).SG;exact⟨_,w,by simp[builtin,Builtin.len_,hT,hv,run_underlying hu,goInt],ck.refl w,.ay _⟩;(have hu:Γ.P.underlying T=some .string:=by rw[h2];exact congrArg some h3);have hx:=hr.ev x;rw[he]at hx;exact⟨_,w,by simp[builtin,Builtin.len_,hT,hx.aC,run_underlying hu,goInt],ck.refl w,.ay _⟩
theorem Qz{tab:Nat->Option TD}(aB:bp Γ.P tab){o:Oper}{c:Call}(ho:o.op=.call c)(hb:c.callee=.builtin .len){x:Operand}(hl:c.args.toList=[x]){T:Nat}(hT:c.argTypes[0]?=some T){d:TD}(hd:tab T=some d){e r m e' z:Nat}{els:List AV}(hk:d.kind=.kY e)(he:s.ev x=.own r m)(sk:s.hp[r]?=some (.aW e' z els))(hm:m=els.length):fQ Γ o s (.ay (.int .i64 (m:Nat))):=by (refine kZ ho hb hl λa w η hr=>?_;obtain⟨u,h2,h3⟩:=(aB T d hd).mL;rw[hk]at h3;have hu:Γ.P.underlying T=some (.slice e):=by rw[h2];exact congrArg some h3);have hx:=hr.ev x;rw[he]at hx;generalize hv:a.eval x=v at hx;cases hx with|own _ _ _ h1 G5=>(unfold bk at G5;rw[sk]at G5;obtain⟨Si,xs,eH,_⟩:=hr.heap.obj r _ _ sk (G5.2 hm);obtain⟨a0,c0,rfl⟩:∃a0 c0,v=.slice a0 m c0:=by rcases eH.2 with⟨h0,rfl|⟨ad,rfl⟩⟩|⟨g,cap,cur,rfl,_⟩;exact⟨_,_,by rw[hm,h0]⟩;exact⟨_,_,by rw[hm,h0]⟩;exact⟨_,_,by rw[hm]⟩);exact⟨_,w,by simp[builtin,Builtin.len_,hT,hv,run_underlying hu,goInt],ck.refl w,.ay _⟩
theorem SH{o:Oper}{c:Call}(ho:o.op=.call c)(hb:c.callee=.builtin .min){x y:Operand}(hl:c.args.toList=[x,y]){k k':IntKind}{m n:Int}(hx:s.ev x=.ay (.int k m))(hy:s.ev y=.ay (.int k' n)):fQ Γ o s (.ay (.int k (if n<m then n else m))):=by refine kZ ho hb hl λa w η hr=>?_;have h1:=hr.ev x;have h2:=hr.ev y;rw[hx]at h1;rw[hy]at h2;exact⟨_,w,by simp[builtin,Builtin.min_,h1.aC,h2.aC,Builtin.min2],ck.refl w,.ay _⟩
theorem SI{o:Oper}{c:Call}(ho:o.op=.call c)(hb:c.callee=.builtin .max){x y:Operand}(hl:c.args.toList=[x,y]){k k':IntKind}{m n:Int}(hx:s.ev x=.ay (.int k m))(hy:s.ev y=.ay (.int k' n)):fQ Γ o s (.ay (.int k (if n>m then n else m))):=by refine kZ ho hb hl λa w η hr=>?_;have h1:=hr.ev x;have h2:=hr.ev y;rw[hx]at h1;rw[hy]at h2;exact⟨_,w,by simp[builtin,Builtin.max_,h1.aC,h2.aC,Builtin.max2],ck.refl w,.ay _⟩
def gm(cs:List Value)(off:Nat):List Value->List Value
 | []=>cs|x::xs=>gm (cs.set off x) (off+1) xs
theorem iT(xs:List Value):∀(cs:List Value)(off:Nat),(gm cs off xs).length=cs.length:=by induction xs with|nil=>intro cs off;rfl|cons x xs ih=>intro cs off;simp[gm,ih]
def sR(w:World)(F:Nat->Nat->Prop)(η:List Value)(hp:List ax)(cs:List AV)(vs:List Value):Prop:=vs.length=cs.length/\∀(j:Nat)(x:AV)(u:Value),cs[j]?=some x->vs[j]?=some u->bo w F η hp x u/\u.oneCell'=true
theorem sR.set{cs:List AV}{vs:List Value}(h:sR w F η hp cs vs)(off:Nat){x:AV}{u:Value}(hx:bo w F η hp x u)(h1:u.oneCell'=true):sR w F η hp (cs.set off x) (vs.set off u):=by refine⟨by simp[h.1],λj y z hy hz=>?_⟩;by_cases hj:off=j;subst hj;rw[avl]at hy hz;simp only[if_true]at hy hz;split at hy;rename_i h2;rw[h.1,if_pos h2]at hz;obtain rfl:=auj hy;obtain rfl:=auj hz;exact⟨hx,h1⟩;cases hy;rw[getElem?_set_ne hj]at hy hz;exact h.2 j y z hy hz
theorem sR.ad6(xs:List AV):∀{us:List Value}{cs:List AV}{vs:List Value}(off:Nat),sR w F η hp cs vs->sR w F η hp xs us->sR w F η hp (setCells cs off xs) (gm vs off us):=by induction xs with|nil=>intro us cs vs off h hu;have:us=[]:=auU hu.1;subst this;exact h|cons x xs ih=>intro us cs vs off h hu;match us,hu with| [],hu=>exact absurd hu.1 (by simp)|u::us,hu=>have h0:=hu.2 0 x u rfl rfl;exact ih (off+1) (h.set off h0.1 h0.2) ⟨by simpa using hu.1,λj y z hy hz=>hu.2 (j+1) y z (by simpa using hy) (by simpa using hz)⟩
theorem bo.Hh{x:AV}{v:Value}(h:bo w F η hp x v)(hs:x.oc=true):sR w F η hp x.cells v.cells.toList:=by
 have one:x.isAgg=false->x.Sy=true:=by cases x<;>simp_all [AV.oc,AV.isAgg,AV.Sy]
 cases h with
  |agg cs vs hl h1 hr=>exact⟨by simpa [AV.cells,Value.cells]using hl,λj y u hy hu=>⟨hr j y u hy (by simpa [Value.cells]using hu),h1 u (by have:=auq hu;simpa [Value.cells]using this)⟩⟩|top v=>simp[AV.oc]at hs|aG cs vs hl hr=>simp[AV.oc]at hs|ay v=>(have h1:v.oneCell'=true:=hs;refine⟨by cases v<;>simp_all [AV.cells,Value.cells,Value.oneCell'],λj y u hy hu=>?_⟩;have hv:v.cells=#[v]:=by cases v<;>simp_all [Value.cells,Value.oneCell']);rw[hv]at hu;cases j with|zero=>simp[AV.cells]at hy hu;subst hy;subst hu;exact⟨.ay _,h1⟩|succ j=>simp[AV.cells]at hy
  |own r n v h1 h2=>(refine⟨by cases v<;>simp_all [AV.cells,Value.cells,Value.oneCell'],λj y u hy hu=>?_⟩;have hv:v.cells=#[v]:=by cases v<;>simp_all [Value.cells,Value.oneCell']);rw[hv]at hu;cases j with|zero=>simp[AV.cells]at hy hu;subst hy;subst hu;exact⟨.own r n _ h1 h2,h1⟩|succ j=>simp[AV.cells]at hy
  |fn v h1=>(refine⟨by cases v<;>simp_all [AV.cells,Value.cells,Value.oneCell'],λj y u hy hu=>?_⟩;have hv:v.cells=#[v]:=by cases v<;>simp_all [Value.cells,Value.oneCell']);rw[hv]at hu;cases j with|zero=>simp[AV.cells]at hy hu;subst hy;subst hu;exact⟨.fn _ h1,h1⟩|succ j=>simp[AV.cells]at hy
  |mR a=>exact⟨rfl,λj y u hy hu=>by cases j<;>simp[AV.cells,Value.cells]at hy hu;subst hy;subst hu;exact⟨.mR a,rfl⟩⟩|jy a=>exact⟨rfl,λj y u hy hu=>by cases j<;>simp[AV.cells,Value.cells]at hy hu;subst hy;subst hu;exact⟨.jy a,rfl⟩⟩|sl size els b o c f hc hm hl aR hr=>exact⟨rfl,λj y u hy hu=>by cases j<;>simp[AV.cells,Value.cells]at hy hu;subst hy;subst hu;exact⟨.sl size els b o c f hc hm hl aR hr,rfl⟩⟩|clip size els b o f hm hl aR hr=>exact⟨rfl,λj y u hy hu=>by cases j<;>simp[AV.cells,Value.cells]at hy hu;subst hy;subst hu;exact⟨.clip size els b o f hm hl aR hr,rfl⟩⟩|ptr r off b h=>exact⟨rfl,λj y u hy hu=>by cases j<;>simp[AV.cells,Value.cells]at hy hu;subst hy;subst hu;exact⟨.ptr r off b h,rfl⟩⟩|aV e off b o f aR hr=>exact⟨rfl,λj y u hy hu=>by cases j<;>simp[AV.cells,Value.cells]at hy hu;subst hy;subst hu;exact⟨.aV e off b o f aR hr,rfl⟩⟩|bw fn cs vs hl hr=>exact⟨rfl,λj y u hy hu=>by cases j<;>simp[AV.cells,Value.cells]at hy hu;subst hy;subst hu;exact⟨.bw fn cs vs hl hr,rfl⟩⟩|mp r b h=>exact⟨rfl,λj y u hy hu=>by cases j<;>simp[AV.cells,Value.cells]at hy hu;subst hy;subst hu;exact⟨.mp r b h,rfl⟩⟩|gb r n i size b o c k h=>simp[AV.oc]at hs|dt fn cs vs hl hr=>exact⟨rfl,λj y u hy hu=>by cases j<;>simp[AV.cells,Value.cells]at hy hu;subst hy;subst hu;exact⟨.dt fn cs vs hl hr,rfl⟩⟩|eo b es c h hF l hl=>exact⟨rfl,λj y u hy hu=>by cases j<;>simp[AV.cells,Value.cells]at hy hu;subst hy;subst hu;exact⟨.eo b es c h hF l hl,rfl⟩⟩
theorem zM(v:List Value):∀(cs:Array Value)(off k:Nat),((v.zipIdx k).foldl (λcs (c,j)=>cs.setIfInBounds (off+j) c) cs).toList=gm cs.toList (off+k) v:=by induction v with|nil=>intro cs off k;rfl|cons x v ih=>intro cs off k;simp only[List.zipIdx_cons,List.foldl_cons];rw[ih];simp[gm,Array.toList_setIfInBounds,av0]
theorem NF{fs:List (Nat×Nat×Bool)}{places:Nat->Option (Nat×Nat)}(Sk:∀(i:Nat)(p:Nat×Nat×Bool),fs[i]?=some p->places i=some (p.1,p.2.1)): ∀(parts:List (Nat×AV))(nx:List (Nat×Value))(cs:List AV)(vs:Array Value)(r:List AV),dR fs cs parts=some r->sR w F η hp cs vs.toList->nx.map (·.1)=parts.map (·.1)-> (∀(j:Nat)(p:Nat×AV)(q:Nat×Value),parts[j]?=some p->nx[j]?=some q->bo w F η hp p.2 q.2)->∃vr,Instr.fill places vs nx=some vr/\sR w F η hp r vr.toList:=by
 intro parts;induction parts with
  |nil=>(intro nx cs vs r h hc hm _;have:nx=[]:=by cases nx<;>simp_all);subst this;simp only[dR,aug]at h;subst h;exact⟨vs,rfl,hc⟩|cons p parts ih=>
   intro nx cs vs r h hc hm hr;cases nx with
    |nil=>simp at hm|cons q nx=>
     obtain⟨i,x⟩:=p;obtain⟨i',v⟩:=q;simp only[auL,List.cons.injEq]at hm;obtain⟨rfl,sn⟩:=hm;have h0:=hr 0 _ _ rfl rfl;simp only at h0;simp only[dR]at h;split at h;rename_i p hp;split at h
     ·(rename_i oe;have Hi:=h0.Hh oe.2.2;have cP:v.cells.size=p.2.1:=by rw[<-oe.1,<-Hi.1];simp);(have alU:=Sk _ p hp;have hle:p.1+p.2.1<=vs.size:=by have:=hc.1;simp at this;omega);have zN:=zM v.cells.toList vs p.1 0;rw[avo]at zN;obtain⟨vr,e1,e2⟩:=ih nx (setCells cs p.1 x.cells) ((v.cells.zipIdx).foldl (λcs (c,j)=>cs.setIfInBounds (p.1+j) c) vs) r h (by (have e:((v.cells.zipIdx).foldl (λcs (c,j)=>cs.setIfInBounds (p.1+j) c) vs).toList=gm vs.toList p.1 v.cells.toList:=by rw[<-zN,<-Array.foldl_toList];simp);rw[e];exact sR.ad6 x.cells p.1 hc Hi) sn (λj p' q' h1 h2=>hr (j+1) p' q' (by simpa using h1) (by simpa using h2));refine⟨vr,?_,e2⟩;simp only[Instr.fill,alU,cP];rw[if_neg (by simp;omega)];exact e1
     cases h;cases h
end
section
variable {G:Type} {Γ:Env G} {s:AS G} {a:Act} {w w':World} {η:List Value} {hp:List ax} {F:Nat->Nat->Prop} {P:Program}
theorem gy.EL{T:Nat}{d:TD}(h:gy P T d):sR w F η hp (d.zero.cells.toList.map .ay) d.zero.cells.toList:=by refine⟨by simp,λj x u hx hu=>?_⟩;rw[auu,hu]at hx;obtain rfl:=auj hx;exact⟨.ay _,h.alL u (by have:=auq hu;simpa using this)⟩
theorem zO(fields:List Field)(w:World)(h:∀f:Field,f∈fields->∃i,P.info? f.type=some i): (fields.mapM λf=>do pure (f.offset,<-sizeOf f.type):Sem (List (Nat×Nat))).run P w=.ok (fields.map λf=>(f.offset,((P.info? f.type).map (·.size)).getD 0)) w:=by induction fields with|nil=>rfl|cons f fs ih=>obtain⟨i,hi⟩:=h f auw;have ih':=ih λg hg=>h g (auz _ hg);simp only[List.mapM_cons,ao,sizeOf,typeInfo,run_program,al,hi,aq,auL,auT,avd];simp only[sizeOf,typeInfo]at ih';rw[ih'];rfl
theorem Lc{tab:Nat->Option TD}(aB:bp Γ.P tab){o:Oper}{T:Nat}{parts:Array (Nat×Operand)}(ho:o.op=.build T parts){d:TD}(hd:tab T=some d){fs:List (Nat×Nat×Bool)}(hk:d.kind=.cr fs){r:List AV}(h:dR fs (d.zero.cells.toList.map .ay) (parts.toList.map λp=>(p.1,s.ev p.2))=some r):fQ Γ o s (.agg r):=by (refine bj λa w η hr=>?_;have dK:=aB T d hd;obtain⟨u,h2,h3⟩:=dK.mL;rw[hk]at h3;obtain⟨fields,rfl,h3⟩:=h3;have agy:∀f:Field,f∈fields.toList->∃i,Γ.P.info? f.type=some i:=by intro f hf;obtain⟨k,vQ⟩:=avB hf;have h4:=congrArg (·[k]?) h3;simp only[auu,vQ,auT]at h4;cases w8:fs[k]? with|none=>rw[w8]at h4;cases h4|some p=>rw[w8]at h4;simp only[auT,aug,auk]at h4;cases hi:Γ.P.info? f.type with|none=>rw[hi]at h4;cases h4.2.1|some i=>exact⟨i,rfl⟩);(have Sk:∀(i:Nat)(p:Nat×Nat×Bool),fs[i]?=some p->((fields.toList.map λf=>(f.offset,((Γ.P.info? f.type).map (·.size)).getD 0)).toArray)[i]?=some (p.1,p.2.1):=by intro i p hp;have h4:=congrArg (·[i]?) h3;simp only[auu,hp,auT]at h4;cases hf:fields.toList[i]? with|none=>rw[hf]at h4;cases h4|some f=>rw[hf]at h4;simp only[auT,aug,auk]at h4;simp only[avS,auu,hf,auT,h4.1,h4.2.1,avd]);obtain⟨vr,e1,e2⟩:=NF (w:=w) (F:=bu Γ w η s.hp) (η:=η) (hp:=s.hp) Sk (parts.toList.map λp=>(p.1,s.ev p.2)) (parts.toList.map λp=>(p.1,a.eval p.2)) _ d.zero.cells r h dK.EL (by simp) (λj p q h1 h2=>by simp only[auu]at h1 h2;cases hj:parts.toList[j]? with|none=>rw[hj]at h1;cases h1|some x=>rw[hj]at h1 h2;obtain rfl:=auj h1;obtain rfl:=auj h2;exact hr.ev x.2);refine⟨.agg vr,?_,.agg r vr (by have:=e2.1;simpa using this) (λv hv=>?_) λj x v hx hv=>(e2.2 j x v hx (by simpa using hv)).1⟩;have hm:=zO (P:=Γ.P) fields.toList w agy;simp only[execOp,ho,Instr.build,ao,dK.kf,al,run_underlying h2,Array.mapM_eq_mapM_toList,Sem.run_map,hm,av1,e1,aq];(obtain⟨k,vQ⟩:=avB (avJ.2 hv);have aE:k<r.length:=by rw[<-e2.1];exact(auh.1 vQ).1);exact(e2.2 k r[k] v (by simp[aE]) vQ).2
theorem Hj{tab:Nat->Option TD}(aB:bp Γ.P tab){o:Oper}{T:Nat}{parts:Array (Nat×Operand)}(ho:o.op=.build T parts){d:TD}(hd:tab T=some d){n:Nat}(hk:d.kind=.arr n){r:List AV}(h:dR (zI n) (d.zero.cells.toList.map .ay) (parts.toList.map λp=>(p.1,s.ev p.2))=some r):fQ Γ o s (.agg r):=by (refine bj λa w η hr=>?_;have dK:=aB T d hd;obtain⟨u,h2,h3⟩:=dK.mL;rw[hk]at h3;obtain⟨e,i0,rfl,Cq,jz⟩:=h3;have Sk:∀(i:Nat)(p:Nat×Nat×Bool),(zI n)[i]?=some p->(λi=>some (i*1,1):Nat->Option (Nat×Nat)) i=some (p.1,p.2.1):=by (intro i p hp;simp only[zI,auu]at hp;obtain⟨j,hj,rfl⟩:=au8.1 hp;obtain rfl:j=i:=by obtain⟨h5,h6⟩:=auh.1 hj;rw[<-h6];simp);simp);obtain⟨vr,e1,e2⟩:=NF (w:=w) (F:=bu Γ w η s.hp) (η:=η) (hp:=s.hp) Sk (parts.toList.map λp=>(p.1,s.ev p.2)) (parts.toList.map λp=>(p.1,a.eval p.2)) _ d.zero.cells r h dK.EL (by simp) (λj p q h1 h2=>by simp only[auu]at h1 h2;cases hj:parts.toList[j]? with|none=>rw[hj]at h1;cases h1|some x=>rw[hj]at h1 h2;obtain rfl:=auj h1;obtain rfl:=auj h2;exact hr.ev x.2);refine⟨.agg vr,?_,.agg r vr (by have:=e2.1;simpa using this) (λv hv=>?_) λj x v hx hv=>(e2.2 j x v hx (by simpa using hv)).1⟩;simp only[execOp,ho,Instr.build,ao,dK.kf,al,run_underlying h2,sizeOf,typeInfo,run_program,Cq,aq,jz,av1,e1];(obtain⟨k,vQ⟩:=avB (avJ.2 hv);have aE:k<r.length:=by rw[<-e2.1];exact(auh.1 vQ).1);exact(e2.2 k r[k] v (by simp[aE]) vQ).2
theorem dx(us:List Value):∀(cs:List Value)(off t:Nat),off+us.length<=cs.length->(gm cs off us)[t]?=if off<=t/\t<off+us.length then us[t-off]? else cs[t]?:=by induction us with|nil=>intro cs off t _;simp only[gm,auV,avo];rw[if_neg (by omega)]|cons u us ih=>intro cs off t h;simp only[aur]at h;simp only[gm,aur];rw[ih (cs.set off u) (off+1) t (by simp;omega)];by_cases h1:off+1<=t/\t<off+1+us.length;(rw[if_pos h1,if_pos (by omega)];have:t-off=(t-(off+1))+1:=by omega);rw[this,au3];rw[if_neg h1];by_cases h2:t=off;subst h2;rw[if_pos (by omega),avH,au4,avl];simp;omega;rw[if_neg (by omega),getElem?_set_ne (λe=>h2 e.symm)]
theorem CA(v:Array Value)(cs:Array Value)(off:Nat):(v.zipIdx.foldl (λcs (c,j)=>cs.setIfInBounds (off+j) c) cs).toList=gm cs.toList off v.toList:=by have h:=zM v.toList cs off 0;rw[avo]at h;rw[<-h,<-Array.foldl_toList];simp
theorem zP{size:Nat}:∀(l:List Value)(k:Nat)(parts:List (Nat×Value))(cs:Array Value),parts.map (·.2)=l->(∀(j:Nat)(p:Nat×Value),parts[j]?=some p->p.1=k+j)->(∀v:Value,v∈l->v.cells.size=size)->cs.size=(k+l.length)*size-> ∃r,Instr.fill (λi=>some (i*size,size)) cs parts=some r/\r.size=cs.size/\(∀t,t<k*size->r.toList[t]?=cs.toList[t]?)/\ ∀(i:Nat)(v:Value)(j:Nat)(u:Value),l[i]?=some v->v.cells.toList[j]?=some u->r.toList[(k+i)*size+j]?=some u:=by
 intro l;induction l with
  |nil=>(intro k parts cs hm _ _ _;have:parts=[]:=by cases parts<;>simp_all);subst this;exact⟨cs,rfl,rfl,λ_ _=>rfl,λi v j u hi=>by simp at hi⟩|cons v l ih=>
   intro k parts cs hm jw cP gK;cases parts with
    |nil=>simp at hm|cons p parts=>
     (obtain⟨i0,v0⟩:=p;simp only[auL,List.cons.injEq]at hm;obtain⟨rfl,sn⟩:=hm;have Cq:i0=k:=by have:=jw 0 _ rfl;simpa using this);subst Cq;have vU:=cP v0 auw;simp only[aur]at gK;have hle:i0*size+size<=cs.size:=by (rw[gK];have:(i0+(l.length+1))*size=i0*size+size+l.length*size:=by rw[avn,avn];omega);omega
     have zN:=CA v0.cells cs (i0*size);obtain⟨r,e1,e2,e3,e4⟩:=ih (i0+1) parts (v0.cells.zipIdx.foldl (λcs (c,j)=>cs.setIfInBounds (i0*size+j) c) cs) sn
      (λj p hj=>by have:=jw (j+1) p (by simpa using hj);omega) (λv hv=>cP v (auz _ hv))
      (by rw[<-auX,zN,iT,auX,gK];congr 1;omega)
     (have hlen:(v0.cells.zipIdx.foldl (λcs (c,j)=>cs.setIfInBounds (i0*size+j) c) cs).size=cs.size:=by rw[<-auX,zN,iT,auX]);(have hmul:(i0+1)*size=i0*size+size:=by rw[avn];omega);refine⟨r,?_,by rw[e2,hlen],λt ht=>?_,λi v j u hi hj=>?_⟩;simp only[Instr.fill,vU];rw[if_neg (by simp;omega)];exact e1;rw[e3 t (by omega),zN,dx _ _ _ _ (by simp;omega),if_neg (by omega)];cases i with|zero=>(simp only[au4,aug]at hi;subst hi;have vK:j<size:=by rw[<-vU,<-auX];exact(auh.1 hj).1);rw[avo,e3 _ (by omega),zN,dx _ _ _ _ (by simp;omega),if_pos ⟨by omega,by rw[auX,vU];omega⟩];rw[Nat.add_sub_cancel_left];exact hj|succ i=>have:=e4 i v j u (by simpa using hi) hj;rw[show i0+(i+1)=i0+1+i from by omega];exact this
theorem Ld:∀(l:List (Nat×Operand))(k:Nat),qc k l=true->∀(j:Nat)(p:Nat×Operand),l[j]?=some p->p.1=k+j:=by intro l;induction l with|nil=>intro k _ j p h;simp at h|cons q l ih=>intro k h j p hj;obtain⟨i,x⟩:=q;simp only[qc,aul,beq_iff_eq]at h;cases j with|zero=>simp only[au4,aug]at hj;subst hj;simpa using h.1|succ j=>have:=ih (k+1) h.2 j p (by simpa using hj);omega
theorem qB{size:Nat}:∀(l:List AV),oY size l->∀x:AV,x∈l->x.cells.length=size/\x.oc=true:=by intro l;induction l with|nil=>intro _ x h;cases h|cons y l ih=>intro h x hx;rcases auJ.1 hx with rfl|h1;exact h.1;exact ih h.2 x h1
theorem NG{T:TypeId}{cs:Array Value}(h:Rel Γ s a w η)(k:Nat)(hX:∀b o,Γ.No b o->b<Γ.w0.heap.size):bu Γ (w.alloc (.cells cs T)) η s.hp w.heap.size k:=by (refine⟨.inr (.inl h.keeps.size),by simp,λhx=>by have:=hX _ _ hx;have:=h.keeps.size;omega,(bn _ _).2 λr v hv hb=>?_⟩;have gM:r<s.hp.length:=by rw[<-h.heap.len];exact(auh.1 hv).1);(refine⟨s.hp[r],by simp[gM],?_⟩;have ho:s.hp[r]?=some s.hp[r]:=by simp[gM]);cases hk:s.hp[r]with|dead=>exact ai|_=>rw[hk]at ho;have:=h.heap.block ho ai hv hb;omega
theorem og(cv:AV->AV)(YD:∀{a w η},Rel Γ s a w η->∀x v,bo w (bu Γ w η s.hp) η s.hp x v->bo w (bu Γ w η s.hp) [] [] (cv x) v)(aK:Γ.Ok){tab:Nat->Option TD}(aB:bp Γ.P tab){o:Oper}{T n e:Nat}{parts:Array (Nat×Operand)}(ho:o.op=.buildSlice T n parts){d d':TD}(hd:tab T=some d)(hk:d.kind=.kY e)(eJ:tab e=some d')(hn:n=parts.toList.length)(jw:qc 0 parts.toList=true)(Hk:n<=16777216)(Hl:n*d'.size<=16777216)(hl:oY d'.size (parts.toList.map λp=>cv (s.ev p.2)))(hr:Rel Γ s a w η): ∃r:Array Value,(execOp a.eval o).run Γ.P w=.ok (.value (.slice (some ⟨w.heap.size,0,none⟩) n n)) (w.alloc (.cells r e))/\r.size=n*d'.size/\ (parts.toList.map λp=>cv (s.ev p.2)).length=n/\ ∀(i:Nat)(el:AV)(j:Nat)(x:AV),(parts.toList.map λp=>cv (s.ev p.2))[i]?=some el->el.cells[j]?=some x->∃u,r[i*d'.size+j]?=some u/\bo w (bu Γ w η s.hp) [] [] x u/\u.oneCell'=true:=by
 have dK:=aB e d' eJ;have hu:Γ.P.underlying T=some (.slice e):=by obtain⟨u,h2,h3⟩:=(aB T d hd).mL;rw[hk]at h3;rw[h2];exact congrArg some h3
 have hls:=qB _ hl;have dW:∀(j:Nat)(x:AV)(v:Value),(parts.toList.map λp=>cv (s.ev p.2))[j]?=some x->(parts.toList.map λp=>a.eval p.2)[j]?=some v->bo w (bu Γ w η s.hp) [] [] x v:=by intro j x v h1 h2;simp only[auu]at h1 h2;cases hj:parts.toList[j]? with|none=>rw[hj]at h1;cases h1|some p=>rw[hj]at h1 h2;obtain rfl:=auj h1;obtain rfl:=auj h2;exact YD hr _ _ (hr.ev p.2)
 have oh:(parts.toList.map λp=>cv (s.ev p.2)).length=n:=by simp[hn]
 have SJ:(parts.toList.map λp=>a.eval p.2).length=n:=by simp[hn]
 have Hi:∀(j:Nat)(x:AV)(v:Value),(parts.toList.map λp=>cv (s.ev p.2))[j]?=some x->(parts.toList.map λp=>a.eval p.2)[j]?=some v->sR w (bu Γ w η s.hp) [] [] x.cells v.cells.toList:= λj x v h1 h2=>(dW j x v h1 h2).Hh (hls x (auq h1)).2;have alV:∀v:Value,v∈(parts.toList.map λp=>a.eval p.2)->v.cells.size=d'.size:=by (intro v hv;obtain⟨j,hj⟩:=avB hv;have aE:j<n:=by rw[<-SJ];exact(auh.1 hj).1);(have hx:(parts.toList.map λp=>cv (s.ev p.2))[j]?=some (parts.toList.map λp=>cv (s.ev p.2))[j]:=by rw[aun (by rw[oh];exact aE)]);have:=(Hi j _ v hx hj).1;rw[auX]at this;rw[this];exact(hls _ (auq hx)).1
 have fin:∀cs0:Array Value,cs0.size=n*d'.size->∃r,Instr.fill (λi=>some (i*d'.size,d'.size)) cs0 (parts.toList.map λp=>(p.1,a.eval p.2))=some r/\r.size=n*d'.size/\
   ∀(i:Nat)(el:AV)(j:Nat)(x:AV),(parts.toList.map λp=>cv (s.ev p.2))[i]?=some el->el.cells[j]?=some x->∃u,r[i*d'.size+j]?=some u/\bo w (bu Γ w η s.hp) [] [] x u/\u.oneCell'=true:=by
  intro cs0 gK;obtain⟨r,e1,e2,e3,e4⟩:=zP (parts.toList.map λp=>a.eval p.2) 0 (parts.toList.map λp=>(p.1,a.eval p.2)) cs0 (by simp[Function.comp_def]) (λj p hj=>by
   rw[auu]at hj
   cases vK:parts.toList[j]? with
   |none=>rw[vK]at hj;cases hj
   |some q=>
    rw[vK]at hj;obtain rfl:=auj hj
    exact Ld _ _ jw j q vK) alV (by rw[SJ,auO];exact gK)
  refine⟨r,e1,by rw[e2];exact gK,?_⟩;intro i el j x hi hj;have aE:i<n:=by rw[<-oh];exact(auh.1 hi).1
  have hv:(parts.toList.map λp=>a.eval p.2)[i]?=some (parts.toList.map λp=>a.eval p.2)[i]:=by rw[aun (by rw[SJ];exact aE)]
  have h1:=Hi i el _ hi hv;have vK:j<(parts.toList.map λp=>a.eval p.2)[i].cells.toList.length:=by rw[h1.1];exact(auh.1 hj).1
  have hu:(parts.toList.map λp=>a.eval p.2)[i].cells.toList[j]?=some ((parts.toList.map λp=>a.eval p.2)[i].cells.toList[j]):=by rw[aun vK]
  have h2:=e4 i _ j _ hv hu;rw[auO]at h2;exact⟨_,by simpa using h2,h1.2 j x _ hj hu⟩
 have hb:¬n*d'.size>2 ^ 24:=by omega
 by_cases hz:n*d'.size=0;obtain⟨r,e1,e2,e3⟩:=fin ((Array.range (n*d'.size)).map ((#[]:Array Value)[· % (#[]:Array Value).size]!)) (by simp);refine⟨r,?_,e2,oh,e3⟩;simp only[execOp,ho,Instr.buildSlice,ao,run_underlying hu,al,dK.run_sizeOf,Sem.run_ite,if_neg hb,aq,if_pos hz,av1,e1,newRow,run_newObj];rfl;obtain⟨r,e1,e2,e3⟩:=fin ((Array.range (n*d'.size)).map (d'.zero.cells[· % d'.zero.cells.size]!)) (by simp);refine⟨r,?_,e2,oh,e3⟩;simp only[execOp,ho,Instr.buildSlice,ao,run_underlying hu,al,dK.run_sizeOf,Sem.run_ite,if_neg hb,aq,if_neg hz,dK.kf,av1,e1,newRow,run_newObj];rfl
theorem yx(aK:Γ.Ok){tab:Nat->Option TD}(aB:bp Γ.P tab){o:Oper}{T n e:Nat}{parts:Array (Nat×Operand)}(ho:o.op=.buildSlice T n parts){d d':TD}(hd:tab T=some d)(hk:d.kind=.kY e)(eJ:tab e=some d')(hn:n=parts.toList.length)(jw:qc 0 parts.toList=true)(Hk:n<=16777216)(Hl:n*d'.size<=16777216)(hl:oY d'.size (parts.toList.map λp=>(s.ev p.2).cd s.hp))(hr:Rel Γ s a w η): ∃r:Array Value,(execOp a.eval o).run Γ.P w=.ok (.value (.slice (some ⟨w.heap.size,0,none⟩) n n)) (w.alloc (.cells r e))/\r.size=n*d'.size/\ (parts.toList.map λp=>(s.ev p.2).cd s.hp).length=n/\ ∀(i:Nat)(el:AV)(j:Nat)(x:AV),(parts.toList.map λp=>(s.ev p.2).cd s.hp)[i]?=some el->el.cells[j]?=some x->∃u,r[i*d'.size+j]?=some u/\bo w (bu Γ w η s.hp) [] [] x u/\u.oneCell'=true:=og (AV.cd s.hp) (λhr _ _ h=>fN hr.heap hr.cu h) aK aB ho hd hk eJ hn jw Hk Hl hl hr
theorem om(cv:AV->AV)(YD:∀{a w η},Rel Γ s a w η->∀x v,bo w (bu Γ w η s.hp) η s.hp x v->bo w (bu Γ w η s.hp) [] [] (cv x) v)(aK:Γ.Ok){tab:Nat->Option TD}(aB:bp Γ.P tab){o:Oper}{T n e:Nat}{parts:Array (Nat×Operand)}(ho:o.op=.buildSlice T n parts){d d':TD}(hd:tab T=some d)(hk:d.kind=.kY e)(eJ:tab e=some d')(hn:n=parts.toList.length)(jw:qc 0 parts.toList=true)(Hk:n<=16777216)(Hl:n*d'.size<=16777216)(hl:oY d'.size (parts.toList.map λp=>cv (s.ev p.2))):fQ Γ o s (.clip (parts.toList.map λp=>cv (s.ev p.2))):=by
 intro a w η hr;obtain⟨r,e1,_,oh,dT⟩:=og cv YD aK aB ho hd hk eJ hn jw Hk Hl hl hr;have hls:=qB _ hl;have he:=qy (Γ:=Γ) (η:=η) (hp:=s.hp) (ck.alloc w (.cells r e)) (λ_ _=>fk);refine⟨_,_,e1,ck.alloc w (.cells r e),?_⟩;have hm:(parts.toList.map λp=>cv (s.ev p.2)).length<=maxLen:=by rw[oh];simp only[maxLen];omega
 have:=bo.clip (w:=w.alloc (.cells r e)) (F:=bu Γ (w.alloc (.cells r e)) η s.hp) (η:=η) (hp:=s.hp) d'.size (parts.toList.map λp=>cv (s.ev p.2)) w.heap.size 0 (λi j=>(r[i*d'.size+j]?).getD undef) hm
  (λi el hi=>(hls el (auq hi)).1) (λi el j x hi hj=>by
   obtain⟨u,h1,_,h3⟩:=dT i el j x hi hj;rw[h1];refine⟨?_,NG hr _ (λ_ _=>aK.no),h3⟩;rw[auO,World.cell?_alloc_new];exact h1) (λi el j x hi hj=>by
   obtain⟨u,h1,h2,_⟩:=dT i el j x hi hj
   rw[h1];exact h2.ext he.nv.ext)
 rw[oh]at this;exact this
theorem yy(aK:Γ.Ok){tab:Nat->Option TD}(aB:bp Γ.P tab){o:Oper}{T n e:Nat}{parts:Array (Nat×Operand)}(ho:o.op=.buildSlice T n parts){d d':TD}(hd:tab T=some d)(hk:d.kind=.kY e)(eJ:tab e=some d')(hn:n=parts.toList.length)(jw:qc 0 parts.toList=true)(Hk:n<=16777216)(Hl:n*d'.size<=16777216)(hl:oY d'.size (parts.toList.map λp=>(s.ev p.2).cd s.hp)):fQ Γ o s (.clip (parts.toList.map λp=>(s.ev p.2).cd s.hp)):=om (AV.cd s.hp) (λhr _ _ h=>fN hr.heap hr.cu h) aK aB ho hd hk eJ hn jw Hk Hl hl
end
section
variable {G:Type} {Γ:Env G} {s:AS G} {a:Act} {w w':World} {η:List Value} {hp:List ax} {F:Nat->Nat->Prop} {P:Program}
theorem iU(h:Rel Γ s a w η){d n:Int}{x:Operand}(hb:cq s.ev d (some x)=some n):∃k,a.eval x=.int k n:=by unfold cq at hb;simp only at hb;split at hb;rename_i k m he;obtain rfl:=auj hb;have hx:=h.ev x;rw[he]at hx;exact⟨k,hx.aC⟩;cases hb
theorem run_sliceBound(w:World){v:Value}{k:IntKind}{n:Int}(hv:v=.int k n){y:Nat}(h0:0<=n)(h1:n<=y)(code:BoundsCode):(Instr.sliceBound v y code).run P w=.ok n.toNat w:=by subst hv;have:0<=n/\n<=(y:Int):=⟨h0,h1⟩;simp[Instr.sliceBound,asIntOf,this]
theorem bo.Y6{els:List AV}{b o c size:Nat}{x:Value}(cP:∀y:AV,y∈els->y.cells.length=size)(hx:bo w F η hp (.sl els) x)(hv:x=.slice (some ⟨b,o,none⟩) els.length c){l h m:Nat}(hlh:l<=h)(hh:h<=els.length)(hm:h<=m)(hmc:m<=c): bo w F η hp (.sl ((els.take h).drop l)) (.slice (some ⟨b,if m=l then o else o+l*size,none⟩) (h-l) (m-l))/\(h=m->bo w F η hp (.clip ((els.take h).drop l)) (.slice (some ⟨b,if m=l then o else o+l*size,none⟩) (h-l) (h-l))):=by
 have hlen:((els.take h).drop l).length=h-l:=by simp;omega
 cases hx with
  |mR a=>(simp only[auV,Value.slice.injEq,true_and]at hv;obtain⟨rfl,rfl⟩:=hv;obtain rfl:m=0:=by omega);(obtain rfl:h=0:=by omega);(obtain rfl:l=0:=by omega);exact⟨.mR _,λ_=>.jy _⟩|sl w4 _ b' o' c' f hc sn hl aR dW=>
   (simp only[Value.slice.injEq,aug,Addr.mk.injEq,and_true,true_and]at hv;obtain⟨⟨rfl,rfl⟩,rfl⟩:=hv;have dT:∀(i:Nat)(e:AV),((els.take h).drop l)[i]?=some e->els[l+i]?=some e/\m≠l/\w4=size:=by intro i e hi;have aE:=(auh.1 hi).1;rw[hlen]at aE;rw[avp,auC,if_pos (by omega)]at hi;exact⟨hi,by omega,by rw[<-hl _ _ hi];exact cP e (auq hi)⟩);have Hm:∀(i j:Nat),m≠l->w4=size->(if m=l then o' else o'+l*size)+i*size+j=o'+(l+i)*w4+j:=by intro i j h1 h2;rw[if_neg h1,h2,avn];omega
   have key:∀c2,h-l<=c2->c2<=maxLen->bo w F η hp (.sl ((els.take h).drop l)) (.slice (some ⟨b',if m=l then o' else o'+l*size,none⟩) (h-l) c2)/\(c2=h-l->bo w F η hp (.clip ((els.take h).drop l)) (.slice (some ⟨b',if m=l then o' else o'+l*size,none⟩) (h-l) (h-l))):=by
    intro c2 h1 h2;have p1:∀(i:Nat)(e:AV),((els.take h).drop l)[i]?=some e->e.cells.length=size:=λi e hi=>cP e (auq (dT i e hi).1);have p2:∀(i:Nat)(e:AV)(j:Nat)(x:AV),((els.take h).drop l)[i]?=some e->e.cells[j]?=some x->
      w.cell? ⟨b',(if m=l then o' else o'+l*size)+i*size+j,none⟩=some (f (l+i) j)/\F b' ((if m=l then o' else o'+l*size)+i*size+j)/\(f (l+i) j).oneCell'=true:=by
     intro i e j x hi hj;obtain⟨g1,g2,g3⟩:=dT i e hi;rw[Hm i j g2 g3];exact aR _ _ _ _ g1 hj
    have p3:∀(i:Nat)(e:AV)(j:Nat)(x:AV),((els.take h).drop l)[i]?=some e->e.cells[j]?=some x->bo w F [] [] x (f (l+i) j):= λi e j x hi hj=>dW _ _ _ _ (dT i e hi).1 hj;have q1:=bo.sl (η:=η) (hp:=hp) size ((els.take h).drop l) b' (if m=l then o' else o'+l*size) c2 (λi j=>f (l+i) j) (by rw[hlen];exact h1) h2 p1 p2 p3;rw[hlen]at q1;refine⟨q1,λ_=>?_⟩;have q2:=bo.clip (η:=η) (hp:=hp) size ((els.take h).drop l) b' (if m=l then o' else o'+l*size) (λi j=>f (l+i) j) (by rw[hlen];omega) p1 p2 p3;rw[hlen]at q2;exact q2
   refine⟨(key (m-l) (by omega) (by omega)).1,λe=>?_⟩;exact(key (m-l) (by omega) (by omega)).2 (by omega)
theorem zQ{tab:Nat->Option TD}(aB:bp Γ.P tab){o:Oper}{T e:Nat}{x:Operand}{lo hi mx:Option Operand}(ho:o.op=.slice T x lo hi mx){d d':TD}(hd:tab T=some d)(hk:d.kind=.kY e)(eJ:tab e=some d'){els:List AV}(fD:(s.ev x).iQ s.hp=some els){l h:Int}(hl:cq s.ev 0 lo=some l)(hh:cq s.ev els.length hi=some h)(h0:0<=l)(h1:l<=h)(h2:h<=els.length)(cP:∀y:AV,y∈els->y.cells.length=d'.size){r:AV}(hr:(mx=none/\r=.sl ((els.take h.toNat).drop l.toNat))\/(∃y m,mx=some y/\hi.isSome/\cq s.ev 0 (some y)=some m/\h=m/\r=.clip ((els.take h.toNat).drop l.toNat))):fQ Γ o s r:=by (refine bj λa w η hrel=>?_;have hx:=lV hrel.heap hrel.cu (hrel.ev x) fD;have hu:Γ.P.underlying T=some (.slice e):=by obtain⟨u,q2,q3⟩:=(aB T d hd).mL;rw[hk]at q3;rw[q2];exact congrArg some q3);(have Hn:lo=none/\l=0\/∃y k,lo=some y/\a.eval y=.int k l:=by cases lo with|none=>simp[cq]at hl;exact .inl ⟨rfl,hl.symm⟩|some y=>obtain⟨k,hk⟩:=iU hrel hl;exact .inr ⟨y,k,rfl,hk⟩);(have hhv:hi=none/\h=els.length\/∃y k,hi=some y/\a.eval y=.int k h:=by cases hi with|none=>simp[cq]at hh;exact .inl ⟨rfl,hh.symm⟩|some y=>obtain⟨k,hk⟩:=iU hrel hh;exact .inr ⟨y,k,rfl,hk⟩);(have K3:∃ad c,a.eval x=.slice ad els.length c/\els.length<=c:=by generalize a.eval x=v at hx;cases hx with|mR a=>exact⟨a,0,rfl,aum _⟩|sl size els b o c f hc hm hl aR hr=>exact⟨_,c,rfl,hc⟩);(obtain⟨ad,c,vL,NH⟩:=K3;have sG:=(aB e d' eJ).run_sizeOf w;have hb:∃m:Nat,(Instr.sliceBounds true els.length c (lo.map a.eval) (hi.map a.eval) (mx.map a.eval)).run Γ.P w=.ok (l.toNat,h.toNat,m) w/\h.toNat<=m/\m<=c/\(mx≠none->m=h.toNat):=by rcases hr with⟨rfl,_⟩|⟨y,m,rfl,his,hm,rfl,_⟩;refine⟨c,?_,by omega,aum _,λh=>(h rfl).elim⟩;rcases hhv with⟨rfl,rfl⟩|⟨y,k,rfl,hv⟩;rcases Hn with⟨rfl,rfl⟩|⟨y0,k0,rfl,vU⟩;simp[Instr.sliceBounds];have Sj:=run_sliceBound (P:=Γ.P) w vU (y:=els.length) h0 (by omega) .sliceB;simp[Instr.sliceBounds,Sj];have hs:=run_sliceBound (P:=Γ.P) w hv (y:=c) (by omega) (by omega) .sliceAcap;rcases Hn with⟨rfl,rfl⟩|⟨y0,k0,rfl,vU⟩;simp[Instr.sliceBounds,hs];have Sj:=run_sliceBound (P:=Γ.P) w vU (y:=h.toNat) h0 (by omega) .sliceB;simp[Instr.sliceBounds,hs,Sj];obtain⟨k2,hv2⟩:=iU hrel hm;refine⟨h.toNat,?_,aum _,by omega,λ_=>rfl⟩;rcases hhv with⟨rfl,_⟩|⟨y',k,rfl,hv⟩;simp at his;have hs2:=run_sliceBound (P:=Γ.P) w hv2 (y:=c) (by omega) (by omega) .slice3Acap;have hs:=run_sliceBound (P:=Γ.P) w hv (y:=h.toNat) (by omega) (by omega) .slice3B;rcases Hn with⟨rfl,rfl⟩|⟨y0,k0,rfl,vU⟩;simp[Instr.sliceBounds,hs,hs2];have Sj:=run_sliceBound (P:=Γ.P) w vU (y:=h.toNat) h0 (by omega) .slice3C;simp[Instr.sliceBounds,hs,hs2,Sj]);(obtain⟨m,gY,Da,si,hm3⟩:=hb;have hex:(execOp a.eval o).run Γ.P w=.ok (.value (.slice (if m=l.toNat then ad else ad.map (·.add (l.toNat*d'.size))) (h.toNat-l.toNat) (m-l.toNat))) w:=by simp only[execOp,ho,Instr.sliceAt,ao,run_underlying hu,al,Instr.slice,vL,gY,sG,aq]);(refine⟨_,hex,?_⟩;have SK:(els=[]/\c=0)\/∃b o,ad=some ⟨b,o,none⟩:=by have lG:=hx;rw[vL]at lG;generalize hv:Value.slice ad els.length c=v at lG;cases lG with|mR a=>simp at hv;exact .inl ⟨rfl,hv.2⟩|sl size els b o c f hc hm hl aR hr=>simp at hv;exact .inr ⟨b,o,hv.1⟩);rw[vL]at hx;rcases SK with⟨rfl,rfl⟩|⟨b,o',rfl⟩;(have e1:l.toNat=0:=by simp at h2;omega);(have e2:h.toNat=0:=by simp at h2;omega);(have e3:m=0:=by omega);rw[e1,e2,e3];simp only[if_true,avH];rcases hr with⟨_,rfl⟩|⟨_,_,_,_,_,_,rfl⟩;simpa using bo.mR ad;simpa using bo.jy ad;(have vL:=vL;obtain⟨q1,q2⟩:=hx.Y6 cP rfl (l:=l.toNat) (h:=h.toNat) (m:=m) (by omega) (by omega) Da si;have Le:(if m=l.toNat then some (⟨b,o',none⟩:Addr)else(some (⟨b,o',none⟩:Addr)).map (·.add (l.toNat*d'.size)))=some ⟨b,if m=l.toNat then o' else o'+l.toNat*d'.size,none⟩:=by split<;>simp[Addr.add_lit]);rw[Le];rcases hr with⟨_,rfl⟩|⟨y,m',hmx,_,_,_,rfl⟩;exact q1;have:=hm3 (by rw[hmx];simp);subst this;exact q2 rfl
theorem SL(a b:aw):(a==b)=decide (a=b):=by obtain⟨a⟩:=a;obtain⟨b⟩:=b;show (a==b)=_;by_cases h:a=b;subst h;simp;have:¬(ByteArray.mk a=ByteArray.mk b):=λe=>h (by injection e);rw[decide_eq_false this];simpa using h
structure QA{κ:Type}[DecidableEq κ](td:TypeDesc)(kv:κ->Value)(me:List (κ×Value)->ME):Prop where
 me:∀l,Qt (me l)=l.map λp=>(kv p.1,p.2)
 same:∀a b,Instr.sameNow td (kv a) (kv b)=some (decide (a=b))
 check:∀(P:Program)(kt:TypeId)(e:Bool)(v:Value)(w:World),P.underlying kt=some td->(Instr.checkKey e 10000 kt v).run P w=.ok () w
 bits:∀a,Instr.sameBits 10000 (kv a) (kv a)=true
theorem EM{κ:Type}[DecidableEq κ]{td:TypeDesc}{kv:κ->Value}{me:List (κ×Value)->ME}(K:QA td kv me){a:κ}:∀(es:List MapEntry)(l:List (κ×Value))(i:Nat),(es.map λe=>(e.key,e.val))=l.map (λp=>(kv p.1,p.2))-> (∃r,Instr.findNow td (kv a) es i=some r/\r.map (·.2)=aL l a)/\ (aL l a=none->Instr.findNow td (kv a) es i=some none):=by
 intro es;induction es with
  |nil=>intro l i h;cases l with|nil=>exact⟨⟨none,rfl,rfl⟩,λ_=>rfl⟩|cons p l=>simp at h
  |cons e es ih=>intro l i h;cases l with|nil=>simp at h|cons p l=>obtain⟨key,v⟩:=p;simp only[auL,List.cons.injEq,auk]at h;obtain⟨⟨h1,h2⟩,h3⟩:=h;obtain⟨⟨r,g1,g2⟩,g3⟩:=ih l (i+1) h3;simp only[Instr.findNow,h1,K.same,aL];by_cases hak:a=key;subst hak;simp[h2];simp only[if_neg hak,decide_eq_false hak];exact⟨⟨r,g1,g2⟩,g3⟩
theorem tX{kt:TypeId}{k:IntKind}(hk:P.underlying kt=some (.int k))(e:Bool)(n:Nat)(v:Value)(w:World):(Instr.checkKey e (n+1) kt v).run P w=.ok () w:=by unfold Instr.checkKey;simp only[ao,run_underlying hk,Result.andThen];cases v<;>rfl
theorem agz(k:IntKind):QA (.int k) (λa:Int=>.int .i64 a) .i:=⟨λ_=>rfl,λa b=>by simp[Instr.sameNow];rfl,λP kt e v w hk=>tX hk e 9999 v w,λa=>by simp[Instr.sameBits]⟩
theorem agA:QA .string (λa:aw=>.string a) .s:=
 ⟨λ_=>rfl,λa b=>by simp only[Instr.sameNow,SL],λP kt e v w hk=>by
  unfold Instr.checkKey;simp only[ao,run_underlying hk,Result.andThen]
  cases v<;>rfl,λa=>by simp[Instr.sameBits,SL]⟩
theorem w9{κ:Type}[DecidableEq κ]{td:TypeDesc}{kv:κ->Value}{me:List (κ×Value)->ME}(K:QA td kv me){tab:Nat->Option TD}(aB:bp Γ.P tab){o:Oper}{T kt et:Nat}{m key:Operand}{ok:Bool}(ho:o.op=.lookup T m key ok){d dk de:TD}(hd:tab T=some d)(hk:d.kind=.qo kt et)(sq:tab kt=some dk)(yW:∀u,dk.kind.fits Γ.P u->u=td)(Ho:tab et=some de){es:List (κ×Value)}(hm:(s.ev m).C7 s.hp=some (me es)){a:κ}(alX:s.ev key=.ay (kv a)):fQ Γ o s (iS es de.zero a ok):=by
 refine bj λact w η hr=>?_;have hu:Γ.P.underlying T=some (.map kt et):=by obtain⟨u,q2,q3⟩:=(aB T d hd).mL;rw[hk]at q3;rw[q2];exact congrArg some q3
 have Y7:Γ.P.underlying kt=some td:=by obtain⟨u,q2,q3⟩:=(aB kt dk sq).mL;rw[q2];exact congrArg some (yW u q3)
 have hkr:=hr.ev key;rw[alX]at hkr;have hkv:=hkr.aC;have Y8:=hr.ev m;have ad4:∃b en c,act.eval m=.map (some b)/\w.heap[b]?=some (.map en c)/\nZ en=Qt (me es):=by
  generalize s.ev m=x at hm Y8;cases x with
   |eo l=>simp only[AV.C7,aug]at hm;subst hm;generalize act.eval m=v at Y8;cases Y8 with|eo b en c h1 h2 _ hl=>exact⟨b,en,c,rfl,h1,hl⟩
   |mp r=>simp only[AV.C7]at hm;split at hm;rename_i es' Y9;obtain rfl:=auj hm;generalize act.eval m=v at Y8;(cases Y8 with|mp _ b fL=>obtain⟨b',en,c,e1,e2,e3⟩:=hr.heap.obj r _ _ Y9 fL;simp only[Value.map.injEq,aug]at e1;subst e1;exact⟨b,en,c,rfl,e2,e3⟩);cases hm|_=>simp[AV.C7]at hm
 obtain⟨b,en,c,Sl,kR,zR⟩:=ad4;obtain⟨⟨r,g1,g2⟩,g3⟩:=EM K (a:=a) en.toList es 0 (zR.trans (K.me es));have dT:(getObj b).run Γ.P w=.ok (.map en c) w:=by simp[getObj,Sem.run,kR]
 have qC:(Instr.findKey kt (kv a) en.toList).run Γ.P w=.ok r w:=by simp only[Instr.findKey,ao,run_underlying Y7,al,g1,aq]
 have hz:=(aB et de Ho).kf w;cases r with
  |none=>
   have hg:aL es a=none:=g2.symm;cases ok with
    |true=>refine⟨.tuple #[de.zero,.bool false],?_,?_⟩;simp only[execOp,ho,Sl,hkv,Instr.lookup,ao,run_underlying hu,al,dT,aq,K.check _ _ _ _ _ Y7,qC,hz,if_true];simp only[iS,hg,if_true,Option.getD_none,Option.isSome_none];exact .aG _ _ rfl λj x v hx hv=>by match j with|0=>simp at hx hv;subst hx;subst hv;exact oa _|1=>simp at hx hv;subst hx;subst hv;exact .ay _|j+2=>simp at hx
    |false=>refine⟨de.zero,?_,?_⟩;simp only[execOp,ho,Sl,hkv,Instr.lookup,ao,run_underlying hu,al,dT,aq,K.check _ _ _ _ _ Y7,qC,hz,auE,if_false];simp only[iS,hg,auE,if_false,Option.getD_none];exact oa _
  |some q=>
   obtain⟨i,v⟩:=q;have hg:aL es a=some v:=g2.symm;cases ok with
    |true=>refine⟨.tuple #[v,.bool true],?_,?_⟩;simp only[execOp,ho,Sl,hkv,Instr.lookup,ao,run_underlying hu,al,dT,aq,K.check _ _ _ _ _ Y7,qC,if_true];simp only[iS,hg,if_true,avd,Option.isSome_some];exact .aG _ _ rfl λj x v hx hv=>by match j with|0=>simp at hx hv;subst hx;subst hv;exact oa _|1=>simp at hx hv;subst hx;subst hv;exact .ay _|j+2=>simp at hx
    |false=>refine⟨v,?_,?_⟩;simp only[execOp,ho,Sl,hkv,Instr.lookup,ao,run_underlying hu,al,dT,aq,K.check _ _ _ _ _ Y7,qC,auE,if_false];simp only[iS,hg,auE,if_false,avd];exact oa _
end
section
variable {G:Type} {Γ:Env G} {s:AS G} {a:Act} {w w':World} {η:List Value} {hp:List ax} {F:Nat->Nat->Prop} {P:Program}
theorem CB{tab:Nat->Option TD}(aB:bp Γ.P tab){o:Oper}{T:Nat}{x:Operand}{lo hi:Option Operand}(ho:o.op=.slice T x lo hi none){d:TD}(hd:tab T=some d)(hk:d.kind=.str){b:aw}(hx:s.ev x=.ay (.string b)){l h:Int}(hl:cq s.ev 0 lo=some l)(hh:cq s.ev b.size hi=some h)(h0:0<=l)(h1:l<=h)(h2:h<=b.size):fQ Γ o s (.ay (.string (b.extract l.toNat h.toNat))):=by (refine bj λa w η hrel=>⟨_,?_,.ay _⟩;have eV:=hrel.ev x;rw[hx]at eV;have vL:=eV.aC;have hu:Γ.P.underlying T=some .string:=by obtain⟨u,q2,q3⟩:=(aB T d hd).mL;rw[hk]at q3;rw[q2];exact congrArg some q3);(have Hn:lo=none/\l=0\/∃y k,lo=some y/\a.eval y=.int k l:=by cases lo with|none=>simp[cq]at hl;exact .inl ⟨rfl,hl.symm⟩|some y=>obtain⟨k,hk⟩:=iU hrel hl;exact .inr ⟨y,k,rfl,hk⟩);(have hhv:hi=none/\h=b.size\/∃y k,hi=some y/\a.eval y=.int k h:=by cases hi with|none=>simp[cq]at hh;exact .inl ⟨rfl,hh.symm⟩|some y=>obtain⟨k,hk⟩:=iU hrel hh;exact .inr ⟨y,k,rfl,hk⟩);rcases hhv with⟨rfl,rfl⟩|⟨y,k,rfl,hv⟩;rcases Hn with⟨rfl,rfl⟩|⟨y0,k0,rfl,vU⟩;simp[execOp,ho,Instr.sliceAt,run_underlying hu,Instr.slice,vL,Instr.sliceBounds];have Sj:=run_sliceBound (P:=Γ.P) w vU (y:=b.size) h0 (by omega) .sliceB;simp[execOp,ho,Instr.sliceAt,run_underlying hu,Instr.slice,vL,Instr.sliceBounds,Sj];have hs:=run_sliceBound (P:=Γ.P) w hv (y:=b.size) (by omega) (by omega) .sliceAlen;rcases Hn with⟨rfl,rfl⟩|⟨y0,k0,rfl,vU⟩;simp[execOp,ho,Instr.sliceAt,run_underlying hu,Instr.slice,vL,Instr.sliceBounds,hs];have Sj:=run_sliceBound (P:=Γ.P) w vU (y:=h.toNat) h0 (by omega) .sliceB;simp[execOp,ho,Instr.sliceAt,run_underlying hu,Instr.slice,vL,Instr.sliceBounds,hs,Sj]
theorem zS(aK:Γ.Ok){tab:Nat->Option TD}(aB:bp Γ.P tab){o:Oper}{c:Prop}{r:AV}(h:bK tab s.hp s.ev o.op=some (c,r))(hc:c):fQ Γ o s r:=by
 generalize ho:o.op=op at h;cases op with
  |move x=>simp only[bK,aug,auk]at h;obtain⟨_,rfl⟩:=h;exact bj λa w η hr=>⟨a.eval x,by simp[execOp,ho],hr.ev x⟩|assign x=>simp only[bK,aug,auk]at h;obtain⟨_,rfl⟩:=h;exact bj λa w η hr=>⟨a.eval x,by simp[execOp,ho],hr.ev x⟩|nilCheck x=>simp only[bK]at h;split at h;(rename_i r0 o0 hx;simp only[aug,auk]at h;obtain⟨_,rfl⟩:=h;refine bj λa w η hr=>?_;have hp:=hr.ev x;rw[hx]at hp;obtain⟨b,hb⟩:∃b,a.eval x=.pointer (some b):=by generalize a.eval x=v at hp;cases hp;exact⟨_,rfl⟩);exact⟨a.eval x,by simp[execOp,ho,hb],hp⟩;(rename_i r0 o0 hx;simp only[aug,auk]at h;obtain⟨_,rfl⟩:=h;refine bj λa w η hr=>?_;have hp:=hr.ev x;rw[hx]at hp;obtain⟨b,hb⟩:∃b,a.eval x=.pointer (some b):=by generalize a.eval x=v at hp;cases hp;exact⟨_,rfl⟩);exact⟨a.eval x,by simp[execOp,ho,hb],hp⟩;cases h|pick cc x y=>simp only[bK]at h;split at h;rename_i t ht;simp only[aug,auk]at h;obtain⟨_,rfl⟩:=h;exact Qx ho ht;cases h|fieldAddr T x f=>simp only[bK]at h;split at h;rename_i p hp;split at h;cases h;rename_i h0;split at h;rename_i n off he;simp only[aug,auk]at h;exact qA aB ho hp h0 (.inl ⟨n,off,he,h.2.symm⟩);rename_i e off he;simp only[aug,auk]at h;exact qA aB ho hp h0 (.inr ⟨e,off,he,h.2.symm⟩);rename_i r0 m0 i0 z0 he;split at h;rename_i hz;simp only[aug,auk]at h;obtain⟨_,rfl⟩:=h;exact yq aB ho hp h0 he hz;cases h;cases h;cases h|load T x=>simp only[bK]at h;split at h;rename_i d hd;split at h;rename_i n off he;split at h;rename_i cs gK;(cases hl:gj d.kind.agg d.size cs off with|none=>rw[hl]at h;cases h|some v=>rw[hl]at h;simp only[auT,aug,auk]at h;obtain⟨_,rfl⟩:=h;exact C8 aB ho hd (.inl ⟨n,off,cs,he,gK,hl⟩));cases h;rename_i e off he;(cases hl:zH d.kind.agg d.size e off with|none=>rw[hl]at h;cases h|some v=>rw[hl]at h;simp only[auT,aug,auk]at h;obtain⟨_,rfl⟩:=h;exact C8 aB ho hd (.inr ⟨e,off,he,hl⟩));rename_i r0 m0 i0 z0 he;split at h;rename_i e0 z' els sk;split at h;(rename_i oT;obtain⟨rfl,He⟩:=oT;simp only[aug,auk]at h;obtain⟨rfl,rfl⟩:=h;have hg:els.getD i0 .top=els[i0]'hc.2.1:=by simp[ae,hc.2.1]);rw[hg]at hc ⊢;exact K7 aB ho hd he sk hc.1 He hc.2.1 hc.2.2;cases h;cases h;cases h;cases h|indexAddr T x i=>simp only[bK]at h;split at h;rename_i d hd;split at h;rename_i e hk;split at h;rename_i d' els k n eJ fD hi;simp only[aug,auk]at h;obtain⟨rfl,rfl⟩:=h;exact zL aB ho hd hk eJ fD hi hc.1 hc.2.1 hc.2.2;rename_i d' k n eJ fD hi;split at h;rename_i r m e' size k' hm;split at h;rename_i oT;simp only[aug,auk]at h;obtain⟨rfl,rfl⟩:=h;obtain⟨hx,els,sk,rfl⟩:=rO hm;obtain⟨rfl,rfl⟩:=oT;exact yu aB ho hd hk eJ hx sk hc.2.2 hi hc.1 hc.2.1;cases h;cases h;cases h;rename_i m hk;split at h;rename_i r k n hx hi;simp only[aug,auk]at h;obtain⟨rfl,rfl⟩:=h;exact yr aB ho hd hk hx hi hc.1 hc.2;rename_i e k n hx hi;simp only[aug,auk]at h;obtain⟨rfl,rfl⟩:=h;exact yt aB ho hd hk hx hi hc.1 hc.2;cases h;cases h;cases h|binOp op T x y T'=>simp only[bK]at h;split at h;rename_i v hv;simp only[aug,auk]at h;obtain⟨_,rfl⟩:=h;exact SE aB ho hv;exact Hf aB ho h hc|convert S D x=>simp only[bK]at h;obtain⟨r',h1,h2⟩:=au8.1 h;simp only[auk]at h2;rw[<-h2.2];exact SF aB ho h1|unOp op T x=>simp only[bK]at h;split at h;rename_i b he;simp only[aug,auk]at h;exact C9 ho (.inl ⟨b,rfl,he,h.2.symm⟩);rename_i k n he;simp only[aug,auk]at h;exact C9 ho (.inr ⟨k,n,rfl,he,h.2.symm⟩);cases h|build T parts=>simp only[bK]at h;split at h;rename_i d hd;split at h;rename_i fs hk;(cases hl:dR fs (d.zero.cells.toList.map .ay) (parts.toList.map λp=>(p.1,s.ev p.2))with|none=>rw[hl]at h;cases h|some cs=>rw[hl]at h;simp only[auT,aug,auk]at h;obtain⟨_,rfl⟩:=h;exact Lc aB ho hd hk hl);rename_i n hk;(cases hl:dR (zI n) (d.zero.cells.toList.map .ay) (parts.toList.map λp=>(p.1,s.ev p.2))with|none=>rw[hl]at h;cases h|some cs=>rw[hl]at h;simp only[auT,aug,auk]at h;obtain⟨_,rfl⟩:=h;exact Hj aB ho hd hk hl);cases h;cases h|buildSlice T n parts=>simp only[bK]at h;split at h;rename_i d hd;split at h;rename_i e hk;split at h;rename_i d' eJ;split at h;rename_i oe;simp only[aug,auk]at h;obtain⟨rfl,rfl⟩:=h;exact yy aK aB ho hd hk eJ oe.1 oe.2.1 oe.2.2.1 oe.2.2.2 hc;cases h;cases h;cases h;cases h|field T x f=>simp only[bK]at h;split at h;rename_i p cs hp hx;split at h;rename_i oe;(cases hl:gj p.2.2 p.2.1 cs p.1 with|none=>rw[hl]at h;cases h|some v=>rw[hl]at h;simp only[auT,aug,auk]at h;obtain⟨_,rfl⟩:=h;exact Lb aB ho hp hx hl λhf=>by rcases oe with h1|h1;rw[h1]at hf;cases hf;exact h1);cases h;cases h|lookup T m k ok=>simp only[bK]at h;split at h;rename_i d es a hd hm hk;split at h;rename_i kt et qD;split at h;rename_i dk de sq Ho;split at h;rename_i ik yW;simp only[aug,auk]at h;obtain⟨_,rfl⟩:=h;exact w9 (agz ik) aB ho hd qD sq (λu hu=>by rw[yW]at hu;exact hu) Ho hm hk;cases h;cases h;cases h;rename_i d es a hd hm hk;split at h;rename_i kt et qD;split at h;rename_i dk de sq Ho;split at h;rename_i yW;simp only[aug,auk]at h;obtain⟨_,rfl⟩:=h;exact w9 agA aB ho hd qD sq (λu hu=>by rw[yW]at hu;exact hu) Ho hm hk;cases h;cases h;cases h;cases h|index T x i=>simp only[bK]at h;split at h;rename_i d b k n hd hx hi;split at h;(rename_i hk;simp only[aug,auk]at h;obtain⟨rfl,rfl⟩:=h;refine bj λa w η hr=>?_;have h1:=hr.ev x;rw[hx]at h1;have h1:=h1.aC;have h2:=hr.ev i;rw[hi]at h2;have h2:=h2.aC;have hu:Γ.P.underlying T=some .string:=by obtain⟨u,q2,q3⟩:=(aB T d hd).mL;rw[hk]at q3;rw[q2];exact congrArg some q3);(obtain⟨h3,h4⟩:=hc;have aE:n.toNat<b.size:=by omega);(refine⟨.int .u8 (dX b n),?_,.ay _⟩;have e:b[n.toNat]?=some b[n.toNat]:=getElem?_pos b n.toNat aE;have e2:dX b n=(b[n.toNat].toNat:Int):=by (unfold dX;have:b.data[n.toNat]?=some b[n.toNat]:=by rw[ava (by exact aE)];rfl);rw[this];rfl);simp only[execOp,ho,h1,h2,Instr.index,asIntOf,ao,aq,al,run_underlying hu,if_pos h3,e,e2];cases h;cases h|extract x i=>simp only[bK]at h;split at h;rename_i vs he;(cases hl:vs[i]? with|none=>rw[hl]at h;cases h|some v=>rw[hl]at h;simp only[auT,aug,auk]at h;obtain⟨_,rfl⟩:=h;exact EK ho he hl);cases h|makeFunc fn first caps=>cases fn with|func f=>simp only[bK]at h;split at h;rename_i h0;simp only[aug,auk]at h;obtain⟨_,rfl⟩:=h;exact Cz ho h0;split at h;rename_i h0;simp only[aug,auk]at h;obtain⟨_,rfl⟩:=h;exact yw ho h0;cases h|_=>simp[bK]at h
  |slice T x lo hi mx=>simp only[bK]at h;split at h;rename_i d hd;split at h;rename_i b hk hx;split at h;rename_i l h' hl hh;simp only[aug,auk]at h;obtain⟨rfl,rfl⟩:=h;exact CB aB ho hd hk hx hl hh hc.1 hc.2.1 hc.2.2;cases h;rename_i e hk;split at h;rename_i els d' fD eJ;split at h;(rename_i l h' hl hh hm;simp only[aug,auk]at h;obtain⟨rfl,rfl⟩:=h;have hmx:mx=none:=by cases mx<;>simp_all);exact zQ aB ho hd hk eJ fD hl hh hc.1 hc.2.1 hc.2.2.1 hc.2.2.2 (.inl ⟨hmx,rfl⟩);rename_i l h' m hl hh hm;split at h;rename_i his;simp only[aug,auk]at h;obtain⟨rfl,rfl⟩:=h;(cases mx with|none=>simp at hm|some y=>simp only[auT,aug]at hm;exact zQ aB ho hd hk eJ fD hl hh hc.1 hc.2.1 hc.2.2.2.1 hc.2.2.2.2 (.inr ⟨y,m,rfl,his,hm,hc.2.2.1,rfl⟩));cases h;cases h;cases h;cases h;cases h|call cl=>
   simp only[bK]at h;split at h;rename_i x hb hl;split at h;(rename_i d hd;have hT:∃T,cl.argTypes[0]?=some T/\tab T=some d:=by cases hT:cl.argTypes[0]? with|none=>rw[hT]at hd;cases hd|some T=>rw[hT]at hd;exact⟨T,rfl,hd⟩);obtain⟨T,hT,hd⟩:=hT;split at h;cases h;rename_i e hk hns;split at h;case h_2=>
    split at h
    ·rename_i r0 m0 e0 z0 k0 hm;simp only[aug,auk]at h;obtain⟨rfl,rfl⟩:=h;obtain⟨hx,els,sk,rfl⟩:=rO hm;exact Qz aB ho hb hl hT hd hk hx sk hc
    ·cases h
   (rename_i u hu;simp only[aug,auk]at h;obtain⟨_,rfl⟩:=h;have h:(vV s.hp (s.ev x))=some u:=hu;have Hn:∃els,(s.ev x).iQ s.hp=some els/\u=.ay (.int .i64 els.length):=by unfold vV at h;split at h;rename_i sb he;exact(hns sb he).elim;cases fD:(s.ev x).iQ s.hp with|none=>rw[fD]at h;cases h|some els=>rw[fD]at h;exact⟨els,rfl,(auj h).symm⟩);obtain⟨els,h1,h2⟩:=Hn;exact Hg aB ho hb hl hT hd (.inl ⟨e,els,hk,h1,h2⟩);rename_i b hk hx;simp only[aug,auk]at h;exact Hg aB ho hb hl hT hd (.inr ⟨b,hk,hx,h.2.symm⟩);cases h;cases h;rename_i x y hb hl;split at h;rename_i k m k' n hx hy;simp only[aug,auk]at h;obtain⟨_,rfl⟩:=h;exact SH ho hb hl hx hy;cases h;rename_i x y hb hl;split at h;rename_i k m k' n hx hy;simp only[aug,auk]at h;obtain⟨_,rfl⟩:=h;exact SI ho hb hl hx hy;cases h;cases h
  |_=>simp[bK]at h
end
section
variable {G:Type} {Γ:Env G} {s:AS G} {a:Act} {w w':World} {η:List Value} {hp:List ax} {F:Nat->Nat->Prop} {P:Program}
def iB(Γ:Env G)(o:Oper)(s:AS G)(r:AV)(hp':List ax):Prop:=
 ∀a w η,Rel Γ s a w η->∃v w' bh,((execOp a.eval o).run Γ.P w=.ok (.value v) w'\/(execOp a.eval o).run Γ.P w=.ok .skip w'/\v=undef)/\
  Rel Γ { s with hp:=hp' } a w' bh/\bo w' (bu Γ w' bh hp') bh hp' r v
def bB(d:TD)(n:Nat)(els aM:List AV):Prop:=(∀x:AV,x∈els->x.cells.length=d.size)/\(∀x:AV,x∈aM->x.cells.length=d.size)/\n<=maxLen/\n*d.bytes<=140737488355328
def cD{κ:Type}[DecidableEq κ]:List (κ×Value)->κ->Value->List (κ×Value)
 | [],a,v=>[(a,v)]|(k,u)::r,a,v=>if a=k then(k,v)::r else(k,u)::cD r a v
def yX:Operand->Operand->Bool
 | .tmp a,.tmp b=>Nat.beq a b|_,_=>false
theorem Lf{l c:Operand}(h:yX l c=true):l=c:=by unfold yX at h;split at h;rw[auG h];cases h
def Hp(d:TD):Option Value:=
 match Nat.beq d.size 1,d.zero.cells.toList with
 |true,[z]=>if z.oneCell'=true then some z else none
 |_,_=>none
theorem SM{d:TD}{z:Value}(h:Hp d=some z):d.size=1/\d.zero.cells=#[z]/\z.oneCell'=true:=by unfold Hp at h;split at h;rename_i z' h1 h2;split at h;rename_i h3;obtain rfl:=auj h;exact⟨auG h1,by apply avy;simpa using h2,h3⟩;cases h;cases h
def eK(tab:Nat->Option TD)(hp:List ax)(ρ:Operand->AV):Op->Option (Prop×AV×List ax)
 | .alloc T=>(match tab T with|some d=>some (True,.ptr hp.length 0,hp++[.box (d.zero.cells.toList.map .ay)])|none=>none)| .box _ x=>if(ρ x).oc=true then some (True,.ptr hp.length 0,hp++[.box (ρ x).cells])else none| .store T p x=>(match tab T,ρ p with|some d,.ptr r o=>(match hp[r]? with|some (.box cs)=>if(ρ x).oc=true then some ((ρ x).cells.length=d.size/\o+d.size<=cs.length,.top,hp.set r (.box (setCells cs o (ρ x).cells)))else none|_=>none)|some d,.gb r m i z=>(match hp[r]? with|some (.aW e size els)=>if((ρ x).fI hp).oc=true/\size=z then(if d.size=z then some (((ρ x).fI hp).cells.length=d.size/\m=els.length/\i<els.length,.top,hp.set r (.aW e size (els.set i ((ρ x).fI hp))))else some (((ρ x).fI hp).cells.length=d.size/\d.size<=z/\m=els.length/\i<els.length,.top,hp.set r (.aW e size (els.set i (.agg (setCells (els.getD i .top).cells 0 ((ρ x).fI hp).cells))))))else none|_=>none)|_,_=>none)| .makeSlice T l c=>(match tab T with|some d=>(match d.kind with| .kY e=>(match yX l c with|true=>(match tab e,ρ c with|some d',.ay (.int _ n)=>(match Hp d' with|some z=>some (0<=n/\n<=9223372036854775807/\(d'.bytes:Int)*n<=281474976710656,.own hp.length (List.replicate n.toNat (AV.ay z)).length,hp++[.aW e 1 (List.replicate n.toNat (.ay z))])|none=>none)|_,_=>none)|false=>(match tab e,ρ l,ρ c with|some d',.ay (.int _ 0),.ay (.int _ n)=>some (0<=n/\n<=9223372036854775807/\(d'.bytes:Int)*n<=281474976710656/\0<d'.size,.own hp.length 0,hp++[.row e d'.size []])|_,_,_=>none))|_=>none)|none=>none)| .makeMap T none=>(match tab T with|some d=>(match d.kind with| .qo kt _=>(match tab kt with|some dk=>(match dk.kind with| .str=>some (True,.mp hp.length,hp++[.cJ (.s [])])|_=>some (True,.mp hp.length,hp++[.cJ (.i [])]))|none=>none)|_=>none)|none=>none)| .mapUpdate T m k x=>(match tab T,ρ m,ρ k,(ρ x).val? with|some d,.mp r,.ay (.int .i64 a),some v=>(match d.kind,hp[r]? with| .qo kt _,some (.cJ (.i es))=>(match tab kt with|some dk=>(match dk.kind with| .int _=>some (True,.top,hp.set r (.cJ (.i (cD es a v))))|_=>none)|none=>none)|_,_=>none)|some d,.mp r,.ay (.string a),some v=>(match d.kind,hp[r]? with| .qo kt _,some (.cJ (.s es))=>(match tab kt with|some dk=>(match dk.kind with| .str=>some (True,.top,hp.set r (.cJ (.s (cD es a v))))|_=>none)|none=>none)|_,_=>none)|_,_,_,_=>none)| .call c=>(match c.callee,c.args.toList,c.argTypes.toList with| .builtin .append,[b,x],[T,T']=>if T=T' then(match tab T with|some d=>(match d.kind with| .kY e=>(match tab e,(ρ x).iQ hp with|some d',some aM=>(match ρ b with| .ay (.slice none 0 0)=>some (0<d'.size/\bB d' aM.length [] aM,.own hp.length aM.length,hp++[.row e d'.size aM])| .clip els=>some (0<d'.size/\(aM=[]->els=[])/\bB d' (els.length+aM.length) els aM,.own hp.length (els.length+aM.length),hp++[.row e d'.size (els++aM)])| .own r n=>(match hp[r]? with|some (.row e' size els)=>if e'=e/\size=d'.size/\n=els.length then some (bB d' (els.length+aM.length) [] aM,.own r (els.length+aM.length),hp.set r (.row e size (els++aM)))else none|some (.aW e' size els)=>if e'=e/\size=d'.size/\n=els.length then some (bB d' (els.length+aM.length) [] aM,.own r (els.length+aM.length),hp.set r (.aW e size (els++aM)))else none|_=>none)|_=>none)|_,_=>none)|_=>none)|none=>none)else none|_,_,_=>none)|_=>none
theorem SN(aK:Γ.Ok){o:Oper}{T:Nat}{x:Operand}(ho:o.op=.box T x)(hs:(s.ev x).oc=true):iB Γ o s (.ptr s.hp.length 0) (s.hp++[.box (s.ev x).cells]):=by
 intro a w η hr;have Hi:=(hr.ev x).Hh hs;have xa:=ck.alloc w (.cells (a.eval x).cells T);have he:=tR (Γ:=Γ) (o:=.box (s.ev x).cells) (v:=.pointer (some ⟨w.heap.size,0,none⟩)) hr.heap.len xa (λb hb=>by simp only[da,aug]at hb;omega);refine⟨.pointer (some ⟨w.heap.size,0,none⟩),_,η++[.pointer (some ⟨w.heap.size,0,none⟩)],.inl (by simp[execOp,ho,Instr.box,newVar,newRow];rfl),?_,?_⟩
 ·exact hr.add aK xa (λb hb=>by simp only[da,aug]at hb;omega) ⟨w.heap.size,(a.eval x).cells,T,rfl,heap_alloc_new w _,by simpa using Hi.1,λj y u hy hu=>by have:=Hi.2 j y u hy (by simpa using hu);exact⟨this.1.ext he,this.2⟩⟩
 exact .ptr _ 0 w.heap.size (by rw[<-hr.heap.len];simp)
theorem Lg(aK:Γ.Ok){tab:Nat->Option TD}(aB:bp Γ.P tab){o:Oper}{T:Nat}(ho:o.op=.alloc T){d:TD}(hd:tab T=some d):iB Γ o s (.ptr s.hp.length 0) (s.hp++[.box (d.zero.cells.toList.map .ay)]):=by intro a w η hr;have dK:=aB T d hd;have xa:=ck.alloc w (.cells d.zero.cells T);refine⟨.pointer (some ⟨w.heap.size,0,none⟩),_,η++[.pointer (some ⟨w.heap.size,0,none⟩)],.inl (by simp[execOp,ho,Instr.alloc,dK.kf,newVar,newRow];rfl),?_,?_⟩;refine hr.add aK xa (λb hb=>by simp only[da,aug]at hb;omega) ⟨w.heap.size,d.zero.cells,T,rfl,heap_alloc_new w _,by simp,λj y u hy hu=>?_⟩;exact(dK.EL (w:=_) (F:=_) (η:=_) (hp:=_)).2 j y u hy (by simpa using hu);exact .ptr _ 0 w.heap.size (by rw[<-hr.heap.len];simp)
theorem Hq(aK:Γ.Ok){b r:Nat}:∀(us:List Value)(xs:List AV)(k off:Nat)(cs:List AV)(s:AS G)(w:World),Rel Γ s a w η->s.hp[r]?=some (.box cs)->η[r]?=some (.pointer (some ⟨b,0,none⟩))-> sR w (bu Γ w η s.hp) η s.hp xs us->off+k+xs.length<=cs.length-> ∃w',(storeCells ⟨b,off,none⟩ us k).run Γ.P w=.ok () w'/\Rel Γ { s with hp:=s.hp.set r (.box (setCells cs (off+k) xs)) } a w' η:=by intro us;induction us with|nil=>(intro xs k off cs s w hr hb fL Hi hle;have:xs=[]:=auU (by have:=Hi.1;simpa using this.symm);subst this;refine⟨w,rfl,?_⟩;have:s.hp.set r (.box (setCells cs (off+k) []))=s.hp:=by apply avb;intro i;by_cases hi:r=i;subst hi;rw[aD hb,hb];rfl;rw[getElem?_set_ne hi]);rw[this];exact hr|cons u us ih=>intro xs k off cs s w hr hb fL Hi hle;cases xs with|nil=>have:=Hi.1;simp at this|cons x xs=>(have h0:=Hi.2 0 x u rfl rfl;simp only[aur]at hle;obtain⟨h1,h2,u',h3⟩:=hr.write aK (off:=off+k) hb fL (by omega) h0.2 h0.1;have eD:sR (w.setCell ⟨b,off+k,none⟩ u) (bu Γ (w.setCell ⟨b,off+k,none⟩ u) η (s.hp.set r (.box (cs.set (off+k) x)))) η (s.hp.set r (.box (cs.set (off+k) x))) xs us:=by refine⟨by simpa using Hi.1,λj y z hy hz=>?_⟩;have h4:=Hi.2 (j+1) y z (by simpa using hy) (by simpa using hz);refine⟨?_,h4.2⟩;refine h4.1.ext ?_;refine⟨λb' o v hf hc=>?_,λb' es c hf hc=>?_,λb' o hf=>?_,λ_ _ h=>h,λ_ _ h=>h,λr' n v ho=>?_⟩;(have bV:b'≠b:=by intro e;subst e;obtain⟨o1,q1,q2⟩:=(bn b' o).1 hf.2.2.2 r _ fL rfl;rw[hb]at q1;obtain rfl:=auj q1;exact q2);rw[World.cell?_of_block (avR w _ b' u (by simpa using bV))];exact hc;(have bV:b'≠b:=by intro e;subst e;obtain⟨o1,q1,q2⟩:=(bn b' 0).1 hf.2.2.2 r _ fL rfl;rw[hb]at q1;obtain rfl:=auj q1;exact q2);rw[avR w _ b' u (by simpa using bV)];exact hc;refine⟨hf.1,by simpa using hf.2.1,hf.2.2.1,(bn b' o).2 λr' v hv qE=>?_⟩;obtain⟨o1,q1,q2⟩:=(bn b' o).1 hf.2.2.2 r' v hv qE;by_cases NI:r=r';subst NI;rw[hb]at q1;obtain rfl:=auj q1;exact q2.elim;exact⟨o1,by rw[getElem?_set_ne NI];exact q1,q2⟩;unfold bk at ho ⊢;by_cases NI:r=r';subst NI;rw[hb]at ho;exact ho.elim;rw[getElem?_set_ne NI];exact ho);obtain⟨w',e1,e2⟩:=ih xs (k+1) off (cs.set (off+k) x) { s with hp:=s.hp.set r (.box (cs.set (off+k) x)) } (w.setCell ⟨b,off+k,none⟩ u) h1 (aD hb) fL eD (by simp;omega);refine⟨w',?_,?_⟩;simp only[storeCells,ao,Addr.add_lit];rw[run_store _ _ _ _ _ h0.2,h3];simp only[h2,auE,if_false,al];exact e1;(have:(s.hp.set r (.box (cs.set (off+k) x))).set r (.box (setCells (cs.set (off+k) x) (off+(k+1)) xs))=s.hp.set r (.box (setCells cs (off+k) (x::xs))):=by rw[List.set_set];rfl);simp only[this]at e2;exact e2
theorem Lh(aK:Γ.Ok){tab:Nat->Option TD}(aB:bp Γ.P tab){o:Oper}{T r off:Nat}{p x:Operand}(ho:o.op=.store T p x){d:TD}(hd:tab T=some d)(hp:s.ev p=.ptr r off){cs:List AV}(hb:s.hp[r]?=some (.box cs))(hs:(s.ev x).oc=true)(hl:(s.ev x).cells.length=d.size)(hle:off+d.size<=cs.length):iB Γ o s .top (s.hp.set r (.box (setCells cs off (s.ev x).cells))):=by intro a w η hr;have sr:=hr.ev p;rw[hp]at sr;have eV:=(hr.ev x).Hh hs;generalize hv:a.eval p=v at sr;cases sr with|ptr _ _ b fL=>(obtain⟨w',e1,e2⟩:=Hq aK (a.eval x).cells.toList (s.ev x).cells 0 off cs s w hr hb fL eV (by omega);refine⟨undef,w',η,.inr ⟨?_,rfl⟩,by simpa using e2,.top _⟩;have cP:(a.eval x).cells.size=d.size:=by rw[<-hl,<-eV.1];simp);simp only[execOp,ho,hv,Instr.storeAt,Instr.sureAddr,ao,aq,al,storeVar,(aB T d hd).run_sizeOf,cP,ne_eq,not_true_eq_false,if_false,e1]
theorem Db{b off:Nat}{T:TypeId}:∀(us:List Value)(k:Nat)(cs:Array Value)(w:World),w.heap[b]?=some (.cells cs T (0,0))->off+k+us.length<=cs.size->(∀u∈us,u.oneCell'=true)-> ∃w' eL,(storeCells ⟨b,off,none⟩ us k).run P w=.ok () w'/\w'.heap[b]?=some (.cells eL T (0,0))/\eL.toList=gm cs.toList (off+k) us/\cy (λx=>x=b) w w'
 | [],k,cs,w,hb,_,_=>⟨w,cs,rfl,hb,rfl,cy.refl _ _⟩|u::us,k,cs,w,hb,hle,h1=>by simp only[aur]at hle;have yo:(w.setCell ⟨b,off+k,none⟩ u).heap[b]?=some (.cells (cs.setIfInBounds (off+k) u) T (0,0)):=Go.heap_setCell_same w b (off+k) cs T u hb;obtain⟨w',eL,e1,e2,e3,e4⟩:=Db (off:=off) us (k+1) _ _ yo (by simp;omega) λv hv=>h1 v (auz _ hv);refine⟨w',eL,?_,e2,?_,?_⟩;(have hc:w.cell? ⟨b,off+k,none⟩=some (cs[off+k]'(by omega)):=by rw[cell_of_row w b (off+k) cs T (0,0) hb];simp);have hf:=frozen_of_row w b (off+k) cs T hb;simp only[storeCells,ao,Addr.add_lit];rw[run_store _ _ _ _ _ (h1 u auw),hc];simp only[hf,auE,if_false,al];exact e1;rw[e3];simp[gm,av0];exact(show cy (λx=>x=b) w (w.setCell ⟨b,off+k,none⟩ u)from⟨rfl,rfl,rfl,by simp[World.setCell],λi _ hi=>avR w _ i u hi⟩).trans e4 λ_ _ h=>h
theorem xb(aK:Γ.Ok){tab:Nat->Option TD}(aB:bp Γ.P tab){o:Oper}{T r m i z e:Nat}{p x:Operand}(ho:o.op=.store T p x){d:TD}(hd:tab T=some d)(hp:s.ev p=.gb r m i z){els:List AV}(hb:s.hp[r]?=some (.aW e z els))(hs:((s.ev x).fI s.hp).oc=true)(hl:((s.ev x).fI s.hp).cells.length=d.size)(hm:m=els.length)(He:d.size<=z)(hi:i<els.length){el':AV}(hle:els[i].cells.length=z->el'.cells.length=z)(eG:els[i].cells.length=z->∀(j:Nat)(y:AV),el'.cells[j]?=some y->(j<d.size->((s.ev x).fI s.hp).cells[j]?=some y)/\(d.size<=j->els[i].cells[j]?=some y)):iB Γ o s .top (s.hp.set r (.aW e z (els.set i el'))):=by
 intro a w η hr;have sr:=hr.ev p;rw[hp]at sr;have eV:=(lH hr.heap hr.cu (hr.ev x)).Hh hs;generalize (s.ev x).fI s.hp=el at hs hl eV eG;generalize hv:a.eval p=v at sr;cases sr with
  |gb _ _ _ _ b o' c k G5=>
   have zK:=G5;unfold bk at zK;rw[hb]at zK;have fL:=zK.2 hm;obtain⟨Si,xs,eH,fD⟩:=hr.heap.obj r _ _ hb fL;rcases eH.2 with⟨h0,_⟩|⟨g,cap,cur,he,h0,⟨Cq,w7,hg⟩,KV,KW,gK,qb⟩;omega;obtain rfl:Cq=0:=Nat.le_zero.1 w7;(simp only[Value.slice.injEq,aug,Addr.mk.injEq,and_true]at he;obtain⟨⟨rfl,rfl⟩,rfl,rfl⟩:=he;generalize Cs:(a.eval x).cells.toList=us at eV;have hul:us.length=d.size:=by rw[eV.1,hl]);(have hold:=fD i els[i] (aun hi);have eG:=eG hold.1;have hle:=hle hold.1;have aR:(i+1)*z<=els.length*z:=au6 _ hi;have K3:els.length*z<=c*z:=au6 _ KV;rw[avn,Nat.one_mul]at aR;obtain⟨w',eL,e1,e2,e3,e4⟩:=Db (P:=Γ.P) (off:=0+i*z) us 0 cur w hg (by omega) λu hu=>by (obtain⟨j,hj⟩:=avB hu;have aE:j<el.cells.length:=by rw[<-eV.1];exact(auh.1 hj).1);exact(eV.2 j _ u (aun aE) hj).2);(have cP:(a.eval x).cells.size=d.size:=by rw[<-hl,<-eV.1,<-Cs];simp);have wZ:da (.slice (some ⟨b,0,none⟩) els.length c)=some b:=cK h0;have Za:η.set r (.slice (some ⟨b,0,none⟩) els.length c)=η:=by apply avb;intro k;by_cases hk:r=k;subst hk;rw[aD fL,fL];rw[getElem?_set_ne hk]
   have:=Rel.change (w':=w') (o':=.aW e z (els.set i el')) (v':=.slice (some ⟨b,0,none⟩) els.length c) aK hr hb ai fL
    ⟨e4.os,e4.tape,e4.output,e4.size,λk hk hkb=>e4.block k hk λh=>hkb (by rw[wZ,h])⟩
    (λc hc=>.inl hc) (λk hk=>hk.elim) (λ_ _ _ _ hk=>hk.elim) (λ_ _ _ _ hk=>hk.elim)
    (λn u ho=>by
     unfold bk at ho ⊢;rw[hb]at ho;rw[aD hb,Za]
     exact⟨by rw[avw];exact ho.1,λh=>ho.2 (by rw[avw]at h;exact h)⟩)
    (λ_ _=>rfl) (λ_ hx=>by cases hx)
    (λb' d' fX eJ=>by rw[wZ]at fX;obtain rfl:=auj fX;rw[hg]at eJ;cases eJ)
    (λhe=>⟨Si,gm xs (i*z) us,⟨by rw[iT,avw];exact eH.1,.inr ⟨b,c,eL,by rw[avw],h0,⟨0,aum _,e2⟩,by rw[avw];exact KV,KW,by
      have:eL.toList.length=cur.toList.length:=by rw[e3,iT]
      simp only[auX]at this;rw[this,gK],by
      rw[avw];apply avb;intro k;have hlen:i*z+us.length<=cur.toList.length:=by simp only[auX];omega
      have Hr:i*z+us.length<=xs.length:=by rw[eH.1];omega
      rw[auC,dx us xs _ _ Hr,e3,avo,auO,dx us _ _ _ hlen]
      by_cases hk:k<els.length*z
      ·rw[if_pos hk]
       by_cases eG:i*z<=k/\k<i*z+us.length
       ·rw[if_pos eG,if_pos eG]
       ·rw[if_neg eG,if_neg eG,<-qb,auC,if_pos hk]
      ·rw[if_neg hk,if_neg (by omega),auP (by rw[eH.1];omega)]⟩⟩,λi' el2 tS=>by
      have Hr:i*z+us.length<=xs.length:=by rw[eH.1];omega
      by_cases K9:i=i'
      ·subst K9;rw[List.getElem?_set_self hi]at tS;obtain rfl:=auj tS;refine⟨hle,λj x hj=>?_⟩
       by_cases hjd:j<d.size
       ·have hj:=(eG j x hj).1 hjd;have Li:j<us.length:=by omega
        refine⟨us[j],?_,((eV.2 j x _ hj (aun Li)).1).ext he.nv.ext,(eV.2 j x _ hj (aun Li)).2⟩;rw[dx us xs _ _ Hr,if_pos (by omega),show i*z+j-i*z=j from by omega,aun Li]
       ·obtain⟨u,q1,q2,q3⟩:=hold.2 j x ((eG j x hj).2 (by omega));refine⟨u,?_,q2.ext he.nv.ext,q3⟩;rw[dx us xs _ _ Hr,if_neg (by omega)];exact q1
      ·rw[getElem?_set_ne K9]at tS;refine⟨(fD i' el2 tS).1,λj x hj=>?_⟩;obtain⟨u,q1,q2,q3⟩:=(fD i' el2 tS).2 j x hj;refine⟨u,?_,q2.ext he.nv.ext,q3⟩;have hjz:j<z:=by rw[<-(fD i' el2 tS).1];exact(auh.1 hj).1
       rw[dx us xs _ _ Hr,if_neg ?_]
       ·exact q1
       ·rw[hul];rcases Nat.lt_or_gt_of_ne K9 with h|h
        ·have:=au6 z (show i+1<=i' from h);rw[avn,Nat.one_mul]at this;omega
        ·have:=au6 z (show i'+1<=i from h)
         rw[avn,Nat.one_mul]at this;omega⟩)
   rw[Za]at this;refine⟨undef,w',η,.inr ⟨?_,rfl⟩,this,.top _⟩;simp only[execOp,ho,hv,Instr.storeAt,Instr.sureAddr,ao,aq,al,storeVar,(aB T d hd).run_sizeOf,cP,ne_eq,not_true_eq_false,if_false,Cs,e1]
theorem Hs(aK:Γ.Ok){tab:Nat->Option TD}(aB:bp Γ.P tab){o:Oper}{T r m i z e:Nat}{p x:Operand}(ho:o.op=.store T p x){d:TD}(hd:tab T=some d)(hp:s.ev p=.gb r m i z){els:List AV}(hb:s.hp[r]?=some (.aW e z els))(hs:((s.ev x).fI s.hp).oc=true)(hl:((s.ev x).fI s.hp).cells.length=d.size)(hm:m=els.length)(He:d.size=z)(hi:i<els.length):iB Γ o s .top (s.hp.set r (.aW e z (els.set i ((s.ev x).fI s.hp)))):=xb aK aB ho hd hp hb hs hl hm (av3 He) hi (λ_=>by rw[hl,He]) λ_ j y hy=>⟨λ_=>hy,λh=>by have:=(auh.1 hy).1;omega⟩
theorem mV:∀(xs cs:List AV)(k j:Nat),k+xs.length<=cs.length->(setCells cs k xs)[j]?=if k<=j/\j<k+xs.length then xs[j-k]? else cs[j]?
 | [],cs,k,j,_=>by rw[setCells,if_neg (by simp only[auV];omega)]|x::xs,cs,k,j,h=>by simp only[aur]at h;rw[setCells,mV xs _ _ _ (by rw[avw];omega)];by_cases e:k=j;subst e;rw[if_neg (by omega),if_pos (by simp only[aur];omega),avH,au4,List.getElem?_set_self (by omega)];rw[getElem?_set_ne e];by_cases h2:k+1<=j/\j<k+1+xs.length;rw[if_pos h2,if_pos (by simp only[aur];omega),show j-k=j-(k+1)+1 from by omega,au3];rw[if_neg h2,if_neg (by simp only[aur];omega)]
theorem Ht(aK:Γ.Ok){tab:Nat->Option TD}(aB:bp Γ.P tab){o:Oper}{T r m i z e:Nat}{p x:Operand}(ho:o.op=.store T p x){d:TD}(hd:tab T=some d)(hp:s.ev p=.gb r m i z){els:List AV}(hb:s.hp[r]?=some (.aW e z els))(hs:((s.ev x).fI s.hp).oc=true)(hl:((s.ev x).fI s.hp).cells.length=d.size)(hm:m=els.length)(He:d.size<=z)(hi:i<els.length):iB Γ o s .top (s.hp.set r (.aW e z (els.set i (.agg (setCells (els.getD i .top).cells 0 ((s.ev x).fI s.hp).cells))))):=by (have hg:els.getD i .top=els[i]:=by simp[ae,hi]);rw[hg];refine xb aK aB ho hd hp hb hs hl hm He hi (λh=>by show (setCells _ 0 _).length=z;rw[yn,h]) λh j y hy=>?_;have EI:(setCells els[i].cells 0 ((s.ev x).fI s.hp).cells)[j]?=some y:=hy;rw[mV _ _ _ _ (by rw[hl,h];omega),hl]at EI;refine⟨λhj=>?_,λhj=>?_⟩;rw[if_pos (by omega)]at EI;exact EI;rw[if_neg (by omega)]at EI;exact EI
theorem zT(aK:Γ.Ok){tab:Nat->Option TD}(aB:bp Γ.P tab){o:Oper}{T e:Nat}{l c:Operand}(ho:o.op=.makeSlice T l c){d d':TD}(hd:tab T=some d)(hk:d.kind=.kY e)(eJ:tab e=some d'){k k':IntKind}{n:Int}(hl:s.ev l=.ay (.int k 0))(hc:s.ev c=.ay (.int k' n))(h0:0<=n)(EC:n<=9223372036854775807)(h48:(d'.bytes:Int)*n<=281474976710656)(cP:0<d'.size): iB Γ o s (.own s.hp.length 0) (s.hp++[.row e d'.size []]):=by (intro a w η hr;have YB:=hr.ev l;have ND:=hr.ev c;rw[hl]at YB;rw[hc]at ND;have dK:=aB e d' eJ;obtain⟨i,jz,qv,G4,NA⟩:=dK.info;have hu:Γ.P.underlying T=some (.slice e):=by obtain⟨u,q2,q3⟩:=(aB T d hd).mL;rw[hk]at q3;rw[q2];exact congrArg some q3);(have hw:IntKind.i64.wrap n=n:=by simp only[IntKind.wrap,IntKind.bits,IntKind.signed];simp;omega);(have hw0:IntKind.i64.wrap 0=0:=by decide);(have Lj:((decide (n<0)||decide ((d'.bytes:Int)*n>2 ^ 48))||decide ((0:Int)<0)||decide ((0:Int)>n))=false:=by simp;omega);(have gY:∃arr:Array Value,arr.size=n.toNat*d'.size/\(execOp a.eval o).run Γ.P w=.ok (.value (.slice (some ⟨w.heap.size,0,none⟩) 0 n.toNat)) (w.alloc (.cells arr e)):=by by_cases hz:n.toNat*d'.size=0;refine⟨(Array.range (n.toNat*d'.size)).map ((#[]:Array Value)[· % (#[]:Array Value).size]!),by simp,?_⟩;simp only[execOp,ho,Instr.makeSlice,ao,run_underlying hu,al,asInt,YB.aC,ND.aC,asIntOf,aq,typeInfo,run_program,jz,G4,hw,hw0,Lj,auE,if_false,run_askRoom,sizeOf,qv,if_pos hz,newRow,run_newObj];rfl;refine⟨(Array.range (n.toNat*d'.size)).map (d'.zero.cells[· % d'.zero.cells.size]!),by simp,?_⟩;simp only[execOp,ho,Instr.makeSlice,ao,run_underlying hu,al,asInt,YB.aC,ND.aC,asIntOf,aq,typeInfo,run_program,jz,G4,hw,hw0,Lj,auE,if_false,run_askRoom,sizeOf,qv,if_neg hz,dK.kf,newRow,run_newObj];rfl);obtain⟨arr,sG,gY⟩:=gY;have xa:=ck.alloc w (.cells arr e);refine⟨_,_,η++[.slice (some ⟨w.heap.size,0,none⟩) 0 n.toNat],.inl gY,?_,?_⟩;refine hr.add aK xa (λb hb=>?_) ⟨cP,[],⟨by simp,?_⟩,λi el hi=>by simp at hi⟩;simp only[da]at hb;split at hb;cases hb;obtain rfl:=auj hb;exact aum _;by_cases hn:n.toNat=0;exact .inl ⟨rfl,.inr ⟨_,by rw[hn]⟩⟩;exact .inr ⟨w.heap.size,n.toNat,arr,rfl,by omega,⟨0,aus _,heap_alloc_new w _⟩,aus _,by simp only[maxLen];omega,sG,by simp⟩;(refine .own _ 0 _ rfl ?_;unfold bk;have:(s.hp++[ax.row e d'.size []])[s.hp.length]?=some (.row e d'.size []):=by simp);rw[this];exact⟨aum _,λ_=>by rw[<-hr.heap.len];simp⟩
theorem Lk(aK:Γ.Ok){tab:Nat->Option TD}(aB:bp Γ.P tab){o:Oper}{T e:Nat}{l c:Operand}(ho:o.op=.makeSlice T l c){d d':TD}(hd:tab T=some d)(hk:d.kind=.kY e)(eJ:tab e=some d'){k k':IntKind}{n:Int}(hl:s.ev l=.ay (.int k n))(hc:s.ev c=.ay (.int k' n))(h0:0<=n)(EC:n<=9223372036854775807)(h48:(d'.bytes:Int)*n<=281474976710656){z:Value}(hz:Hp d'=some z): iB Γ o s (.own s.hp.length (List.replicate n.toNat (AV.ay z)).length) (s.hp++[.aW e 1 (List.replicate n.toNat (.ay z))]):=by (intro a w η hr;have YB:=hr.ev l;have ND:=hr.ev c;rw[hl]at YB;rw[hc]at ND;have dK:=aB e d' eJ;obtain⟨i,jz,qv,G4,NA⟩:=dK.info;obtain⟨hs1,hzc,tW⟩:=SM hz;have hu:Γ.P.underlying T=some (.slice e):=by obtain⟨u,q2,q3⟩:=(aB T d hd).mL;rw[hk]at q3;rw[q2];exact congrArg some q3);(have hw:IntKind.i64.wrap n=n:=by simp only[IntKind.wrap,IntKind.bits,IntKind.signed];simp;omega);(have Lj:((decide (n<0)||decide ((d'.bytes:Int)*n>2 ^ 48))||decide (n<0)||decide (n>n))=false:=by simp;omega);(have gY:∃arr:Array Value,arr.toList=List.replicate n.toNat z/\(execOp a.eval o).run Γ.P w=.ok (.value (.slice (some ⟨w.heap.size,0,none⟩) n.toNat n.toNat)) (w.alloc (.cells arr e)):=by by_cases hz:n.toNat*d'.size=0;(have nY:n.toNat=0:=by rw[hs1]at hz;omega);refine⟨(Array.range (n.toNat*d'.size)).map ((#[]:Array Value)[· % (#[]:Array Value).size]!),by rw[hz,nY];simp,?_⟩;simp only[execOp,ho,Instr.makeSlice,ao,run_underlying hu,al,asInt,YB.aC,ND.aC,asIntOf,aq,typeInfo,run_program,jz,G4,hw,Lj,auE,if_false,run_askRoom,sizeOf,qv,if_pos hz,newRow,run_newObj];rfl;refine⟨(Array.range (n.toNat*d'.size)).map (d'.zero.cells[· % d'.zero.cells.size]!),?_,?_⟩;rw[hs1,hzc,avq];refine List.ext_getElem (by simp) λj h1 h2=>?_;simp[Nat.mod_one];simp only[execOp,ho,Instr.makeSlice,ao,run_underlying hu,al,asInt,YB.aC,ND.aC,asIntOf,aq,typeInfo,run_program,jz,G4,hw,Lj,auE,if_false,run_askRoom,sizeOf,qv,if_neg hz,dK.kf,newRow,run_newObj];rfl);(obtain⟨arr,gZ,gY⟩:=gY;have sG:arr.size=n.toNat:=by rw[<-auX,gZ,List.length_replicate]);have xa:=ck.alloc w (.cells arr e);have hle:=List.length_replicate (n:=n.toNat) (a:=AV.ay z);refine⟨_,_,η++[.slice (some ⟨w.heap.size,0,none⟩) n.toNat n.toNat],.inl gY,?_,?_⟩;refine hr.add aK xa (λb hb=>?_) ⟨Nat.one_pos,List.replicate n.toNat z,⟨by simp,?_⟩,λi el hi=>?_⟩;simp only[da]at hb;split at hb;cases hb;obtain rfl:=auj hb;exact aum _;rw[hle];by_cases hn:n.toNat=0;exact .inl ⟨hn,.inr ⟨_,by rw[hn]⟩⟩;exact .inr ⟨w.heap.size,n.toNat,arr,rfl,by omega,⟨0,aum _,heap_alloc_new w _⟩,aum _,by simp only[maxLen];omega,by omega,by rw[gZ,auA (by simp)]⟩;(obtain⟨aE,rfl⟩:i<n.toNat/\el=.ay z:=by rw[List.getElem?_replicate]at hi;split at hi;rename_i aE;exact⟨aE,(auj hi).symm⟩;cases hi);refine⟨rfl,λj x hj=>?_⟩;have vK:[AV.ay z][j]?=some x:=hj;(cases j with|zero=>obtain rfl:=auj vK;exact⟨z,by rw[List.getElem?_replicate,if_pos (by omega)],.ay z,tW⟩|succ j=>simp at vK);(refine .own _ _ _ rfl ?_;unfold bk;have:(s.hp++[ax.aW e 1 (List.replicate n.toNat (.ay z))])[s.hp.length]?=some (.aW e 1 (List.replicate n.toNat (.ay z))):=by simp);rw[this];refine⟨aum _,λ_=>?_⟩;have hlen:η.length=s.hp.length:=hr.heap.len;rw[<-hlen];simp
theorem mW(aK:Γ.Ok){tab:Nat->Option TD}(aB:bp Γ.P tab){o:Oper}{c:Call}(ho:o.op=.call c)(hb:c.callee=.builtin .append){b x:Operand}(hl:c.args.toList=[b,x]){T e:Nat}(hT:c.argTypes.toList=[T,T]){d d':TD}(hd:tab T=some d)(hk:d.kind=.kY e)(eJ:tab e=some d'){aM:List AV}(hx:(s.ev x).iQ s.hp=some aM){r:AV}{hp':List ax}(h:(∃els,(s.ev b=.ay (.slice none 0 0)/\els=[]\/s.ev b=.clip els)/\0<d'.size/\(aM=[]->els=[])/\bB d' (els.length+aM.length) els aM/\r=.own s.hp.length (els.length+aM.length)/\hp'=s.hp++[.row e d'.size (els++aM)])\/ (∃M n els,s.ev b=.own n els.length/\s.hp[n]?=some (fM M e d'.size els)/\bB d' (els.length+aM.length) [] aM/\r=.own n (els.length+aM.length)/\hp'=s.hp.set n (fM M e d'.size (els++aM)))):iB Γ o s r hp':=by (intro a w η hr;have hu:Γ.P.underlying T=some (.slice e):=by obtain⟨u,q2,q3⟩:=(aB T d hd).mL;rw[hk]at q3;rw[q2];exact congrArg some q3);(have eV:=lV hr.heap hr.cu (hr.ev x) hx;have Ll:=hr.ev b;have qF:c.argTypes=#[T,T]:=by rw[<-au1 (xs:=c.argTypes),hT]);(have aQ:c.args=#[b,x]:=by rw[<-au1 (xs:=c.args),hl]);(have qd:∀v w',(Builtin.append_ #[T,T] o.type #[a.eval b,a.eval x]).run Γ.P w=.ok v w'->(execOp a.eval o).run Γ.P w=.ok (.value v) w':=by intro v w' gY;simp only[execOp,ho,resolve,hb,ao,aq,al,invoke,builtin,qF,aQ,avE,auL,auY,gY]);rcases h with⟨els,qE,cP,bV,tY,rfl,rfl⟩|⟨M,n,els,qE,eH,tY,rfl,rfl⟩;(have Hm:a.eval b=.slice none 0 0/\els=[]\/bo w (bu Γ w η s.hp) η s.hp (.clip els) (a.eval b):=by rcases qE with⟨h1,h2⟩|h1;rw[h1]at Ll;exact .inl ⟨Ll.aC,h2⟩;rw[h1]at Ll;exact .inr Ll);(obtain⟨v',w',h1,h2,h3⟩:=zE aK hr (ty:=o.type) hu (aB e d' eJ) cP Hm eV tY.1 tY.2.1 bV tY.2.2.1 tY.2.2.2 (ob:=.row e d'.size (els++aM)) (.inl rfl);refine⟨v',w',η++[v'],.inl (qd _ _ h1),h2,.own _ _ _ h3 ?_⟩;unfold bk;have:(s.hp++[ax.row e d'.size (els++aM)])[s.hp.length]?=some (.row e d'.size (els++aM)):=by simp);rw[this];exact⟨by simp,λ_=>by rw[<-hr.heap.len];simp⟩;(rw[qE]at Ll;have sf:bk η s.hp n els.length (a.eval b):=by cases Ll;assumption);have vU:η[n]?=some (a.eval b):=((kh eH).1 sf).2 rfl;obtain⟨news,hn⟩:=tT (ty:=o.type) hu (aB e d' eJ) (lX.1 (hr.heap.obj n _ _ eH vU)).1 eV tY.2.1;obtain⟨v',w',bh,h1,h2,h3,h4⟩:=zG aK hr (aB e d' eJ) eH sf hn tY.2.1 tY.2.2.1 tY.2.2.2;exact⟨v',w',bh,.inl (qd _ _ h1),h2,.own _ _ _ h3 ((kh (aD eH)).2 ⟨by simp,λ_=>h4⟩)⟩
theorem EN(aK:Γ.Ok){tab:Nat->Option TD}(aB:bp Γ.P tab){o:Oper}{c:Call}(ho:o.op=.call c)(hb:c.callee=.builtin .append){b x:Operand}(hl:c.args.toList=[b,x]){T e:Nat}(hT:c.argTypes.toList=[T,T]){d d':TD}(hd:tab T=some d)(hk:d.kind=.kY e)(eJ:tab e=some d'){aM:List AV}(hx:(s.ev x).iQ s.hp=some aM){els:List AV}(qE:s.ev b=.ay (.slice none 0 0)/\els=[]\/s.ev b=.clip els)(cP:0<d'.size)(bV:aM=[]->els=[])(tY:bB d' (els.length+aM.length) els aM): iB Γ o s (.own s.hp.length (els++aM).length) (s.hp++[.aW e d'.size (els++aM)]):=by (intro a w η hr;have hu:Γ.P.underlying T=some (.slice e):=by obtain⟨u,q2,q3⟩:=(aB T d hd).mL;rw[hk]at q3;rw[q2];exact congrArg some q3);(have eV:=lV hr.heap hr.cu (hr.ev x) hx;have Ll:=hr.ev b;have qF:c.argTypes=#[T,T]:=by rw[<-au1 (xs:=c.argTypes),hT]);(have aQ:c.args=#[b,x]:=by rw[<-au1 (xs:=c.args),hl]);(have qd:∀v w',(Builtin.append_ #[T,T] o.type #[a.eval b,a.eval x]).run Γ.P w=.ok v w'->(execOp a.eval o).run Γ.P w=.ok (.value v) w':=by intro v w' gY;simp only[execOp,ho,resolve,hb,ao,aq,al,invoke,builtin,qF,aQ,avE,auL,auY,gY]);(have Hm:a.eval b=.slice none 0 0/\els=[]\/bo w (bu Γ w η s.hp) η s.hp (.clip els) (a.eval b):=by rcases qE with⟨h1,h2⟩|h1;rw[h1]at Ll;exact .inl ⟨Ll.aC,h2⟩;rw[h1]at Ll;exact .inr Ll);(obtain⟨v',w',h1,h2,h3⟩:=zE aK hr (ty:=o.type) hu (aB e d' eJ) cP Hm eV tY.1 tY.2.1 bV tY.2.2.1 tY.2.2.2 (ob:=.aW e d'.size (els++aM)) (.inr rfl);refine⟨v',w',η++[v'],.inl (qd _ _ h1),h2,.own _ _ _ h3 ?_⟩;unfold bk;have:(s.hp++[ax.aW e d'.size (els++aM)])[s.hp.length]?=some (.aW e d'.size (els++aM)):=by simp);rw[this];exact⟨aum _,λ_=>by rw[<-hr.heap.len];simp⟩
theorem tZ(aK:Γ.Ok){o:Oper}{T:Nat}(ho:o.op=.makeMap T none){me:ME}(hme:Qt me=[]):iB Γ o s (.mp s.hp.length) (s.hp++[.cJ me]):=by intro a w η hr;have xa:=ck.alloc w (.map #[] 0);refine⟨.map (some w.heap.size),_,η++[.map (some w.heap.size)],.inl (by simp[execOp,ho,Instr.makeMap];rfl),?_,?_⟩;exact hr.add aK xa (λb hb=>by simp only[da,aug]at hb;omega) ⟨w.heap.size,#[],0,rfl,World.alloc_heap_new w _,hme.symm⟩;exact .mp _ w.heap.size (by rw[<-hr.heap.len];simp)
theorem SP{κ:Type}[DecidableEq κ]{td:TypeDesc}{kv:κ->Value}{me:List (κ×Value)->ME}(K:QA td kv me){a:κ}{v:Value}:∀(es:List MapEntry)(l:List (κ×Value))(i:Nat),(es.map λe=>(e.key,e.val))=l.map (λp=>(kv p.1,p.2))-> (∃j u,Instr.findNow td (kv a) es i=some (some (i+j,u))/\(es[j]?).map (·.key)=some (kv a)/\((es.modify j λe=>{ e with key:=kv a,val:=v }).map λe=>(e.key,e.val))=(cD l a v).map (λp=>(kv p.1,p.2)))\/ (Instr.findNow td (kv a) es i=some none/\(cD l a v).map (λp=>(kv p.1,p.2))=(es.map λe=>(e.key,e.val))++[(kv a,v)]):=by
 intro es;induction es with
  |nil=>intro l i h;cases l with|nil=>exact .inr ⟨rfl,rfl⟩|cons p l=>simp at h
  |cons e es ih=>intro l i h;cases l with|nil=>simp at h|cons p l=>obtain⟨key,u⟩:=p;simp only[auL,List.cons.injEq,auk]at h;obtain⟨⟨h1,h2⟩,h3⟩:=h;simp only[Instr.findNow,h1,K.same,cD];by_cases hak:a=key;subst hak;simp only[decide_true,if_true];refine .inl ⟨0,e.val,rfl,by simp[h1],?_⟩;simp only[List.modify_zero_cons,auL];rw[h3];simp only[if_neg hak,decide_eq_false hak];rcases ih l (i+1) h3 with⟨j,u',g1,g2,g3⟩|⟨g1,g2⟩;refine .inl ⟨j+1,u',by rw[g1];congr 3;omega,by simpa using g2,?_⟩;simp only[List.modify_succ_cons,auL,h1,h2];rw[g3];refine .inr ⟨g1,?_⟩;simp only[auL,avx,h1,h2]at g2 ⊢;rw[g2]
theorem qG{κ:Type}[DecidableEq κ]{td:TypeDesc}{kv:κ->Value}{me:List (κ×Value)->ME}(K:QA td kv me)(aK:Γ.Ok){tab:Nat->Option TD}(aB:bp Γ.P tab){o:Oper}{T kt et r:Nat}{m k x:Operand}(ho:o.op=.mapUpdate T m k x){d dk:TD}(hd:tab T=some d)(qD:d.kind=.qo kt et)(sq:tab kt=some dk)(yW:∀u,dk.kind.fits Γ.P u->u=td)(hm:s.ev m=.mp r){es:List (κ×Value)}(Y9:s.hp[r]?=some (.cJ (me es))){a:κ}(hk:s.ev k=.ay (kv a)){v:Value}(hx:(s.ev x).val?=some v):iB Γ o s .top (s.hp.set r (.cJ (me (cD es a v)))):=by
 intro act w η hr;have hu:Γ.P.underlying T=some (.map kt et):=by obtain⟨u,q2,q3⟩:=(aB T d hd).mL;rw[qD]at q3;rw[q2];exact congrArg some q3
 have Y7:Γ.P.underlying kt=some td:=by obtain⟨u,q2,q3⟩:=(aB kt dk sq).mL;rw[q2];exact congrArg some (yW u q3)
 have hkr:=hr.ev k;rw[hk]at hkr;have hkv:=hkr.aC;have vL:=(hr.ev x).Y2 hx;have Y8:=hr.ev m;rw[hm]at Y8;generalize Sl:act.eval m=mv at Y8;cases Y8 with
  |mp _ b fL=>
   (obtain⟨b',en,c,e1,kR,zR⟩:=hr.heap.obj r _ _ Y9 fL;simp only[Value.map.injEq,aug]at e1;subst e1;have aE:=cf kR;have dT:(getObj b).run Γ.P w=.ok (.map en c) w:=by simp[getObj,Sem.run,kR]);have yo:∀o',(setObj b o').run Γ.P w=.ok () (w.putObj b o'):=λo'=>by simp[setObj,Sem.run,kR,World.putObj]
   have key:∀en' c',nZ en'=Qt (me (cD es a v))->Rel Γ { s with hp:=s.hp.set r (.cJ (me (cD es a v))) } act (w.putObj b (.map en' c')) η:=by
    intro en' c' hp';have Za:η.set r (.map (some b))=η:=by apply avb;intro i;by_cases hi:r=i;subst hi;rw[aD fL,fL];rw[getElem?_set_ne hi]
    have:=Rel.change (w':=w.putObj b (.map en' c')) (o':=.cJ (me (cD es a v))) (v':=.map (some b)) aK hr Y9 ai fL
     ⟨rfl,rfl,rfl,by simp,λq hq hb=>World.putObj_heap_other (λe=>hb (by rw[e];rfl))⟩
     (λq hq=>.inl hq) (λq hq=>hq.elim) (λ_ _ _ _ hq=>hq.elim) (λ_ _ _ _ hq=>hq.elim)
     (λn u Cy=>by simp[bk,Y9]at Cy) (λ_ hq=>by cases hq) (λ_ _=>rfl)
     (λq dd hb hdd=>by simp only[da,aug]at hb;subst hb;rw[kR]at hdd;cases hdd)
     (λ_=>⟨b,en',c',rfl,World.putObj_heap_same aE,hp'⟩)
    rw[Za]at this;exact this
   (have hfk:∀q,Instr.findNow td (kv a) en.toList 0=some q->(Instr.findKey kt (kv a) en.toList).run Γ.P w=.ok q w:=λq hq=>by simp only[Instr.findKey,ao,run_underlying Y7,al,hq,aq]);rcases SP K (a:=a) (v:=v) en.toList es 0 (zR.trans (K.me es))with⟨j,u,g1,g2,g3⟩|⟨g1,g2⟩;(rw[auO]at g1;have hj:(en[j]?).map (·.key)=some (kv a):=by simpa using g2);(have alY:(Instr.keyThatStays (((en[j]?).map (·.key)).getD (kv a)) (kv a)).run Γ.P w=.ok (kv a) w:=by rw[hj];simp[Instr.keyThatStays,K.bits]);refine⟨undef,_,η,.inr ⟨?_,rfl⟩,key (en.modify j λe=>{ e with key:=kv a,val:=v }) c ?_,.top _⟩;simp only[execOp,ho,Sl,hkv,vL,Instr.mapUpdate,ao,run_underlying hu,al,dT,K.check _ _ _ _ _ Y7,hfk _ g1,alY,yo,aq];unfold nZ;rw[Array.toList_modify,K.me];exact g3;refine⟨undef,_,η,.inr ⟨?_,rfl⟩,key (en.push { key:=kv a,val:=v,born:=c }) (c+1) ?_,.top _⟩;simp only[execOp,ho,Sl,hkv,vL,Instr.mapUpdate,ao,run_underlying hu,al,dT,K.check _ _ _ _ _ Y7,hfk _ g1,yo,aq];unfold nZ;rw[K.me,g2];simp
theorem sS(aK:Γ.Ok){tab:Nat->Option TD}(aB:bp Γ.P tab){o:Oper}{c:Prop}{r:AV}{hp':List ax}(h:eK tab s.hp s.ev o.op=some (c,r,hp'))(hc:c):iB Γ o s r hp':=by
 generalize ho:o.op=op at h;cases op with
  |alloc T=>simp only[eK]at h;split at h;rename_i d hd;simp only[aug,auk]at h;obtain⟨_,rfl,rfl⟩:=h;exact Lg aK aB ho hd;cases h|box T x=>simp only[eK]at h;split at h;rename_i hs;simp only[aug,auk]at h;obtain⟨_,rfl,rfl⟩:=h;exact SN aK ho hs;cases h|store T p x=>simp only[eK]at h;split at h;rename_i d r' off hd hp;split at h;rename_i cs gK;split at h;rename_i hs;simp only[aug,auk]at h;obtain⟨rfl,rfl,rfl⟩:=h;exact Lh aK aB ho hd hp gK hs hc.1 hc.2;cases h;cases h;rename_i d r' m i z hd hp;split at h;rename_i e size els gK;split at h;rename_i hs;obtain⟨hs,rfl⟩:=hs;split at h;rename_i He;simp only[aug,auk]at h;obtain⟨rfl,rfl,rfl⟩:=h;exact Hs aK aB ho hd hp gK hs hc.1 hc.2.1 He hc.2.2;simp only[aug,auk]at h;obtain⟨rfl,rfl,rfl⟩:=h;exact Ht aK aB ho hd hp gK hs hc.1 hc.2.2.1 hc.2.1 hc.2.2.2;cases h;cases h;cases h|makeSlice T l c'=>simp only[eK]at h;split at h;rename_i d hd;split at h;rename_i e hk;split at h;rename_i NH;obtain rfl:=Lf NH;split at h;rename_i d' k n eJ xf;split at h;rename_i z hz;simp only[aug,auk]at h;obtain⟨rfl,rfl,rfl⟩:=h;exact Lk aK aB ho hd hk eJ xf xf hc.1 hc.2.1 hc.2.2 hz;cases h;cases h;split at h;rename_i d' k k' n eJ hl xf;simp only[aug,auk]at h;obtain⟨rfl,rfl,rfl⟩:=h;exact zT aK aB ho hd hk eJ hl xf hc.1 hc.2.1 hc.2.2.1 hc.2.2.2;cases h;cases h;cases h|makeMap T r'=>cases r' with|some r'=>simp[eK]at h|none=>simp only[eK]at h;split at h;split at h;split at h;split at h;simp only[aug,auk]at h;obtain⟨_,rfl,rfl⟩:=h;exact tZ aK ho rfl;simp only[aug,auk]at h;obtain⟨_,rfl,rfl⟩:=h;exact tZ aK ho rfl;cases h;cases h;cases h
  |mapUpdate T m k x=>simp only[eK]at h;split at h;rename_i d r' a v hd hm hk hx;split at h;rename_i kt et es qD Y9;split at h;rename_i dk sq;split at h;rename_i ik yW;simp only[aug,auk]at h;obtain⟨_,rfl,rfl⟩:=h;exact qG (agz ik) aK aB ho hd qD sq (λu hu=>by rw[yW]at hu;exact hu) hm Y9 hk hx;cases h;cases h;cases h;rename_i d r' a v hd hm hk hx;split at h;rename_i kt et es qD Y9;split at h;rename_i dk sq;split at h;rename_i yW;simp only[aug,auk]at h;obtain⟨_,rfl,rfl⟩:=h;exact qG agA aK aB ho hd qD sq (λu hu=>by rw[yW]at hu;exact hu) hm Y9 hk hx;cases h;cases h;cases h;cases h|call cl=>simp only[eK]at h;split at h;rename_i b x T T' hb hl hT;split at h;rename_i hTT;subst hTT;split at h;rename_i d hd;split at h;rename_i e hk;split at h;rename_i d' aM eJ hx;split at h;rename_i qE;simp only[aug,auk]at h;obtain⟨rfl,rfl,rfl⟩:=h;exact mW aK aB ho hb hl hT hd hk eJ hx (.inl ⟨[],.inl ⟨qE,rfl⟩,hc.1,λ_=>rfl,by simpa using hc.2,by simp,by simp⟩);rename_i els qE;simp only[aug,auk]at h;obtain⟨rfl,rfl,rfl⟩:=h;exact mW aK aB ho hb hl hT hd hk eJ hx (.inl ⟨els,.inr qE,hc.1,hc.2.1,hc.2.2,rfl,rfl⟩);rename_i n m qE;split at h;rename_i e' size els eH;split at h;rename_i oe;obtain⟨rfl,rfl,rfl⟩:=oe;simp only[aug,auk]at h;obtain⟨rfl,rfl,rfl⟩:=h;exact mW aK aB ho hb hl hT hd hk eJ hx (.inr ⟨false,n,els,qE,eH,hc,rfl,rfl⟩);cases h;rename_i e' size els eH;split at h;rename_i oe;obtain⟨rfl,rfl,rfl⟩:=oe;simp only[aug,auk]at h;obtain⟨rfl,rfl,rfl⟩:=h;exact mW aK aB ho hb hl hT hd hk eJ hx (.inr ⟨true,n,els,qE,eH,hc,rfl,rfl⟩);cases h;cases h;cases h;cases h;cases h;cases h;cases h;cases h|_=>simp[eK]at h
end
section
variable {G:Type} {Γ:Env G} {s s':AS G} {a:Act} {w w':World} {η:List Value} {hp:List ax} {P:Program}
def Env.fR(Γ:Env G):Fence:={ fn:=λ_=>True,depth:=none,alive:=false,round:=Γ.Ez }
theorem ua{ρ:Operand->Value}{o:Oper}{c:Call}(ho:o.op=.defer c)(w w':World)(v:Value):(execOp ρ o).run P w ≠ .ok (.value v) w'/\(execOp ρ o).run P w ≠ .ok .skip w':=by simp only[execOp,ho,ao];cases (resolve ρ c o.type).run P w<;>simp[Result.andThen]
theorem lI{ro:Option Nat}{ρ:Operand->Value}{o:Oper}{w w':World}{n:Next}(h:(execOp ρ o).run P w=.ok n w')(hn:(∃v,n=.value v)\/n=.skip):(o.semAt ro ρ).run P w=.ok n w':=by by_cases hd:∃c,o.op=.defer c;obtain⟨c,hc⟩:=hd;rcases hn with⟨v,rfl⟩|rfl;exact((ua hc w w' v).1 h).elim;exact((ua hc w w' undef).2 h).elim;rw[Oper.semAt_eq ro ρ o λc hc=>hd ⟨c,hc⟩];exact h
def fq(nt:Nat):Option Nat->Prop
 |none=>True|some d=>d<nt
theorem dc{nt:Nat}{d:Option Nat}(h:fq nt d):∀t,d=some t->t<nt:=by intro t ht;subst ht;exact h
def bT(Γ:Env G)(o:Oper)(s:AS G)(K:AS G->Prop):Prop:=∀a w η (Kc:Act->World->Prop) (Qc:Exit->Act->World->Prop),(∀s' a' w' bh,K s'->Rel Γ s' a' w' bh->Kc a' w')->Rel Γ s a w η->o.wpIn Γ.fR 0 Γ.P a w Kc Qc
theorem bT.val(aK:Γ.Ok){o:Oper}{r:AV}{K:AS G->Prop}(hv:fQ Γ o s r)(hd:fq Γ.nt o.dst)(hK:K (s.put o.dst r)):bT Γ o s K:=by intro a w η Kc Qc hk hr;obtain⟨v,w',h1,h2,h3⟩:=hv a w η hr;refine⟨λ_ _=>trivial,?_⟩;rw[lI h1 (.inl ⟨v,rfl⟩)];exact hk _ _ _ _ hK ((hr.same aK h2).put (dc hd) h3)
theorem bT.cS{o:Oper}{r:AV}{hp':List ax}{K:AS G->Prop}(hv:iB Γ o s r hp')(hd:fq Γ.nt o.dst)(hK:K (AS.put { s with hp:=hp' } o.dst r)):bT Γ o s K:=by intro a w η Kc Qc hk hr;obtain⟨v,w',bh,h1,h2,h3⟩:=hv a w η hr;refine⟨λ_ _=>trivial,?_⟩;rcases h1 with h1|⟨h1,rfl⟩;rw[lI h1 (.inl ⟨v,rfl⟩)];exact hk _ _ _ _ hK (h2.put (dc hd) h3);rw[lI h1 (.inr rfl)];exact hk _ _ _ _ hK (h2.put (dc hd) h3)
def iG(Γ:Env G)(ops:Array Oper)(K:AS G->Prop)(l:List Oper)(s:AS G):Prop:=∀a w η (Qc:Exit->Act->World->Prop),(∀s' a' w' bh,K s'->Rel Γ s' a' w' bh->Qc .normal a' w')->Rel Γ s a w η->wpListIn Γ.fR 0 Γ.P ops Qc l a w
def lZ(ops:Array Oper)(s:AS G)(j:Nat):Option (Option Bool):=
 match (ops[j]?).bind (·.dst)with
 |some d=>(match s.tmps d with| .ay (.bool b)=>some (some b)| .ay (.tuple _)=>some none|_=>none)
 |none=>none
theorem eW{ops:Array Oper}(hr:Rel Γ s a w η){j:Nat}{b:Option Bool}(h:lZ ops s j=some b):yielded ops a.tmps j=b:=by unfold lZ at h;split at h;rename_i d hd;have YE:=hr.tmps d;split at h;rename_i b' hb;obtain rfl:=auj h;rw[hb]at YE;have hv:=YE.aC;unfold yielded;rw[hd];simp only[Option.bind_some];(cases ht:a.tmps[d]? with|none=>simp[au2,ht,undef]at hv|some v=>simp[au2,ht]at hv;subst hv;rfl);rename_i b' hb;obtain rfl:=auj h;rw[hb]at YE;have hv:=YE.aC;unfold yielded;rw[hd];simp only[Option.bind_some];(cases ht:a.tmps[d]? with|none=>rfl|some v=>simp[au2,ht]at hv;subst hv;rfl);cases h;cases h
theorem iG.step{ops:Array Oper}{K:AS G->Prop}{o:Oper}{rest:List Oper}(hg:∀a w η,Rel Γ s a w η->Region.wanted o (yielded ops a.tmps)=true)(h:bT Γ o s (iG Γ ops K rest)):iG Γ ops K (o::rest) s:=by intro a w η Qc hQ hr;simp only[wpListIn];rw[if_pos (hg a w η hr)];exact h a w η _ Qc (λs' a' w' bh hs gM=>hs a' w' bh Qc hQ gM) hr
theorem iG.skip{ops:Array Oper}{K:AS G->Prop}{o:Oper}{rest:List Oper}(hg:∀a w η,Rel Γ s a w η->Region.wanted o (yielded ops a.tmps)=false)(hd:fq Γ.nt o.dst)(h:iG Γ ops K rest (s.put o.dst (.ay (.tuple #[])))):iG Γ ops K (o::rest) s:=by intro a w η Qc hQ hr;simp only[wpListIn];rw[if_neg (by rw[hg a w η hr];simp)];exact⟨λ_ _=>trivial,h _ w η Qc hQ (hr.put (dc hd) (.ay _))⟩
def gu(Γ:Env G)(c:Code)(Q:Exit->AS G->Prop)(s:AS G):Prop:=∀a w η,Rel Γ s a w η->c.wpIn Γ.fR 0 Γ.P (λe a' w'=>∃s' bh,Q e s'/\Rel Γ s' a' w' bh) a w
def sH(next:AS G->Prop)(Q:Exit->AS G->Prop):Exit->AS G->Prop
 | .normal,s=>next s|e,s=>Q e s
def zU(id:Nat)(Q:Exit->AS G->Prop):Exit->AS G->Prop
 | .exit id',s=>if id'=id then Q .normal s else Q (.exit id') s|e,s=>Q e s
variable {Q:Exit->AS G->Prop}
theorem gu.alZ{x y:Code}(h:∀K:AS G->Prop,(∀s,gu Γ y Q s->K s)->gu Γ x (sH K Q) s):gu Γ (.seq x y) Q s:=by intro a w η hr;refine wpIn_seq (wpIn_mono (h _ (λ_ h=>h) a w η hr) λe a' w' hq=>?_);obtain⟨s',bh,h1,h2⟩:=hq;cases e with|normal=>exact h1 a' w' bh h2|_=>exact⟨s',bh,h1,h2⟩
theorem gu.skip(h:Q .normal s):gu Γ .skip Q s:=λ_ _ η hr=>wpIn_skip ⟨s,η,h,hr⟩
theorem gu.exit{id:Nat}(h:Q (.exit id) s):gu Γ (.exit id) Q s:=λ_ _ η hr=>wpIn_exit ⟨s,η,h,hr⟩
theorem gu.ret(h:Q .ret s):gu Γ .ret Q s:=λ_ _ η hr=>wpIn_ret ⟨s,η,h,hr⟩
theorem gu.label{l:Nat}(h:Q .normal s):gu Γ (.label l) Q s:=λ_ _ η hr=>wpIn_label ⟨s,η,h,hr⟩
theorem gu.block{id:Nat}{c:Code}(h:gu Γ c (zU id Q) s):gu Γ (.block id c) Q s:=by intro a w η hr;refine wpIn_block (wpIn_mono (h a w η hr) λe a' w' hq=>?_);obtain⟨s',bh,h1,h2⟩:=hq;cases e with|exit id'=>simp only[zU]at h1;simp only[Exit.inBlock];split;rename_i hid;rw[if_pos hid]at h1;exact⟨s',bh,h1,h2⟩;rename_i hid;rw[if_neg hid]at h1;exact⟨s',bh,h1,h2⟩|_=>exact⟨s',bh,h1,h2⟩
def ac4:AV->Prop->Prop->Prop
 | .ay (.bool t),p,q=>(t=true->p)/\(t=false->q)|_,_,_=>False
theorem gu.agD{c:Operand}{x y:Code}(h:∀P1 P2:Prop,(gu Γ x Q s->P1)->(gu Γ y Q s->P2)->ac4 (s.ev c) P1 P2):gu Γ (.cond c x y) Q s:=by intro a w η hr;have h1:=h _ _ (λh=>h) λh=>h;have hc:=hr.ev c;generalize s.ev c=v at h1 hc;unfold ac4 at h1;split at h1;rename_i t p q;exact wpIn_cond_split hc.aC (λht=>h1.1 ht a w η hr) (λht=>h1.2 ht a w η hr);exact h1.elim
def cW(Γ:Env G)(s s':AS G):Prop:=∀a w η,Rel Γ s a w η->∃bh,Rel Γ s' a w bh
theorem cW.refl(s:AS G):cW Γ s s:=λ_ _ η h=>⟨η,h⟩
theorem cW.trans{s1 s2 s3:AS G}(h:cW Γ s1 s2)(k:cW Γ s2 s3):cW Γ s1 s3:=λa w η hr=>let ⟨bh,h'⟩:=h a w η hr;k a w bh h'
theorem gu.ss{c:Code}(hw:cW Γ s s')(h:gu Γ c Q s'):gu Γ c Q s:=λa w η hr=>let ⟨bh,gM⟩:=hw a w η hr;h a w bh gM
theorem gu.mono{c:Code}{Q':Exit->AS G->Prop}(h:gu Γ c Q s)(hq:∀e s,Q e s->Q' e s):gu Γ c Q' s:=λa w η hr=>wpIn_mono (h a w η hr) λe a' w' ⟨s',bh,h1,h2⟩=>⟨s',bh,hq e s' h1,h2⟩
end
section
variable {G:Type} {Γ:Env G} {s s':AS G} {a:Act} {w w':World} {η:List Value} {hp:List ax} {P:Program}
def oo(P:Program)(f:FuncId):Prop:=∃fn,P.funcs[f]?=some fn/\(fn.name == "runtime.NumGoroutine")=false/\fn.body.isNone=false
theorem pc{f:FuncId}(h:oo P f)(args:Array Value)(w:World):(callFunc f args).run P w=.ok (.enter f args) w:=by obtain⟨fn,h1,h2,h3⟩:=h;simp only[callFunc,ao,run_program,al,h1,h2,h3,auE,if_false,aq]
def Lm(F:Nat->Nat->Prop)(w w':World)(b o:Nat):Prop:=F b o\/(w.heap.size<=b/\b<w'.heap.size)
def Pure(P:Program)(f:FuncId)(args:List AV)(R:AV->Prop):Prop:=
 oo P f/\∀(w:World)(F:Nat->Nat->Prop)(vals:List Value),(∀b o,F b o->b<w.heap.size)->oU w->cC w F [] [] args vals->
  CallsIn Fence.wide 0 P f vals.toArray w (λe w'=>∃v r,e=.returned v/\R r/\ck w w'/\bo w' (Lm F w w') [] [] r v)
theorem Pure.mono{f:FuncId}{args:List AV}{R R':AV->Prop}(h:Pure P f args R)(hR:∀r,R r->R' r):Pure P f args R':=⟨h.1,λw F vals hF hg hv=>(h.2 w F vals hF hg hv).mono λ_ _ ⟨v,r,h1,h2,h3,h4⟩=>⟨v,r,h1,hR r h2,h3,h4⟩⟩
abbrev az(P:Program)(f:FuncId)(args:List AV)(r:AV):Prop:=Pure P f args (λx=>x=r)
theorem zV(aK:Γ.Ok)(h:Rel Γ s a w η)(hs:ck w w'){b o:Nat}(hb:Lm (bu Γ w η s.hp) w w' b o):bu Γ w' η s.hp b o:=by rcases hb with h1|⟨h1,h2⟩;exact⟨h1.1,auK h1.2.1 hs.size,h1.2.2⟩;(refine⟨.inr (.inl (auM h.keeps.size h1)),h2,λhx=>by have:=aK.no hx;have:=h.keeps.size;omega,(bn b o).2 λr v hv qE=>?_⟩;have gM:r<s.hp.length:=by rw[<-h.heap.len];exact(auh.1 hv).1);(have ho:s.hp[r]?=some s.hp[r]:=by simp[gM]);refine⟨s.hp[r],ho,?_⟩;cases hk:s.hp[r]with|dead=>exact ai|_=>rw[hk]at ho;have:=h.heap.block ho ai hv qE;omega
theorem bo.bC{F F':Nat->Nat->Prop}{x:AV}{v:Value}(h:bo w F [] [] x v)(hF:∀b o,F b o->F' b o):bo w F' [] [] x v:=h.ext ⟨λ_ _ _ _ h=>h,λ_ _ _ _ h=>h,hF,λ_ _ h=>h,λ_ _ h=>h,λ_ _ _ h=>h⟩
theorem mX(h:Rel Γ s a w η):∀(xs:List AV)(vs:List Value),cC w (bu Γ w η s.hp) η s.hp xs vs->cC w (bu Γ w η s.hp) [] [] (xs.map (AV.cd s.hp)) vs
 | [],[],_=>ai|_::xs,_::vs,hx=>⟨fN h.heap h.cu hx.1,mX h xs vs hx.2⟩
theorem eP{F:Nat->Nat->Prop}:∀(xs:List AV)(vs:List Value){ys:List AV}{us:List Value},cC w F η hp xs vs->cC w F η hp ys us->cC w F η hp (xs++ys) (vs++us)
 | [],[],_,_,_,h2=>h2|_::xs,_::vs,_,_,h1,h2=>⟨h1.1,eP xs vs h1.2 h2⟩
theorem gN{o:Oper}{c:Call}{x:Operand}(ho:o.op=.call c)(hc:c.callee=.value x){f:FuncId}(hf:oo Γ.P f){caps:Array Value}(hx:a.eval x=.func (.func f) #[] caps): (execOp a.eval o).run Γ.P w=.ok (.enter f (c.args.map a.eval++caps)) w:=by simp[execOp,ho,resolve,hc,hx,Deferred.ofValue,invoke,pc hf]
theorem bT.pure(aK:Γ.Ok){o:Oper}{c:Call}{x:Operand}(ho:o.op=.call c)(hc:c.callee=.value x){f:FuncId}{caps:List AV}(hx:s.ev x=.bw f caps){R:AV->Prop}(hP:Pure Γ.P f ((c.args.toList.map s.ev++caps).map (AV.cd s.hp)) R)(hd:fq Γ.nt o.dst){K:AS G->Prop}(hK:∀r,R r->K (s.put o.dst r)):bT Γ o s K:=by intro a w η Kc Qc hk hr;have eV:=hr.ev x;rw[hx]at eV;generalize hv:a.eval x=v at eV;cases eV with|bw _ _ vs hl dW=>(refine⟨λ_ _=>trivial,?_⟩;have bV:∀c',o.op ≠ .defer c':=by intro c' h;rw[ho]at h;cases h);(rw[Oper.semAt_eq _ _ _ bV,gN ho hc hP.1 hv];have aQ:(c.args.map a.eval++vs)=(c.args.toList.map a.eval++vs.toList).toArray:=by apply avy;simp);have dL:cC w (bu Γ w η s.hp) η s.hp caps vs.toList:=dM (by simpa using hl) λj y u hy hu=>dW j y u hy (by simpa using hu);have iH:=mX hr _ _ (eP _ _ (iu hr c.args.toList) dL);refine⟨λh=>(by cases h),?_⟩;rw[aQ];have eg:=hP.2 w (bu Γ w η s.hp) _ (λ_ _=>fk) (hr.iN aK) iH;refine CallsIn.mono (F:=Γ.fR) ?_ (R:=λe w'=>∃v r,e=.returned v/\R r/\ck w w'/\bo w' (Lm (bu Γ w η s.hp) w w') [] [] r v) λe w' ⟨u,r,he,hR,hs,hru⟩=>?_;exact eg;subst he;exact hk _ _ _ _ (hK r hR) ((hr.same aK hs).put (dc hd) ((hru.bC λb o h=>zV aK hr hs h).lift))
def eu:Nat->List AV->Nat->AV
 |_,[]=>λ_=>.top|k,x::l=>Cp (eu (k+1) l) k x
def EO(tab:Nat->Option TD)(s:AS G):ResultVar->Option AV
 | .tmp t=>some (s.tmps t)| .cell t T=>(match tab T,s.tmps t with|some d,.ptr r o=>(match s.hp[r]? with|some (.box cs)=>gj d.kind.agg d.size cs o|_=>none)|_,_=>none)
def gd(tab:Nat->Option TD)(s:AS G):List ResultVar->Option (List AV)
 | []=>some []|x::l=>(match EO tab s x,gd tab s l with|some v,some vs=>some (v::vs)|_,_=>none)
def iV:List AV->AV
 | [x]=>x|l=>.aG l
def Hu:List AV->AV
 | [x]=>x|l=>.agg l
def AV.NJ(hp:List ax):AV->AV
 | .ptr r 0=>(match hp[r]? with|some (.box cs)=>.aV (Hu (cs.map (AV.eF hp))) 0|_=>.top)|x=>x.fI hp
def AV.rQ(hp:List ax):AV->AV
 | .bw f cs=>.bw f (cs.map (AV.NJ hp))|x=>x.cd hp
theorem Hv(hp:List ax)(x:AV):(x.eF hp).cells=[x.eF hp]:=by cases x with|own r n=>simp only[AV.eF];split<;>rfl|ay v=>simp only[AV.eF];split<;>rfl|bw f caps=>simp only[AV.eF];split<;>rfl|_=>rfl
theorem pd(hp:List ax)(cs:List AV):(Hu (cs.map (AV.eF hp))).cells=cs.map (AV.eF hp):=by match cs with| []=>rfl| [x]=>exact Hv hp x|x::y::l=>rfl
theorem Hw(h:ep w (bu Γ w η hp) η hp)(hm:vP Γ η hp){F2:Nat->Nat->Prop}(hF:∀b o,bu Γ w η hp b o->F2 b o)(hN:∀b o,(Γ.w0.heap.size<=b\/Γ.Y b)->b<w.heap.size->F2 b o){x:AV}{v:Value}(hx:bo w (bu Γ w η hp) η hp x v): bo w F2 [] [] (x.rQ hp) v:=by
 cases x with
  |bw f cs=>cases hx with|bw _ _ vs hl hr=>refine .bw f _ vs (by simpa using hl) λj y u hy hu=>?_;rw[auu]at hy;cases hj:cs[j]? with|none=>rw[hj]at hy;cases hy|some z=>rw[hj]at hy;obtain rfl:=auj hy;have hz:=hr j z u hj hu;unfold AV.NJ;split;rename_i r;split;rename_i eL hb;(cases hz with|ptr _ _ b fL=>(obtain⟨b',ws,T,hbe,hg,cP,hc⟩:=h.obj r _ _ hb fL;simp only[Value.pointer.injEq,aug,Addr.mk.injEq,and_true]at hbe;subst hbe;have hmi:=(hm r _ _ b hb ai fL rfl).1;have dT:∀(j:Nat)(x:AV),(eL.map (AV.eF hp))[j]?=some x->∃y u,eL[j]?=some y/\x=y.eF hp/\ws[j]?=some u:=by intro j x hx;rw[auu]at hx;cases hj:eL[j]? with|none=>rw[hj]at hx;cases hx|some y=>(rw[hj]at hx;obtain rfl:=auj hx;have:j<ws.size:=by rw[cP];exact(auh.1 hj).1);exact⟨y,ws[j],rfl,rfl,by simp[this]⟩);refine .aV _ 0 b 0 (λj=>(ws[j]?).getD undef) (λj x hx=>?_) λj x hx=>?_;rw[pd]at hx;obtain⟨y,u,h1,h2,h3⟩:=dT j x hx;refine⟨?_,hN b _ hmi (cf hg),?_⟩;simp[World.cell?,hg,h3];simp only[h3,avd];exact(hc j y u h1 h3).2;rw[pd]at hx;obtain⟨y,u,h1,h2,h3⟩:=dT j x hx;subst h2;simp only[h3,avd];exact(jF h hm (hc j y u h1 h3).1).ext ⟨λ_ _ _ _ h=>h,λ_ _ _ _ h=>h,hF,λ_ _ h=>h,λ_ _ h=>h,λ_ _ _ h=>h⟩);exact .top _;exact(lH h hm hz).ext ⟨λ_ _ _ _ h=>h,λ_ _ _ _ h=>h,hF,λ_ _ h=>h,λ_ _ h=>h,λ_ _ _ h=>h⟩
  |_=>exact(fN h hm hx).ext ⟨λ_ _ _ _ h=>h,λ_ _ _ _ h=>h,hF,λ_ _ h=>h,λ_ _ h=>h,λ_ _ _ h=>h⟩
def SQ(tab:Nat->Option TD)(rs:List ResultVar)(R:AV->AS G->Prop):Exit->AS G->Prop
 | .normal,s| .ret,s=>(match gd tab s rs with|some l=>R ((iV l).rQ s.hp) s|none=>False)|_,_=>False
theorem Ln{tab:Nat->Option TD}(aB:bp Γ.P tab)(hr:Rel Γ s a w η){x:ResultVar}{r:AV}(h:EO tab s x=some r): ∃v,(match x with| .tmp t=>Pure.pure (a.tmps.getD t undef)| .cell p t=>do loadVar t (<-asAddr (a.tmps.getD p undef)):Sem Value).run Γ.P w=.ok v w/\bo w (bu Γ w η s.hp) η s.hp r v:=by cases x with|tmp t=>simp only[EO,aug]at h;subst h;exact⟨_,rfl,hr.tmps t⟩|cell p T=>simp only[EO]at h;split at h;rename_i d r' off hd hp;split at h;rename_i cs gK;have sr:=hr.tmps p;rw[hp]at sr;generalize hv:a.tmps.getD p undef=v at sr;(cases sr with|ptr _ _ b fL=>obtain⟨b',vs,T',hb,hg,cP,hc⟩:=hr.heap.obj r' _ _ gK fL;simp only[Value.pointer.injEq,aug,Addr.mk.injEq,and_true]at hb;subst hb;obtain⟨h1,h2⟩:=fJ (w:=w) (F:=bu Γ w η s.hp) (η:=η) (hp:=s.hp) (aB.sz hd) (vs:=vs.toList) (by simpa using cP) (λj x u hx hu=>hc j x u hx (by simpa using hu)) h;refine⟨_,?_,h2⟩;simp only[ao];rw[hv];simp only[asAddr,aq,al];exact lY (aB T d hd) (vX hg) h1);cases h;cases h
theorem Lp{tab:Nat->Option TD}(aB:bp Γ.P tab)(hr:Rel Γ s a w η):∀(l:List ResultVar)(rs:List AV),gd tab s l=some rs-> ∃vs,(l.mapM λx=>(match x with| .tmp t=>Pure.pure (a.tmps.getD t undef)| .cell p t=>do loadVar t (<-asAddr (a.tmps.getD p undef)):Sem Value)).run Γ.P w=.ok vs w/\cC w (bu Γ w η s.hp) η s.hp rs vs:=by intro l;induction l with|nil=>intro rs h;simp only[gd,aug]at h;subst h;exact⟨[],rfl,ai⟩|cons x l ih=>intro rs h;simp only[gd]at h;split at h;rename_i v vs h1 h2;obtain rfl:=auj h;obtain⟨u,e1,e2⟩:=Ln aB hr h1;obtain⟨us,e3,e4⟩:=ih vs h2;refine⟨u::us,?_,e2,e4⟩;rw[List.mapM_cons];simp only[ao];rw[e1];simp only[al];rw[e3];rfl;cases h
theorem qH{tab:Nat->Option TD}(aB:bp Γ.P tab)(hr:Rel Γ s a w η){fn:Func}{rs:List AV}(h:gd tab s fn.results.toList=some rs): ∃v,(results fn a.tmps).run Γ.P w=.ok v w/\bo w (bu Γ w η s.hp) η s.hp (iV rs) v:=by (obtain⟨vs,h1,h2⟩:=Lp aB hr _ _ h;have hm:(fn.results.mapM λx=>(match x with| .tmp t=>Pure.pure (a.tmps.getD t undef)| .cell p t=>do loadVar t (<-asAddr (a.tmps.getD p undef)):Sem Value)).run Γ.P w=.ok vs.toArray w:=by rw[Array.mapM_eq_mapM_toList,Sem.run_map,h1];rfl);refine⟨if h:vs.toArray.size=1 then vs.toArray[0]else .tuple vs.toArray,?_,?_⟩;simp only[results,ao];exact(congrArg (λr=>Result.andThen r λvs w=>(Pure.pure (if h:vs.size=1 then vs[0]else .tuple vs):Sem Value).run Γ.P w) hm);have hl:=h2.length;match rs,vs,h2,hl with| [],[],_,_=>exact .aG [] #[] rfl λj x v hx=>by simp at hx| [r],[v],h2,_=>exact h2.1|r1::r2::rs,v1::v2::vs,h2,hl=>rw[dif_neg (by simp)];exact .aG _ _ (by simpa using hl) λj x v hx hv=>h2.get j x v hx (by simpa using hv)
theorem Rel.shut{ts:Array Value}{d:Deferred}{ds:List Deferred}{r:Nat}(aK:Γ.Ok)(h:Rel Γ s ⟨ts,d::ds⟩ w η)(hd:d.target=.collected r)(hr:w.heap[r]?=some (.deferred (some [])))(hN:Γ.w0.heap.size<=r): Rel Γ s ⟨ts,ds⟩ (w.putObj r (.deferred none)) η:=by
 have aE:=cf hr;have hs:∀k,k≠r->(w.putObj r (.deferred none)).heap[k]?=w.heap[k]?:=λk hk=>World.putObj_heap_other hk;have aR:∀b o v,w.cell? ⟨b,o,none⟩=some v->(w.putObj r (.deferred none)).cell? ⟨b,o,none⟩=some v:=by intro b o v hc;by_cases hb:b=r;subst hb;simp[World.cell?,hr]at hc;rw[World.cell?_of_block (hs b hb)];exact hc
 have he:Ext w (bu Γ w η s.hp) η s.hp (w.putObj r (.deferred none)) (bu Γ (w.putObj r (.deferred none)) η s.hp) η s.hp:=
  ⟨λb o v _ hc=>aR b o v hc,λb es c _ hc=>by
   by_cases hb:b=r
   ·subst hb;rw[hr]at hc;cases hc
   ·rw[hs b hb];exact hc,λb o hf=>⟨hf.1,by simpa using hf.2.1,hf.2.2⟩,λ_ _ h=>h,λ_ _ h=>h,λ_ _ _ h=>h⟩
 have jv:∀(q:Nat)(o:ax)(v:Value)(b:Nat),s.hp[q]?=some o->o.live->η[q]?=some v->da v=some b->b≠r:=by intro q o v b h1 h2 h3 h4 hb;subst hb;have fe:=h.heap.obj q o v h1 h3;cases o with|dead=>exact h2.elim|box cs=>obtain⟨b',vs,T,rfl,g1,_⟩:=fe;simp only[da,aug]at h4;subst h4;rw[hr]at g1;cases g1|row e size els=>obtain⟨_,xs,g1,_⟩:=fe;obtain⟨cur,g2⟩:=g1.lt h4;rw[hr]at g2;cases g2|cJ es=>obtain⟨b',en,c,rfl,g1,_⟩:=fe;simp only[da,aug]at h4;subst h4;rw[hr]at g1;cases g1|jq q k=>obtain⟨b',vs,rfl,g1,_⟩:=fe;simp only[da,aug]at h4;subst h4;rw[hr]at g1;cases g1|aW e size els=>obtain⟨_,xs,g1,_⟩:=fe;obtain⟨cur,g2⟩:=g1.lt h4;rw[hr]at g2;cases g2|fC e m ns=>obtain⟨cur,g2⟩:=gv.lt fe h4;rw[hr]at g2;cases g2
 refine⟨h.nt,λt=>(h.tmps t).ext he,⟨h.heap.len,λq o v h1 h2=>?_,h.heap.sep⟩,h.cu,?_,?_,?_,h.ext.trans he⟩
 ·by_cases hl:o.live;exact(h.heap.obj q o v h1 h2).ext he (by simp) λb hb _=>hs b (jv q o v b h1 hl h2 hb)
  ·cases o<;>first|exact ai|exact(hl ai).elim
 refine⟨h.keeps.os,h.keeps.tape,h.keeps.output,by simpa using h.keeps.size,λk hk hx=>?_⟩;rw[hs k (by omega)];exact h.keeps.block k hk hx;exact aK.qx _ _ _ (λb hb=>hs b (by have:=aK.x b hb;omega)) (by simp) h.inv;refine⟨λd' eJ=>?_,(List.pairwise_cons.1 h.marks.apart).2⟩;obtain⟨r',g1,g2,g3⟩:=h.marks.all d' (auz _ eJ);refine⟨r',g1,?_,g3⟩;have bV:r'≠r:=by intro e;subst e;exact(List.pairwise_cons.1 h.marks.apart).1 d' eJ (by rw[hd,g1])
 rw[hs r' bV];exact g2
theorem NK(aK:Γ.Ok)(su:∀r,Γ.m0 r->Γ.w0.heap.size<=r){fn:Func}{ts:Array Value}{R:Ending->World->Prop}(SB:∀w,Rel Γ s ⟨ts,[]⟩ w η->∃v,(results fn ts).run Γ.P w=.ok v w/\R (.returned v) w):∀(ds:List Deferred)(w:World),Rel Γ s ⟨ts,ds⟩ w η-> LeavesInM Γ.fR 0 Γ.P fn ts R ds .returning w:=by intro ds;induction ds with|nil=>intro w hr;exact SB w hr|cons d ds ih=>intro w hr;obtain⟨r,h1,h2,h3⟩:=hr.marks.all d auw;exact⟨by simp,.inl ⟨r,_,h1,run_takeDeferred h2,ih _ (hr.shut aK h1 h2 (su _ h3))⟩⟩
theorem EP{tab:Nat->Option TD}(aB:bp P tab){f:FuncId}{fn:Func}{c:Code}{args:List AV}{R:AV->Prop}(hf:P.funcs[f]?=some fn)(hb:fn.body=some c)(jB:(fn.name == "runtime.NumGoroutine")=false)(hn:args.length<=fn.ntmps)(h:∀Γ:Env Unit,Γ.Ok->Γ.P=P->fn.ntmps=Γ.nt->Γ.mU.length=0->Γ.K1->gu Γ c (SQ tab fn.results.toList (λr _=>R r)) ⟨eu 0 args,[],()⟩):Pure P f args R:=by refine⟨⟨fn,hf,jB,by rw[hb];rfl⟩,λw F vals hF hg hv=>?_⟩;let Γ:Env Unit:={ P:=P,w0:=w,F0:=F,X:=λ_=>False,Y:=λ_=>False,Inv:=λ_ _=>True,nt:=fn.ntmps,Ez:=none,m0:=λr=>w.heap.size<=r,Z:=λ_ _=>False,Cx:=[],mU:=[] };(have aK:Γ.Ok:=⟨rfl,λ_ h=>h.elim,λ_ h=>h.elim,λ_ _ _ _ _ h=>h,λ_ _ h=>h.elim,hg,λ_ _ h=>h.elim (λh=>h) λh=>h⟩;have Y3:=hv.length;have iP:∀b o,F b o->bu Γ w [] [] b o:=λb o hb=>⟨.inl hb,hF b o hb,λh=>h.elim (λh=>h) λh=>h,λr v hr=>by simp at hr⟩;have tV:∀(l:List AV)(us:List Value)(k:Nat),cC w F [] [] l us->∀t,bo w (bu Γ w [] []) [] [] (eu k l t) (if t<k then undef else(us[t-k]?).getD undef)\/t<k:=by intro l;induction l with|nil=>intro us k _ t;exact .inl (.top _)|cons x l ih=>intro us k hl t;cases us with|nil=>exact hl.elim|cons u us=>by_cases htk:t<k;exact .inr htk;refine .inl ?_;rw[if_neg htk];simp only[eu,gW];by_cases hte:t=k;subst hte;rw[if_pos rfl,avH];exact hl.1.bC iP;rw[if_neg hte];rcases ih us (k+1) hl.2 t with h1|h1;(rw[if_neg (by omega)]at h1;have:t-k=(t-(k+1))+1:=by omega);rw[this,au3];exact h1;omega);(have hrel:Rel Γ ⟨eu 0 args,[],()⟩ ⟨vals.toArray++Array.replicate (fn.ntmps-vals.toArray.size) undef,[]⟩ w []:=by (refine⟨by simp[Γ];omega,λt=>?_,⟨rfl,λr o v h=>by simp at h,λr r' o o' v v' b _ h=>by simp at h⟩,λr o v b h=>by simp at h,cy.refl _ w,ai,⟨λd hd=>(by cases hd),List.Pairwise.nil⟩,⟨λ_ _ _ _ h=>h,λ_ _ _ _ h=>h,iP,λ_ _ h=>h,λ_ _ h=>h,λ_ _ _ h=>h⟩⟩;have:=tV args vals 0 hv t;simp only[Nat.not_lt_zero,if_false,or_false,Nat.sub_zero]at this;have e:(vals.toArray++Array.replicate (fn.ntmps-vals.toArray.size) undef).getD t undef=(vals[t]?).getD undef:=by rw[au2];by_cases ht:t<vals.length;rw[Array.getElem?_append_left (by simpa using ht)];simp;rw[Array.getElem?_append_right (by simpa using ht),auP (by omega)];rw[Array.getElem?_replicate];split<;>rfl);show bo w _ _ _ _ ((vals.toArray++Array.replicate (fn.ntmps-vals.toArray.size) undef).getD t undef);rw[e];exact this);(have kS:=h Γ aK rfl rfl rfl ⟨rfl,λ_ h=>h⟩ _ _ _ hrel;refine callsIn_of_wp_marks (F:=Fence.wide) hf hb trivial (wpIn_mono (F:=Fence.wide) kS λe a' w' ⟨s',bh,hq,gM⟩=>?_);have fin:(∃l,gd tab s' fn.results.toList=some l/\R ((iV l).rQ s'.hp))->LeavesInM Fence.wide 0 P fn a'.tmps (λe w'=>∃v r,e=.returned v/\R r/\ck w w'/\bo w' (Lm F w w') [] [] r v) a'.defers .returning w':=by intro ⟨l,hl,hR⟩;have:=NK (Γ:=Γ) (s:=s') (η:=bh) (fn:=fn) (ts:=a'.tmps) (R:=λe w'=>∃v r,e=.returned v/\R r/\ck w w'/\bo w' (Lm F w w') [] [] r v) aK (λ_ h=>h) (λw2 ot=>by obtain⟨v,h1,h2⟩:=qH aB ot hl;refine⟨v,h1,v,_,rfl,hR,ot.keeps.same λb _ hx=>by rcases hx with h|h<;>exact h,?_⟩;refine Hw ot.heap ot.cu (λb o hf=>?_) (λb o hb aE=>hb.elim (λhb=>.inr ⟨hb,aE⟩) λhb=>hb.elim) h2;rcases hf.1 with h3|h3|h3;exact .inl h3;exact .inr ⟨h3,hf.2.1⟩;·exact h3.elim) a'.defers w' gM;exact this);cases e with|normal=>simp only[SQ]at hq;split at hq;rename_i l hl;exact fin ⟨l,hl,hq⟩;exact hq.elim|ret=>simp only[SQ]at hq;split at hq;rename_i l hl;exact fin ⟨l,hl,hq⟩;exact hq.elim|_=>exact hq.elim
end
section
variable {G:Type} {Γ:Env G} {s s':AS G} {a:Act} {w w':World} {η:List Value} {hp:List ax} {P:Program} {ops:Array Oper}
def zW(Γ:Env G)(o:Oper)(s:AS G)(r:AV):Prop:=∀a w η (Kc:Act->World->Prop) (Qc:Exit->Act->World->Prop),Rel Γ s a w η->(∀v w',ck w w'->bo w' (bu Γ w' η s.hp) η s.hp r v->Kc (a.put o.dst v) w')->o.wpIn Γ.fR 0 Γ.P a w Kc Qc
def AS.only(s:AS G)(L:List Nat):AS G:={ s with tmps:=λt=>if t∈L then s.tmps t else .top }
theorem Rel.only(h:Rel Γ s a w η)(L:List Nat):Rel Γ (s.only L) a w η:=by refine⟨h.nt,λt=>?_,h.heap,h.cu,h.keeps,h.inv,h.marks,h.ext⟩;show bo w _ η s.hp (if t∈L then s.tmps t else .top) _;split;exact h.tmps t;exact .top _
def gR:Op->Bool
 | .alloc _| .box ..| .store ..| .makeSlice ..| .makeMap ..| .mapUpdate ..| .insert ..| .range ..| .next ..=>true| .call { callee:=.builtin .append,.. }| .call { callee:=.builtin .copy,.. }| .call { callee:=.builtin .delete,.. }=>true|_=>false
def bE(ops:Array Oper)(s:AS G)(o:Oper):Option Bool:=
 match o.guard with
 |none=>some true
 |some (j,want)=>(lZ ops s j).map (·==some want)
def Yields(Γ:Env G)(ops:Array Oper)(o:Oper)(s:AS G)(x:AV):Prop:=fq Γ.nt o.dst/\((bE ops s o=some true/\zW Γ o (s.only (o.looksAt ops)) x)\/(bE ops s o=some false/\x=.ay (.tuple #[])))
theorem iv(hr:Rel Γ s a w η){o:Oper}{b:Bool}(h:bE ops s o=some b):Region.wanted o (yielded ops a.tmps)=b:=by unfold bE at h;split at h;rename_i hg;obtain rfl:=auj h;simp[Region.wanted,hg];rename_i j want hg;cases hs:lZ ops s j with|none=>rw[hs]at h;cases h|some c=>rw[hs]at h;obtain rfl:=auj h;simp[Region.wanted,hg,eW hr hs]
inductive Reach (ops:Array Oper) (i:Nat):Nat->Prop
 |agG (j:Nat) (o:Oper) (e:Edge) (ho:ops[j]?=some o) (he:e∈o.after) (hb:Region.binds .any e=true) (hi:e.on=i):Reach ops i j
 |step (j:Nat) (o:Oper) (e:Edge) (ho:ops[j]?=some o) (he:e∈o.after) (hb:Region.binds .any e=true) (h:Reach ops i e.on):Reach ops i j
def Shut(ops:Array Oper)(listed:Array Bool):Prop:=∀(k:Nat)(o:Oper),listed.getD k false=true->ops[k]?=some o->∀e∈o.after,Region.binds .any e=true->listed.getD e.on false=true
theorem Reach.listed{listed:Array Bool}(hs:Shut ops listed){i j:Nat}(h:Reach ops i j)(hj:∀o,ops[j]?=some o->∀e∈o.after,Region.binds .any e=true->listed.getD e.on false=true):listed.getD i false=true:=by induction h with|agG j o e ho he hb hi=>rw[<-hi];exact hj o ho e he hb|step j o e ho he hb _ ih=>exact ih λo' Cy=>hs e.on o' (hj o ho e he hb) Cy
theorem eA{listed:Array Bool}(hs:Shut ops listed){i:Nat}(hi:i∈Region.ready .any ops listed):Shut ops (listed.setIfInBounds i true):=by obtain⟨_,o,ho,Zb⟩:=mem_ready.1 hi;intro k o' hk Cy e he hb;by_cases hki:k=i;subst hki;rw[ho]at Cy;obtain rfl:=auj Cy;exact getD_set_true (Zb e he hb);refine getD_set_true (hs k o' ?_ Cy e he hb);simpa [avN (avU hki)]using hk
theorem Dc{listed:Array Bool}(hs:Shut ops listed){i j:Nat}(hi:i∈Region.ready .any ops listed)(hj:j∈Region.ready .any ops listed):¬Reach ops i j:=by (intro h;obtain⟨_,oj,KX,agH⟩:=mem_ready.1 hj;have h1:=h.listed hs λo ho e he hb=>by rw[KX]at ho;obtain rfl:=auj ho;exact agH e he hb);have h0:=(mem_ready.1 hi).1;rcases Nat.lt_or_ge i listed.size with h'| h';simp[h']at h0 h1;rw[h0]at h1;cases h1;simp[Array.getElem?_eq_none h']at h1
theorem SR{d:Option Nat}{x:AV}{L:List Nat}(h:∀t,d=some t->t∉L):(s.put d x).only L=s.only L:=by cases d with|none=>rfl|some d=>unfold AS.only AS.put;simp only;congr 1;funext t;by_cases ht:t∈L;(have bV:¬t=d:=by intro e;subst e;exact h t rfl ht);rw[if_pos ht,if_pos ht,gW,if_neg bV];rw[if_neg ht,if_neg ht]
theorem pf{d:Option Nat}{x:AV}{o:Oper}(h:∀t,d=some t->t∉o.looksAt ops):bE ops (s.put d x) o=bE ops s o:=by unfold bE;split;rfl;(rename_i j want hg;have:lZ ops (s.put d x) j=lZ ops s j:=by unfold lZ;split;rename_i t ht;(cases d with|none=>rfl|some d=>(have bV:t≠d:=by intro e;refine h d rfl ?_;simp[Oper.looksAt,hg,ht,e]);(have:(s.put (some d) x).tmps t=s.tmps t:=by show Cp s.tmps d x t=_;rw[gW,if_neg bV]);rw[this]);rfl);rw[this]
theorem put_comm{d e:Option Nat}{x y:AV}(h:∀t,d=some t->e≠some t):(s.put d x).put e y=(s.put e y).put d x:=by cases d with|none=>rfl|some d=>cases e with|none=>rfl|some e=>have bV:e≠d:=λhe=>h d rfl (he▸rfl);unfold AS.put;simp only;congr 1;funext t;simp only[gW];split<;>split<;>first|rfl|(rename_i h1 h2;exact(bV (h1▸h2)).elim)|omega
def NL(acc:List Nat)(o:Oper):Nat:=o.after.toList.foldl (λm e=>if Region.binds .any e=true then m ||| 2 ^ e.on ||| acc.getD e.on 0 else m) 0
def zX:List Oper->List Nat->List Nat
 | [],acc=>acc|o::l,acc=>zX l (acc++[NL acc o])
theorem Lq{acc:List Nat}{o:Oper}{k:Nat}(ho:ops[k]?=some o)(Hx:∀(j:Nat) m i,acc[j]?=some m->m.testBit i=true->Reach ops i j){i:Nat}(h:(NL acc o).testBit i=true):Reach ops i k:=by (unfold NL at h;have key:∀(es:List Edge)(m:Nat),(∀e∈es,e∈o.after)->(es.foldl (λm e=>if Region.binds .any e=true then m ||| 2 ^ e.on ||| acc.getD e.on 0 else m) m).testBit i=true->m.testBit i=true\/Reach ops i k:=by intro es;induction es with|nil=>intro m _ h;exact .inl h|cons e es ih=>intro m hm h;rcases ih _ (λe' SS=>hm e' (auz _ SS)) h with h1|h1;simp only at h1;split at h1;rename_i hb;rw[Nat.testBit_or,Nat.testBit_or,avh,avh]at h1;rcases h1 with(h1|h1)|h1;exact .inl h1;rw[Nat.testBit_two_pow]at h1;exact .inr (.agG k o e ho (hm e auw) hb (by simpa using h1));(cases hj:acc[e.on]? with|none=>simp[ae,hj]at h1|some m'=>simp only[ae,hj,avd]at h1;exact .inr (.step k o e ho (hm e auw) hb (Hx _ _ _ hj h1)));exact .inl h1;exact .inr h1);rcases key o.after.toList 0 (λe he=>by simpa using he) h with h1|h1;simp at h1;exact h1
theorem Dd:∀(l:List Oper)(acc:List Nat),(∀(j:Nat),l[j]?=ops[acc.length+j]?)->(∀(j:Nat) m i,acc[j]?=some m->m.testBit i=true->Reach ops i j)->∀(j:Nat) m i,(zX l acc)[j]?=some m->m.testBit i=true->Reach ops i j:=by intro l;induction l with|nil=>intro acc _ h;exact h|cons o l ih=>intro acc hl Hx;refine ih (acc++[NL acc o]) (λj=>?_) (λj m i hj hm=>?_);have:=hl (j+1);simp only[au3]at this;rw[this];congr 1;simp;omega;rcases ef hj with h1|⟨rfl,rfl⟩;exact Hx j m i h1 hm;exact Lq (by have:=hl 0;simpa using this.symm) Hx hm
end
end Go.Proofs.YthnnplohnceogaaGreatDoor
