/- Texts of ours laid together for a claim: FilA FilB FilC FilD FilE FilF FilG FilH FilI FilJ FilK FilL FilM. -/
import Derived.WalkKit
import Derived.CallsIn
import Derived.RangeFuncRecord
import Derived.Laws.AppendOwn
import Derived.Lib.AppendStr
import Derived.ArgAppend
namespace Go.Proofs.YtjhanogfpkbamaaGreatDoor
open Go
theorem ahX:type_of% @List.length_map:=@List.length_map
theorem ahY:type_of% @List.getElem?_eq_some_iff:=@List.getElem?_eq_some_iff
theorem ahZ:type_of% @Bool.and_eq_true:=@Bool.and_eq_true
theorem ah0:type_of% @List.length_append:=@List.length_append
theorem ah1:type_of% @List.getElem_mem:=@List.getElem_mem
theorem ah2:type_of% @List.getElem?_eq_getElem:=@List.getElem?_eq_getElem
theorem ah3:type_of% @Nat.zero_le:=@Nat.zero_le
theorem ah4:type_of% @List.all_eq_true:=@List.all_eq_true
theorem ah5:type_of% @Nat.le_refl:=@Nat.le_refl
theorem ah6:type_of% @List.drop_eq_getElem_cons:=@List.drop_eq_getElem_cons
theorem ah7:type_of% @List.append_assoc:=@List.append_assoc
theorem ah8:type_of% @List.drop_eq_nil_of_le:=@List.drop_eq_nil_of_le
theorem ah9:type_of% @List.take_of_length_le:=@List.take_of_length_le
theorem aia:type_of% @List.mem_cons_self:=@List.mem_cons_self
theorem aib:type_of% @List.getElem?_append_left:=@List.getElem?_append_left
theorem aic:type_of% @List.mem_of_getElem?:=@List.mem_of_getElem?
theorem aid:type_of% @List.length_take:=@List.length_take
theorem aie:type_of% @List.getElem?_map:=@List.getElem?_map
theorem aif:type_of% @List.length_cons:=@List.length_cons
theorem aih:type_of% @Bool.false_and:=@Bool.false_and
theorem aii:type_of% @List.map_append:=@List.map_append
theorem aij:type_of% @Bool.false_eq_true:=@Bool.false_eq_true
theorem aik:type_of% @List.getElem?_take:=@List.getElem?_take
theorem ail:type_of% @Array.getElem?_eq_some_iff:=@Array.getElem?_eq_some_iff
theorem aim:type_of% @Bool.true_and:=@Bool.true_and
theorem ain:type_of% @Nat.eq_of_beq_eq_true:=@Nat.eq_of_beq_eq_true
theorem aio:type_of% @List.eq_nil_of_length_eq_zero:=@List.eq_nil_of_length_eq_zero
theorem aip:type_of% @List.mem_cons_of_mem:=@List.mem_cons_of_mem
theorem aiq:type_of% @List.take_append_drop:=@List.take_append_drop
theorem air:type_of% @List.mem_singleton:=@List.mem_singleton
theorem ais:type_of% @List.map_cons:=@List.map_cons
theorem ait:type_of% @Nat.le_of_ble_eq_true:=@Nat.le_of_ble_eq_true
theorem aiu:type_of% @Array.getD_eq_getD_getElem?:=@Array.getD_eq_getD_getElem?
theorem aiv:type_of% @Option.map_some:=@Option.map_some
theorem aiw:type_of% @Nat.zero_add:=@Nat.zero_add
theorem aix:type_of% @List.length_drop:=@List.length_drop
theorem aiy:type_of% @Nat.le_trans:=@Nat.le_trans
theorem aiz:type_of% @List.getElem?_append_right:=@List.getElem?_append_right
theorem aiA:type_of% @Bool.not_eq_true':=@Bool.not_eq_true'
theorem aiB:type_of% @List.getElem?_cons_succ:=@List.getElem?_cons_succ
theorem aiC:type_of% @List.mem_cons:=@List.mem_cons
theorem aiD:type_of% @Nat.lt_of_lt_of_le:=@Nat.lt_of_lt_of_le
theorem aiE:type_of% @List.flatMap_cons:=@List.flatMap_cons
theorem aiF:type_of% @Array.toArray_toList:=@Array.toArray_toList
theorem aiG:type_of% @List.getElem?_eq_none:=@List.getElem?_eq_none
theorem aiH:type_of% @List.append_nil:=@List.append_nil
theorem aiI:type_of% @Option.bind_eq_some_iff:=@Option.bind_eq_some_iff
theorem aiJ:type_of% @List.take_length:=@List.take_length
theorem aiK:type_of% @List.length_nil:=@List.length_nil
theorem aiL:type_of% @Array.length_toList:=@Array.length_toList
theorem aiM:type_of% @List.mem_append:=@List.mem_append
theorem aiN:type_of% @List.length_singleton:=@List.length_singleton
theorem aiO:type_of% @List.ext_getElem?:=@List.ext_getElem?
theorem aiP:type_of% @Option.getD_some:=@Option.getD_some
theorem aiQ:type_of% @List.mem_map:=@List.mem_map
theorem aiR:type_of% @List.mem_of_mem_take:=@List.mem_of_mem_take
theorem aiS:type_of% @List.getElem?_cons_zero:=@List.getElem?_cons_zero
theorem aiT:type_of% @Array.getElem?_eq_getElem:=@Array.getElem?_eq_getElem
theorem aiU:type_of% @List.nil_append:=@List.nil_append
theorem aiV:type_of% @Nat.add_mul:=@Nat.add_mul
theorem aiW:type_of% @List.take_succ_eq_append_getElem:=@List.take_succ_eq_append_getElem
theorem aiX:type_of% @Option.map_eq_some_iff:=@Option.map_eq_some_iff
theorem aiY:type_of% @List.map_nil:=@List.map_nil
theorem aiZ:type_of% @Nat.mul_le_mul_right:=@Nat.mul_le_mul_right
theorem ai0:type_of% @List.length_pos_iff:=@List.length_pos_iff
theorem ai1:type_of% @List.cons_append:=@List.cons_append
theorem ai2:type_of% @List.flatMap_nil:=@List.flatMap_nil
theorem ai3:type_of% @Bool.and_false:=@Bool.and_false
theorem ai4:type_of% @Nat.add_zero:=@Nat.add_zero
theorem ai5:type_of% @List.all_cons:=@List.all_cons
theorem ai6:type_of% @Bool.or_eq_true:=@Bool.or_eq_true
theorem ai7:type_of% @List.map_congr_left:=@List.map_congr_left
theorem ai8:type_of% @List.flatMap_append:=@List.flatMap_append
theorem ai9:type_of% @Array.setIfInBounds_comm:=@Array.setIfInBounds_comm
theorem aja:type_of% @List.mem_range:=@List.mem_range
theorem ajb:type_of% @List.length_set:=@List.length_set
theorem ajc:type_of% @List.getElem?_drop:=@List.getElem?_drop
theorem ajd:type_of% @Bool.not_eq_false':=@Bool.not_eq_false'
theorem aje:type_of% @List.mem_append_left:=@List.mem_append_left
theorem ajf:type_of% @List.pairwise_cons:=@List.pairwise_cons
theorem ajg:type_of% @Nat.mul_one:=@Nat.mul_one
theorem ajh:type_of% @List.getElem?_of_mem:=@List.getElem?_of_mem
theorem aji:type_of% @List.mem_of_mem_drop:=@List.mem_of_mem_drop
theorem ajj:type_of% @List.drop_zero:=@List.drop_zero
theorem ajk:type_of% @List.getElem?_set:=@List.getElem?_set
theorem ajl:type_of% @Int.toNat_natCast:=@Int.toNat_natCast
theorem ajm:type_of% @Array.ext':=@Array.ext'
theorem ajn:type_of% @List.drop_length:=@List.drop_length
theorem ajo:type_of% @Array.getElem?_setIfInBounds_ne:=@Array.getElem?_setIfInBounds_ne
theorem ajp:type_of% @List.eq_nil_iff_forall_not_mem:=@List.eq_nil_iff_forall_not_mem
theorem ajq:type_of% @List.take_zero:=@List.take_zero
theorem ajr:type_of% @Array.getElem?_setIfInBounds:=@Array.getElem?_setIfInBounds
theorem ajs:type_of% @List.all_nil:=@List.all_nil
theorem ajt:type_of% @Nat.add_assoc:=@Nat.add_assoc
theorem aju:type_of% @Bool.not_true:=@Bool.not_true
theorem ajv:type_of% @Array.mem_toList_iff:=@Array.mem_toList_iff
theorem ajw:type_of% @Bool.and_assoc:=@Bool.and_assoc
theorem ajx:type_of% @List.map_toArray:=@List.map_toArray
theorem ajy:type_of% @Array.mem_append:=@Array.mem_append
theorem ajz:type_of% @Ne.symm:=@Ne.symm
theorem ajA:type_of% @List.drop_succ_cons:=@List.drop_succ_cons
theorem ajB:type_of% @Nat.le_of_lt:=@Nat.le_of_lt
theorem ajC:type_of% @Nat.min_eq_left:=@Nat.min_eq_left
theorem ajD:type_of% @List.take_left:=@List.take_left
theorem ajE:type_of% @Nat.mul_le_mul:=@Nat.mul_le_mul
theorem ajF:type_of% @Go.heap_setCell_other:=@Go.heap_setCell_other
theorem ajG:type_of% @Nat.sub_self:=@Nat.sub_self
theorem ajH:type_of% @List.getElem?_toArray:=@List.getElem?_toArray
theorem ajI:type_of% @Array.eq_empty_of_size_eq_zero:=@Array.eq_empty_of_size_eq_zero
theorem ajJ:type_of% @List.length_replicate:=@List.length_replicate
theorem ajK:type_of% @List.mem_append_right:=@List.mem_append_right
theorem ajL:type_of% @List.getElem_map:=@List.getElem_map
theorem ajM:type_of% @Bool.and_true:=@Bool.and_true
theorem ajN:type_of% @List.takeWhile_cons:=@List.takeWhile_cons
theorem ajO:type_of% @Array.getElem?_append_left:=@Array.getElem?_append_left
theorem ajP:type_of% @Nat.lt_or_ge:=@Nat.lt_or_ge
theorem ajQ:type_of% @List.mem_filterMap:=@List.mem_filterMap
theorem ajR:type_of% @List.mem_take_iff_getElem:=@List.mem_take_iff_getElem
theorem ajS:type_of% @List.size_toArray:=@List.size_toArray
theorem ajT:type_of% @Array.getElem?_replicate:=@Array.getElem?_replicate
theorem ajU:type_of% @List.length_range:=@List.length_range
theorem ajV:type_of% @Array.toList_map:=@Array.toList_map
theorem ajW:type_of% @ByteArray.size_extract:=@ByteArray.size_extract
theorem ajX:type_of% @Nat.not_lt_zero:=@Nat.not_lt_zero
theorem ajY:type_of% @List.length_filter_le:=@List.length_filter_le
theorem ajZ:type_of% @List.getElem?_range:=@List.getElem?_range
theorem aj0:type_of% @List.flatten_append:=@List.flatten_append
theorem aj1:type_of% @List.getElem_of_mem:=@List.getElem_of_mem
set_option linter.unusedSimpArgs false
set_option linter.unusedVariables false
section
inductive ME where
 |i (l:List (Int×Value))
 |s (l:List (ByteArray×Value))
def xX:TypeId:=96
inductive AV where
 |top
 |ah (v:Value)
 |fn (v:Value)
 |sl (els:List AV)
 |clip (els:List AV)
 |own (r n:Nat)
 |ptr (r off:Nat)
 |cL (e:AV) (off:Nat)
 |agg (cs:List AV)
 |aX (vs:List AV)
 |ck (f:Nat) (caps:List AV)
 |mp (r:Nat)
 |fH (es:ME)
 |fY (r n i size:Nat)
 |cX (f:Nat) (first:List AV)
instance:Inhabited AV:=⟨.top⟩
def AV.cells:AV→List AV
 | .agg cs=>cs
 |v=>[v]
inductive af where
 |dead
 |box (cs:List AV)
 |row (e size:Nat) (els:List AV)
 |cQ (es:ME)
 |dD (r n:Nat)
 |bM (e size:Nat) (els:List AV)
 |eH (e m:Nat) (ns:List Int)
def af.live:af→Prop
 | .dead=>False
 |_=>True
def dK:Value→Option Nat
 | .pointer (some a)=>some a.block
 | .slice (some a) _ c=>if c=0 then none else some a.block
 | .map (some b)=>some b
 |_=>none
def aY (η:List Value) (hp:List af) (r n:Nat) (v:Value):Prop:=
 match hp[r]? with
 |some (.row _ _ els)=>n≤els.length∧(n=els.length→η[r]?=some v)
 |some (.bM _ _ els)=>n≤els.length∧(n=els.length→η[r]?=some v)
 |some (.eH _ m _)=>n≤m∧(n=m→η[r]?=some v)
 |some .dead=>True
 |_=>False
def mI (es:Array MapEntry):List (Value×Value):=es.toList.map fun e=>(e.key,e.val)
def KP:ME→List (Value×Value)
 | .i l=>l.map fun p=>(.int .i64 p.1,p.2)
 | .s l=>l.map fun p=>(.string p.1,p.2)
inductive bw (w:World) (F:Nat→Nat→Prop):List Value→List af→AV→Value→Prop
 |top {η:List Value} {hp:List af} (v:Value):bw w F η hp .top v
 |ah {η:List Value} {hp:List af} (v:Value):bw w F η hp (.ah v) v
 |fn {η:List Value} {hp:List af} (v:Value) (h1:v.oneCell'=true):bw w F η hp (.fn v) v
 |pE {η:List Value} {hp:List af} (a:Option Addr):bw w F η hp (.sl []) (.slice a 0 0)
 |kA {η:List Value} {hp:List af} (a:Option Addr):bw w F η hp (.clip []) (.slice a 0 0)
 |sl {η:List Value} {hp:List af} (size:Nat) (els:List AV) (b o c:Nat) (f:Nat→Nat→Value) (hc:els.length≤c) (hm:c≤maxLen)
   (hl:∀(i:Nat) (e:AV),els[i]?=some e→e.cells.length=size)
   (aN:∀(i:Nat) (e:AV) (j:Nat) (x:AV),els[i]?=some e→e.cells[j]?=some x→w.cell? ⟨b,o+i*size+j,none⟩=some (f i j)∧F b (o+i*size+j)∧(f i j).oneCell'=true)
   (hr:∀(i:Nat) (e:AV) (j:Nat) (x:AV),els[i]?=some e→e.cells[j]?=some x→bw w F [] [] x (f i j)):
   bw w F η hp (.sl els) (.slice (some ⟨b,o,none⟩) els.length c)
 |clip {η:List Value} {hp:List af} (size:Nat) (els:List AV) (b o:Nat) (f:Nat→Nat→Value) (hm:els.length≤maxLen)
   (hl:∀(i:Nat) (e:AV),els[i]?=some e→e.cells.length=size)
   (aN:∀(i:Nat) (e:AV) (j:Nat) (x:AV),els[i]?=some e→e.cells[j]?=some x→w.cell? ⟨b,o+i*size+j,none⟩=some (f i j)∧F b (o+i*size+j)∧(f i j).oneCell'=true)
   (hr:∀(i:Nat) (e:AV) (j:Nat) (x:AV),els[i]?=some e→e.cells[j]?=some x→bw w F [] [] x (f i j)):
   bw w F η hp (.clip els) (.slice (some ⟨b,o,none⟩) els.length els.length)
 |own {η:List Value} {hp:List af} (r n:Nat) (v:Value) (h1:v.oneCell'=true) (h:aY η hp r n v):bw w F η hp (.own r n) v
 |ptr {η:List Value} {hp:List af} (r off b:Nat) (h:η[r]?=some (.pointer (some ⟨b,0,none⟩))):bw w F η hp (.ptr r off) (.pointer (some ⟨b,off,none⟩))
 |cL {η:List Value} {hp:List af} (e:AV) (off b o:Nat) (f:Nat→Value)
   (aN:∀(j:Nat) (x:AV),e.cells[j]?=some x→w.cell? ⟨b,o+j,none⟩=some (f j)∧F b (o+j)∧(f j).oneCell'=true)
   (hr:∀(j:Nat) (x:AV),e.cells[j]?=some x→bw w F [] [] x (f j)):
   bw w F η hp (.cL e off) (.pointer (some ⟨b,o+off,none⟩))
 |agg {η:List Value} {hp:List af} (cs:List AV) (vs:Array Value) (hl:vs.size=cs.length) (h1:∀v:Value,v∈vs→v.oneCell'=true)
   (hr:∀(j:Nat) (x:AV) (v:Value),cs[j]?=some x→vs[j]?=some v→bw w F η hp x v):bw w F η hp (.agg cs) (.agg vs)
 |aX {η:List Value} {hp:List af} (cs:List AV) (vs:Array Value) (hl:vs.size=cs.length)
   (hr:∀(j:Nat) (x:AV) (v:Value),cs[j]?=some x→vs[j]?=some v→bw w F η hp x v):bw w F η hp (.aX cs) (.tuple vs)
 |ck {η:List Value} {hp:List af} (fn:Nat) (cs:List AV) (vs:Array Value) (hl:vs.size=cs.length)
   (hr:∀(j:Nat) (x:AV) (v:Value),cs[j]?=some x→vs[j]?=some v→bw w F η hp x v):bw w F η hp (.ck fn cs) (.func (.func fn) #[] vs)
 |mp {η:List Value} {hp:List af} (r b:Nat) (h:η[r]?=some (.map (some b))):bw w F η hp (.mp r) (.map (some b))
 |fH {η:List Value} {hp:List af} (b:Nat) (es:Array MapEntry) (c:Nat) (h:w.heap[b]?=some (.map es c)) (hF:F b 0) (l:ME) (hl:mI es=KP l):bw w F η hp (.fH l) (.map (some b))
 |fY {η:List Value} {hp:List af} (r n i size b o c k:Nat) (h:aY η hp r n (.slice (some ⟨b,o,none⟩) k c)):bw w F η hp (.fY r n i size) (.pointer (some ⟨b,o+i*size,none⟩))
 |cX {η:List Value} {hp:List af} (fn:Nat) (cs:List AV) (vs:Array Value) (hl:vs.size=cs.length)
   (hr:∀(j:Nat) (x:AV) (v:Value),cs[j]?=some x→vs[j]?=some v→bw w F η hp x v):bw w F η hp (.cX fn cs) (.func (.func fn) vs #[])
structure Mt (w:World) (F:Nat→Nat→Prop) (w':World) (F':Nat→Nat→Prop):Prop where
 cell:∀b o v,F b o→w.cell? ⟨b,o,none⟩=some v→w'.cell? ⟨b,o,none⟩=some v
 kJ:∀b es c,F b 0→w.heap[b]?=some (.map es c)→w'.heap[b]?=some (.map es c)
 bD:∀b o,F b o→F' b o
structure Ext (w:World) (F:Nat→Nat→Prop) (η:List Value) (hp:List af) (w':World) (F':Nat→Nat→Prop) (aU:List Value) (hp':List af):Prop where
 cell:∀b o v,F b o→w.cell? ⟨b,o,none⟩=some v→w'.cell? ⟨b,o,none⟩=some v
 kJ:∀b es c,F b 0→w.heap[b]?=some (.map es c)→w'.heap[b]?=some (.map es c)
 bD:∀b o,F b o→F' b o
 ptr:∀(r:Nat) a,η[r]?=some (.pointer a)→aU[r]?=some (.pointer a)
 mp:∀(r:Nat) a,η[r]?=some (.map a)→aU[r]?=some (.map a)
 own:∀r n v,aY η hp r n v→aY aU hp' r n v
variable {w w':World} {F F':Nat→Nat→Prop} {η aU:List Value} {hp hp':List af}
theorem Mt.ext (h:Mt w F w' F'):Ext w F [] [] w' F' [] []:=
 ⟨h.cell,h.kJ,h.bD,fun _ _ h=>h,fun _ _ h=>h,fun _ _ _ h=>h⟩
theorem Ext.pN (h:Ext w F η hp w' F' aU hp'):Mt w F w' F':=⟨h.cell,h.kJ,h.bD⟩
theorem bw.ext (h:Ext w F η hp w' F' aU hp') {x:AV} {v:Value} (hx:bw w F η hp x v):bw w' F' aU hp' x v:=by
 induction hx generalizing aU hp' with
 |top v=>exact .top v
 |ah v=>exact .ah v
 |fn v h1=>exact .fn v h1
 |pE a=>exact .pE a
 |kA a=>exact .kA a
 |sl size els b o c f hc hm hl aN _ ih=>
  exact .sl size els b o c f hc hm hl (fun i e j x hi hj=>let ⟨h1,h2,h3⟩:=aN i e j x hi hj;⟨h.cell _ _ _ h2 h1,h.bD _ _ h2,h3⟩) fun i e j x hi hj=>ih i e j x hi hj h.pN.ext
 |clip size els b o f hm hl aN _ ih=>
  exact .clip size els b o f hm hl (fun i e j x hi hj=>let ⟨h1,h2,h3⟩:=aN i e j x hi hj;⟨h.cell _ _ _ h2 h1,h.bD _ _ h2,h3⟩) fun i e j x hi hj=>ih i e j x hi hj h.pN.ext
 |own r n v h1 h2=>exact .own r n v h1 (h.own _ _ _ h2)
 |ptr r off b h1=>exact .ptr r off b (h.ptr _ _ h1)
 |cL e off b o f aN _ ih=>
  exact .cL e off b o f (fun j x hj=>let ⟨h1,h2,h3⟩:=aN j x hj;⟨h.cell _ _ _ h2 h1,h.bD _ _ h2,h3⟩) fun j x hj=>ih j x hj h.pN.ext
 |agg cs vs hl h1 _ ih=>exact .agg cs vs hl h1 fun j x v h1 h2=>ih j x v h1 h2 h
 |aX cs vs hl _ ih=>exact .aX cs vs hl fun j x v h1 h2=>ih j x v h1 h2 h
 |ck fn cs vs hl _ ih=>exact .ck fn cs vs hl fun j x v h1 h2=>ih j x v h1 h2 h
 |mp r b h1=>exact .mp r b (h.mp _ _ h1)
 |fH b es c h1 h2 l hl=>exact .fH b es c (h.kJ _ _ _ h2 h1) (h.bD _ _ h2) l hl
 |fY r n i size b o c k h1=>exact .fY r n i size b o c k (h.own _ _ _ h1)
 |cX fn cs vs hl _ ih=>exact .cX fn cs vs hl fun j x v h1 h2=>ih j x v h1 h2 h
theorem bw.lift {x:AV} {v:Value} (hx:bw w F [] [] x v):bw w F η hp x v:=
 hx.ext ⟨fun _ _ _ _ h=>h,fun _ _ _ _ h=>h,fun _ _ h=>h,fun _ _ h=>by simp at h,fun _ _ h=>by simp at h,fun _ _ _ h=>by simp[aY] at h⟩
theorem Ext.trans {w1 w2 w3:World} {F1 F2 F3:Nat→Nat→Prop} {pL DI L8:List Value} {h1 h2 h3:List af} (h:Ext w1 F1 pL h1 w2 F2 DI h2) (k:Ext w2 F2 DI h2 w3 F3 L8 h3):Ext w1 F1 pL h1 w3 F3 L8 h3:=
 ⟨fun b o v hf hc=>k.cell b o v (h.bD _ _ hf) (h.cell b o v hf hc),fun b es c hf hc=>k.kJ b es c (h.bD _ _ hf) (h.kJ b es c hf hc),fun b o hf=>k.bD _ _ (h.bD _ _ hf),
  fun r a hr=>k.ptr r a (h.ptr r a hr),fun r a hr=>k.mp r a (h.mp r a hr),fun r n v ho=>k.own r n v (h.own r n v ho)⟩
def AV.Mu:AV→Bool
 | .ah v=>v.oneCell'
 | .top | .agg _ | .aX _=>false
 |_=>true
def cH (w:World) (F:Nat→Nat→Prop) (η:List Value) (hp:List af):List AV→List Value→Prop
 | [],[]=>True
 |x::xs,v::vs=>bw w F η hp x v∧cH w F η hp xs vs
 |_,_=>False
theorem cH.length {xs:List AV} {vs:List Value} (h:cH w F η hp xs vs):vs.length=xs.length:=by
 induction xs generalizing vs with
 |nil=>cases vs<;>simp_all [cH]
 |cons x xs ih=>cases vs with
  |nil=>simp[cH] at h
  |cons v vs=>simp only[aif];rw[ih h.2]
theorem cH.get {xs:List AV} {vs:List Value} (h:cH w F η hp xs vs):∀(j:Nat) (x:AV) (v:Value),xs[j]?=some x→vs[j]?=some v→bw w F η hp x v:=by
 induction xs generalizing vs with
 |nil=>intro j x v hx;simp at hx
 |cons x xs ih=>cases vs with
  |nil=>simp[cH] at h
  |cons v vs=>
   intro j y u hy hu
   cases j with
   |zero=>simp at hy hu;subst hy;subst hu;exact h.1
   |succ j=>exact ih h.2 j y u (by simpa using hy) (by simpa using hu)
theorem dF {xs:List AV} {vs:List Value} (hl:vs.length=xs.length) (h:∀(j:Nat) (x:AV) (v:Value),xs[j]?=some x→vs[j]?=some v→bw w F η hp x v):cH w F η hp xs vs:=by
 induction xs generalizing vs with
 |nil=>cases vs with
  |nil=>exact True.intro
  |cons v vs=>simp at hl
 |cons x xs ih=>cases vs with
  |nil=>simp at hl
  |cons v vs=>
   exact⟨h 0 x v rfl rfl,ih (by simpa using hl) fun j y u hy hu=>h (j+1) y u (by simpa using hy) (by simpa using hu)⟩
theorem cH.ext (h:Ext w F η hp w' F' aU hp') {xs:List AV} {vs:List Value} (hx:cH w F η hp xs vs):cH w' F' aU hp' xs vs:=
 dF hx.length fun j x v h1 h2=>(hx.get j x v h1 h2).ext h
def DJ:List (Nat×List Value):=[(1,(List.range 20).map fun i=>.int .u64 ((10 ^ i:Nat):Int))]
def nJ (b:Nat):Prop:=∃p,p∈DJ∧p.1=b
def pF (w:World):Prop:=∀p,p∈DJ→∃T,w.heap[p.1]?=some (.cells p.2.toArray T (0,0))
structure bX (w w':World):Prop where
 os:w'.os=w.os
 tape:w'.tape=w.tape
 output:w'.output=w.output
 size:w.heap.size≤w'.heap.size
 block:∀k,k<w.heap.size→w'.heap[k]?=w.heap[k]?
structure cD (X:Nat→Prop) (w w':World):Prop where
 os:w'.os=w.os
 tape:w'.tape=w.tape
 output:w'.output=w.output
 size:w.heap.size≤w'.heap.size
 block:∀k,k<w.heap.size→¬X k→w'.heap[k]?=w.heap[k]?
theorem bw.qH {els:List AV} {v:Value} (h:bw w F η hp (.clip els) v):bw w F η hp (.sl els) v:=by
 cases h with
 |kA a=>exact .pE a
 |clip size els b o f hm hl aN hr=>exact .sl size els b o _ f (ah5 _) hm hl aN hr
def lT (w:World) (e:TypeId) (size:Nat) (v:Value) (n:Nat) (xs:List Value) (k:Nat):Prop:=
 xs.length=n*size∧((n=0∧(v=.slice none 0 0∨∃ad:Addr,v=.slice (some ad) 0 0))∨
  ∃g cap cur,v=.slice (some ⟨g,0,none⟩) n cap∧0<cap∧(∃hi,hi≤k∧w.heap[g]?=some (.cells cur e (0,hi)))∧n≤cap∧cap≤maxLen∧cur.size=cap*size∧cur.toList.take (n*size)=xs)
theorem ct {a:Addr} {n c:Nat} (h:0<c):dK (.slice (some a) n c)=some a.block:=by simp[dK];omega
theorem lT.lt {w:World} {e size n k:Nat} {v:Value} {xs:List Value} (h:lT w e size v n xs k) {b:Nat} (hb:dK v=some b):∃cz:Array Value×Nat,w.heap[b]?=some (.cells cz.1 e (0,cz.2)):=by
 rcases h.2 with⟨_,rfl|⟨ad,rfl⟩⟩|⟨g,cap,cur,rfl,h0,⟨hi,_,h1⟩,_⟩
 ·simp[dK] at hb
 ·simp[dK] at hb
 ·rw[ct h0] at hb;obtain rfl:=Option.some.inj hb;exact⟨(cur,hi),h1⟩
theorem lT.QN {w w':World} {e size n k:Nat} {v:Value} {xs:List Value} (h:lT w e size v n xs k) (hb:∀b,dK v=some b→b<w.heap.size→w'.heap[b]?=w.heap[b]?):lT w' e size v n xs k:=by
 refine⟨h.1,?_⟩
 rcases h.2 with h1|⟨g,cap,cur,rfl,h0,⟨hi,hk,h1⟩,h2⟩
 ·exact .inl h1
 ·exact .inr ⟨g,cap,cur,rfl,h0,⟨hi,hk,by rw[hb g (ct h0) (ail.1 h1).1];exact h1⟩,h2⟩
theorem lT.more {w:World} {e size n k k':Nat} {v:Value} {xs:List Value} (h:lT w e size v n xs k) (hk:k≤k'):lT w e size v n xs k':=
 ⟨h.1,h.2.imp id fun⟨g,cap,cur,h1,h2,⟨hi,h3,h4⟩,h5⟩=>⟨g,cap,cur,h1,h2,⟨hi,aiy h3 hk,h4⟩,h5⟩⟩
def ga (w:World) (e:TypeId) (v:Value) (ns:List Int):Prop:=
 (ns=[]∧∃ad,v=.slice ad 0 0)∨
  ∃g o cap cur,v=.slice (some ⟨g,o,none⟩) ns.length cap∧0<cap∧w.heap[g]?=some (.cells cur e (0,0))∧ns.length≤cap∧cap≤maxLen∧o+cap≤cur.size∧
   ∀(i:Nat) (n:Int),ns[i]?=some n→cur[o+i]?=some (.int .i64 n)
theorem ga.lt {w:World} {e:Nat} {v:Value} {ns:List Int} (h:ga w e v ns) {b:Nat} (hb:dK v=some b):∃cur,w.heap[b]?=some (.cells cur e (0,0)):=by
 rcases h with⟨_,ad,rfl⟩|⟨g,o,cap,cur,rfl,h0,h1,_⟩
 ·cases ad<;>simp[dK] at hb
 ·rw[ct h0] at hb;obtain rfl:=Option.some.inj hb;exact⟨cur,h1⟩
theorem ga.QN {w w':World} {e:Nat} {v:Value} {ns:List Int} (h:ga w e v ns) (hb:∀b,dK v=some b→b<w.heap.size→w'.heap[b]?=w.heap[b]?):ga w' e v ns:=by
 rcases h with h1|⟨g,o,cap,cur,rfl,h0,h1,h2⟩
 ·exact .inl h1
 ·exact .inr ⟨g,o,cap,cur,rfl,h0,by rw[hb g (ct h0) (ail.1 h1).1];exact h1,h2⟩
theorem bX.refl (w:World):bX w w:=⟨rfl,rfl,rfl,ah5 _,fun _ _=>rfl⟩
theorem bX.trans {a b c:World} (h:bX a b) (k:bX b c):bX a c:=
 ⟨k.os.trans h.os,k.tape.trans h.tape,k.output.trans h.output,aiy h.size k.size,fun i hi=>(k.block i (aiD hi h.size)).trans (h.block i hi)⟩
theorem bX.alloc (w:World) (o:Obj):bX w (w.alloc o):=⟨rfl,rfl,rfl,by simp,fun k hk=>heap_alloc_old w o hk⟩
theorem bX.drew (w:World):bX w w.drew:=⟨rfl,rfl,rfl,ah5 _,fun _ _=>rfl⟩
theorem bX.keeps {w w':World} (X:Nat→Prop) (h:bX w w'):cD X w w':=⟨h.os,h.tape,h.output,h.size,fun k hk _=>h.block k hk⟩
theorem cD.same {w w':World} {X:Nat→Prop} (h:cD X w w') (hX:∀b,b<w.heap.size→¬X b):bX w w':=⟨h.os,h.tape,h.output,h.size,fun k hk=>h.block k hk (hX k hk)⟩
theorem cD.refl (X:Nat→Prop) (w:World):cD X w w:=⟨rfl,rfl,rfl,ah5 _,fun _ _ _=>rfl⟩
theorem cD.trans {X Z:Nat→Prop} {a b c:World} (h:cD X a b) (k:cD Z b c) (hZ:∀i,i<a.heap.size→Z i→X i):cD X a c:=
 ⟨k.os.trans h.os,k.tape.trans h.tape,k.output.trans h.output,aiy h.size k.size,
  fun i hi hx=>(k.block i (aiD hi h.size) (fun hz=>hx (hZ i hi hz))).trans (h.block i hi hx)⟩
theorem cD.cell {X:Nat→Prop} {w w':World} (h:cD X w w') {b o:Nat} (hb:b<w.heap.size) (hx:¬X b):w'.cell? ⟨b,o,none⟩=w.cell? ⟨b,o,none⟩:=by
 simp[World.cell?,h.block b hb hx]
theorem pF.lt {w:World} (h:pF w) {b:Nat} (hb:nJ b):b<w.heap.size:=by
 obtain⟨p,hp,rfl⟩:=hb
 obtain⟨T,h1⟩:=h p hp
 exact(ail.1 h1).1
theorem pF.keeps {X:Nat→Prop} {w w':World} (h:pF w) (k:cD X w w') (hx:∀b,nJ b→¬X b):pF w':=fun p hp=>by
 obtain⟨T,h1⟩:=h p hp
 exact⟨T,by rw[k.block p.1 (h.lt ⟨p,hp,rfl⟩) (hx p.1 ⟨p,hp,rfl⟩)];exact h1⟩
theorem pF.same {w w':World} (h:pF w) (k:bX w w'):pF w':=h.keeps (k.keeps fun _=>False) fun _ _=>not_false
theorem bY {w:World} {b:Nat} {o:Obj} (h:w.heap[b]?=some o):b<w.heap.size:=(ail.1 h).1
end
section
structure Env (G:Type) where
 P:Program
 w0:World
 F0:Nat→Nat→Prop
 X:Nat→Prop
 Y:Nat→Prop
 Inv:G→World→Prop
 nt:Nat
 Bw:Option Nat
 m0:Nat→Prop
 Z:Nat→Nat→Prop
 zY:List Value
 oQ:List af
def Env.No {G:Type} (Γ:Env G) (b o:Nat):Prop:=Γ.X b∨Γ.Z b o
structure Env.Ok {G:Type} (Γ:Env G):Prop where
 l0:Γ.zY.length=Γ.oQ.length
 x:∀b,Γ.X b→b<Γ.w0.heap.size
 y:∀b,Γ.Y b→b<Γ.w0.heap.size
 pO:∀g w w',(∀b,Γ.X b→w'.heap[b]?=w.heap[b]?)→w.heap.size≤w'.heap.size→Γ.Inv g w→Γ.Inv g w'
 z:∀b o,Γ.Z b o→b<Γ.w0.heap.size
 kg:pF Γ.w0
 gx:∀b,nJ b→¬(Γ.X b∨Γ.Y b)
def Env.DK {G:Type} (Γ:Env G):Prop:=Γ.Bw=none∧∀r,Γ.w0.heap.size≤r→Γ.m0 r
theorem Env.Ok.no {G:Type} {Γ:Env G} (h:Γ.Ok) {b o:Nat} (hb:Γ.No b o):b<Γ.w0.heap.size:=hb.elim (h.x b) (h.z b o)
structure AS (G:Type) where
 tmps:Nat→AV
 hp:List af
 g:G
def mB (η:List Value) (hp:List af) (b o:Nat):Prop:=
 ∀(r:Nat) (v:Value),η[r]?=some v→dK v=some b→
  match hp[r]? with
  |some (.row _ size els)=>o<els.length*size
  |some .dead=>True
  |_=>False
def bn {G:Type} (Γ:Env G) (w:World) (η:List Value) (hp:List af) (b o:Nat):Prop:=
 (Γ.F0 b o∨Γ.w0.heap.size≤b∨Γ.Y b)∧b<w.heap.size∧¬Γ.No b o∧mB η hp b o
def kV (w:World) (F:Nat→Nat→Prop) (η:List Value) (hp:List af):af→Value→Prop
 | .dead,_=>True
 | .box cs,v=>∃(b:Nat) (vs:Array Value) (T:TypeId),v=.pointer (some ⟨b,0,none⟩)∧w.heap[b]?=some (.cells vs T (0,0))∧vs.size=cs.length∧
   ∀(j:Nat) (x:AV) (u:Value),cs[j]?=some x→vs[j]?=some u→bw w F η hp x u∧u.oneCell'=true
 | .row e size els,v=>0<size∧∃xs:List Value,lT w e size v els.length xs (els.length*size)∧
   ∀(i:Nat) (el:AV),els[i]?=some el→el.cells.length=size∧
    ∀(j:Nat) (x:AV),el.cells[j]?=some x→∃u,xs[i*size+j]?=some u∧bw w F [] [] x u∧u.oneCell'=true
 | .dD r n,v=>∃(b:Nat) (vs:Array Value),v=.pointer (some ⟨b,0,none⟩)∧w.heap[b]?=some (.cells vs xX (0,0))∧(vs.size=2∧(n=0→vs[1]?=some (.slice none 0 0)))∧(vs[0]?=some (.pointer none)∨vs[0]?=some v)∧∃u,vs[1]?=some u∧bw w F η hp (.own r n) u
 | .cQ es,v=>∃(b:Nat) (en:Array MapEntry) (c:Nat),v=.map (some b)∧w.heap[b]?=some (.map en c)∧mI en=KP es
 | .bM e size els,v=>0<size∧∃xs:List Value,lT w e size v els.length xs 0∧
   ∀(i:Nat) (el:AV),els[i]?=some el→el.cells.length=size∧
    ∀(j:Nat) (x:AV),el.cells[j]?=some x→∃u,xs[i*size+j]?=some u∧bw w F [] [] x u∧u.oneCell'=true
 | .eH e _ ns,v=>ga w e v ns
structure eI (w:World) (F:Nat→Nat→Prop) (η:List Value) (hp:List af):Prop where
 len:η.length=hp.length
 obj:∀(r:Nat) (o:af) (v:Value),hp[r]?=some o→η[r]?=some v→kV w F η hp o v
 sep:∀(r r':Nat) (o o':af) (v v':Value) (b:Nat),r≠r'→hp[r]?=some o→hp[r']?=some o'→o.live→o'.live→
  η[r]?=some v→η[r']?=some v'→dK v=some b→dK v'≠some b
def xY {G:Type} (Γ:Env G) (η:List Value) (hp:List af):Prop:=
 ∀(r:Nat) (o:af) (v:Value) (b:Nat),hp[r]?=some o→o.live→η[r]?=some v→dK v=some b→(Γ.w0.heap.size≤b∨Γ.Y b)∧∀o,¬Γ.No b o
structure Marks (N:Nat→Prop) (ds:List Deferred) (w:World):Prop where
 all:∀d,d∈ds→∃r,d.target=.collected r∧w.heap[r]?=some (.deferred (some []))∧N r
 apart:ds.Pairwise fun d d'=>d.target≠d'.target
structure Rel {G:Type} (Γ:Env G) (s:AS G) (a:Act) (w:World) (η:List Value):Prop where
 nt:a.tmps.size=Γ.nt
 tmps:∀t,bw w (bn Γ w η s.hp) η s.hp (s.tmps t) (a.tmps.getD t undef)
 heap:eI w (bn Γ w η s.hp) η s.hp
 cE:xY Γ η s.hp
 keeps:cD (fun b=>Γ.X b∨Γ.Y b) Γ.w0 w
 inv:Γ.Inv s.g w
 marks:Marks Γ.m0 a.defers w
 ext:Ext Γ.w0 Γ.F0 Γ.zY Γ.oQ w (bn Γ w η s.hp) η s.hp
def Bx (f:Nat→AV) (t:Nat) (x:AV):Nat→AV:=fun u=>if u=t then x else f u
theorem gL (f:Nat→AV) (t:Nat) (x:AV) (u:Nat):Bx f t x u=if u=t then x else f u:=rfl
def AS.put {G:Type} (s:AS G) (d:Option Nat) (x:AV):AS G:=
 match d with
 |some d=>{ s with tmps:=Bx s.tmps d x }
 |none=>s
variable {G:Type} {Γ:Env G} {s:AS G} {a:Act} {w w':World} {η aU:List Value} {hp:List af}
theorem cD.marks {X:Nat→Prop} {N:Nat→Prop} {ds:List Deferred} (h:Marks N ds w) (k:cD X w w') (hX:∀b,X b→¬N b∨∀d,w.heap[b]?≠some (.deferred d)):Marks N ds w':=by
 refine⟨fun d hd=>?_,h.apart⟩
 obtain⟨r,h1,h2,h3⟩:=h.all d hd
 refine⟨r,h1,?_,h3⟩
 rw[k.block r (bY h2)]
 ·exact h2
 ·intro hx
  rcases hX r hx with h4|h4
  ·exact h4 h3
  ·exact h4 _ h2
theorem sW (hs:bX w w') (hF:∀b o,bn Γ w η hp b o→b<w.heap.size):Ext w (bn Γ w η hp) η hp w' (bn Γ w' η hp) η hp where
 cell b o v hf hc:=by rw[World.cell?_of_block (hs.block b (hF b o hf))];exact hc
 kJ b es c hf hc:=by rw[hs.block b (hF b 0 hf)];exact hc
 bD b o hf:=⟨hf.1,aiD hf.2.1 hs.size,hf.2.2⟩
 ptr _ _ h:=h
 mp _ _ h:=h
 own _ _ _ h:=h
theorem fz {b o:Nat} (h:bn Γ w η hp b o):b<w.heap.size:=h.2.1
theorem kV.ext {F F':Nat→Nat→Prop} {hp':List af} {o:af} {v:Value} (h:kV w F η hp o v) (he:Ext w F η hp w' F' aU hp') (cJ:w.heap.size≤w'.heap.size)
  (hb:∀b,dK v=some b→b<w.heap.size→w'.heap[b]?=w.heap[b]?):kV w' F' aU hp' o v:=by
 cases o with
 |dead=>exact True.intro
 |box cs=>
  obtain⟨b,vs,T,rfl,h1,h2,h3⟩:=h
  exact⟨b,vs,T,rfl,by rw[hb b rfl (bY h1)];exact h1,h2,fun j x u hx hu=>⟨(h3 j x u hx hu).1.ext he,(h3 j x u hx hu).2⟩⟩
 |row e size els=>
  obtain⟨h0,xs,h1,h2⟩:=h
  refine⟨h0,xs,h1.QN hb,fun i el hi=>⟨(h2 i el hi).1,fun j x hj=>?_⟩⟩
  ·obtain⟨u,h3,h4,h5⟩:=(h2 i el hi).2 j x hj
   exact⟨u,h3,h4.ext he.pN.ext,h5⟩
 |dD q k=>
  obtain⟨b,vs,rfl,h1,h2,h3,u,h4,h5⟩:=h
  exact⟨b,vs,rfl,by rw[hb b rfl (bY h1)];exact h1,h2,h3,u,h4,h5.ext he⟩
 |cQ es=>
  obtain⟨b,en,c,rfl,h1,h2⟩:=h
  exact⟨b,en,c,rfl,by rw[hb b rfl (bY h1)];exact h1,h2⟩
 |bM e size els=>
  obtain⟨h0,xs,h1,h2⟩:=h
  refine⟨h0,xs,h1.QN hb,fun i el hi=>⟨(h2 i el hi).1,fun j x hj=>?_⟩⟩
  ·obtain⟨u,h3,h4,h5⟩:=(h2 i el hi).2 j x hj
   exact⟨u,h3,h4.ext he.pN.ext,h5⟩
 |eH e m ns=>exact ga.QN h hb
theorem eI.same (h:eI w (bn Γ w η hp) η hp) (hs:bX w w'):eI w' (bn Γ w' η hp) η hp:=
 ⟨h.len,fun r o v h1 h2=>(h.obj r o v h1 h2).ext (sW hs fun _ _=>fz) hs.size fun b _ ay=>hs.block b ay,h.sep⟩
theorem cD.By {X:Nat→Prop} {w0:World} (h:cD X w0 w) (hs:bX w w'):cD X w0 w':=
 h.trans (hs.keeps fun _=>False) fun _ _ hf=>hf.elim
theorem Rel.same (aD:Γ.Ok) (h:Rel Γ s a w η) (hs:bX w w'):Rel Γ s a w' η where
 nt:=h.nt
 tmps t:=(h.tmps t).ext (sW hs fun _ _=>fz)
 heap:=h.heap.same hs
 cE:=h.cE
 keeps:=h.keeps.By hs
 inv:=aD.pO _ _ _ (fun b hb=>hs.block b (aiD (aD.x b hb) h.keeps.size)) hs.size h.inv
 marks:=(hs.keeps fun _=>False).marks h.marks fun _ hf=>hf.elim
 ext:=h.ext.trans (sW hs fun _ _=>fz)
theorem Rel.kg (aD:Γ.Ok) (h:Rel Γ s a w η):pF w:=aD.kg.keeps h.keeps aD.gx
theorem Rel.put (h:Rel Γ s a w η) {d:Option Nat} {x:AV} {v:Value} (hd:∀t,d=some t→t<Γ.nt) (hr:bw w (bn Γ w η s.hp) η s.hp x v):Rel Γ (s.put d x) (a.put d v) w η:=by
 cases d with
 |none=>exact h
 |some d=>
  refine⟨by simpa [Act.put] using h.nt,fun t=>?_,h.heap,h.cE,h.keeps,h.inv,h.marks,h.ext⟩
  show bw w _ η s.hp (Bx s.tmps d x t) ((a.tmps.setIfInBounds d v).getD t undef)
  by_cases htd:t=d
  ·subst htd
   have ay:t<a.tmps.size:=by rw[h.nt];exact hd t rfl
   have e:(a.tmps.setIfInBounds t v).getD t undef=v:=by simp[ay]
   rw[gL,if_pos rfl,e]
   exact hr
  ·have e:(a.tmps.setIfInBounds d v).getD t undef=a.tmps.getD t undef:=by
    simp only[aiu]
    rw[ajo (ajz htd)]
   rw[gL,if_neg htd,e]
   exact h.tmps t
def AS.add (s:AS G) (o:af):AS G:={ s with hp:=s.hp++[o] }
theorem cM {α:Type} {l:List α} {x y:α} {r:Nat} (h:l[r]?=some y):(l++[x])[r]?=some y:=by
 rw[aib (ahY.1 h).1];exact h
theorem dP {α:Type} {l:List α} {x y:α} {r:Nat} (h:(l++[x])[r]?=some y):l[r]?=some y∨(r=l.length∧y=x):=by
 rcases Nat.lt_trichotomy r l.length with h1|h1|h1
 ·rw[aib h1] at h;exact .inl h
 ·subst h1;simp at h;exact .inr ⟨rfl,h.symm⟩
 ·rw[aiz (by omega)] at h
  have:r-l.length≠0:=by omega
  cases hk:r-l.length with
  |zero=>omega
  |succ k=>rw[hk] at h;simp at h
theorem mB.snoc {o:af} {v:Value} {b k:Nat} (hl:η.length=hp.length) (h:mB η hp b k) (hv:dK v=some b→False):mB (η++[v]) (hp++[o]) b k:=by
 intro r u hu hb
 rcases dP hu with h1|⟨rfl,rfl⟩
 ·have:=h r u h1 hb
  have hr:r<hp.length:=by rw[←hl];exact(ahY.1 h1).1
  rw[aib hr]
  exact this
 ·exact(hv hb).elim
theorem aY.snoc {o:af} {v u:Value} {r n:Nat} (h:aY η hp r n u):aY (η++[v]) (hp++[o]) r n u:=by
 unfold aY at h ⊢
 cases hr:hp[r]? with
 |none=>simp[hr] at h
 |some x=>
  rw[cM hr]
  rw[hr] at h
  cases x with
  |row e size els=>exact⟨h.1,fun hn=>cM (h.2 hn)⟩
  |dead=>exact True.intro
  |box cs=>exact h
  |cQ es=>exact h
  |dD q k=>exact h
  |bM e size els=>exact⟨h.1,fun hn=>cM (h.2 hn)⟩
  |eH e m ns=>exact⟨h.1,fun hn=>cM (h.2 hn)⟩
theorem xj {o:af} {v:Value} (hl:η.length=hp.length) (hs:bX w w') (hv:∀b,dK v=some b→w.heap.size≤b):
  Ext w (bn Γ w η hp) η hp w' (bn Γ w' (η++[v]) (hp++[o])) (η++[v]) (hp++[o]) where
 cell b k u hf hc:=by rw[World.cell?_of_block (hs.block b (fz hf))];exact hc
 kJ b es c hf hc:=by rw[hs.block b (fz hf)];exact hc
 bD b k hf:=⟨hf.1,aiD hf.2.1 hs.size,hf.2.2.1,hf.2.2.2.snoc hl fun hb=>by have:=hv b hb;have:=fz hf;omega⟩
 ptr _ _ h:=cM h
 mp _ _ h:=cM h
 own _ _ _ h:=h.snoc
theorem Rel.add (aD:Γ.Ok) (h:Rel Γ s a w η) {o:af} {v:Value} (hs:bX w w') (hv:∀b,dK v=some b→w.heap.size≤b)
  (ho:kV w' (bn Γ w' (η++[v]) (s.hp++[o])) (η++[v]) (s.hp++[o]) o v):Rel Γ (s.add o) a w' (η++[v]):=by
 have he:=xj (Γ:=Γ) (o:=o) (v:=v) h.heap.len hs hv
 have cJ:=h.keeps.size
 have pP:∀(r:Nat) (u:Value) (b:Nat),η[r]?=some u→dK u=some b→b<w.heap.size∨¬∃o:af,s.hp[r]?=some o∧o.live:=by
  intro r u b hu hb
  by_cases ay:b<w.heap.size
  ·exact .inl ay
  ·refine .inr fun⟨o',xZ,hli⟩=>ay ?_
   have eP:=h.heap.obj r o' u xZ hu
   cases o' with
   |dead=>exact hli.elim
   |box cs=>obtain⟨b',vs,T,rfl,h1,_⟩:=eP;simp only[dK,Option.some.injEq] at hb;subst hb;exact bY h1
   |row e size els=>
    obtain⟨_,xs,h1,_⟩:=eP
    obtain⟨cur,h5⟩:=h1.lt hb
    exact bY h5
   |cQ es=>obtain⟨b',en,c,rfl,h1,_⟩:=eP;simp only[dK,Option.some.injEq] at hb;subst hb;exact bY h1
   |dD q k=>obtain⟨b',vs,rfl,h1,_⟩:=eP;simp only[dK,Option.some.injEq] at hb;subst hb;exact bY h1
   |bM e size els=>
    obtain⟨_,xs,h1,_⟩:=eP
    obtain⟨cur,h5⟩:=h1.lt hb
    exact bY h5
   |eH e m ns=>obtain⟨cur,h5⟩:=ga.lt eP hb;exact bY h5
 refine⟨h.nt,fun t=>(h.tmps t).ext he,⟨by simp[AS.add,h.heap.len],?_,?_⟩,?_,h.keeps.By hs,
  aD.pO _ _ _ (fun b hb=>hs.block b (aiD (aD.x b hb) h.keeps.size)) hs.size h.inv,(hs.keeps fun _=>False).marks h.marks fun _ hf=>hf.elim,h.ext.trans he⟩
 ·intro r o' u h1 h2
  rcases dP h1 with h3|⟨rfl,rfl⟩
  ·rcases dP h2 with h4|⟨rfl,rfl⟩
   ·exact(h.heap.obj r o' u h3 h4).ext he hs.size fun b _ ay=>hs.block b ay
   ·have:=(ahY.1 h3).1;have:=h.heap.len;omega
  ·have:(η++[v])[s.hp.length]?=some v:=by rw[←h.heap.len];simp
   rw[this] at h2
   obtain rfl:=Option.some.inj h2
   exact ho
 ·intro r r' o1 o2 v1 v2 b bK h1 h2 l1 l2 e1 e2 hb
  rcases dP h1 with h3|⟨rfl,rfl⟩<;>rcases dP h2 with h4|⟨rfl,rfl⟩
  ·have hr:r<η.length:=by rw[h.heap.len];exact(ahY.1 h3).1
   have fZ:r' < η.length:=by rw[h.heap.len];exact(ahY.1 h4).1
   rw[aib hr] at e1
   rw[aib fZ] at e2
   exact h.heap.sep r r' o1 o2 v1 v2 b bK h3 h4 l1 l2 e1 e2 hb
  ·have hr:r<η.length:=by rw[h.heap.len];exact(ahY.1 h3).1
   rw[aib hr] at e1
   have:(η++[v])[s.hp.length]?=some v:=by rw[←h.heap.len];simp
   rw[this] at e2
   obtain rfl:=Option.some.inj e2
   intro gb
   have:=hv b gb
   rcases pP r v1 b e1 hb with h5|h5
   ·omega
   ·exact h5 ⟨o1,h3,l1⟩
  ·have fZ:r' < η.length:=by rw[h.heap.len];exact(ahY.1 h4).1
   rw[aib fZ] at e2
   have:(η++[v])[s.hp.length]?=some v:=by rw[←h.heap.len];simp
   rw[this] at e1
   obtain rfl:=Option.some.inj e1
   intro gb
   have:=hv b hb
   rcases pP r' v2 b e2 gb with h5|h5
   ·omega
   ·exact h5 ⟨o2,h4,l2⟩
  ·exact(bK rfl).elim
 ·intro r o' u b h1 hli h2 hb
  rcases dP h1 with h3|⟨rfl,rfl⟩
  ·have hr:r<η.length:=by rw[h.heap.len];exact(ahY.1 h3).1
   rw[aib hr] at h2
   exact h.cE r o' u b h3 hli h2 hb
  ·have:(η++[v])[s.hp.length]?=some v:=by rw[←h.heap.len];simp
   rw[this] at h2
   obtain rfl:=Option.some.inj h2
   have h5:=hv b hb
   exact⟨.inl (aiy cJ h5),fun o hx=>by have:=aD.no hx;omega⟩
end
section
variable {G:Type} {Γ:Env G} {s:AS G} {a:Act} {w w':World} {η aU:List Value} {hp:List af}
theorem getElem?_set_ne {α:Type} {l:List α} {r r':Nat} {x:α} (h:r≠r'):(l.set r x)[r']?=l[r']?:=by
 rw[ajk];simp[h]
theorem aA {α:Type} {l:List α} {r:Nat} {x y:α} (h:l[r]?=some y):(l.set r x)[r]?=some x:=by
 rw[ajk];simp[(ahY.1 h).1]
def af.bD (k:Nat):af→Prop
 | .row _ size els=>k<els.length*size
 | .dead=>True
 |_=>False
theorem aZ (b k:Nat):mB η hp b k↔∀(r:Nat) (v:Value),η[r]?=some v→dK v=some b→∃o,hp[r]?=some o∧o.bD k:=by
 constructor
 ·intro h r v h1 h2
  have:=h r v h1 h2
  cases hr:hp[r]? with
  |none=>simp[hr] at this
  |some o=>rw[hr] at this;refine⟨o,rfl,?_⟩;cases o<;>exact this
 ·intro h r v h1 h2
  obtain⟨o,h3,h4⟩:=h r v h1 h2
  rw[h3]
  cases o<;>exact h4
theorem eI.block (h:eI w (bn Γ w η hp) η hp) {r:Nat} {o:af} {u:Value} {b:Nat} (ho:hp[r]?=some o) (hl:o.live) (hu:η[r]?=some u) (hb:dK u=some b):b<w.heap.size:=by
 have eP:=h.obj r o u ho hu
 cases o with
 |dead=>exact hl.elim
 |box cs=>obtain⟨b',vs,T,rfl,h1,_⟩:=eP;simp only[dK,Option.some.injEq] at hb;subst hb;exact bY h1
 |row e size els=>
  obtain⟨_,xs,h1,_⟩:=eP
  obtain⟨cur,h5⟩:=h1.lt hb
  exact bY h5
 |cQ es=>obtain⟨b',en,c,rfl,h1,_⟩:=eP;simp only[dK,Option.some.injEq] at hb;subst hb;exact bY h1
 |dD q k=>obtain⟨b',vs,rfl,h1,_⟩:=eP;simp only[dK,Option.some.injEq] at hb;subst hb;exact bY h1
 |bM e size els=>
  obtain⟨_,xs,h1,_⟩:=eP
  obtain⟨cur,h5⟩:=h1.lt hb
  exact bY h5
 |eH e m ns=>obtain⟨cur,h5⟩:=ga.lt eP hb;exact bY h5
theorem Rel.change (aD:Γ.Ok) (h:Rel Γ s a w η) {r:Nat} {o o':af} {v v':Value} (hr:s.hp[r]?=some o) (fo:o.live) (hv:η[r]?=some v)
  (hk:cD (fun k=>dK v=some k) w w') (L9:∀b,dK v'=some b→dK v=some b∨w.heap.size≤b)
  (jQ:∀k,o.bD k→o'.bD k)
  (aN:∀b k u,dK v=some b→o.bD k→w.cell? ⟨b,k,none⟩=some u→w'.cell? ⟨b,k,none⟩=some u)
  (XA:∀b es c,dK v=some b→o.bD 0→w.heap[b]?=some (.map es c)→False)
  (uK:∀n u,aY η s.hp r n u→aY (η.set r v') (s.hp.set r o') r n u)
  (abj:∀x,v=.pointer x→v'=v) (hmp:∀x,v=.map x→v'=v)
  (VF:∀b d,dK v=some b→w.heap[b]?=some (.deferred d)→False)
  (xZ:Ext w (bn Γ w η s.hp) η s.hp w' (bn Γ w' (η.set r v') (s.hp.set r o')) (η.set r v') (s.hp.set r o')→kV w' (bn Γ w' (η.set r v') (s.hp.set r o')) (η.set r v') (s.hp.set r o') o' v'):
  Rel Γ { s with hp:=s.hp.set r o' } a w' (η.set r v'):=by
 have eP:∀b k,bn Γ w η s.hp b k→dK v=some b→o.bD k:=fun b k hf hb=>by
  obtain⟨o1,h1,h2⟩:=(aZ b k).1 hf.2.2.2 r v hv hb
  rw[hr] at h1
  obtain rfl:=Option.some.inj h1
  exact h2
 have he:Ext w (bn Γ w η s.hp) η s.hp w' (bn Γ w' (η.set r v') (s.hp.set r o')) (η.set r v') (s.hp.set r o'):=by
  refine⟨fun b k u hf hc=>?_,fun b es c hf hc=>?_,fun b k hf=>?_,fun r1 x h1=>?_,fun r1 x h1=>?_,fun r1 n u h1=>?_⟩
  ·by_cases hb:dK v=some b
   ·exact aN b k u hb (eP b k hf hb) hc
   ·rw[hk.cell (fz hf) hb];exact hc
  ·by_cases hb:dK v=some b
   ·exact(XA b es c hb (eP b 0 hf hb) hc).elim
   ·rw[hk.block b (fz hf) hb];exact hc
  ·refine⟨hf.1,aiD hf.2.1 hk.size,hf.2.2.1,(aZ b k).2 fun r1 u h1 hb=>?_⟩
   by_cases bK:r=r1
   ·subst bK
    rw[aA hv] at h1
    obtain rfl:=Option.some.inj h1
    refine⟨o',aA hr,?_⟩
    rcases L9 b hb with h2|h2
    ·exact jQ k (eP b k hf h2)
    ·have:=fz hf;omega
   ·rw[getElem?_set_ne bK] at h1 ⊢
    exact(aZ b k).1 hf.2.2.2 r1 u h1 hb
  ·by_cases bK:r=r1
   ·subst bK
    rw[hv] at h1
    obtain rfl:=Option.some.inj h1
    rw[aA hv,abj _ rfl]
   ·rw[getElem?_set_ne bK];exact h1
  ·by_cases bK:r=r1
   ·subst bK
    rw[hv] at h1
    obtain rfl:=Option.some.inj h1
    rw[aA hv,hmp _ rfl]
   ·rw[getElem?_set_ne bK];exact h1
  ·by_cases bK:r=r1
   ·subst bK;exact uK n u h1
   ·unfold aY at h1 ⊢
    rw[getElem?_set_ne bK,getElem?_set_ne bK];exact h1
 refine⟨h.nt,fun t=>(h.tmps t).ext he,⟨by simp[h.heap.len],fun r1 o1 u h1 h2=>?_,fun r1 r2 o1 o2 v1 v2 b bK h1 h2 l1 l2 e1 e2 hb=>?_⟩,fun r1 o1 u b h1 hl h2 hb=>?_,?_,?_,?_,h.ext.trans he⟩
 ·simp only at h1
  by_cases bK:r=r1
  ·subst bK
   rw[aA hr] at h1
   rw[aA hv] at h2
   obtain rfl:=Option.some.inj h1
   obtain rfl:=Option.some.inj h2
   exact xZ he
  ·rw[getElem?_set_ne bK] at h1 h2
   by_cases DA:o1.live
   ·exact(h.heap.obj r1 o1 u h1 h2).ext he hk.size fun b hb ay=>hk.block b ay fun gb=>h.heap.sep r1 r o1 o u v b (ajz bK) h1 hr DA fo h2 hv hb gb
   ·cases o1<;>first|exact True.intro|exact(DA True.intro).elim
 ·simp only at h1 h2
  by_cases n1:r=r1
  ·subst n1
   rw[aA hv] at e1
   obtain rfl:=Option.some.inj e1
   rw[getElem?_set_ne bK] at h2 e2
   intro gb
   rcases L9 b hb with h3|h3
   ·exact h.heap.sep r r2 o o2 v v2 b bK hr h2 fo l2 hv e2 h3 gb
   ·have:=h.heap.block h2 l2 e2 gb;omega
  ·rw[getElem?_set_ne n1] at h1 e1
   by_cases n2:r=r2
   ·subst n2
    rw[aA hv] at e2
    obtain rfl:=Option.some.inj e2
    intro gb
    rcases L9 b gb with h3|h3
    ·exact h.heap.sep r r1 o o1 v v1 b (fun e=>n1 e) hr h1 fo l1 hv e1 h3 hb
    ·have:=h.heap.block h1 l1 e1 hb;omega
   ·rw[getElem?_set_ne n2] at h2 e2
    exact h.heap.sep r1 r2 o1 o2 v1 v2 b bK h1 h2 l1 l2 e1 e2 hb
 ·simp only at h1
  by_cases bK:r=r1
  ·subst bK
   rw[aA hv] at h2
   obtain rfl:=Option.some.inj h2
   rcases L9 b hb with h3|h3
   ·exact h.cE r o v b hr fo hv h3
   ·exact⟨.inl (aiy h.keeps.size h3),fun o hx=>by have:=aD.no hx;have:=h.keeps.size;omega⟩
  ·rw[getElem?_set_ne bK] at h1 h2
   exact h.cE r1 o1 u b h1 hl h2 hb
 ·refine h.keeps.trans hk fun b hb rI=>?_
  rcases (h.cE r o v b hr fo hv rI).1 with h1|h1
  ·omega
  ·exact .inr h1
 ·refine aD.pO _ _ _ (fun b hb=>hk.block b (aiD (aD.x b hb) h.keeps.size) fun rI=>?_) hk.size h.inv
  exact(h.cE r o v b hr fo hv rI).2 0 (.inl hb)
 ·exact hk.marks h.marks fun b rI=>.inr fun d hd=>VF b d rI hd
def setCells (cs:List AV) (off:Nat):List AV→List AV
 | []=>cs
 |x::xs=>setCells (cs.set off x) (off+1) xs
theorem wJ (xs:List AV):∀(cs:List AV) (off:Nat),(setCells cs off xs).length=cs.length:=by
 induction xs with
 |nil=>intro cs off;rfl
 |cons x xs ih=>intro cs off;simp[setCells,ih]
theorem Rel.write (aD:Γ.Ok) (h:Rel Γ s a w η) {r off b:Nat} {cs:List AV} {x:AV} {v:Value} (hr:s.hp[r]?=some (.box cs)) (hv:η[r]?=some (.pointer (some ⟨b,0,none⟩)))
  (QO:off<cs.length) (h1:v.oneCell'=true) (hx:bw w (bn Γ w η s.hp) η s.hp x v):
  Rel Γ { s with hp:=s.hp.set r (.box (cs.set off x)) } a (w.setCell ⟨b,off,none⟩ v) η∧w.frozen? ⟨b,off,none⟩=false∧∃u,w.cell? ⟨b,off,none⟩=some u:=by
 have eP:=h.heap.obj r _ _ hr hv
 obtain⟨b',vs,T,he,hg,cJ,hc⟩:=eP
 simp only[Value.pointer.injEq,Option.some.injEq,Addr.mk.injEq,and_true] at he
 subst he
 have wK:(w.setCell ⟨b,off,none⟩ v).heap[b]?=some (.cells (vs.setIfInBounds off v) T (0,0)):=Go.heap_setCell_same w b off vs T v hg
 have eS:η.set r (.pointer (some ⟨b,0,none⟩))=η:=by
  apply aiO
  intro i
  by_cases hi:r=i
  ·subst hi;rw[aA hv,hv]
  ·rw[getElem?_set_ne hi]
 refine⟨?_,frozen_of_row w b off vs T hg,?_⟩
 ·have:=Rel.change (w':=w.setCell ⟨b,off,none⟩ v) (o':=.box (cs.set off x)) (v':=.pointer (some ⟨b,0,none⟩)) aD h hr True.intro hv
   ⟨rfl,rfl,rfl,by simp[World.setCell],fun k hk hb=>ajF w _ k v (by intro e;exact hb (by rw[e];rfl))⟩
   (fun c hc=>.inl hc) (fun k hk=>hk.elim) (fun _ _ _ _ hk=>hk.elim) (fun _ _ _ _ hk=>hk.elim)
   (fun n u ho=>by simp[aY,hr] at ho)
   (fun _ _=>rfl) (fun _ hx=>by cases hx)
   (fun c d hb hd=>by simp only[dK,Option.some.injEq] at hb;subst hb;rw[hg] at hd;cases hd)
   (fun he=>⟨b,vs.setIfInBounds off v,T,rfl,wK,by simp[cJ],fun j y u hy hu=>by
    by_cases hj:off=j
    ·subst hj
     have ay:off<vs.size:=by rw[cJ];exact QO
     have e1:(cs.set off x)[off]?=some x:=by rw[ajk];simp[QO]
     have e2:(vs.setIfInBounds off v)[off]?=some v:=by rw[ajr];simp[ay]
     rw[e1] at hy
     rw[e2] at hu
     obtain rfl:=Option.some.inj hy
     obtain rfl:=Option.some.inj hu
     exact⟨hx.ext he,h1⟩
    ·rw[getElem?_set_ne hj] at hy
     have e2:(vs.setIfInBounds off v)[j]?=vs[j]?:=by rw[ajr];simp[hj]
     rw[e2] at hu
     exact⟨(hc j y u hy hu).1.ext he,(hc j y u hy hu).2⟩⟩)
  rw[eS] at this
  exact this
 ·rw[cell_of_row w b off vs T (0,0) hg]
  exact⟨vs[off]'(by rw[cJ];exact QO),by simp[cJ,QO]⟩
end
section
inductive TK where
 |other
 |int (k:IntKind)
 |str
 |bool
 |cY (fields:List (Nat×Nat×Bool))
 |lO (e:Nat)
 |pQ (k e:Nat)
 |ptr (e:Nat)
 |arr (n:Nat)
 |XB
structure TD where
 flat:Bool:=false
 kind:TK
 size:Nat
 bytes:Nat
 zero:Value
def TK.agg:TK→Bool
 | .cY _=>true
 | .arr _=>true
 |_=>false
def Mw:TypeDesc→Bool
 | .struct _ | .array _ _=>true
 |_=>false
def TK.fits (P:Program) (u:TypeDesc):TK→Prop
 | .other=>(match u with | .struct _ | .array _ _=>False|_=>True)
 | .int k=>u=.int k
 | .str=>u=.string
 | .bool=>u=.bool
 | .cY fs=>∃fields,u=.struct fields∧fields.toList.map (fun f=>(f.offset,(P.info? f.type).map (·.size),(P.underlying f.type).map Mw))=fs.map fun p=>(p.1,some p.2.1,some p.2.2)
 | .lO e=>u=.slice e
 | .pQ k e=>u=.map k e
 | .ptr e=>u=.pointer e
 | .XB=>∃ms,u=.interface ms
 | .arr n=>∃e i,u=.array n e∧P.info? e=some i∧i.size=1
structure iI (P:Program) (T:TypeId) (d:TD):Prop where
 info:∃i,P.info? T=some i∧i.size=d.size∧i.bytes=d.bytes∧i.zero=some d.zero
 jR:∃u,P.underlying T=some u∧d.kind.fits P u
 IJ:d.zero.cells.size=d.size
 abk:∀v:Value,v∈d.zero.cells→v.oneCell'=true
 afo:d.kind.agg=true→∃cs,d.zero=.agg cs
 UH:d.kind.agg=false→d.size=1∧d.zero.oneCell'=true
 feq:d.flat=true→P.eqGuardType P.depth T=false∧∀(w:World) (a1 a2 b1 b2:Int),(Op.equalIn 10000 T (.agg #[.int .i64 a1,.int .i64 a2]) (.agg #[.int .i64 b1,.int .i64 b2])).run P w=.ok (a1==b1&&a2==b2) w
def aT (P:Program) (az:Nat→Option TD):Prop:=∀T d,az T=some d→iI P T d
variable {G:Type} {Γ:Env G} {s:AS G} {a:Act} {w w':World} {η:List Value} {hp:List af} {F:Nat→Nat→Prop} {P:Program}
theorem iI.KQ {T:TypeId} {d:TD} (h:iI P T d) (w:World):(isAgg T).run P w=.ok d.kind.agg w:=by
 obtain⟨u,h1,h2⟩:=h.jR
 simp only[isAgg,Sem.run_bind,run_underlying h1,Result.andThen_ok]
 revert h2
 cases hk:d.kind<;>intro h2<;>simp only[TK.fits] at h2
 ·cases u<;>first|rfl|exact h2.elim
 ·subst h2;rfl
 ·subst h2;rfl
 ·subst h2;rfl
 ·obtain⟨f,rfl,_⟩:=h2;rfl
 ·subst h2;rfl
 ·subst h2;rfl
 ·subst h2;rfl
 ·obtain⟨e,i,rfl,_⟩:=h2;rfl
 ·obtain⟨m,rfl⟩:=h2;rfl
theorem iI.run_sizeOf {T:TypeId} {d:TD} (h:iI P T d) (w:World):(sizeOf T).run P w=.ok d.size w:=by
 obtain⟨i,h1,h2,_⟩:=h.info
 simp[sizeOf,typeInfo,h1,h2]
theorem iI.jS {T:TypeId} {d:TD} (h:iI P T d) (w:World):(zeroValue T).run P w=.ok d.zero w:=by
 obtain⟨i,h1,_,_,h4⟩:=h.info
 simp[zeroValue,typeInfo,h1,h4]
theorem iI.run_load {T:TypeId} {d:TD} (h:iI P T d) {b o:Nat} {vs:List Value} (hl:vs.length=d.size) (hc:∀(j:Nat) (v:Value),vs[j]?=some v→w.cell? ⟨b,o+j,none⟩=some v):
  (loadVar T ⟨b,o,none⟩).run P w=.ok (if d.kind.agg then .agg vs.toArray else vs.headD undef) w:=by
 simp only[loadVar,Sem.run_bind,h.KQ,Result.andThen_ok]
 cases hk:d.kind.agg with
 |true=>
  simp only[if_true,Sem.run_bind,h.run_sizeOf,Result.andThen_ok]
  rw[←hl,run_loadCells_list (P:=P) w ⟨b,o,none⟩ vs (fun j v hj=>by rw[Addr.add_lit];exact hc j v hj)]
  rfl
 |false=>
  have h1:=(h.UH hk).1
  rw[h1] at hl
  match vs,hl with
  | [v],_=>
   have:=hc 0 v rfl
   simp only[ai4] at this
   simp[run_load,this]
def AV.jq (hp:List af):AV→Option (List AV)
 | .sl els=>some els
 | .clip els=>some els
 | .ah (.slice none 0 0)=>some []
 | .own r n=>match hp[r]? with
  |some (.row _ _ els)=>if n=els.length then some els else none
  |_=>none
 |_=>none
theorem Rel.VG {r:Nat} {e size:Nat} {els:List AV} {v:Value} (hF:∀b k,(∃u,η[r]?=some u∧dK u=some b)→k<els.length*size→F b k)
  (eP:kV w F η hp (.row e size els) v) (hv:η[r]?=some v):bw w F η hp (.sl els) v:=by
 obtain⟨h0,xs,eo,eC⟩:=eP
 rcases eo.2 with⟨hn,rfl|⟨ad,rfl⟩⟩|⟨g,cap,cur,rfl,DL,⟨hi,_,hg⟩,DM,IK,iK,lU⟩
 ·have:els=[]:=aio hn
  subst this;exact .pE _
 ·have:els=[]:=aio hn
  subst this
  exact .pE _
 ·have aN:∀(i:Nat) (el:AV) (j:Nat) (x:AV),els[i]?=some el→el.cells[j]?=some x→∃u,w.cell? ⟨g,0+i*size+j,none⟩=some u∧xs.getD (i*size+j) undef=u∧F g (0+i*size+j)∧u.oneCell'=true∧bw w F [] [] x u:=by
   intro i el j x hi hj
   obtain⟨hlen,hx⟩:=eC i el hi
   obtain⟨u,hu,ec,h1⟩:=hx j x hj
   have rJ:i<els.length:=(ahY.1 hi).1
   have vD:j<size:=by rw[←hlen];exact(ahY.1 hj).1
   have ay:i*size+j<els.length*size:=by
    have:=aiZ size (show i+1≤els.length from rJ)
    rw[aiV] at this;omega
   refine⟨u,?_,by simp[List.getD,hu],hF _ _ ⟨_,hv,ct DL⟩ (by omega),h1,ec⟩
   rw[aiw,cell_of_row w g _ cur e _ hg]
   rw[←lU,aik,if_pos ay] at hu
   simpa using hu
  refine .sl size els g 0 cap (fun i j=>xs.getD (i*size+j) undef) DM IK (fun i el hi=>(eC i el hi).1) (fun i el j x hi hj=>?_) (fun i el j x hi hj=>?_)
  ·obtain⟨u,h1,h2,h3,h4,_⟩:=aN i el j x hi hj
   exact⟨by rw[h2];exact h1,h3,by rw[h2];exact h4⟩
  ·obtain⟨u,h1,h2,h3,h4,h5⟩:=aN i el j x hi hj
   rw[h2];exact h5
theorem QS (h:eI w (bn Γ w η hp) η hp) (hm:xY Γ η hp) {r e size:Nat} {els:List AV} {v:Value} (hr:hp[r]?=some (.row e size els)) (hv:η[r]?=some v)
  {b k:Nat} (hb:dK v=some b) (zW:k<els.length*size):bn Γ w η hp b k:=by
 have h1:=hm r _ v b hr True.intro hv hb
 refine⟨.inr h1.1,h.block hr True.intro hv hb,h1.2 _,(aZ b k).2 fun r' u hu gb=>?_⟩
 ·by_cases bK:r=r'
  ·subst bK
   exact⟨_,hr,zW⟩
  ·have fZ:r' < hp.length:=by rw[←h.len];exact(ahY.1 hu).1
   refine⟨hp[r'],by simp[fZ],?_⟩
   cases ho:hp[r'] with
   |dead=>exact True.intro
   |box cs=>exact(h.sep r r' _ (.box cs) v u b bK hr (by rw[←ho];simp[fZ]) True.intro True.intro hv hu hb gb).elim
   |row e' s' mJ=>exact(h.sep r r' _ (.row e' s' mJ) v u b bK hr (by rw[←ho];simp[fZ]) True.intro True.intro hv hu hb gb).elim
   |cQ es=>exact(h.sep r r' _ (.cQ es) v u b bK hr (by rw[←ho];simp[fZ]) True.intro True.intro hv hu hb gb).elim
   |dD q k=>exact(h.sep r r' _ (.dD q k) v u b bK hr (by rw[←ho];simp[fZ]) True.intro True.intro hv hu hb gb).elim
   |bM e' s' mJ=>exact(h.sep r r' _ (.bM e' s' mJ) v u b bK hr (by rw[←ho];simp[fZ]) True.intro True.intro hv hu hb gb).elim
   |eH e' m' XC=>exact(h.sep r r' _ (.eH e' m' XC) v u b bK hr (by rw[←ho];simp[fZ]) True.intro True.intro hv hu hb gb).elim
end
section
variable {G:Type} {Γ:Env G} {s:AS G} {a:Act} {w w':World} {η:List Value} {hp:List af} {F:Nat→Nat→Prop} {P:Program}
theorem QT (h:eI w (bn Γ w η hp) η hp) (hm:xY Γ η hp) {r n e size:Nat} {els:List AV} {v:Value} (hr:hp[r]?=some (.row e size els)) (ho:aY η hp r n v) (hn:n=els.length):
  bw w (bn Γ w η hp) η hp (.sl els) v:=by
 have hv:η[r]?=some v:=by
  unfold aY at ho
  rw[hr] at ho
  exact ho.2 hn
 exact Rel.VG (fun b k ⟨u,h1,h2⟩ hk=>QS h hm hr h1 h2 hk) (h.obj r _ v hr hv) hv
theorem kW (h:eI w (bn Γ w η hp) η hp) (hm:xY Γ η hp) {x:AV} {els:List AV} {v:Value} (hx:bw w (bn Γ w η hp) η hp x v) (he:x.jq hp=some els):
  bw w (bn Γ w η hp) η hp (.sl els) v:=by
 cases x with
 |sl l=>simp only[AV.jq,Option.some.injEq] at he;subst he;exact hx
 |clip l=>simp only[AV.jq,Option.some.injEq] at he;subst he;exact hx.qH
 |ah u=>
  have:u=v:=by cases hx;rfl
  subst this
  unfold AV.jq at he
  split at he<;>try (simp at he;done)
  ·rename_i h1;cases h1
  ·rename_i h1;cases h1
  ·rename_i h1
   simp only[AV.ah.injEq] at h1
   subst h1
   obtain rfl:=Option.some.inj he
   exact .pE _
  ·rename_i h1;cases h1
 |own r n=>
  have ho:aY η hp r n v:=by cases hx;assumption
  simp only[AV.jq] at he
  cases hr:hp[r]? with
  |none=>simp[hr] at he
  |some o=>
   cases o with
   |row e size l=>
    simp only[hr] at he
    split at he
    ·rename_i hn
     obtain rfl:=Option.some.inj he
     exact QT h hm hr ho hn
    ·cases he
   |_=>simp[hr] at he
 |_=>simp[AV.jq] at he
structure Bz (w:World) (F:Nat→Nat→Prop) (size:Nat) (els:List AV) (v:Value) (news:List Value):Prop where
 shape:(∃ad:Option Addr,v=.slice ad 0 0∧els=[])∨∃b o c,v=.slice (some ⟨b,o,none⟩) els.length c∧els.length≤c∧c≤maxLen∧∀(k:Nat) (u:Value),news[k]?=some u→w.cell? ⟨b,o+k,none⟩=some u
 len:news.length=els.length*size
 one:∀u:Value,u∈news→u.oneCell'=true
 rep:∀(i:Nat) (e:AV) (j:Nat) (x:AV),els[i]?=some e→e.cells[j]?=some x→∃u,news[i*size+j]?=some u∧bw w F [] [] x u∧u.oneCell'=true
theorem bw.xk {size:Nat} {els:List AV} {v:Value} (h:bw w F η hp (.sl els) v) (cJ:0<size) (hl:∀e:AV,e∈els→e.cells.length=size):∃news,Bz w F size els v news:=by
 cases h with
 |pE a=>exact⟨[],.inl ⟨a,rfl,rfl⟩,by simp,(fun u hu=>by cases hu),fun i e j x hi=>by simp at hi⟩
 |sl vE els b o c f hc hm Ma aN hr=>
  have abl:∀k,k<els.length*size→k / size<els.length∧k % size<size∧k=k / size*size+k % size:=fun k hk=>
   ⟨Nat.div_lt_of_lt_mul (by rw[Nat.mul_comm];exact hk),Nat.mod_lt _ cJ,by rw[Nat.mul_comm];exact(Nat.div_add_mod k size).symm⟩
  have ep:∀k,k<els.length*size→w.cell? ⟨b,o+k,none⟩=some (f (k / size) (k % size))∧(f (k / size) (k % size)).oneCell'=true:=fun k hk=>by
   obtain⟨h1,h2,h3⟩:=abl k hk
   have he:els[k / size]?=some els[k / size]:=by simp[h1]
   have hlen:=hl _ (ah1 h1)
   have hj:els[k / size].cells[k % size]?=some (els[k / size].cells[k % size]'(by rw[hlen];exact h2)):=by simp[hlen,h2]
   have Mx:vE=size:=by rw[←Ma _ _ he];exact hlen
   have:=aN _ _ _ _ he hj
   rw[Mx,ajt,←h3] at this
   exact⟨this.1,this.2.2⟩
  refine⟨(List.range (els.length*size)).map fun k=>f (k / size) (k % size),.inr ⟨b,o,c,rfl,hc,hm,fun k u hk=>?_⟩,by simp,fun u hu=>?_,fun i e j x hi hj=>?_⟩
  ·rw[aie] at hk
   by_cases ay:k<els.length*size
   ·rw[ajZ ay] at hk
    obtain rfl:=Option.some.inj hk
    exact(ep k ay).1
   ·rw[aiG (by simp;omega)] at hk
    cases hk
  ·obtain⟨k,hk,rfl⟩:=aiQ.1 hu
   exact(ep k (aja.1 hk)).2
  ·have hlen:=hl e (aic hi)
   have rJ:i<els.length:=(ahY.1 hi).1
   have vD:j<size:=by rw[←hlen];exact(ahY.1 hj).1
   have ay:i*size+j<els.length*size:=by
    have:=aiZ size (show i+1≤els.length from rJ)
    rw[aiV] at this;omega
   have e1:(i*size+j) / size=i:=by rw[Nat.mul_comm,Nat.mul_add_div cJ,Nat.div_eq_of_lt vD,ai4]
   have e2:(i*size+j) % size=j:=by rw[Nat.mul_comm,Nat.mul_add_mod,Nat.mod_eq_of_lt vD]
   refine⟨f i j,?_,hr i e j x hi hj,(aN i e j x hi hj).2.2⟩
   rw[aie,ajZ ay]
   simp[e1,e2]
theorem Bz.ext {w':World} {F':Nat→Nat→Prop} {size:Nat} {els:List AV} {v:Value} {news:List Value} (h:Bz w F size els v news) (he:Mt w F w' F'):
  ∀(i:Nat) (e:AV) (j:Nat) (x:AV),els[i]?=some e→e.cells[j]?=some x→∃u,news[i*size+j]?=some u∧bw w' F' [] [] x u∧u.oneCell'=true:=
 fun i e j x hi hj=>let ⟨u,h1,h2,h3⟩:=h.rep i e j x hi hj;⟨u,h1,h2.ext he.ext,h3⟩
theorem nK {R:AV→Value→Prop} {size:Nat} {l1 l2:List AV} {x1 x2:List Value} (hx1:x1.length=l1.length*size)
  (h1:∀(i:Nat) (e:AV) (j:Nat) (x:AV),l1[i]?=some e→e.cells[j]?=some x→∃u,x1[i*size+j]?=some u∧R x u∧u.oneCell'=true)
  (h2:∀(i:Nat) (e:AV) (j:Nat) (x:AV),l2[i]?=some e→e.cells[j]?=some x→∃u,x2[i*size+j]?=some u∧R x u∧u.oneCell'=true):
  ∀(i:Nat) (e:AV) (j:Nat) (x:AV),(l1++l2)[i]?=some e→e.cells[j]?=some x→∃u,(x1++x2)[i*size+j]?=some u∧R x u∧u.oneCell'=true:=by
 intro i e j x hi hj
 by_cases ay:i<l1.length
 ·rw[aib ay] at hi
  obtain⟨u,h3,h4⟩:=h1 i e j x hi hj
  exact⟨u,by rw[aib (ahY.1 h3).1];exact h3,h4⟩
 ·rw[aiz (by omega)] at hi
  obtain⟨u,h3,h4⟩:=h2 _ e j x hi hj
  refine⟨u,?_,h4⟩
  have:x1.length≤i*size+j:=by
   rw[hx1]
   have:=aiZ size (show l1.length≤i by omega)
   omega
  rw[aiz this,hx1,←h3]
  congr 1
  rw[Nat.sub_mul]
  have:=aiZ size (show l1.length≤i by omega)
  omega
theorem kj {t ty e:TypeId} {ed:TD} (ht:P.underlying t=some (.slice e)) (he:iI P e ed) (b:Option Addr) (n c:Nat) (hn:n≤c) (x:Value) (hx:x=.slice none 0 0∨∃ad k,x=.slice (some ad) 0 k):
  (Builtin.append_ #[t,t] ty #[.slice b n c,x]).run P w=.ok (.slice b n c) w:=by
 obtain⟨i,h1,h2,_⟩:=he.info
 rcases hx with rfl|⟨ad,k,rfl⟩<;>cases b <;>
  simp[Builtin.append_,run_underlying ht,sizeOf,typeInfo,h1,Builtin.lenOf,hn,Builtin.firstCells,storeCells,loadCells,loadCellsFrom]
theorem uL {e size:Nat} {n m:Nat} {z:Array Value} (mC news:List Value) (ho:mC.length=n*size) (hnw:news.length=m*size) (hz:z.size=size) (rK:Nat) (hm:0<m) (BA:n+m≤maxLen):
  lT (w.drew.alloc (.cells (mC.toArray++news.toArray++Builtin.zeroCells z (grownCap w (n+m) rK e-(n+m))) e)) e size
   (.slice (some ⟨w.heap.size,0,none⟩) (n+m) (grownCap w (n+m) rK e)) (n+m) (mC++news) 0:=by
 have gQ:=grownCap_ge w (n+m) rK e
 have IK:grownCap w (n+m) rK e≤maxLen:=grownCap_le_maxLen w (n+m) rK e BA
 have hlen:(mC++news).length=(n+m)*size:=by rw[ah0,ho,hnw,aiV]
 refine⟨hlen,.inr ⟨w.heap.size,_,_,rfl,by omega,⟨0,ah5 _,heap_alloc_new w.drew _⟩,gQ,IK,?_,?_⟩⟩
 ·simp only[Array.size_append,ajS,size_zeroCells,hz,ho,hnw,←aiV]
  congr 1
  omega
 ·simp only[Array.toList_append,ah7]
  rw[←ah7,←hlen]
  exact ajD
end
section
variable {G:Type} {Γ:Env G} {s:AS G} {a:Act} {w w':World} {η:List Value} {hp:List af} {F:Nat→Nat→Prop} {P:Program}
theorem x6 (aD:Γ.Ok) (h:Rel Γ s a w η) {t ty e:TypeId} {d:TD} (ht:Γ.P.underlying t=some (.slice e)) (iL:iI Γ.P e d) (cJ:0<d.size) {els aG:List AV} {v0 v2:Value}
  (hb:v0=.slice none 0 0∧els=[]∨bw w (bn Γ w η s.hp) η s.hp (.clip els) v0) (hx:bw w (bn Γ w η s.hp) η s.hp (.sl aG) v2)
  (hl:∀x:AV,x∈els→x.cells.length=d.size) (uM:∀x:AV,x∈aG→x.cells.length=d.size) (bK:aG=[]→els=[])
  (hm:els.length+aG.length≤maxLen) (G0:(els.length+aG.length)*d.bytes≤140737488355328) {ob:af} (eP:ob=.row e d.size (els++aG)∨ob=.bM e d.size (els++aG)):
  ∃v' w',(Builtin.append_ #[t,t] ty #[v0,v2]).run Γ.P w=.ok v' w'∧Rel Γ (s.add ob) a w' (η++[v'])∧v'.oneCell'=true:=by
 have pR:∀{w:World} {F:Nat→Nat→Prop} {η:List Value} {hp:List af} {v:Value},kV w F η hp (.bM e d.size (els++aG)) v→kV w F η hp ob v:=by
  rcases eP with rfl|rfl
  ·exact fun⟨h1,xs,h2,h3⟩=>⟨h1,xs,h2.more (ah3 _),h3⟩
  ·exact id
 obtain⟨i,pG,sX,DB,IL⟩:=iL.info
 have QU:bw w (bn Γ w η s.hp) η s.hp (.sl els) v0:=by
  rcases hb with⟨rfl,rfl⟩|hb
  ·exact .pE _
  ·exact hb.qH
 obtain⟨mC,ho⟩:=QU.xk cJ hl
 obtain⟨news,hn⟩:=hx.xk cJ uM
 have G1:(∃ad:Option Addr,v0=.slice ad 0 0∧els=[])∨∃b o,v0=.slice (some ⟨b,o,none⟩) els.length els.length∧∀(k:Nat) (u:Value),mC[k]?=some u→w.cell? ⟨b,o+k,none⟩=some u:=by
  rcases ho.shape with h1|⟨b,o,c,rfl,_,_,hc⟩
  ·exact .inl h1
  ·rcases hb with⟨hb,_⟩|hb
   ·cases hb
   ·cases hb with
    |kA=>exact .inl ⟨_,rfl,rfl⟩
    |clip size els b o f hm Ma aN hr=>exact .inr ⟨_,_,rfl,hc⟩
 by_cases hz:aG=[]
 ·have hz':=bK hz
  subst hz;subst hz'
  have hv2:v2=.slice none 0 0∨∃ad k,v2=.slice (some ad) 0 k:=by
   rcases hn.shape with⟨ad,rfl,_⟩|⟨b,o,c,rfl,_⟩
   ·cases ad with
    |none=>exact .inl rfl
    |some ad=>exact .inr ⟨_,_,rfl⟩
   ·exact .inr ⟨_,_,rfl⟩
  rcases G1 with⟨ad,rfl,_⟩|⟨b,o,rfl,_⟩
  ·refine⟨_,w,kj ht iL ad 0 0 (ah5 _) v2 hv2,?_,rfl⟩
   exact h.add aD (bX.refl w) (fun b hb=>by cases ad<;>simp[dK] at hb) (pR ⟨cJ,[],⟨by simp,.inl ⟨rfl,by cases ad with|none=>exact .inl rfl|some ad=>exact .inr ⟨ad,rfl⟩⟩⟩,fun i el hi=>by simp at hi⟩)
  ·refine⟨_,w,kj ht iL (some ⟨b,o,none⟩) 0 0 (ah5 _) v2 hv2,?_,rfl⟩
   exact h.add aD (bX.refl w) (fun b hb=>by simp[dK] at hb) (pR ⟨cJ,[],⟨by simp,.inl ⟨rfl,.inr ⟨_,rfl⟩⟩⟩,fun i el hi=>by simp at hi⟩)
 ·have zZ:0<aG.length:=ai0.2 hz
  rcases hn.shape with⟨_,_,h1⟩|⟨b2,o2,c2,rfl,_,_,Mb⟩
  ·exact(hz h1).elim
  have x7:∀(j:Nat) (u:Value),news[j]?=some u→w.cell? ((⟨b2,o2,none⟩:Addr).add j)=some u:=fun j u hj=>by rw[Addr.add_lit];exact Mb j u hj
  have BA:els.length+aG.length≤9223372036854775807:=by simp only[maxLen] at hm;omega
  have fin:∀(rK:Nat),Rel Γ (s.add ob) a
    (w.drew.alloc (.cells (mC.toArray++news.toArray++Builtin.zeroCells d.zero.cells (grownCap w (els.length+aG.length) rK e-(els.length+aG.length))) e))
    (η++[.slice (some ⟨w.heap.size,0,none⟩) (els.length+aG.length) (grownCap w (els.length+aG.length) rK e)]):=by
   intro rK
   have hs:bX w (w.drew.alloc (.cells (mC.toArray++news.toArray++Builtin.zeroCells d.zero.cells (grownCap w (els.length+aG.length) rK e-(els.length+aG.length))) e)):=
    (bX.drew w).trans (bX.alloc _ _)
   have pP:∀b,dK (.slice (some ⟨w.heap.size,0,none⟩) (els.length+aG.length) (grownCap w (els.length+aG.length) rK e))=some b→w.heap.size≤b:=by
    intro b hb
    rw[ct (by have:=grownCap_ge w (els.length+aG.length) rK e;omega)] at hb
    obtain rfl:=Option.some.inj hb
    exact ah5 _
   have he:=xj (Γ:=Γ) (o:=ob) h.heap.len hs pP
   refine h.add aD hs pP (pR ⟨cJ,mC++news,?_,fun i el hi=>⟨?_,?_⟩⟩)
   ·rw[ah0]
    exact uL mC news ho.len hn.len iL.IJ rK zZ hm
   ·rcases aiM.1 (aic hi) with h1|h1
    ·exact hl _ h1
    ·exact uM _ h1
   ·exact fun j x hj=>nK ho.len (ho.ext he.pN) (hn.ext he.pN) i el j x hi hj
  rcases G1 with⟨ad,rfl,rfl⟩|⟨b,o,rfl,hc⟩
  ·have:mC=[]:=aio (by simpa using ho.len)
   subst this
   cases ad with
   |some ad=>
    have:=run_append_grow (P:=Γ.P) w t ty e i d.zero ht pG IL ad 0 0 [] (by simp) (fun j u hj=>by simp at hj) ⟨b2,o2,none⟩ aG.length c2 news (by rw[sX];exact hn.len) x7 (by omega)
     (by simp only[aiK,aiw] at BA ⊢;omega) (growslice_fits (by omega) (by rw[DB];simpa only[aiK] using G0))
    refine⟨_,_,this,?_,rfl⟩
    have f0:=fin 0
    simpa only[aiK,aiw,aiU] using f0
   |none=>
   have:=run_append_nil (P:=Γ.P) w t ty e i d.zero ht pG IL ⟨b2,o2,none⟩ aG.length c2 news (by rw[sX];exact hn.len) x7 zZ (by simp only[aiK,aiw] at BA;omega) (by rw[DB];simp only[aiK,aiw] at G0;omega)
   refine⟨_,_,this,?_,rfl⟩
   have f0:=fin 0
   simpa only[aiK,aiw,aiU,Array.empty_append] using f0
  ·have holds:∀(j:Nat) (u:Value),mC[j]?=some u→w.cell? ((⟨b,o,none⟩:Addr).add j)=some u:=fun j u hj=>by rw[Addr.add_lit];exact hc j u hj
   have:=run_append_grow (P:=Γ.P) w t ty e i d.zero ht pG IL ⟨b,o,none⟩ els.length els.length mC (by rw[sX];exact ho.len) holds ⟨b2,o2,none⟩ aG.length c2 news (by rw[sX];exact hn.len) x7 (by omega)
    (by omega) (growslice_fits (by omega) (by rw[DB];exact G0))
   exact⟨_,_,this,fin els.length,rfl⟩
theorem nL {g e z:Nat}:∀(us:List Value) (o:Nat) (cur:Array Value) (w:World),w.heap[g]?=some (.cells cur e (0,z))→o+us.length≤cur.size→
  w.setCells g o us=w.setRow g (cur.toList.take o++us++cur.toList.drop (o+us.length)).toArray:=by
 intro us
 induction us with
 |nil=>
  intro o cur w hg _
  simp only[World.setCells,aiH,aiK,ai4,aiq]
  have ay:g<w.heap.size:=(ail.1 hg).1
  have hv:w.heap[g]=.cells cur e (0,z):=(ail.1 hg).2
  unfold World.setRow
  cases w with
  |mk heap tape drawn os output=>
   congr 1
   apply Array.ext
   ·simp
   ·intro k h1 h2
    simp only[Array.getElem_modify]
    split
    ·rename_i hk;subst hk;simp at hv;simp[hv]
    ·rfl
 |cons u us ih=>
  intro o cur w hg hl
  rw[aif] at hl
  rw[World.setCells,setCell_eq_setRow w g o cur e _ u hg,ih (o+1) _ _ (setRow_heap w g cur _ e _ hg) (by simp;omega),setRow_setRow]
  congr 2
  apply aiO
  intro k
  have e1:(cur.setIfInBounds o u).toList=cur.toList.set o u:=by simp
  rw[e1]
  have hlen:cur.toList.length=cur.size:=by simp
  rcases Nat.lt_trichotomy k o with h|h|h
  ·rw[ah7,ah7,aib (by simp;omega),aib (by simp;omega),aik,aik,if_pos (by omega),if_pos h,List.getElem?_set_ne (by omega)]
  ·subst h
   have hk:(cur.toList.take k).length=k:=by rw[aid];omega
   rw[ah7,ah7,aib (by simp;omega),aiz (by omega),hk,ajG,aik,if_pos (by omega),List.getElem?_set_self (by omega)]
   rfl
  ·have e2:(cur.toList.take o++(u::us)++cur.toList.drop (o+(us.length+1)))[k]?=(us++cur.toList.drop (o+(us.length+1)))[k-(o+1)]?:=by
    rw[ah7,aiz (by simp;omega),ai1]
    have:k-(List.take o cur.toList).length=(k-(o+1))+1:=by rw[aid];omega
    rw[this,aiB]
   rw[aif,e2,ah7,aiz (by simp;omega)]
   have:k-(List.take (o+1) (cur.toList.set o u)).length=k-(o+1):=by rw[aid,ajb];omega
   rw[this,List.drop_set_of_lt (by omega),show o+1+us.length=o+(us.length+1) by omega]
theorem kX {w:World} {g e z o:Nat} {cur:Array Value} {us:List Value} (hg:w.heap[g]?=some (.cells cur e (0,z))) (hz:z≤o) (hf:o+us.length≤cur.size):
  (∀j,j<us.length→(w.cell? ⟨g,o+j,none⟩).isSome=true)∧∀j,j<us.length→w.frozen? ⟨g,o+j,none⟩=false:=by
 refine⟨fun j hj=>?_,fun j hj=>?_⟩
 ·rw[cell_of_row w g _ cur e _ hg,aiT (by omega)];rfl
 ·simp only[World.frozen?,hg]
  have:¬(o+j<z):=by omega
  simp[this]
structure x8 (P:Program) (w:World) (F:Nat→Nat→Prop) (t u ty e:TypeId) (d:TD) (aG:List AV) (v2:Value) (news:List Value):Prop where
 len:news.length=aG.length*d.size
 one:∀u∈news,u.oneCell'=true
 rep:∀(i:Nat) (e:AV) (j:Nat) (x:AV),aG[i]?=some e→e.cells[j]?=some x→∃u,news[i*d.size+j]?=some u∧bw w F [] [] x u∧u.oneCell'=true
 nothing:aG=[]→∀b n c,n≤c→(Builtin.append_ #[t,u] ty #[.slice b n c,v2]).run P w=.ok (.slice b n c) w
 nil:0<aG.length→(aG.length:Int)≤9223372036854775807→aG.length*d.bytes≤281474976710656→(Builtin.append_ #[t,u] ty #[.slice none 0 0,v2]).run P w=
  .ok (.slice (some ⟨w.heap.size,0,none⟩) aG.length (grownCap w aG.length 0 e)) (w.drew.alloc (.cells (news.toArray++Builtin.zeroCells d.zero.cells (grownCap w aG.length 0 e-aG.length)) e))
 grow:0<aG.length→∀(b:Addr) (jT ru:Nat) (mC:List Value),mC.length=jT*d.size→(∀j v,mC[j]?=some v→w.cell? (b.add j)=some v)→ru<jT+aG.length→((jT+aG.length:Nat):Int)≤9223372036854775807→
  Builtin.nextslicecap (jT+aG.length) ru*d.bytes≤281474976710656→(Builtin.append_ #[t,u] ty #[.slice (some b) jT ru,v2]).run P w=
   .ok (.slice (some ⟨w.heap.size,0,none⟩) (jT+aG.length) (grownCap w (jT+aG.length) ru e)) (w.drew.alloc (.cells (mC.toArray++news.toArray++Builtin.zeroCells d.zero.cells (grownCap w (jT+aG.length) ru e-(jT+aG.length))) e))
 room:0<aG.length→∀(g jT ru:Nat) (cur:Array Value) (hi:Nat),hi≤jT*d.size→w.heap[g]?=some (.cells cur e (0,hi))→jT+aG.length≤ru→jT*d.size+news.length≤cur.size→(Builtin.append_ #[t,u] ty #[.slice (some ⟨g,0,none⟩) jT ru,v2]).run P w=
   .ok (.slice (some ⟨g,0,none⟩) (jT+aG.length) ru) (w.setRow g (cur.toList.take (jT*d.size)++news++cur.toList.drop (jT*d.size+news.length)).toArray)
theorem x8.ext {P:Program} {F F':Nat→Nat→Prop} {t u ty e:TypeId} {d:TD} {aG:List AV} {v2:Value} {news:List Value} (h:x8 P w F t u ty e d aG v2 news) (he:Mt w F w' F'):
  ∀(i:Nat) (e:AV) (j:Nat) (x:AV),aG[i]?=some e→e.cells[j]?=some x→∃u,news[i*d.size+j]?=some u∧bw w' F' [] [] x u∧u.oneCell'=true:=
 fun i e j x hi hj=>let ⟨u,h1,h2,h3⟩:=h.rep i e j x hi hj;⟨u,h1,h2.ext he.ext,h3⟩
theorem sY {P:Program} {F:Nat→Nat→Prop} {t ty e:TypeId} {d:TD} (ht:P.underlying t=some (.slice e)) (iL:iI P e d) (cJ:0<d.size) {aG:List AV} {v2:Value} (hx:bw w F η hp (.sl aG) v2)
  (uM:∀x:AV,x∈aG→x.cells.length=d.size):∃news,x8 P w F t t ty e d aG v2 news:=by
 obtain⟨i,pG,sX,DB,IL⟩:=iL.info
 obtain⟨news,hn⟩:=hx.xk cJ uM
 have pos:0<aG.length→∃b2 o2 c2,v2=.slice (some ⟨b2,o2,none⟩) aG.length c2∧∀(j:Nat) (u:Value),news[j]?=some u→w.cell? ((⟨b2,o2,none⟩:Addr).add j)=some u:=fun h0=>by
  rcases hn.shape with⟨_,_,h1⟩|⟨b2,o2,c2,rfl,_,_,Mb⟩
  ·rw[h1] at h0;simp at h0
  ·exact⟨b2,o2,c2,rfl,fun j u hj=>by rw[Addr.add_lit];exact Mb j u hj⟩
 refine⟨news,hn.len,hn.one,hn.rep,fun h0 b n c DM=>?_,fun h0 BA XD=>?_,fun h0 b jT ru mC UI ho hg BA sZ=>?_,fun h0 g jT ru cur hi UJ hg fR sZ=>?_⟩
 ·refine kj ht iL b n c DM v2 ?_
  subst h0
  rcases hn.shape with⟨ad,rfl,_⟩|⟨b,o,c,rfl,_⟩
  ·cases ad with
   |none=>exact .inl rfl
   |some ad=>exact .inr ⟨_,_,rfl⟩
  ·exact .inr ⟨_,_,rfl⟩
 ·obtain⟨b2,o2,c2,rfl,hc⟩:=pos h0
  exact run_append_nil (P:=P) w t ty e i d.zero ht pG IL ⟨b2,o2,none⟩ aG.length c2 news (by rw[sX];exact hn.len) hc h0 BA (by rw[DB];exact XD)
 ·obtain⟨b2,o2,c2,rfl,hc⟩:=pos h0
  exact run_append_grow (P:=P) w t ty e i d.zero ht pG IL b jT ru mC (by rw[sX];exact UI) ho ⟨b2,o2,none⟩ aG.length c2 news (by rw[sX];exact hn.len) hc hg BA (by rw[DB];exact sZ)
 ·obtain⟨b2,o2,c2,rfl,hc⟩:=pos h0
  have:=run_append_room_cells (P:=P) w t ty e i ht pG g 0 jT ru ⟨b2,o2,none⟩ aG.length c2 news (by rw[sX];exact hn.len) hc hn.one fR (by rw[sX,aiw];exact(kX hg UJ sZ).1) (by rw[sX,aiw];exact(kX hg UJ sZ).2)
  rw[sX,aiw,nL news _ cur w hg sZ] at this
  exact this
def bg (b:ByteArray):List AV:=b.data.toList.map fun c=>.ah (.int .u8 c.toNat)
theorem dS (b:ByteArray):(bg b).length=b.size:=by simp[bg]
theorem G2 {P:Program} {F:Nat→Nat→Prop} {t u ty e:TypeId} {d:TD} (ht:P.underlying t=some (.slice e)) (hu:P.underlying u=some .string) (iL:iI P e d) (h1:d.size=1) (hz:d.zero=.int .u8 0) (b:ByteArray):
  x8 P w F t u ty e d (bg b) (.string b) (Lib.strCells b):=by
 obtain⟨i,pG,sX,DB,IL⟩:=iL.info
 have hl:=dS b
 have e1:(b.data.map fun b=>Value.int .u8 b.toNat)=(Lib.strCells b).toArray:=by
  apply ajm
  simp[Lib.strCells]
 refine⟨by rw[Lib.strCells_length,hl,h1,ajg],Lib.strCells_oneCell b,fun i el j x hi hj=>?_,fun h0 a n c DM=>?_,fun h0 BA XD=>?_,fun h0 a jT ru mC UI ho hg BA sZ=>?_,fun h0 g jT ru cur hi UJ hg fR sZ=>?_⟩
 ·simp only[bg,aie,aiX] at hi
  obtain⟨c,hc,rfl⟩:=hi
  cases j with
  |succ j=>simp[AV.cells] at hj
  |zero=>
   simp only[AV.cells,aiS,Option.some.injEq] at hj
   subst hj
   exact⟨_,by rw[h1,ajg,ai4,Lib.strCells,aie,hc];rfl,.ah _,rfl⟩
 ·have hb:b.size=0:=by rw[←hl,h0];rfl
  have hf:=Lib.run_firstCells_string (P:=P) w i.size b
  rw[hb] at hf
  have DL:Lib.strCells b=[]:=aio (by rw[Lib.strCells_length];exact hb)
  cases a<;>simp[Builtin.append_,run_underlying ht,run_underlying hu,sizeOf,typeInfo,pG,Builtin.lenOf,hb,DM,hf,DL,storeCells]
 ·rw[hl] at *
  have:=run_append_nil_string (P:=P) w t u ty e i d.zero ht hu pG IL b h0 BA (by rw[DB];exact XD)
  rw[e1] at this
  exact this
 ·rw[hl] at *
  exact Lib.run_append_grow_string (P:=P) w t u ty e i d.zero ht hu pG IL a jT ru mC (by rw[sX];exact UI) ho b hg BA (by rw[DB];exact sZ)
 ·rw[hl] at *
  rw[h1,ajg,Lib.strCells_length] at *
  have Qv:jT+(Lib.strCells b).length≤cur.size:=by rw[Lib.strCells_length];exact sZ
  have hf:=Lib.run_firstCells_string (P:=P) w 1 b
  have BB:=run_storeCells_cells (P:=P) g jT (Lib.strCells b) 0 w (kX hg UJ Qv).1 (kX hg UJ Qv).2 (Lib.strCells_oneCell b)
  rw[ai4,nL _ _ cur w hg Qv,Lib.strCells_length] at BB
  simp[Builtin.append_,run_underlying ht,run_underlying hu,sizeOf,typeInfo,pG,show i.size=1 by rw[sX],Builtin.lenOf,fR,hf,Addr.add_lit,BB]
def pH (M:Bool) (e size:Nat) (els:List AV):af:=match M with|false=>.row e size els|true=>.bM e size els
def kB (M:Bool) (n:Nat):Nat:=match M with|false=>n|true=>0
theorem XE (M:Bool) (n:Nat):kB M n≤n:=by cases M<;>simp[kB]
theorem QV (M:Bool) {n m:Nat} (h:n≤m):kB M n≤kB M m:=by cases M<;>simp[kB,h]
theorem pS {F:Nat→Nat→Prop} {M:Bool} {e size:Nat} {els:List AV} {v:Value}:kV w F η hp (pH M e size els) v↔(0<size∧∃xs:List Value,lT w e size v els.length xs (kB M (els.length*size))∧
   ∀(i:Nat) (el:AV),els[i]?=some el→el.cells.length=size∧
    ∀(j:Nat) (x:AV),el.cells[j]?=some x→∃u,xs[i*size+j]?=some u∧bw w F [] [] x u∧u.oneCell'=true):=by cases M<;>exact Iff.rfl
theorem mK {M:Bool} {e size r n:Nat} {els:List AV} {v:Value} (h:hp[r]?=some (pH M e size els)):aY η hp r n v↔n≤els.length∧(n=els.length→η[r]?=some v):=by
 unfold aY
 rw[h]
 cases M<;>exact Iff.rfl
theorem Av {M:Bool} {e size k:Nat} {els:List AV} (h:(pH M e size els).bD k):k<els.length*size:=by cases M<;>first|exact h|exact h.elim
theorem Aw {M:Bool} {e size k:Nat} {els aG:List AV} (h:(pH M e size els).bD k):(pH M e size (els++aG)).bD k:=by
 have h':=Av h
 cases M with
 |false=>show k<(els++aG).length*size;rw[ah0,aiV];omega
 |true=>exact h.elim
theorem uN (M:Bool) (e size:Nat) (els:List AV):(pH M e size els).live:=by cases M<;>exact True.intro
theorem x9 (aD:Γ.Ok) (h:Rel Γ s a w η) {t u ty e:TypeId} {d:TD} (iL:iI Γ.P e d) {M:Bool} {r:Nat} {els aG:List AV} {v0 v2:Value}
  (hr:s.hp[r]?=some (pH M e d.size els)) (hv:aY η s.hp r els.length v0) {news:List Value} (hn:x8 Γ.P w (bn Γ w η s.hp) t u ty e d aG v2 news)
  (uM:∀x:AV,x∈aG→x.cells.length=d.size)
  (hm:els.length+aG.length≤maxLen) (G0:(els.length+aG.length)*d.bytes≤140737488355328):
  ∃v' w' aU,(Builtin.append_ #[t,u] ty #[v0,v2]).run Γ.P w=.ok v' w'∧Rel Γ { s with hp:=s.hp.set r (pH M e d.size (els++aG)) } a w' aU∧v'.oneCell'=true∧aU[r]?=some v':=by
 have uO:η[r]?=some v0:=((mK hr).1 hv).2 rfl
 obtain⟨cJ,xs,eo,eC⟩:=pS.1 (h.heap.obj r _ v0 hr uO)
 have hold:∀(i:Nat) (e:AV) (j:Nat) (x:AV),els[i]?=some e→e.cells[j]?=some x→∃u,xs[i*d.size+j]?=some u∧bw w (bn Γ w η s.hp) [] [] x u∧u.oneCell'=true:=
  fun i el j x hi hj=>(eC i el hi).2 j x hj
 by_cases hz:aG=[]
 ·subst hz
  have jU:s.hp.set r (pH M e d.size (els++[]))=s.hp:=by
   apply aiO
   intro k
   by_cases hk:r=k
   ·subst hk;rw[aA hr,aiH,hr]
   ·rw[getElem?_set_ne hk]
  have My:∀b n c,v0=.slice b n c→n≤c→∃v' w' aU,(Builtin.append_ #[t,u] ty #[v0,v2]).run Γ.P w=.ok v' w'∧Rel Γ { s with hp:=s.hp.set r (pH M e d.size (els++[])) } a w' aU∧v'.oneCell'=true∧aU[r]?=some v':=by
   intro b n c e1 e2
   subst e1
   exact⟨_,w,η,hn.nothing rfl b n c e2,by rw[jU];exact h,rfl,uO⟩
  rcases eo.2 with⟨h0,rfl|⟨ad,rfl⟩⟩|⟨g,cap,cur,rfl,h0,_,DM,_⟩
  ·exact My none 0 0 rfl (ah5 _)
  ·exact My _ 0 0 rfl (ah5 _)
  ·exact My _ _ _ rfl DM
 ·have zZ:0<aG.length:=ai0.2 hz
  have BA:els.length+aG.length≤9223372036854775807:=by simp only[maxLen] at hm;omega
  have uK:∀v' n u,aY η s.hp r n u→aY (η.set r v') (s.hp.set r (pH M e d.size (els++aG))) r n u:=by
   intro v' n u ho
   replace ho:=(mK hr).1 ho
   refine(mK (aA hr)).2 ⟨by rw[ah0];have:=ho.1;omega,fun Mz=>?_⟩
   rw[ah0] at Mz
   have:=ho.1
   omega
  have UK:∀(x:AV),x∈els++aG→x.cells.length=d.size:=by
   intro x oR
   rcases aiM.1 oR with h1|h1
   ·obtain⟨k,hk⟩:=ajh h1
    exact(eC k x hk).1
   ·exact uM _ h1
  have grown:∀(rK:Nat),(∀b es c,dK v0=some b→w.heap[b]?=some (.map es c)→False)→(∀b d,dK v0=some b→w.heap[b]?=some (.deferred d)→False)→(∀x,v0 ≠ .pointer x)→(∀x,v0 ≠ .map x)→
    Rel Γ { s with hp:=s.hp.set r (pH M e d.size (els++aG)) } a
    (w.drew.alloc (.cells (xs.toArray++news.toArray++Builtin.zeroCells d.zero.cells (grownCap w (els.length+aG.length) rK e-(els.length+aG.length))) e))
    (η.set r (.slice (some ⟨w.heap.size,0,none⟩) (els.length+aG.length) (grownCap w (els.length+aG.length) rK e))):=by
   intro rK VH abm iM qI
   have hs:bX w (w.drew.alloc (.cells (xs.toArray++news.toArray++Builtin.zeroCells d.zero.cells (grownCap w (els.length+aG.length) rK e-(els.length+aG.length))) e)):=
    (bX.drew w).trans (bX.alloc _ _)
   have pP:∀b,dK (.slice (some ⟨w.heap.size,0,none⟩) (els.length+aG.length) (grownCap w (els.length+aG.length) rK e))=some b→w.heap.size≤b:=by
    intro b hb
    rw[ct (by have:=grownCap_ge w (els.length+aG.length) rK e;omega)] at hb
    obtain rfl:=Option.some.inj hb
    exact ah5 _
   refine h.change aD (o':=pH M e d.size (els++aG)) hr (uN _ _ _ _) uO (hs.keeps _) (fun b hb=>.inr (pP b hb)) (fun k hk=>?_) (fun b k u hb _ hc=>?_) (fun b es c hb _ hh=>VH b es c hb hh) (uK _)
    (fun x oR=>(iM x oR).elim) (fun x oR=>(qI x oR).elim) abm (fun he=>pS.2 ⟨cJ,xs++news,?_,fun i el hi=>⟨UK _ (aic hi),?_⟩⟩)
   ·exact Aw hk
   ·rw[World.cell?_of_block (hs.block b (h.heap.block hr (uN _ _ _ _) uO hb))];exact hc
   ·rw[ah0]
    exact(uL xs news eo.1 hn.len iL.IJ rK zZ hm).more (ah3 _)
   ·exact fun j x hj=>nK eo.1 (fun i e j x hi hj=>let ⟨u,h1,h2,h3⟩:=hold i e j x hi hj;⟨u,h1,h2.ext he.pN.ext,h3⟩) (hn.ext he.pN) i el j x hi hj
  have BC:∀v',(η.set r v')[r]?=some v':=fun v'=>aA uO
  rcases eo.2 with⟨h0,rfl|⟨ad,rfl⟩⟩|⟨g,cap,cur,rfl,h0,⟨hi,UJ,hg⟩,DM,IK,iK,lU⟩
  ·have GV:els=[]:=aio h0
   have VI:xs=[]:=aio (by rw[eo.1,h0];simp)
   have gr:=grown 0 (fun b es c hb=>by simp[dK] at hb) (fun b d hb=>by simp[dK] at hb) (fun x oR=>by cases oR) (fun x oR=>by cases oR)
   subst GV;subst VI
   have:=hn.nil zZ (by simp only[aiK,aiw] at BA;omega) (by simp only[aiK,aiw] at G0;omega)
   refine⟨_,_,_,this,?_,rfl,BC _⟩
   simpa only[aiK,aiw,aiU,Array.empty_append] using gr
  ·have GV:els=[]:=aio h0
   have VI:xs=[]:=aio (by rw[eo.1,h0];simp)
   have gr:=grown 0 (fun b es c hb=>by simp[dK] at hb) (fun b d hb=>by simp[dK] at hb) (fun x oR=>by cases oR) (fun x oR=>by cases oR)
   subst GV;subst VI
   have:=hn.grow zZ ad 0 0 [] (by simp) (fun j u hj=>by simp at hj) (by omega)
    (by simp only[aiK,aiw] at BA ⊢;omega) (growslice_fits (by omega) (by simpa only[aiK] using G0))
   refine⟨_,_,_,this,?_,rfl,BC _⟩
   simpa only[aiK,aiw,aiU] using gr
  ·by_cases fR:els.length+aG.length≤cap
   ·have sZ:els.length*d.size+news.length≤cur.size:=by rw[hn.len,iK,←aiV];exact aiZ _ fR
    have gM:=hn.room zZ g els.length cap cur hi (aiy UJ (XE _ _)) hg fR sZ
    refine⟨_,_,_,gM,?_,rfl,BC _⟩
    have rI:dK (.slice (some ⟨g,0,none⟩) els.length cap)=some g:=ct h0
    have abn:dK (.slice (some ⟨g,0,none⟩) (els.length+aG.length) cap)=some g:=ct h0
    have IM:=setRow_heap w g cur (cur.toList.take (els.length*d.size)++news++cur.toList.drop (els.length*d.size+news.length)).toArray e (0,hi) hg
    refine h.change aD (o':=pH M e d.size (els++aG)) hr (uN _ _ _ _) uO ⟨rfl,rfl,rfl,by simp,fun k hk hb=>setRow_other w g k _ (fun e=>hb (by rw[rI,e]))⟩ (fun b hb=>.inl (by rw[rI];rw[abn] at hb;exact hb)) (fun k hk=>?_) (fun b k u hb hk hc=>?_)
     (fun b es c hb _ hh=>?_) (uK _) (fun x oR=>by cases oR) (fun x oR=>by cases oR) (fun b d hb hh=>?_) (fun he=>pS.2 ⟨cJ,xs++news,?_,fun i el hi=>⟨UK _ (aic hi),?_⟩⟩)
    ·exact Aw hk
    ·rw[rI] at hb
     obtain rfl:=Option.some.inj hb
     have zW:k<els.length*d.size:=Av hk
     rw[cell_of_row w g k cur e _ hg] at hc
     rw[cell_of_row _ g k _ e _ IM]
     have ay:k<cur.size:=(ail.1 hc).1
     rw[←Array.getElem?_toList] at hc
     simp only[ajH]
     rw[ah7,aib (by simp;omega),aik,if_pos zW]
     exact hc
    ·rw[rI] at hb
     obtain rfl:=Option.some.inj hb
     rw[hg] at hh;cases hh
    ·rw[rI] at hb
     obtain rfl:=Option.some.inj hb
     rw[hg] at hh;cases hh
    ·have KR:(xs++news).length=(els.length+aG.length)*d.size:=by rw[ah0,eo.1,hn.len,aiV]
     rw[ah0]
     refine⟨KR,.inr ⟨g,cap,_,rfl,h0,⟨hi,aiy UJ (QV M (aiZ _ (by omega))),IM⟩,fR,IK,?_,?_⟩⟩
     ·simp only[ajS,ah0,aid,aix,aiL]
      have:els.length*d.size≤cur.size:=by omega
      omega
     ·rw[lU,←KR]
      exact ajD
    ·exact fun j x hj=>nK eo.1 (fun i e j x hi hj=>let ⟨u,h1,h2,h3⟩:=hold i e j x hi hj;⟨u,h1,h2.ext he.pN.ext,h3⟩) (hn.ext he.pN) i el j x hi hj
   ·have aN:∀(j:Nat) (u:Value),xs[j]?=some u→w.cell? ((⟨g,0,none⟩:Addr).add j)=some u:=by
     intro j u hj
     rw[Addr.add_lit,aiw,cell_of_row w g j cur e _ hg]
     rw[←lU,aik] at hj
     by_cases ay:j<els.length*d.size
     ·rw[if_pos ay] at hj;simpa using hj
     ·rw[if_neg ay] at hj;cases hj
    have rI:dK (.slice (some ⟨g,0,none⟩) els.length cap)=some g:=ct h0
    have:=hn.grow zZ ⟨g,0,none⟩ els.length cap xs eo.1 aN (by omega) (by omega) (growslice_fits (by omega) G0)
    exact⟨_,_,_,this,grown cap (fun b es c hb hh=>by rw[rI] at hb;obtain rfl:=Option.some.inj hb;rw[hg] at hh;cases hh)
     (fun b d hb hh=>by rw[rI] at hb;obtain rfl:=Option.some.inj hb;rw[hg] at hh;cases hh) (fun x oR=>by cases oR) (fun x oR=>by cases oR),rfl,BC _⟩
end
section
variable {G:Type} {Γ:Env G} {s:AS G} {a:Act} {w w':World} {η:List Value} {hp:List af} {F:Nat→Nat→Prop} {P:Program}
def AS.ev (s:AS G):Operand→AV
 | .tmp t=>s.tmps t
 | .const v=>.ah v
 | .global g=>.ah (.pointer (some ⟨g,0,none⟩))
 | .func f=>.ck f []
theorem Rel.ev (h:Rel Γ s a w η) (x:Operand):bw w (bn Γ w η s.hp) η s.hp (s.ev x) (a.eval x):=by
 cases x with
 |tmp t=>exact h.tmps t
 |const v=>exact .ah v
 |global g=>exact .ah _
 |func f=>exact .ck f [] #[] rfl (fun j x v h=>by simp at h)
def AV.fq (hp:List af):AV→AV
 | .own r n=>(match (AV.own r n).jq hp with|some els=>.sl els|none=>.top)
 | .clip els=>.sl els
 | .sl els=>.sl els
 | .ah v=>(match v with | .slice none 0 0=>.sl []|v=>.ah v)
 | .fn v=>.fn v
 | .fH es=>.fH es
 | .cL e o=>.cL e o
 | .ck f caps=>(match caps with | []=>.ck f []|_=>.top)
 |_=>.top
def AV.gd (hp:List af):AV→AV
 | .agg cs=>.agg (cs.map (AV.fq hp))
 |x=>x.fq hp
def AV.cm (hp:List af):AV→AV
 | .aX vs=>.aX (vs.map (AV.gd hp))
 | .ck f caps=>.ck f (caps.map (AV.gd hp))
 |x=>x.gd hp
theorem mL (h:eI w (bn Γ w η hp) η hp) (hm:xY Γ η hp) {x:AV} {v:Value} (hx:bw w (bn Γ w η hp) η hp x v):bw w (bn Γ w η hp) [] [] (x.fq hp) v:=by
 cases x with
 |own r n=>
  simp only[AV.fq]
  split
  ·rename_i els he
   have:=kW h hm hx he
   cases this with
   |pE=>exact .pE _
   |sl size els b o c f hc hm hl aN hr=>exact .sl size els b o c f hc hm hl aN hr
  ·exact .top _
 |clip els=>cases hx.qH with
  |pE=>exact .pE _
  |sl size els b o c f hc hm hl aN hr=>exact .sl size els b o c f hc hm hl aN hr
 |sl els=>cases hx with
  |pE=>exact .pE _
  |sl size els b o c f hc hm hl aN hr=>exact .sl size els b o c f hc hm hl aN hr
 |ah u=>
  simp only[AV.fq]
  split
  ·cases hx;exact .pE _
  ·cases hx;exact .ah _
 |fn u=>cases hx;exact .fn _ (by assumption)
 |fH es=>cases hx with|fH b es c h1 h2 _ hl=>exact .fH b es c h1 h2 _ hl
 |cL e off=>cases hx with|cL _ _ b o f aN hr=>exact .cL e off b o f aN hr
 |ck f caps=>
  simp only[AV.fq]
  split
  ·cases hx with|ck _ _ vs hl hr=>exact .ck f [] vs hl fun j y u hy _=>by cases hy
  ·exact .top _
 |_=>exact .top _
theorem mM (h:eI w (bn Γ w η hp) η hp) (hm:xY Γ η hp) {x:AV} {v:Value} (hx:bw w (bn Γ w η hp) η hp x v):bw w (bn Γ w η hp) [] [] (x.gd hp) v:=by
 cases x with
 |agg cs=>
  cases hx with
  |agg _ vs hl h1 hr=>
   refine .agg _ vs (by simpa using hl) h1 fun j y u hy hu=>?_
   rw[aie] at hy
   cases hj:cs[j]? with
   |none=>rw[hj] at hy;cases hy
   |some z=>rw[hj] at hy;obtain rfl:=Option.some.inj hy;exact mL h hm (hr j z u hj hu)
 |_=>exact mL h hm hx
theorem jx (h:eI w (bn Γ w η hp) η hp) (hm:xY Γ η hp) {x:AV} {v:Value} (hx:bw w (bn Γ w η hp) η hp x v):bw w (bn Γ w η hp) [] [] (x.cm hp) v:=by
 cases x with
 |aX cs=>
  cases hx with
  |aX _ vs hl hr=>
   refine .aX _ vs (by simpa using hl) fun j y u hy hu=>?_
   rw[aie] at hy
   cases hj:cs[j]? with
   |none=>rw[hj] at hy;cases hy
   |some z=>rw[hj] at hy;obtain rfl:=Option.some.inj hy;exact mM h hm (hr j z u hj hu)
 |ck f cs=>
  cases hx with
  |ck _ _ vs hl hr=>
   refine .ck f _ vs (by simpa using hl) fun j y u hy hu=>?_
   rw[aie] at hy
   cases hj:cs[j]? with
   |none=>rw[hj] at hy;cases hy
   |some z=>rw[hj] at hy;obtain rfl:=Option.some.inj hy;exact mM h hm (hr j z u hj hu)
 |_=>exact mM h hm hx
def fieldsOf (az:Nat→Option TD) (T:Nat):List (Nat×Nat×Bool):=
 match az T with
 |some d=>(match d.kind with | .cY fs=>fs|_=>[])
 |none=>[]
def AV.isAgg:AV→Bool
 | .agg _=>true
 |_=>false
def fS (agg:Bool) (size:Nat) (cs:List AV) (o:Nat):Option AV:=
 if agg then(if o+size≤cs.length then some (.agg ((cs.drop o).take size)) else none) else cs[o]?
def ya (agg:Bool) (size:Nat) (e:AV) (o:Nat):Option AV:=
 if o=0∧e.cells.length=size∧e.isAgg=agg then some e else fS agg size e.cells o
def BD (op:BinOp) (k:IntKind) (a b:Int):Option (Prop×AV):=
 match op with
 | .add=>some (True,.ah (.int k (k.wrap (a+b))))
 | .sub=>some (True,.ah (.int k (k.wrap (a-b))))
 | .mul=>some (True,.ah (.int k (k.wrap (a*b))))
 | .eql=>some (True,.ah (.bool (a==b)))
 | .neq=>some (True,.ah (.bool (a != b)))
 | .lss=>some (True,.ah (.bool (decide (a<b))))
 | .leq=>some (True,.ah (.bool (decide (a≤b))))
 | .gtr=>some (True,.ah (.bool (decide (a>b))))
 | .geq=>some (True,.ah (.bool (decide (a≥b))))
 |_=>none
def kY (az:Nat→Option TD) (T:Nat) (op:BinOp) (x y:AV):Option (Prop×AV):=
 match x,y with
 | .ah (.int k a),.ah (.int k' b)=>if k=k' then BD op k a b else none
 | .ah (.bool a),.ah (.bool b)=>
  (match az T with
   |some d=>(match d.kind,op with
    | .bool,.eql=>some (True,.ah (.bool (a==b)))
    | .bool,.neq=>some (True,.ah (.bool (!(a==b))))
    |_,_=>none)
   |none=>none)
 | .agg [.ah (.int .i64 a1),.ah (.int .i64 a2)],.agg [.ah (.int .i64 b1),.ah (.int .i64 b2)]=>
  (match az T with
   |some d=>if d.flat then(match op with
    | .eql=>some (True,.ah (.bool (a1==b1&&a2==b2)))
    | .neq=>some (True,.ah (.bool (!(a1==b1&&a2==b2))))
    |_=>none) else none
   |none=>none)
 |_,_=>none
def IP:List Prop→Prop
 | []=>True
 |p::l=>p∧IP l
def MA (op:BinOp) (k:IntKind) (a b:Int):Option Int:=
 match op with
 | .and=>some (k.wrap (BitVec.ofInt k.bits a &&& BitVec.ofInt k.bits b).toNat)
 | .or=>some (k.wrap (BitVec.ofInt k.bits a ||| BitVec.ofInt k.bits b).toNat)
 | .xor=>some (k.wrap (BitVec.ofInt k.bits a ^^^ BitVec.ofInt k.bits b).toNat)
 | .andNot=>some (k.wrap (BitVec.ofInt k.bits a &&& ~~~ (BitVec.ofInt k.bits b)).toNat)
 |_=>none
def kC (a b:ByteArray):Bool:=a.toList==b.toList
def strLt (a b:ByteArray):Bool:=Op.bytesLess a.toList b.toList
def BE:AV→Option Bool
 | .ptr _ _=>some false
 | .cL _ _=>some false
 | .ah (.pointer p)=>some p.isNone
 |_=>none
def KS (az:Nat→Option TD) (T:Nat) (op:BinOp) (x y:AV):Option (List Prop×AV):=
 match y with
 | .ah (.int k' b)=>(match x with
  | .ah (.int k a)=>if k=k' then(match op with
    | .quo=>some ([¬b=0],.ah (.int k (k.wrap (a.tdiv b))))
    | .rem=>some ([¬b=0],.ah (.int k (a.tmod b)))
    |op=>(MA op k a b).map fun n=>([],.ah (.int k n))) else none
  |_=>none)
 | .ah (.string b)=>(match x with
  | .ah (.string a)=>(match op with
    | .add=>some ([a.size+b.size≤9223372036854775807],.ah (.string (a++b)))
    | .eql=>some ([],.ah (.bool (kC a b)))
    | .neq=>some ([],.ah (.bool (!(kC a b))))
    | .lss=>some ([],.ah (.bool (strLt a b)))
    | .leq=>some ([],.ah (.bool (strLt a b||kC a b)))
    | .gtr=>some ([],.ah (.bool (!(strLt a b||kC a b))))
    | .geq=>some ([],.ah (.bool (!(strLt a b))))
    |_=>none)
  |_=>none)
 | .ah (.pointer none)=>(match BE x with
  |some b=>(match az T with
   |some d=>(match d.kind with
    | .ptr _=>(match op with
     | .eql=>some ([],.ah (.bool b))
     | .neq=>some ([],.ah (.bool (!b)))
     |_=>none)
    |_=>none)
   |none=>none)
  |none=>none)
 |_=>none
theorem G3 {az:Nat→Option TD} {T:Nat} {op:BinOp} {x y:AV} {p:List Prop×AV} (h:KS az T op x y=some p):kY az T op x y=none:=by
 unfold KS at h
 split at h
 ·split at h
  ·split at h
   ·rename_i hk
    subst hk
    cases op<;>simp[MA] at h<;>simp[kY,BD]
   ·cases h
  ·cases h
 ·split at h
  ·simp[kY]
  ·cases h
 ·unfold kY
  split<;>first|rfl|(rename_i e;cases e)
 ·cases h
def VJ:Operand→Bool
 | .const .nilIface=>true
 |_=>false
theorem QW {y:Operand} (h:VJ y=true):y=.const .nilIface:=by
 unfold VJ at h
 split at h
 ·rfl
 ·cases h
def QX (az:Nat→Option TD) (T:Nat) (op:BinOp) (x:AV) (y:Operand):Option AV:=
 match VJ y with
 |true=>(match az T,x with
  |some d,.ah .nilIface=>(match d.kind with
   | .XB=>(match op with
    | .eql=>some (.ah (.bool true))
    | .neq=>some (.ah (.bool false))
    |_=>none)
   |_=>none)
  |_,_=>none)
 |false=>none
def BF (az:Nat→Option TD) (T:Nat) (op:BinOp) (x y:AV):Option (Prop×AV):=
 match kY az T op x y with
 |some r=>some r
 |none=>(KS az T op x y).map fun p=>(IP p.1,p.2)
def BG (az:Nat→Option TD) (S D:Nat) (x:AV):Option AV:=
 match az S,az D,x with
 |some _,some d,.ah (.int _ n)=>(match d.kind with
  | .int k=>some (.ah (.int k (k.wrap n)))
  |_=>none)
 |some _,some d,.ah (.string s)=>(match d.kind with
  | .str=>some (.ah (.string s))
  |_=>none)
 |_,_,_=>none
def cq (b:ByteArray) (n:Int):Int:=(((b.data[n.toNat]?).map UInt8.toNat).getD 0:Nat)
def bE {κ:Type} [DecidableEq κ]:List (κ×Value)→κ→Option Value
 | [],_=>none
 |(k,v)::r,a=>if a=k then some v else bE r a
def AV.Ax (hp:List af):AV→Option ME
 | .fH es=>some es
 | .mp r=>(match hp[r]? with|some (.cQ es)=>some es|_=>none)
 |_=>none
def jM {κ:Type} [DecidableEq κ] (es:List (κ×Value)) (z:Value) (a:κ) (ok:Bool):AV:=
 if ok=true then .aX [.ah ((bE es a).getD z),.ah (.bool (bE es a).isSome)] else .ah ((bE es a).getD z)
def uP (hp:List af) (x:AV):Option AV:=
 match x with
 | .ah (.string s)=>some (.ah (.int .i64 s.size))
 |x=>(x.jq hp).map fun els=>.ah (.int .i64 els.length)
def AV.mN:AV→Bool
 | .ah v=>v.oneCell'
 | .top | .aX _ | .fY _ _ _ _=>false
 |_=>true
def yc (n:Nat):List (Nat×Nat×Bool):=(List.range n).map fun i=>(i,1,false)
def dH (fs:List (Nat×Nat×Bool)) (cs:List AV):List (Nat×AV)→Option (List AV)
 | []=>some cs
 |(i,x)::rest=>
  match fs[i]? with
  |some p=>if x.cells.length=p.2.1∧p.1+p.2.1≤cs.length∧x.mN=true then dH fs (setCells cs p.1 x.cells) rest else none
  |none=>none
def Ay:Nat→List (Nat×Operand)→Bool
 |_,[]=>true
 |k,(i,_)::r=>i==k&&Ay (k+1) r
def yd (size:Nat):List AV→Prop
 | []=>True
 |x::xs=>(x.cells.length=size∧x.mN=true)∧yd size xs
def cg (ρ:Operand→AV) (d:Int):Option Operand→Option Int
 |none=>some d
 |some x=>(match ρ x with | .ah (.int _ n)=>some n|_=>none)
def uQ (hp:List af):AV→Option (Nat×Nat×Nat×Nat×Nat)
 | .own r m=>(match hp[r]? with
  |some (.bM e size els)=>some (r,m,e,size,els.length)
  |_=>none)
 |_=>none
def bN (az:Nat→Option TD) (hp:List af) (ρ:Operand→AV):Op→Option (Prop×AV)
 | .move x=>some (True,ρ x)
 | .assign x=>some (True,ρ x)
 | .nilCheck x=>(match ρ x with
  | .ptr r o=>some (True,.ptr r o)
  | .cL e o=>some (True,.cL e o)
  |_=>none)
 | .pick c x y=>(match ρ c with
  | .ah (.bool t)=>some (True,if t=true then ρ x else ρ y)
  |_=>none)
 | .fieldAddr T x f=>(match (fieldsOf az T)[f]? with
  |some p=>if p.2.1=0 then none else(match ρ x with
   | .ptr r o=>some (True,.ptr r (o+p.1))
   | .cL e o=>some (True,.cL e (o+p.1))
   | .fY r m i z=>if p.1=0 then some (True,.fY r m i z) else none
   |_=>none)
  |none=>none)
 | .load T x=>(match az T with
  |some d=>(match ρ x with
   | .ptr r o=>(match hp[r]? with
    |some (.box cs)=>(fS d.kind.agg d.size cs o).map fun v=>(True,v)
    |_=>none)
   | .cL e o=>(ya d.kind.agg d.size e o).map fun v=>(True,v)
   | .fY r m i z=>(match hp[r]? with
    |some (.bM _ z' els)=>if z'=z∧d.size=z then some (m=els.length∧i<els.length∧(els.getD i .top).isAgg=d.kind.agg,els.getD i .top) else none
    |_=>none)
   |_=>none)
  |none=>none)
 | .indexAddr T x i=>(match az T with
  |some d=>(match d.kind with
   | .lO e=>(match az e,(ρ x).jq hp,ρ i with
    |some d',some els,.ah (.int _ n)=>some (0≤n∧n<els.length∧(els.getD n.toNat .top).cells.length=d'.size,.cL (els.getD n.toNat .top) 0)
    |some d',none,.ah (.int _ n)=>(match uQ hp (ρ x) with
     |some (r,m,e',size,k)=>if e'=e∧size=d'.size then some (0≤n∧n<m∧m=k,.fY r m n.toNat size) else none
     |none=>none)
    |_,_,_=>none)
   | .arr m=>(match ρ x,ρ i with
    | .ptr r 0,.ah (.int _ n)=>some (0≤n∧n<m,.ptr r n.toNat)
    |_,_=>none)
   |_=>none)
  |none=>none)
 | .binOp op T x y _=>(match QX az T op (ρ x) y with
  |some v=>some (True,v)
  |none=>BF az T op (ρ x) (ρ y))
 | .convert S D x=>(BG az S D (ρ x)).map fun v=>(True,v)
 | .unOp op _ x=>(match op,ρ x with
  | .not,.ah (.bool b)=>some (True,.ah (.bool (!b)))
  | .neg,.ah (.int k n)=>some (True,.ah (.int k (k.wrap (0-n))))
  |_,_=>none)
 | .build T parts=>(match az T with
  |some d=>(match d.kind with
   | .cY fs=>(dH fs (d.zero.cells.toList.map .ah) (parts.toList.map fun p=>(p.1,ρ p.2))).map fun cs=>(True,.agg cs)
   | .arr n=>(dH (yc n) (d.zero.cells.toList.map .ah) (parts.toList.map fun p=>(p.1,ρ p.2))).map fun cs=>(True,.agg cs)
   |_=>none)
  |none=>none)
 | .buildSlice T n parts=>(match az T with
  |some d=>(match d.kind with
   | .lO e=>(match az e with
    |some d'=>if n=parts.toList.length∧Ay 0 parts.toList=true∧n≤16777216∧n*d'.size≤16777216 then some (yd d'.size (parts.toList.map fun p=>(ρ p.2).cm hp),.clip (parts.toList.map fun p=>(ρ p.2).cm hp)) else none
    |none=>none)
   |_=>none)
  |none=>none)
 | .slice T x lo hi mx=>(match az T with
  |some d=>(match d.kind,ρ x with
   | .str,.ah (.string b)=>(match mx,cg ρ 0 lo,cg ρ b.size hi with
    |none,some l,some h=>some (0≤l∧l≤h∧h≤b.size,.ah (.string (b.extract l.toNat h.toNat)))
    |_,_,_=>none)
   | .lO e,v=>(match v.jq hp,az e with
    |some els,some d'=>(match cg ρ 0 lo,cg ρ els.length hi,mx.map fun m=>cg ρ 0 (some m) with
     |some l,some h,none=>some (0≤l∧l≤h∧h≤els.length∧(∀y:AV,y∈els→y.cells.length=d'.size),.sl ((els.take h.toNat).drop l.toNat))
     |some l,some h,some (some m)=>if hi.isSome=true then some (0≤l∧l≤h∧h=m∧h≤els.length∧(∀y:AV,y∈els→y.cells.length=d'.size),.clip ((els.take h.toNat).drop l.toNat)) else none
     |_,_,_=>none)
    |_,_=>none)
   |_,_=>none)
  |none=>none)
 | .field T x f=>(match (fieldsOf az T)[f]?,ρ x with
  |some p,.agg cs=>if p.2.2=true∨p.2.1=1 then(fS p.2.2 p.2.1 cs p.1).map fun v=>(True,v) else none
  |_,_=>none)
 | .lookup T m k ok=>(match az T,(ρ m).Ax hp,ρ k with
  |some d,some (.i es),.ah (.int .i64 a)=>(match d.kind with
   | .pQ kt et=>(match az kt,az et with
    |some dk,some de=>(match dk.kind with
     | .int _=>some (True,jM es de.zero a ok)
     |_=>none)
    |_,_=>none)
   |_=>none)
  |some d,some (.s es),.ah (.string a)=>(match d.kind with
   | .pQ kt et=>(match az kt,az et with
    |some dk,some de=>(match dk.kind with
     | .str=>some (True,jM es de.zero a ok)
     |_=>none)
    |_,_=>none)
   |_=>none)
  |_,_,_=>none)
 | .index T x i=>(match az T,ρ x,ρ i with
  |some d,.ah (.string b),.ah (.int _ n)=>(match d.kind with
   | .str=>some (0≤n∧n<b.size,.ah (.int .u8 (cq b n)))
   |_=>none)
  |_,_,_=>none)
 | .extract x i=>(match ρ x with
  | .aX vs=>(vs[i]?).map fun v=>(True,v)
  |_=>none)
 | .makeFunc (.func f) first caps=>if first.size=0 then some (True,.ck f (caps.toList.map ρ)) else if caps.size=0 then some (True,.cX f (first.toList.map ρ)) else none
 | .call c=>(match c.callee,c.args.toList with
  | .builtin .len,[x]=>(match (c.argTypes[0]?).bind az with
   |some d=>(match d.kind,ρ x with
    | .lO _,.ah (.string _)=>none
    | .lO _,v=>(match uP hp v with
     |some u=>some (True,u)
     |none=>(match uQ hp v with
      |some (_,m,_,_,k)=>some (m=k,.ah (.int .i64 (m:Nat)))
      |none=>none))
    | .str,.ah (.string b)=>some (True,.ah (.int .i64 b.size))
    |_,_=>none)
   |none=>none)
  | .builtin .min,[x,y]=>(match ρ x,ρ y with
   | .ah (.int k m),.ah (.int _ n)=>some (True,.ah (.int k (if n<m then n else m)))
   |_,_=>none)
  | .builtin .max,[x,y]=>(match ρ x,ρ y with
   | .ah (.int k m),.ah (.int _ n)=>some (True,.ah (.int k (if n>m then n else m)))
   |_,_=>none)
  |_,_=>none)
 |_=>none
def gi (Γ:Env G) (o:Oper) (s:AS G) (r:AV):Prop:=
 ∀a w η,Rel Γ s a w η→∃v w',(execOp a.eval o).run Γ.P w=.ok (.value v) w'∧bX w w'∧bw w' (bn Γ w' η s.hp) η s.hp r v
theorem aS {o:Oper} {r:AV} (h:∀a w η,Rel Γ s a w η→∃v,(execOp a.eval o).run Γ.P w=.ok (.value v) w∧bw w (bn Γ w η s.hp) η s.hp r v):gi Γ o s r:=
 fun a w η hr=>let ⟨v,h1,h2⟩:=h a w η hr;⟨v,w,h1,bX.refl w,h2⟩
theorem bw.aE {u v:Value} (h:bw w F η hp (.ah u) v):v=u:=by cases h;rfl
theorem fu {agg:Bool} {size:Nat} {cs:List AV} {o:Nat} {r:AV} (cJ:agg=false→size=1) {vs:List Value} (hl:vs.length=cs.length) (hr:∀(j:Nat) (x:AV) (u:Value),cs[j]?=some x→vs[j]?=some u→bw w F η hp x u∧u.oneCell'=true)
  (h:fS agg size cs o=some r):o+size≤vs.length∧bw w F η hp r (if agg then .agg ((vs.drop o).take size).toArray else((vs.drop o).take size).headD undef):=by
 unfold fS at h
 cases agg with
 |true=>
  simp only[if_true] at h ⊢
  split at h
  ·rename_i hle
   obtain rfl:=Option.some.inj h
   refine⟨by omega,.agg _ _ (by simp;omega) (fun v hv=>?_) fun j x v hx hv=>?_⟩
   ·have L9:v∈(vs.drop o).take size:=by simpa using hv
    obtain⟨k,hk⟩:=ajh L9
    rw[aik] at hk
    split at hk
    ·rw[ajc] at hk
     have ay:o+k<vs.length:=(ahY.1 hk).1
     exact(hr (o+k) (cs[o+k]'(by omega)) v (by simp) hk).2
    ·cases hk
   ·have L9:((vs.drop o).take size)[j]?=some v:=by simpa using hv
    rw[aik] at hx L9
    split at hx
    ·rename_i hj
     rw[if_pos hj,ajc] at L9
     rw[ajc] at hx
     exact(hr (o+j) x v hx L9).1
    ·cases hx
  ·cases h
 |false=>
  simp only[aij,if_false] at h ⊢
  have ay:o<cs.length:=(ahY.1 h).1
  have h1:=cJ rfl
  subst h1
  refine⟨by omega,?_⟩
  have hv:vs[o]?=some (vs[o]'(by omega)):=by simp
  have:((vs.drop o).take 1).headD undef=vs[o]'(by omega):=by
   rw[List.headD_eq_head?_getD,List.head?_eq_getElem?,aik,if_pos (by omega),ajc]
   simp only[ai4]
   rw[hv];rfl
  rw[this]
  exact(hr o r _ h hv).1
theorem kZ {T:TypeId} {d:TD} (ht:iI P T d) {b o:Nat} {vs:List Value} (hc:∀(j:Nat) (u:Value),vs[j]?=some u→w.cell? ⟨b,j,none⟩=some u) (hle:o+d.size≤vs.length):
  (loadVar T ⟨b,o,none⟩).run P w=.ok (if d.kind.agg then .agg ((vs.drop o).take d.size).toArray else((vs.drop o).take d.size).headD undef) w:=by
 refine ht.run_load (vs:=(vs.drop o).take d.size) (by simp;omega) fun j u hj=>?_
 rw[aik] at hj
 split at hj
 ·rw[ajc] at hj;exact hc _ _ hj
 ·cases hj
theorem uR {b:Nat} {vs:Array Value} {T:TypeId} (hg:w.heap[b]?=some (.cells vs T (0,0))) (j:Nat) (u:Value) (hj:vs.toList[j]?=some u):w.cell? ⟨b,j,none⟩=some u:=by
 rw[cell_of_row w b j vs T (0,0) hg];simpa using hj
theorem aT.sz {az:Nat→Option TD} (au:aT P az) {T:Nat} {d:TD} (h:az T=some d):d.kind.agg=false→d.size=1:=fun h1=>((au T d h).UH h1).1
theorem Az {az:Nat→Option TD} (au:aT Γ.P az) {o:Oper} {T:Nat} {x:Operand} (ho:o.op=.load T x) {d:TD} (hd:az T=some d) {r:AV}
  (h:(∃n off cs,s.ev x=.ptr n off∧s.hp[n]?=some (.box cs)∧fS d.kind.agg d.size cs off=some r)∨(∃e off,s.ev x=.cL e off∧ya d.kind.agg d.size e off=some r)):gi Γ o s r:=by
 refine aS fun a w η hr=>?_
 have hx:=hr.ev x
 have iL:=au T d hd
 rcases h with⟨n,off,cs,he,hn,Xn⟩|⟨e,off,he,Xn⟩
 ·rw[he] at hx
  cases yf:a.eval x<;>rw[yf] at hx<;>cases hx
  rename_i b eS
  obtain⟨b',vs,T',hb,hg,cJ,hc⟩:=hr.heap.obj n _ _ hn eS
  simp only[Value.pointer.injEq,Option.some.injEq,Addr.mk.injEq,and_true] at hb
  subst hb
  obtain⟨h1,h2⟩:=fu (w:=w) (F:=bn Γ w η s.hp) (η:=η) (hp:=s.hp) (au.sz hd) (vs:=vs.toList) (by simpa using cJ) (fun j x u hx hu=>hc j x u hx (by simpa using hu)) Xn
  refine⟨_,?_,h2⟩
  simp only[execOp,ho,yf,Instr.loadAt,Instr.sureAddr,Sem.run_bind,Sem.run_pure,Result.andThen_ok]
  rw[kZ iL (uR hg) h1]
  rfl
 ·rw[he] at hx
  cases yf:a.eval x<;>rw[yf] at hx<;>cases hx
  rename_i b o f aN ec
  have eu:∀(j:Nat) (x:AV) (u:Value),e.cells[j]?=some x→((List.range e.cells.length).map f)[j]?=some u→bw w (bn Γ w η s.hp) η s.hp x u∧u.oneCell'=true:=by
   intro j x u hx hu
   have ay:=(ahY.1 hx).1
   rw[aie,ajZ ay] at hu
   obtain rfl:=Option.some.inj hu
   exact⟨(ec j x hx).lift,(aN j x hx).2.2⟩
  have iK:∀(j:Nat) (u:Value),((List.range e.cells.length).map f)[j]?=some u→w.cell? ⟨b,o+j,none⟩=some u:=by
   intro j u hj
   rw[aie] at hj
   by_cases ay:j<e.cells.length
   ·rw[ajZ ay] at hj
    obtain rfl:=Option.some.inj hj
    exact(aN j _ (ahY.2 ⟨ay,rfl⟩)).1
   ·rw[aiG (by simp;omega)] at hj;cases hj
  have key:off+d.size≤e.cells.length∧bw w (bn Γ w η s.hp) η s.hp r (if d.kind.agg then .agg ((((List.range e.cells.length).map f).drop off).take d.size).toArray else((((List.range e.cells.length).map f).drop off).take d.size).headD undef):=by
   unfold ya at Xn
   split at Xn
   ·rename_i hc
    obtain⟨rfl,hlen,bO⟩:=hc
    obtain rfl:=Option.some.inj Xn
    refine⟨by omega,?_⟩
    cases hk:d.kind.agg with
    |true=>
     rw[hk] at bO
     cases e<;>simp only[AV.isAgg] at bO<;>try (cases bO;done)
     rename_i cs
     have oS:cs.length=d.size:=hlen
     have:=(fu (w:=w) (F:=bn Γ w η s.hp) (η:=η) (hp:=s.hp) (agg:=true) (size:=d.size) (cs:=cs) (o:=0) (r:=.agg cs) (fun h=>by cases h) (vs:=(List.range cs.length).map f) (by simp) eu (by simp[fS,←oS])).2
     simpa [AV.cells] using this
    |false=>
     have h1:=au.sz hd hk
     have G4:e.cells=[e]:=by
      rw[hk] at bO
      cases e<;>first|rfl|(simp[AV.isAgg] at bO)
     have:=(fu (w:=w) (F:=bn Γ w η s.hp) (η:=η) (hp:=s.hp) (agg:=false) (size:=d.size) (cs:=e.cells) (o:=0) (r:=e) (fun _=>h1) (vs:=(List.range e.cells.length).map f) (by simp) eu (by rw[G4];rfl)).2
     simpa using this
   ·have:=fu (w:=w) (F:=bn Γ w η s.hp) (η:=η) (hp:=s.hp) (au.sz hd) (vs:=(List.range e.cells.length).map f) (by simp) eu Xn
    simpa using this
  refine⟨_,?_,key.2⟩
  simp only[execOp,ho,yf,Instr.loadAt,Instr.sureAddr,Sem.run_bind,Sem.run_pure,Result.andThen_ok]
  rw[iL.run_load (vs:=(((List.range e.cells.length).map f).drop off).take d.size) (by simp;omega) (fun j u hj=>by
   rw[aik] at hj
   split at hj
   ·rw[ajc] at hj
    have:=iK _ _ hj
    rw[ajt];exact this
   ·cases hj)]
  rfl
end
section
variable {G:Type} {Γ:Env G} {s:AS G} {a:Act} {w w':World} {η:List Value} {hp:List af} {F:Nat→Nat→Prop} {P:Program}
theorem nM {az:Nat→Option TD} {T:Nat} {f:Nat} {p:Nat×Nat×Bool} (h:(fieldsOf az T)[f]?=some p):∃d fs,az T=some d∧d.kind=.cY fs∧fs[f]?=some p:=by
 unfold fieldsOf at h
 split at h
 ·rename_i d hd
  split at h
  ·rename_i fs hk
   exact⟨d,fs,hd,hk,h⟩
  ·simp at h
 ·simp at h
theorem iI.field {T:Nat} {d:TD} (h:iI P T d) {fs:List (Nat×Nat×Bool)} (hk:d.kind=.cY fs) {f:Nat} {p:Nat×Nat×Bool} (hf:fs[f]?=some p):
  ∃fields fd i u,P.underlying T=some (.struct fields)∧fields[f]?=some fd∧fd.offset=p.1∧P.info? fd.type=some i∧i.size=p.2.1∧P.underlying fd.type=some u∧Mw u=p.2.2:=by
 obtain⟨u,h1,h2⟩:=h.jR
 rw[hk] at h2
 obtain⟨fields,rfl,h3⟩:=h2
 have h4:=congrArg (·[f]?) h3
 simp only[aie,hf,aiv,Array.getElem?_toList] at h4
 cases hfd:fields[f]? with
 |none=>rw[hfd] at h4;cases h4
 |some fd=>
  rw[hfd] at h4
  simp only[aiv,Option.some.injEq,Prod.mk.injEq] at h4
  obtain⟨e1,e2,e3⟩:=h4
  cases hi:P.info? fd.type with
  |none=>rw[hi] at e2;cases e2
  |some i=>
   cases hu:P.underlying fd.type with
   |none=>rw[hu] at e3;cases e3
   |some u=>
    rw[hi] at e2;rw[hu] at e3
    exact⟨fields,fd,i,u,h1,hfd,e1,hi,by simpa using e2,hu,by simpa using e3⟩
theorem pT {az:Nat→Option TD} (au:aT Γ.P az) {o:Oper} {T f:Nat} {x:Operand} (ho:o.op=.fieldAddr T x f) {p:Nat×Nat×Bool} (hp:(fieldsOf az T)[f]?=some p) (h0:p.2.1≠0) {r:AV}
  (h:(∃n off,s.ev x=.ptr n off∧r=.ptr n (off+p.1))∨(∃e off,s.ev x=.cL e off∧r=.cL e (off+p.1))):gi Γ o s r:=by
 refine aS fun a w η hr=>?_
 have hx:=hr.ev x
 obtain⟨d,fs,hd,hk,hf⟩:=nM hp
 obtain⟨fields,fd,i,u,h1,h2,h3,h4,h5,_⟩:=(au T d hd).field hk hf
 have h6:¬i.size=0:=by rw[h5];exact h0
 rcases h with⟨n,off,he,rfl⟩|⟨e,off,he,rfl⟩<;>rw[he] at hx
 ·cases yf:a.eval x<;>rw[yf] at hx<;>cases hx
  rename_i b eS
  exact⟨.pointer (some ⟨b,off+p.1,none⟩),by simp[execOp,ho,yf,Instr.fieldAt,run_underlying h1,h2,Instr.sureAddr,fieldPlace,sizeOf,typeInfo,h4,h6,h3,Addr.add_lit],.ptr n _ b eS⟩
 ·cases yf:a.eval x<;>rw[yf] at hx<;>cases hx
  rename_i b o f' aN ec
  refine⟨.pointer (some ⟨b,o+off+p.1,none⟩),by simp[execOp,ho,yf,Instr.fieldAt,run_underlying h1,h2,Instr.sureAddr,fieldPlace,sizeOf,typeInfo,h4,h6,h3,Addr.add_lit],?_⟩
  rw[ajt]
  exact .cL e _ b o f' aN ec
theorem wL {az:Nat→Option TD} (au:aT Γ.P az) {o:Oper} {T f:Nat} {x:Operand} (ho:o.op=.fieldAddr T x f) {p:Nat×Nat×Bool} (hp:(fieldsOf az T)[f]?=some p) (h0:p.2.1≠0) {r m i z:Nat}
  (he:s.ev x=.fY r m i z) (hz:p.1=0):gi Γ o s (.fY r m i z):=by
 refine aS fun a w η hr=>?_
 have hx:=hr.ev x
 obtain⟨d,fs,hd,hk,hf⟩:=nM hp
 obtain⟨fields,fd,i',u,h1,h2,h3,h4,h5,_⟩:=(au T d hd).field hk hf
 have h6:¬i'.size=0:=by rw[h5];exact h0
 rw[he] at hx
 cases yf:a.eval x<;>rw[yf] at hx<;>cases hx
 rename_i b o' c k uS
 exact⟨.pointer (some ⟨b,o'+i*z,none⟩),by simp[execOp,ho,yf,Instr.fieldAt,run_underlying h1,h2,Instr.sureAddr,fieldPlace,sizeOf,typeInfo,h4,h6,h3,Addr.add_lit,hz],.fY r m i z b o' c k uS⟩
theorem G5 {az:Nat→Option TD} (au:aT Γ.P az) {o:Oper} {T:Nat} {x:Operand} (ho:o.op=.load T x) {d:TD} (hd:az T=some d) {r m i z e:Nat} {els:List AV} (he:s.ev x=.fY r m i z) (ry:s.hp[r]?=some (.bM e z els))
  (hm:m=els.length) (DN:d.size=z) (hi:i<els.length) (bO:els[i].isAgg=d.kind.agg):gi Γ o s els[i]:=by
 refine aS fun a w η hr=>?_
 have hx:=hr.ev x
 have iL:=au T d hd
 rw[he] at hx
 cases yf:a.eval x<;>rw[yf] at hx<;>cases hx
 rename_i b o' c k uS
 have yg:=uS
 unfold aY at yg
 rw[ry] at yg
 have eS:=yg.2 hm
 obtain⟨Mc,xs,eo,eC⟩:=hr.heap.obj r _ _ ry eS
 rcases eo.2 with⟨h0,_⟩|⟨g,cap,cur,hve,h0,⟨G6,MB,hg⟩,DM,IK,iK,lU⟩
 ·omega
 simp only[Value.slice.injEq,Option.some.injEq,Addr.mk.injEq,and_true] at hve
 obtain⟨⟨rfl,rfl⟩,hnm,rfl⟩:=hve
 have GV:=eC i els[i] (ah2 hi)
 have aN:(i+1)*z≤els.length*z:=aiZ _ hi
 rw[aiV,Nat.one_mul] at aN
 have Qw:((xs.drop (i*z)).take z).length=z:=by rw[aid,aix,eo.1];omega
 have ep:∀(j:Nat) (u:Value),((xs.drop (i*z)).take z)[j]?=some u→j<z∧xs[i*z+j]?=some u:=by
  intro j u hj
  rw[aik] at hj
  split at hj
  ·rename_i ay;rw[ajc] at hj;exact⟨ay,hj⟩
  ·cases hj
 have eu:∀(j:Nat) (y:AV) (u:Value),els[i].cells[j]?=some y→((xs.drop (i*z)).take z)[j]?=some u→bw w (bn Γ w η s.hp) η s.hp y u∧u.oneCell'=true:=by
  intro j y u hy hu
  obtain⟨_,h2⟩:=ep j u hu
  obtain⟨u',q1,q2,q3⟩:=GV.2 j y hy
  rw[h2] at q1
  obtain rfl:=Option.some.inj q1
  exact⟨q2.lift,q3⟩
 have abp:∀(j:Nat) (u:Value),((xs.drop (i*z)).take z)[j]?=some u→w.cell? ⟨b,0+i*z+j,none⟩=some u:=by
  intro j u hj
  obtain⟨h1,h2⟩:=ep j u hj
  rw[←lU,aik] at h2
  split at h2
  ·rw[cell_of_row w b (0+i*z+j) cur e (0,G6) hg,aiw];simpa using h2
  ·cases h2
 have key:bw w (bn Γ w η s.hp) η s.hp els[i] (if d.kind.agg then .agg ((xs.drop (i*z)).take z).toArray else((xs.drop (i*z)).take z).headD undef):=by
  have hlen:=GV.1
  generalize els[i]=el at bO hlen eu
  cases hk:d.kind.agg with
  |true=>
   rw[hk] at bO
   cases el<;>simp only[AV.isAgg] at bO<;>try (cases bO;done)
   rename_i cs
   have oS:cs.length=z:=hlen
   have:=(fu (w:=w) (F:=bn Γ w η s.hp) (η:=η) (hp:=s.hp) (agg:=true) (size:=z) (cs:=cs) (o:=0) (r:=.agg cs) (fun h=>by cases h) (vs:=(xs.drop (i*z)).take z) (by rw[Qw,oS]) eu (by simp[fS,←oS])).2
   simpa [List.take_take] using this
  |false=>
   have h1:=au.sz hd hk
   have G4:el.cells=[el]:=by
    rw[hk] at bO
    cases el<;>first|rfl|(simp[AV.isAgg] at bO)
   have:=(fu (w:=w) (F:=bn Γ w η s.hp) (η:=η) (hp:=s.hp) (agg:=false) (size:=z) (cs:=el.cells) (o:=0) (r:=el) (fun _=>by rw[←DN];exact h1) (vs:=(xs.drop (i*z)).take z) (by rw[Qw,hlen]) eu (by rw[G4];rfl)).2
   simpa [←DN,h1,List.take_take] using this
 refine⟨_,?_,key⟩
 simp only[execOp,ho,yf,Instr.loadAt,Instr.sureAddr,Sem.run_bind,Sem.run_pure,Result.andThen_ok]
 rw[iL.run_load (vs:=(xs.drop (i*z)).take z) (by rw[Qw,DN]) abp]
 rfl
theorem yh {az:Nat→Option TD} (au:aT Γ.P az) {o:Oper} {T e:Nat} {x i:Operand} (ho:o.op=.indexAddr T x i) {d d':TD} (hd:az T=some d) (hk:d.kind=.lO e) (eG:az e=some d') {els:List AV} (eC:(s.ev x).jq s.hp=some els)
  {k:IntKind} {n:Int} (hi:s.ev i=.ah (.int k n)) (h0:0≤n) (h1:n<els.length) (cJ:(els.getD n.toNat .top).cells.length=d'.size):gi Γ o s (.cL (els.getD n.toNat .top) 0):=by
 refine aS fun a w η hr=>?_
 have hx:=kW hr.heap hr.cE (hr.ev x) eC
 have Md:=hr.ev i
 rw[hi] at Md
 have VK:=Md.aE
 have hu:Γ.P.underlying T=some (.slice e):=by
  obtain⟨u,h2,h3⟩:=(au T d hd).jR
  rw[hk] at h3
  rw[h2];exact congrArg some h3
 have ay:n.toNat<els.length:=by omega
 have ep:els[n.toNat]?=some (els.getD n.toNat .top):=by simp[List.getD,ay]
 generalize vF:a.eval x=vx at hx
 cases hx with
 |pE=>simp at ay
 |sl size els b off c f hc hm hl aN ec=>
  have hs:size=d'.size:=by rw[←hl _ _ ep];exact cJ
  subst hs
  obtain⟨i0,G6,pG,_⟩:=(au e d' eG).info
  refine⟨.pointer (some ⟨b,off+n.toNat*d'.size,none⟩),?_,.cL _ 0 b (off+n.toNat*d'.size) (f n.toNat) (fun j x hj=>aN _ _ _ _ ep hj) (fun j x hj=>ec _ _ _ _ ep hj)⟩
  have hb:0≤n∧n<(els.length:Int):=⟨h0,h1⟩
  simp[execOp,ho,vF,VK,Instr.indexAt,asIntOf,run_underlying hu,hb,sizeOf,typeInfo,G6,pG,Addr.add_lit]
theorem wM {az:Nat→Option TD} (au:aT Γ.P az) {o:Oper} {T m:Nat} {x i:Operand} (ho:o.op=.indexAddr T x i) {d:TD} (hd:az T=some d) (hk:d.kind=.arr m) {r:Nat} (hx:s.ev x=.ptr r 0)
  {k:IntKind} {n:Int} (hi:s.ev i=.ah (.int k n)) (h0:0≤n) (h1:n<m):gi Γ o s (.ptr r n.toNat):=by
 refine aS fun a w η hr=>?_
 have eU:=hr.ev x
 rw[hx] at eU
 have Md:=hr.ev i
 rw[hi] at Md
 have VK:=Md.aE
 obtain⟨u,h2,h3⟩:=(au T d hd).jR
 rw[hk] at h3
 obtain⟨e,i0,rfl,G6,pG⟩:=h3
 generalize vF:a.eval x=vx at eU
 cases eU with
 |ptr _ _ b eS=>
  refine⟨.pointer (some ⟨b,n.toNat,none⟩),?_,.ptr _ _ b eS⟩
  have hb:0≤n∧n<(m:Int):=⟨h0,h1⟩
  simp[execOp,ho,vF,VK,Instr.indexAt,asIntOf,run_underlying h2,hb,sizeOf,typeInfo,G6,pG,Addr.add_lit,Instr.sureAddr]
theorem qJ {hp:List af} {x:AV} {r m e size k:Nat} (h:uQ hp x=some (r,m,e,size,k)):x=.own r m∧∃els,hp[r]?=some (.bM e size els)∧k=els.length:=by
 unfold uQ at h
 split at h
 ·split at h
  ·rename_i hr
   simp only[Option.some.injEq,Prod.mk.injEq] at h
   obtain⟨rfl,rfl,rfl,rfl,rfl⟩:=h
   exact⟨rfl,_,hr,rfl⟩
  ·cases h
 ·cases h
theorem wN {az:Nat→Option TD} (au:aT Γ.P az) {o:Oper} {T e:Nat} {x i:Operand} (ho:o.op=.indexAddr T x i) {d d':TD} (hd:az T=some d) (hk:d.kind=.lO e) (eG:az e=some d') {r m:Nat} {els:List AV} (hx:s.ev x=.own r m) (ry:s.hp[r]?=some (.bM e d'.size els)) (hm:m=els.length)
  {k:IntKind} {n:Int} (hi:s.ev i=.ah (.int k n)) (h0:0≤n) (h1:n<m):gi Γ o s (.fY r m n.toNat d'.size):=by
 refine aS fun a w η hr=>?_
 have eU:=hr.ev x
 rw[hx] at eU
 have Md:=hr.ev i
 rw[hi] at Md
 have VK:=Md.aE
 have hu:Γ.P.underlying T=some (.slice e):=by
  obtain⟨u,h2,h3⟩:=(au T d hd).jR
  rw[hk] at h3
  rw[h2];exact congrArg some h3
 generalize vF:a.eval x=vx at eU
 cases eU with
 |own _ _ _ KT uS=>
  have yg:=uS
  unfold aY at yg
  rw[ry] at yg
  have eS:=yg.2 hm
  obtain⟨Me,xs,eo,_⟩:=hr.heap.obj r _ _ ry eS
  rcases eo.2 with⟨hz,_⟩|⟨g,cap,cur,rfl,_⟩
  ·omega
  ·rw[←hm] at uS vF
   obtain⟨i0,G6,pG,_⟩:=(au e d' eG).info
   refine⟨.pointer (some ⟨g,0+n.toNat*d'.size,none⟩),?_,.fY r m n.toNat d'.size g 0 cap m uS⟩
   have hb:0≤n∧n<(m:Int):=⟨h0,h1⟩
   simp[execOp,ho,vF,VK,Instr.indexAt,asIntOf,run_underlying hu,hb,sizeOf,typeInfo,G6,pG,Addr.add_lit]
theorem G7 {az:Nat→Option TD} (au:aT Γ.P az) {o:Oper} {T T':Nat} {op:BinOp} {x y:Operand} (ho:o.op=.binOp op T x y T') {c:Prop} {r:AV} (h:kY az T op (s.ev x) (s.ev y)=some (c,r)) (_hc:c):gi Γ o s r:=by
 refine aS fun a w η hr=>?_
 have hx:=hr.ev x
 have hy:=hr.ev y
 unfold kY at h
 split at h
 ·rename_i k m k' n e1 e2
  rw[e1] at hx;rw[e2] at hy
  have oR:=hx.aE
  have GX:=hy.aE
  split at h
  ·rename_i hkk
   subst hkk
   unfold BD at h
   split at h<;>first
    |cases h;done
    |(simp only[Option.some.injEq,Prod.mk.injEq] at h;obtain⟨_,rfl⟩:=h;exact⟨_,by simp[execOp,ho,oR,GX,eqGuard,binOp,Op.intArith,Op.intCmp];try rfl,.ah _⟩)
  ·cases h
 ·rename_i b1 b2 e1 e2
  rw[e1] at hx;rw[e2] at hy
  have oR:=hx.aE
  have GX:=hy.aE
  split at h
  ·rename_i d hd
   obtain⟨u,h2,h3⟩:=(au T d hd).jR
   split at h
   ·rename_i hk
    rw[hk] at h3
    have hu:Γ.P.underlying T=some .bool:=by rw[h2];exact congrArg some h3
    simp only[Option.some.injEq,Prod.mk.injEq] at h
    obtain⟨_,rfl⟩:=h
    have he:(Op.equal T (.bool b1) (.bool b2)).run Γ.P w=.ok (b1==b2) w:=run_equalIn_bool' w 9999 T b1 b2 hu
    refine⟨_,?_,.ah _⟩
    simp only[execOp,ho,oR,GX,eqGuard,binOp,Sem.run_bind,aju,aij,if_false,he,Result.andThen_ok,Sem.run_pure]
   ·rename_i hk
    rw[hk] at h3
    have hu:Γ.P.underlying T=some .bool:=by rw[h2];exact congrArg some h3
    simp only[Option.some.injEq,Prod.mk.injEq] at h
    obtain⟨_,rfl⟩:=h
    have he:(Op.equal T (.bool b1) (.bool b2)).run Γ.P w=.ok (b1==b2) w:=run_equalIn_bool' w 9999 T b1 b2 hu
    refine⟨_,?_,.ah _⟩
    simp only[execOp,ho,oR,GX,eqGuard,binOp,Sem.run_bind,aju,aij,if_false,he,Result.andThen_ok,Sem.run_pure]
   ·cases h
  ·cases h
 ·rename_i a1 a2 b1 b2 e1 e2
  rw[e1] at hx;rw[e2] at hy
  have XF:∀{m1 m2:Int} {v:Value},bw w (bn Γ w η s.hp) η s.hp (.agg [.ah (.int .i64 m1),.ah (.int .i64 m2)]) v→v=.agg #[.int .i64 m1,.int .i64 m2]:=by
   intro m1 m2 v hv
   cases hv with
   |agg cs vs hl h1 hr=>
    obtain⟨vs⟩:=vs
    match vs,hl with
    | [u1,u2],_=>
     have q1:=(hr 0 _ u1 rfl rfl).aE
     have q2:=(hr 1 _ u2 rfl rfl).aE
     rw[q1,q2]
  have oR:=XF hx
  have GX:=XF hy
  split at h
  ·rename_i d hd
   split at h
   ·rename_i hfl
    obtain⟨g1,g2⟩:=(au T d hd).feq hfl
    split at h
    ·simp only[Option.some.injEq,Prod.mk.injEq] at h
     obtain⟨_,rfl⟩:=h
     refine⟨.bool (a1==b1&&a2==b2),?_,.ah _⟩
     have:=run_eql_struct (P:=Γ.P) w T #[.int .i64 a1,.int .i64 a2] #[.int .i64 b1,.int .i64 b2]
     rw[g2] at this
     simp only[Result.andThen_ok] at this
     simp only[execOp,ho,oR,GX,Sem.run_bind,run_eqGuard_agg (P:=Γ.P) w _ T x y _ _ g1,Result.andThen_ok,this]
     rfl
    ·simp only[Option.some.injEq,Prod.mk.injEq] at h
     obtain⟨_,rfl⟩:=h
     refine⟨.bool (!(a1==b1&&a2==b2)),?_,.ah _⟩
     have:=run_neq_struct (P:=Γ.P) w T #[.int .i64 a1,.int .i64 a2] #[.int .i64 b1,.int .i64 b2]
     rw[g2] at this
     simp only[Result.andThen_ok] at this
     simp only[execOp,ho,oR,GX,Sem.run_bind,run_eqGuard_agg (P:=Γ.P) w _ T x y _ _ g1,Result.andThen_ok,this]
     rfl
    ·cases h
   ·cases h
  ·cases h
 ·cases h
theorem hO (h:Rel Γ s a w η):∀l:List Operand,cH w (bn Γ w η s.hp) η s.hp (l.map s.ev) (l.map a.eval)
 | []=>True.intro
 |x::l=>⟨h.ev x,hO h l⟩
theorem z6 {o:Oper} {f:Nat} {first caps:Array Operand} (ho:o.op=.makeFunc (.func f) first caps) (h0:first.size=0):gi Γ o s (.ck f (caps.toList.map s.ev)):=by
 refine aS fun a w η hr=>⟨.func (.func f) #[] (caps.map a.eval),?_,.ck f _ _ (by simp) fun j x v hx hv=>?_⟩
 ·have:first=#[]:=ajI h0
  subst this
  simp[execOp,ho,Instr.makeFunc]
 ·exact(hO hr caps.toList).get j x v hx (by simpa using hv)
theorem wO {o:Oper} {f:Nat} {first caps:Array Operand} (ho:o.op=.makeFunc (.func f) first caps) (h0:caps.size=0):gi Γ o s (.cX f (first.toList.map s.ev)):=by
 refine aS fun a w η hr=>⟨.func (.func f) (first.map a.eval) #[],?_,.cX f _ _ (by simp) fun j x v hx hv=>?_⟩
 ·have:caps=#[]:=ajI h0
  subst this
  simp[execOp,ho,Instr.makeFunc]
 ·exact(hO hr first.toList).get j x v hx (by simpa using hv)
theorem KU {o:Oper} {c x y:Operand} {t:Bool} (ho:o.op=.pick c x y) (hc:s.ev c=.ah (.bool t)):gi Γ o s (if t=true then s.ev x else s.ev y):=by
 refine aS fun a w η hr=>?_
 have h:=hr.ev c
 rw[hc] at h
 have hv:=h.aE
 cases t with
 |true=>exact⟨a.eval x,by simp[execOp,ho,hv,asBool],by simpa using hr.ev x⟩
 |false=>exact⟨a.eval y,by simp[execOp,ho,hv,asBool],by simpa using hr.ev y⟩
theorem qK {w:World} {η:List Value} {hp:List af} {F:Nat→Nat→Prop} {x:AV} {b:Bool} (h:BE x=some b) {v:Value} (hx:bw w F η hp x v):∃p,v=.pointer p∧p.isNone=b:=by
 unfold BE at h
 split at h
 ·cases hx;exact⟨_,rfl,by simpa using h⟩
 ·cases hx;exact⟨_,rfl,by simpa using h⟩
 ·cases hx;exact⟨_,rfl,by simpa using h⟩
 ·cases h
theorem KV {az:Nat→Option TD} (au:aT Γ.P az) {o:Oper} {T T':Nat} {op:BinOp} {x y:Operand} (ho:o.op=.binOp op T x y T') {cs:List Prop} {r:AV} (h:KS az T op (s.ev x) (s.ev y)=some (cs,r)) (hc:IP cs):gi Γ o s r:=by
 unfold KS at h
 split at h
 ·rename_i k' b hy
  split at h
  ·rename_i k a hx
   split at h
   ·rename_i hk
    subst hk
    refine aS fun ac w η hr=>?_
    have h1:=hr.ev x
    have h2:=hr.ev y
    rw[hx] at h1;rw[hy] at h2
    have h1:=h1.aE
    have h2:=h2.aE
    split at h
    ·simp only[Option.some.injEq,Prod.mk.injEq] at h
     obtain⟨rfl,rfl⟩:=h
     exact⟨_,by simp[execOp,ho,h1,h2,eqGuard,binOp,Op.intDiv,hc.1],.ah _⟩
    ·simp only[Option.some.injEq,Prod.mk.injEq] at h
     obtain⟨rfl,rfl⟩:=h
     exact⟨_,by simp[execOp,ho,h1,h2,eqGuard,binOp,Op.intDiv,hc.1],.ah _⟩
    ·obtain⟨n,hn,he⟩:=aiX.1 h
     simp only[Prod.mk.injEq] at he
     obtain⟨rfl,rfl⟩:=he
     refine⟨_,?_,.ah _⟩
     unfold MA at hn
     split at hn<;>first|cases hn;done|(obtain rfl:=Option.some.inj hn;simp[execOp,ho,h1,h2,eqGuard,binOp,Op.intBits])
   ·cases h
  ·cases h
 ·rename_i b hy
  split at h
  ·rename_i a hx
   refine aS fun ac w η hr=>?_
   have h1:=hr.ev x
   have h2:=hr.ev y
   rw[hx] at h1;rw[hy] at h2
   have h1:=h1.aE
   have h2:=h2.aE
   split at h
   all_goals first|(cases h;done)|skip
   all_goals simp only[Option.some.injEq,Prod.mk.injEq] at h
   all_goals obtain⟨rfl,rfl⟩:=h
   ·have UL:a.size+b.size≤9223372036854775807:=hc.1
    refine⟨_,?_,.ah _⟩
    simp[execOp,ho,h1,h2,eqGuard,binOp,Op.stringOp,show IntKind.i64.max=9223372036854775807 from rfl]
    omega
   all_goals exact⟨_,by simp[execOp,ho,h1,h2,eqGuard,binOp,Op.stringOp,kC,strLt],.ah _⟩
  ·cases h
 ·rename_i hy
  split at h
  ·rename_i b hb
   split at h
   ·rename_i d hd
    split at h
    ·rename_i e hk
     have hu:Γ.P.underlying T=some (.pointer (Γ.P.pointee T)):=by
      obtain⟨u,q2,q3⟩:=(au T d hd).jR
      rw[hk] at q3
      have:Γ.P.underlying T=some (.pointer e):=by rw[q2];exact congrArg some q3
      rw[this,Program.pointee,this]
     split at h
     ·simp only[Option.some.injEq,Prod.mk.injEq] at h
      obtain⟨rfl,rfl⟩:=h
      refine aS fun a w η hr=>?_
      obtain⟨p,hp,QY⟩:=qK hb (hr.ev x)
      have h2:=hr.ev y
      rw[hy] at h2
      have h2:=h2.aE
      refine⟨.bool b,?_,.ah _⟩
      simp only[execOp,ho,hp,h2,eqGuard,aju,aij,if_false,Sem.run_bind,Sem.run_pure,Result.andThen_ok,run_eql_pointer_nil w T p hu,QY]
     ·simp only[Option.some.injEq,Prod.mk.injEq] at h
      obtain⟨rfl,rfl⟩:=h
      refine aS fun a w η hr=>?_
      obtain⟨p,hp,QY⟩:=qK hb (hr.ev x)
      have h2:=hr.ev y
      rw[hy] at h2
      have h2:=h2.aE
      refine⟨.bool (!b),?_,.ah _⟩
      simp only[execOp,ho,hp,h2,eqGuard,aju,aij,if_false,Sem.run_bind,Sem.run_pure,Result.andThen_ok,run_neq_pointer_nil w T p hu,QY]
     ·cases h
    ·cases h
   ·cases h
  ·cases h
 ·cases h
theorem BH {P:Program} (w:World) (k:Nat) (T:TypeId) {ms:Array (String×TypeId)} (hu:P.underlying T=some (.interface ms)):(Op.equalIn (k+1) T .nilIface .nilIface).run P w=.ok true w:=by
 simp[Op.equalIn,run_underlying hu]
theorem mO {P:Program} (w:World) (T:TypeId) {ms:Array (String×TypeId)} (hu:P.underlying T=some (.interface ms)):(Op.equal T .nilIface .nilIface).run P w=.ok true w:=BH w 9999 T hu
theorem MC {az:Nat→Option TD} (au:aT Γ.P az) {o:Oper} {T T':Nat} {op:BinOp} {x y:Operand} (ho:o.op=.binOp op T x y T') {r:AV} (h:QX az T op (s.ev x) y=some r):gi Γ o s r:=by
 unfold QX at h
 split at h
 ·rename_i hy
  split at h
  ·rename_i d hd hx
   split at h
   ·rename_i hk
    obtain⟨u,q2,q3⟩:=(au T d hd).jR
    rw[hk] at q3
    obtain⟨ms,rfl⟩:=q3
    obtain rfl:=QW hy
    split at h
    ·obtain rfl:=Option.some.inj h
     refine aS fun a w η hr=>?_
     have h1:=hr.ev x
     rw[hx] at h1
     have h1:=h1.aE
     have he:a.eval (.const .nilIface)=.nilIface:=rfl
     refine⟨.bool true,?_,.ah _⟩
     simp only[execOp,ho,h1,he,eqGuard_nil_constR,Sem.run_bind,Sem.run_pure,Result.andThen_ok,binOp,mO w T q2]
    ·obtain rfl:=Option.some.inj h
     refine aS fun a w η hr=>?_
     have h1:=hr.ev x
     rw[hx] at h1
     have h1:=h1.aE
     have he:a.eval (.const .nilIface)=.nilIface:=rfl
     refine⟨.bool false,?_,.ah _⟩
     simp only[execOp,ho,h1,he,eqGuard_nil_constR,Sem.run_bind,Sem.run_pure,Result.andThen_ok,binOp,mO w T q2]
     rfl
    ·cases h
   ·cases h
  ·cases h
 ·cases h
theorem DO {az:Nat→Option TD} (au:aT Γ.P az) {o:Oper} {T T':Nat} {op:BinOp} {x y:Operand} (ho:o.op=.binOp op T x y T') {c:Prop} {r:AV} (h:BF az T op (s.ev x) (s.ev y)=some (c,r)) (hc:c):gi Γ o s r:=by
 unfold BF at h
 split at h
 ·rename_i r' hr
  obtain rfl:=Option.some.inj h
  exact G7 au ho hr hc
 ·obtain⟨⟨cs,r'⟩,h1,h2⟩:=aiX.1 h
  simp only[Prod.mk.injEq] at h2
  obtain⟨rfl,rfl⟩:=h2
  exact KV au ho h1 hc
theorem MD {az:Nat→Option TD} (au:aT Γ.P az) {o:Oper} {S D:Nat} {x:Operand} (ho:o.op=.convert S D x) {r:AV} (h:BG az S D (s.ev x)=some r):gi Γ o s r:=by
 unfold BG at h
 split at h
 ·rename_i d1 d k n hS hD hx
  split at h
  ·rename_i k2 hk
   obtain rfl:=Option.some.inj h
   refine aS fun a w η hr=>?_
   have h1:=hr.ev x
   rw[hx] at h1
   have h1:=h1.aE
   obtain⟨u1,q1,_⟩:=(au S d1 hS).jR
   have hu:Γ.P.underlying D=some (.int k2):=by
    obtain⟨u,q2,q3⟩:=(au D d hD).jR
    rw[hk] at q3
    rw[q2];exact congrArg some q3
   refine⟨.int k2 (k2.wrap n),?_,.ah _⟩
   simp only[execOp,ho,h1,convert,Sem.run_bind,run_underlying q1,run_underlying hu,Result.andThen_ok]
   rfl
  ·cases h
 ·rename_i d1 d t hS hD hx
  split at h
  ·rename_i hk
   obtain rfl:=Option.some.inj h
   refine aS fun a w η hr=>?_
   have h1:=hr.ev x
   rw[hx] at h1
   have h1:=h1.aE
   obtain⟨u1,q1,_⟩:=(au S d1 hS).jR
   have hu:Γ.P.underlying D=some .string:=by
    obtain⟨u,q2,q3⟩:=(au D d hD).jR
    rw[hk] at q3
    rw[q2];exact congrArg some q3
   refine⟨.string t,?_,.ah _⟩
   simp[execOp,ho,h1,convert,run_underlying hu,run_underlying q1]
  ·cases h
 ·cases h
theorem AA {o:Oper} {op:UnOp} {T:Nat} {x:Operand} (ho:o.op=.unOp op T x) {r:AV} (h:(∃b,op=.not∧s.ev x=.ah (.bool b)∧r=.ah (.bool (!b)))∨(∃k n,op=.neg∧s.ev x=.ah (.int k n)∧r=.ah (.int k (k.wrap (0-n))))):gi Γ o s r:=by
 refine aS fun a w η hr=>?_
 have hx:=hr.ev x
 rcases h with⟨b,rfl,he,rfl⟩|⟨k,n,rfl,he,rfl⟩<;>rw[he] at hx
 ·exact⟨_,by simp[execOp,ho,hx.aE,Op.unary],.ah _⟩
 ·exact⟨_,by simp[execOp,ho,hx.aE,Op.unary,Op.intArith],.ah _⟩
theorem BI {o:Oper} {x:Operand} {i:Nat} (ho:o.op=.extract x i) {vs:List AV} {r:AV} (he:s.ev x=.aX vs) (hi:vs[i]?=some r):gi Γ o s r:=by
 refine aS fun a w η hr=>?_
 have hx:=hr.ev x
 rw[he] at hx
 generalize hv:a.eval x=v at hx
 cases hx with
 |aX cs us hl ec=>
  have ay:i<us.size:=by rw[hl];exact(ahY.1 hi).1
  have hu:us[i]?=some us[i]:=by simp[ay]
  exact⟨us[i],by simp[execOp,ho,hv,Instr.extract,hu],ec i r _ hi hu⟩
theorem G8 {az:Nat→Option TD} (au:aT Γ.P az) {o:Oper} {T f:Nat} {x:Operand} (ho:o.op=.field T x f) {p:Nat×Nat×Bool} (hp:(fieldsOf az T)[f]?=some p) {cs:List AV} (hx:s.ev x=.agg cs) {r:AV}
  (h:fS p.2.2 p.2.1 cs p.1=some r) (h1:p.2.2=false→p.2.1=1):gi Γ o s r:=by
 refine aS fun a w η hr=>?_
 have eU:=hr.ev x
 rw[hx] at eU
 obtain⟨d,fs,hd,hk,hf⟩:=nM hp
 obtain⟨fields,fd,i,u,e1,e2,e3,e4,e5,e6,e7⟩:=(au T d hd).field hk hf
 generalize hv:a.eval x=v at eU
 cases eU with
 |agg _ vs hl KT ec=>
  obtain⟨g1,g2⟩:=fu (w:=w) (F:=bn Γ w η s.hp) (η:=η) (hp:=s.hp) h1 (vs:=vs.toList) (by simpa using hl) (fun j x u hx hu=>⟨ec j x u hx (by simpa using hu),KT u (by rw[←ajv];exact aic hu)⟩) h
  refine⟨_,?_,g2⟩
  have bO:(isAgg fd.type).run Γ.P w=.ok p.2.2 w:=by
   rw[←e7]
   simp only[isAgg,Sem.run_bind,run_underlying e6,Result.andThen_ok]
   cases u<;>rfl
  simp only[execOp,ho,hv,Instr.field,Sem.run_bind,run_underlying e1,Result.andThen_ok,e2,asAgg,Sem.run_pure,part,bO]
  cases uT:p.2.2 with
  |true=>
   simp only[if_true,Sem.run_bind,sizeOf,typeInfo,run_program,Result.andThen_ok,e4,Sem.run_pure,e5,e3]
   congr 2
   apply congrArg
   apply ajm
   simp[Array.toList_extract,List.extract_eq_take_drop]
  |false=>
   have hs:=h1 uT
   rw[hs] at g1 ⊢
   have ay:p.1<vs.size:=by simp at g1;omega
   have hu:vs[p.1]?=some vs[p.1]:=by simp[ay]
   simp only[aij,if_false,e3,hu,Sem.run_pure,Result.andThen_ok]
   congr 2
   have:(vs.toList.drop p.1).take 1=[vs[p.1]]:=by
    apply aiO
    intro k
    rw[aik]
    cases k with
    |zero=>simp[ay]
    |succ k=>simp
   rw[this];rfl
end
section
variable {G:Type} {Γ:Env G} {s:AS G} {a:Act} {w w':World} {η:List Value} {hp:List af} {F:Nat→Nat→Prop} {P:Program}
theorem bw.MF {els:List AV} {v:Value} (h:bw w F η hp (.sl els) v):∃a c,v=.slice a els.length c:=by
 cases h with
 |pE a=>exact⟨a,0,rfl⟩
 |sl size els b o c f hc hm hl aN hr=>exact⟨_,c,rfl⟩
theorem kK {o:Oper} {c:Call} {b:Builtin} (ho:o.op=.call c) (hb:c.callee=.builtin b) {l:List Operand} (hl:c.args.toList=l) {r:AV}
  (h:∀a w η,Rel Γ s a w η→∃v w',(builtin b c.argTypes o.type ((c.args.map fun | .const _=>true|_=>false)) (l.map a.eval).toArray).run Γ.P w=.ok (.value v) w'∧bX w w'∧bw w' (bn Γ w' η s.hp) η s.hp r v):gi Γ o s r:=by
 intro a w η hr
 obtain⟨v,w',h1,h2,h3⟩:=h a w η hr
 refine⟨v,w',?_,h2,h3⟩
 have:c.args.map a.eval=(l.map a.eval).toArray:=by rw[←hl];apply ajm;simp
 simp only[execOp,ho,resolve,hb,Sem.run_bind,Sem.run_pure,Result.andThen_ok,invoke,this]
 exact h1
theorem DP {az:Nat→Option TD} (au:aT Γ.P az) {o:Oper} {c:Call} (ho:o.op=.call c) (hb:c.callee=.builtin .len) {x:Operand} (hl:c.args.toList=[x]) {T:Nat} (hT:c.argTypes[0]?=some T) {d:TD} (hd:az T=some d) {r:AV}
  (h:(∃e els,d.kind=.lO e∧(s.ev x).jq s.hp=some els∧r=.ah (.int .i64 els.length))∨(∃b,d.kind=.str∧s.ev x=.ah (.string b)∧r=.ah (.int .i64 b.size))):gi Γ o s r:=by
 refine kK ho hb hl fun a w η hr=>?_
 obtain⟨u,h2,h3⟩:=(au T d hd).jR
 rcases h with⟨e,els,hk,eC,rfl⟩|⟨b,hk,he,rfl⟩<;>rw[hk] at h3
 ·have hu:Γ.P.underlying T=some (.slice e):=by rw[h2];exact congrArg some h3
  obtain⟨a0,c0,hv⟩:=(kW hr.heap hr.cE (hr.ev x) eC).MF
  exact⟨_,w,by simp[builtin,Builtin.len_,hT,hv,run_underlying hu,goInt],bX.refl w,.ah _⟩
 ·have hu:Γ.P.underlying T=some .string:=by rw[h2];exact congrArg some h3
  have hx:=hr.ev x
  rw[he] at hx
  exact⟨_,w,by simp[builtin,Builtin.len_,hT,hx.aE,run_underlying hu,goInt],bX.refl w,.ah _⟩
theorem KW {az:Nat→Option TD} (au:aT Γ.P az) {o:Oper} {c:Call} (ho:o.op=.call c) (hb:c.callee=.builtin .len) {x:Operand} (hl:c.args.toList=[x]) {T:Nat} (hT:c.argTypes[0]?=some T) {d:TD} (hd:az T=some d) {e r m e' z:Nat} {els:List AV}
  (hk:d.kind=.lO e) (he:s.ev x=.own r m) (ry:s.hp[r]?=some (.bM e' z els)) (hm:m=els.length):gi Γ o s (.ah (.int .i64 (m:Nat))):=by
 refine kK ho hb hl fun a w η hr=>?_
 obtain⟨u,h2,h3⟩:=(au T d hd).jR
 rw[hk] at h3
 have hu:Γ.P.underlying T=some (.slice e):=by rw[h2];exact congrArg some h3
 have hx:=hr.ev x
 rw[he] at hx
 generalize hv:a.eval x=v at hx
 cases hx with
 |own _ _ _ h1 uS=>
  unfold aY at uS
  rw[ry] at uS
  obtain⟨Mc,xs,eo,_⟩:=hr.heap.obj r _ _ ry (uS.2 hm)
  obtain⟨a0,c0,rfl⟩:∃a0 c0,v=.slice a0 m c0:=by
   rcases eo.2 with⟨h0,rfl|⟨ad,rfl⟩⟩|⟨g,cap,cur,rfl,_⟩
   ·exact⟨_,_,by rw[hm,h0]⟩
   ·exact⟨_,_,by rw[hm,h0]⟩
   ·exact⟨_,_,by rw[hm]⟩
  exact⟨_,w,by simp[builtin,Builtin.len_,hT,hv,run_underlying hu,goInt],bX.refl w,.ah _⟩
theorem MG {o:Oper} {c:Call} (ho:o.op=.call c) (hb:c.callee=.builtin .min) {x y:Operand} (hl:c.args.toList=[x,y]) {k k':IntKind} {m n:Int} (hx:s.ev x=.ah (.int k m)) (hy:s.ev y=.ah (.int k' n)):gi Γ o s (.ah (.int k (if n<m then n else m))):=by
 refine kK ho hb hl fun a w η hr=>?_
 have h1:=hr.ev x
 have h2:=hr.ev y
 rw[hx] at h1;rw[hy] at h2
 exact⟨_,w,by simp[builtin,Builtin.min_,h1.aE,h2.aE,Builtin.min2],bX.refl w,.ah _⟩
theorem MH {o:Oper} {c:Call} (ho:o.op=.call c) (hb:c.callee=.builtin .max) {x y:Operand} (hl:c.args.toList=[x,y]) {k k':IntKind} {m n:Int} (hx:s.ev x=.ah (.int k m)) (hy:s.ev y=.ah (.int k' n)):gi Γ o s (.ah (.int k (if n>m then n else m))):=by
 refine kK ho hb hl fun a w η hr=>?_
 have h1:=hr.ev x
 have h2:=hr.ev y
 rw[hx] at h1;rw[hy] at h2
 exact⟨_,w,by simp[builtin,Builtin.max_,h1.aE,h2.aE,Builtin.max2],bX.refl w,.ah _⟩
def fT (cs:List Value) (off:Nat):List Value→List Value
 | []=>cs
 |x::xs=>fT (cs.set off x) (off+1) xs
theorem iN (xs:List Value):∀(cs:List Value) (off:Nat),(fT cs off xs).length=cs.length:=by
 induction xs with
 |nil=>intro cs off;rfl
 |cons x xs ih=>intro cs off;simp[fT,ih]
def r5 (w:World) (F:Nat→Nat→Prop) (η:List Value) (hp:List af) (cs:List AV) (vs:List Value):Prop:=
 vs.length=cs.length∧∀(j:Nat) (x:AV) (u:Value),cs[j]?=some x→vs[j]?=some u→bw w F η hp x u∧u.oneCell'=true
theorem r5.set {cs:List AV} {vs:List Value} (h:r5 w F η hp cs vs) (off:Nat) {x:AV} {u:Value} (hx:bw w F η hp x u) (h1:u.oneCell'=true):r5 w F η hp (cs.set off x) (vs.set off u):=by
 refine⟨by simp[h.1],fun j y z hy hz=>?_⟩
 by_cases hj:off=j
 ·subst hj
  rw[ajk] at hy hz
  simp only[if_true] at hy hz
  split at hy
  ·rename_i h2
   rw[h.1,if_pos h2] at hz
   obtain rfl:=Option.some.inj hy
   obtain rfl:=Option.some.inj hz
   exact⟨hx,h1⟩
  ·cases hy
 ·rw[getElem?_set_ne hj] at hy hz
  exact h.2 j y z hy hz
theorem r5.VL (xs:List AV):∀{us:List Value} {cs:List AV} {vs:List Value} (off:Nat),r5 w F η hp cs vs→r5 w F η hp xs us→r5 w F η hp (setCells cs off xs) (fT vs off us):=by
 induction xs with
 |nil=>
  intro us cs vs off h hu
  have:us=[]:=aio hu.1
  subst this;exact h
 |cons x xs ih=>
  intro us cs vs off h hu
  match us,hu with
  | [],hu=>exact absurd hu.1 (by simp)
  |u::us,hu=>
   have h0:=hu.2 0 x u rfl rfl
   exact ih (off+1) (h.set off h0.1 h0.2) ⟨by simpa using hu.1,fun j y z hy hz=>hu.2 (j+1) y z (by simpa using hy) (by simpa using hz)⟩
theorem bw.DQ {x:AV} {v:Value} (h:bw w F η hp x v) (hs:x.mN=true):r5 w F η hp x.cells v.cells.toList:=by
 have one:x.isAgg=false→x.Mu=true:=by cases x<;>simp_all [AV.mN,AV.isAgg,AV.Mu]
 cases h with
 |agg cs vs hl h1 hr=>exact⟨by simpa [AV.cells,Value.cells] using hl,fun j y u hy hu=>⟨hr j y u hy (by simpa [Value.cells] using hu),h1 u (by have:=aic hu;simpa [Value.cells] using this)⟩⟩
 |top v=>simp[AV.mN] at hs
 |aX cs vs hl hr=>simp[AV.mN] at hs
 |ah v=>
  have h1:v.oneCell'=true:=hs
  refine⟨by cases v<;>simp_all [AV.cells,Value.cells,Value.oneCell'],fun j y u hy hu=>?_⟩
  have hv:v.cells=#[v]:=by cases v<;>simp_all [Value.cells,Value.oneCell']
  rw[hv] at hu
  cases j with
  |zero=>simp[AV.cells] at hy hu;subst hy;subst hu;exact⟨.ah _,h1⟩
  |succ j=>simp[AV.cells] at hy
 |own r n v h1 h2=>
  refine⟨by cases v<;>simp_all [AV.cells,Value.cells,Value.oneCell'],fun j y u hy hu=>?_⟩
  have hv:v.cells=#[v]:=by cases v<;>simp_all [Value.cells,Value.oneCell']
  rw[hv] at hu
  cases j with
  |zero=>simp[AV.cells] at hy hu;subst hy;subst hu;exact⟨.own r n _ h1 h2,h1⟩
  |succ j=>simp[AV.cells] at hy
 |fn v h1=>
  refine⟨by cases v<;>simp_all [AV.cells,Value.cells,Value.oneCell'],fun j y u hy hu=>?_⟩
  have hv:v.cells=#[v]:=by cases v<;>simp_all [Value.cells,Value.oneCell']
  rw[hv] at hu
  cases j with
  |zero=>simp[AV.cells] at hy hu;subst hy;subst hu;exact⟨.fn _ h1,h1⟩
  |succ j=>simp[AV.cells] at hy
 |pE a=>exact⟨rfl,fun j y u hy hu=>by cases j<;>simp[AV.cells,Value.cells] at hy hu;subst hy;subst hu;exact⟨.pE a,rfl⟩⟩
 |kA a=>exact⟨rfl,fun j y u hy hu=>by cases j<;>simp[AV.cells,Value.cells] at hy hu;subst hy;subst hu;exact⟨.kA a,rfl⟩⟩
 |sl size els b o c f hc hm hl aN hr=>exact⟨rfl,fun j y u hy hu=>by cases j<;>simp[AV.cells,Value.cells] at hy hu;subst hy;subst hu;exact⟨.sl size els b o c f hc hm hl aN hr,rfl⟩⟩
 |clip size els b o f hm hl aN hr=>exact⟨rfl,fun j y u hy hu=>by cases j<;>simp[AV.cells,Value.cells] at hy hu;subst hy;subst hu;exact⟨.clip size els b o f hm hl aN hr,rfl⟩⟩
 |ptr r off b h=>exact⟨rfl,fun j y u hy hu=>by cases j<;>simp[AV.cells,Value.cells] at hy hu;subst hy;subst hu;exact⟨.ptr r off b h,rfl⟩⟩
 |cL e off b o f aN hr=>exact⟨rfl,fun j y u hy hu=>by cases j<;>simp[AV.cells,Value.cells] at hy hu;subst hy;subst hu;exact⟨.cL e off b o f aN hr,rfl⟩⟩
 |ck fn cs vs hl hr=>exact⟨rfl,fun j y u hy hu=>by cases j<;>simp[AV.cells,Value.cells] at hy hu;subst hy;subst hu;exact⟨.ck fn cs vs hl hr,rfl⟩⟩
 |mp r b h=>exact⟨rfl,fun j y u hy hu=>by cases j<;>simp[AV.cells,Value.cells] at hy hu;subst hy;subst hu;exact⟨.mp r b h,rfl⟩⟩
 |fY r n i size b o c k h=>simp[AV.mN] at hs
 |cX fn cs vs hl hr=>exact⟨rfl,fun j y u hy hu=>by cases j<;>simp[AV.cells,Value.cells] at hy hu;subst hy;subst hu;exact⟨.cX fn cs vs hl hr,rfl⟩⟩
 |fH b es c h hF l hl=>exact⟨rfl,fun j y u hy hu=>by cases j<;>simp[AV.cells,Value.cells] at hy hu;subst hy;subst hu;exact⟨.fH b es c h hF l hl,rfl⟩⟩
theorem yj (v:List Value):∀(cs:Array Value) (off k:Nat),((v.zipIdx k).foldl (fun cs (c,j)=>cs.setIfInBounds (off+j) c) cs).toList=fT cs.toList (off+k) v:=by
 induction v with
 |nil=>intro cs off k;rfl
 |cons x v ih=>
  intro cs off k
  simp only[List.zipIdx_cons,List.foldl_cons]
  rw[ih]
  simp[fT,Array.toList_setIfInBounds,ajt]
theorem IQ {fs:List (Nat×Nat×Bool)} {places:Nat→Option (Nat×Nat)} (Mf:∀(i:Nat) (p:Nat×Nat×Bool),fs[i]?=some p→places i=some (p.1,p.2.1)):
  ∀(parts:List (Nat×AV)) (mD:List (Nat×Value)) (cs:List AV) (vs:Array Value) (r:List AV),dH fs cs parts=some r→r5 w F η hp cs vs.toList→mD.map (·.1)=parts.map (·.1)→
   (∀(j:Nat) (p:Nat×AV) (q:Nat×Value),parts[j]?=some p→mD[j]?=some q→bw w F η hp p.2 q.2)→∃vr,Instr.fill places vs mD=some vr∧r5 w F η hp r vr.toList:=by
 intro parts
 induction parts with
 |nil=>
  intro mD cs vs r h hc hm _
  have:mD=[]:=by cases mD<;>simp_all
  subst this
  simp only[dH,Option.some.injEq] at h
  subst h
  exact⟨vs,rfl,hc⟩
 |cons p parts ih=>
  intro mD cs vs r h hc hm hr
  cases mD with
  |nil=>simp at hm
  |cons q mD=>
   obtain⟨i,x⟩:=p
   obtain⟨i',v⟩:=q
   simp only[ais,List.cons.injEq] at hm
   obtain⟨rfl,G9⟩:=hm
   have h0:=hr 0 _ _ rfl rfl
   simp only at h0
   simp only[dH] at h
   split at h
   ·rename_i p hp
    split at h
    ·rename_i mP
     have DR:=h0.DQ mP.2.2
     have cJ:v.cells.size=p.2.1:=by rw[←mP.1,←DR.1];simp
     have abr:=Mf _ p hp
     have hle:p.1+p.2.1≤vs.size:=by have:=hc.1;simp at this;omega
     have yl:=yj v.cells.toList vs p.1 0
     rw[ai4] at yl
     obtain⟨vr,e1,e2⟩:=ih mD (setCells cs p.1 x.cells) ((v.cells.zipIdx).foldl (fun cs (c,j)=>cs.setIfInBounds (p.1+j) c) vs) r h (by
      have e:((v.cells.zipIdx).foldl (fun cs (c,j)=>cs.setIfInBounds (p.1+j) c) vs).toList=fT vs.toList p.1 v.cells.toList:=by
       rw[←yl,←Array.foldl_toList];simp
      rw[e]
      exact r5.VL x.cells p.1 hc DR) G9 (fun j p' q' h1 h2=>hr (j+1) p' q' (by simpa using h1) (by simpa using h2))
     refine⟨vr,?_,e2⟩
     simp only[Instr.fill,abr,cJ]
     rw[if_neg (by simp;omega)]
     exact e1
    ·cases h
   ·cases h
end
section
variable {G:Type} {Γ:Env G} {s:AS G} {a:Act} {w w':World} {η:List Value} {hp:List af} {F:Nat→Nat→Prop} {P:Program}
theorem iI.BJ {T:Nat} {d:TD} (h:iI P T d):r5 w F η hp (d.zero.cells.toList.map .ah) d.zero.cells.toList:=by
 refine⟨by simp,fun j x u hx hu=>?_⟩
 rw[aie,hu] at hx
 obtain rfl:=Option.some.inj hx
 exact⟨.ah _,h.abk u (by have:=aic hu;simpa using this)⟩
theorem ym (fields:List Field) (w:World) (h:∀f:Field,f∈fields→∃i,P.info? f.type=some i):
  (fields.mapM fun f=>do pure (f.offset,←sizeOf f.type):Sem (List (Nat×Nat))).run P w=.ok (fields.map fun f=>(f.offset,((P.info? f.type).map (·.size)).getD 0)) w:=by
 induction fields with
 |nil=>rfl
 |cons f fs ih=>
  obtain⟨i,hi⟩:=h f aia
  have ih':=ih fun g hg=>h g (aip _ hg)
  simp only[List.mapM_cons,Sem.run_bind,sizeOf,typeInfo,run_program,Result.andThen_ok,hi,Sem.run_pure,ais,aiv,aiP]
  simp only[sizeOf,typeInfo] at ih'
  rw[ih']
  rfl
theorem He {az:Nat→Option TD} (au:aT Γ.P az) {o:Oper} {T:Nat} {parts:Array (Nat×Operand)} (ho:o.op=.build T parts) {d:TD} (hd:az T=some d) {fs:List (Nat×Nat×Bool)} (hk:d.kind=.cY fs) {r:List AV}
  (h:dH fs (d.zero.cells.toList.map .ah) (parts.toList.map fun p=>(p.1,s.ev p.2))=some r):gi Γ o s (.agg r):=by
 refine aS fun a w η hr=>?_
 have iL:=au T d hd
 obtain⟨u,h2,h3⟩:=iL.jR
 rw[hk] at h3
 obtain⟨fields,rfl,h3⟩:=h3
 have XG:∀f:Field,f∈fields.toList→∃i,Γ.P.info? f.type=some i:=by
  intro f hf
  obtain⟨k,zW⟩:=ajh hf
  have h4:=congrArg (·[k]?) h3
  simp only[aie,zW,aiv] at h4
  cases KX:fs[k]? with
  |none=>rw[KX] at h4;cases h4
  |some p=>
   rw[KX] at h4
   simp only[aiv,Option.some.injEq,Prod.mk.injEq] at h4
   cases hi:Γ.P.info? f.type with
   |none=>rw[hi] at h4;cases h4.2.1
   |some i=>exact⟨i,rfl⟩
 have Mf:∀(i:Nat) (p:Nat×Nat×Bool),fs[i]?=some p→((fields.toList.map fun f=>(f.offset,((Γ.P.info? f.type).map (·.size)).getD 0)).toArray)[i]?=some (p.1,p.2.1):=by
  intro i p hp
  have h4:=congrArg (·[i]?) h3
  simp only[aie,hp,aiv] at h4
  cases hf:fields.toList[i]? with
  |none=>rw[hf] at h4;cases h4
  |some f=>
   rw[hf] at h4
   simp only[aiv,Option.some.injEq,Prod.mk.injEq] at h4
   simp only[ajH,aie,hf,aiv,h4.1,h4.2.1,aiP]
 obtain⟨vr,e1,e2⟩:=IQ (w:=w) (F:=bn Γ w η s.hp) (η:=η) (hp:=s.hp) Mf (parts.toList.map fun p=>(p.1,s.ev p.2)) (parts.toList.map fun p=>(p.1,a.eval p.2)) _ d.zero.cells r h iL.BJ (by simp) (fun j p q h1 h2=>by
  simp only[aie] at h1 h2
  cases hj:parts.toList[j]? with
  |none=>rw[hj] at h1;cases h1
  |some x=>
   rw[hj] at h1 h2
   obtain rfl:=Option.some.inj h1
   obtain rfl:=Option.some.inj h2
   exact hr.ev x.2)
 refine⟨.agg vr,?_,.agg r vr (by have:=e2.1;simpa using this) (fun v hv=>?_) fun j x v hx hv=>(e2.2 j x v hx (by simpa using hv)).1⟩
 ·have hm:=ym (P:=Γ.P) fields.toList w XG
  simp only[execOp,ho,Instr.build,Sem.run_bind,iL.jS,Result.andThen_ok,run_underlying h2,Array.mapM_eq_mapM_toList,Sem.run_map,hm,ajV,e1,Sem.run_pure]
 ·obtain⟨k,zW⟩:=ajh (ajv.2 hv)
  have ay:k<r.length:=by rw[←e2.1];exact(ahY.1 zW).1
  exact(e2.2 k r[k] v (by simp[ay]) zW).2
theorem DS {az:Nat→Option TD} (au:aT Γ.P az) {o:Oper} {T:Nat} {parts:Array (Nat×Operand)} (ho:o.op=.build T parts) {d:TD} (hd:az T=some d) {n:Nat} (hk:d.kind=.arr n) {r:List AV}
  (h:dH (yc n) (d.zero.cells.toList.map .ah) (parts.toList.map fun p=>(p.1,s.ev p.2))=some r):gi Γ o s (.agg r):=by
 refine aS fun a w η hr=>?_
 have iL:=au T d hd
 obtain⟨u,h2,h3⟩:=iL.jR
 rw[hk] at h3
 obtain⟨e,i0,rfl,G6,pG⟩:=h3
 have Mf:∀(i:Nat) (p:Nat×Nat×Bool),(yc n)[i]?=some p→(fun i=>some (i*1,1):Nat→Option (Nat×Nat)) i=some (p.1,p.2.1):=by
  intro i p hp
  simp only[yc,aie] at hp
  obtain⟨j,hj,rfl⟩:=aiX.1 hp
  obtain rfl:j=i:=by
   obtain⟨h5,h6⟩:=ahY.1 hj
   rw[←h6];simp
  simp
 obtain⟨vr,e1,e2⟩:=IQ (w:=w) (F:=bn Γ w η s.hp) (η:=η) (hp:=s.hp) Mf (parts.toList.map fun p=>(p.1,s.ev p.2)) (parts.toList.map fun p=>(p.1,a.eval p.2)) _ d.zero.cells r h iL.BJ (by simp) (fun j p q h1 h2=>by
  simp only[aie] at h1 h2
  cases hj:parts.toList[j]? with
  |none=>rw[hj] at h1;cases h1
  |some x=>
   rw[hj] at h1 h2
   obtain rfl:=Option.some.inj h1
   obtain rfl:=Option.some.inj h2
   exact hr.ev x.2)
 refine⟨.agg vr,?_,.agg r vr (by have:=e2.1;simpa using this) (fun v hv=>?_) fun j x v hx hv=>(e2.2 j x v hx (by simpa using hv)).1⟩
 ·simp only[execOp,ho,Instr.build,Sem.run_bind,iL.jS,Result.andThen_ok,run_underlying h2,sizeOf,typeInfo,run_program,G6,Sem.run_pure,pG,ajV,e1]
 ·obtain⟨k,zW⟩:=ajh (ajv.2 hv)
  have ay:k<r.length:=by rw[←e2.1];exact(ahY.1 zW).1
  exact(e2.2 k r[k] v (by simp[ay]) zW).2
theorem dm (us:List Value):∀(cs:List Value) (off t:Nat),off+us.length≤cs.length→(fT cs off us)[t]?=if off≤t∧t<off+us.length then us[t-off]? else cs[t]?:=by
 induction us with
 |nil=>
  intro cs off t _
  simp only[fT,aiK,ai4]
  rw[if_neg (by omega)]
 |cons u us ih=>
  intro cs off t h
  simp only[aif] at h
  simp only[fT,aif]
  rw[ih (cs.set off u) (off+1) t (by simp;omega)]
  by_cases h1:off+1≤t∧t<off+1+us.length
  ·rw[if_pos h1,if_pos (by omega)]
   have:t-off=(t-(off+1))+1:=by omega
   rw[this,aiB]
  ·rw[if_neg h1]
   by_cases h2:t=off
   ·subst h2
    rw[if_pos (by omega),ajG,aiS,ajk]
    simp;omega
   ·rw[if_neg (by omega),getElem?_set_ne (fun e=>h2 e.symm)]
theorem z7 (v:Array Value) (cs:Array Value) (off:Nat):(v.zipIdx.foldl (fun cs (c,j)=>cs.setIfInBounds (off+j) c) cs).toList=fT cs.toList off v.toList:=by
 have h:=yj v.toList cs off 0
 rw[ai4] at h
 rw[←h,←Array.foldl_toList]
 simp
theorem yp {size:Nat}:∀(l:List Value) (k:Nat) (parts:List (Nat×Value)) (cs:Array Value),parts.map (·.2)=l→(∀(j:Nat) (p:Nat×Value),parts[j]?=some p→p.1=k+j)→(∀v:Value,v∈l→v.cells.size=size)→cs.size=(k+l.length)*size→
  ∃r,Instr.fill (fun i=>some (i*size,size)) cs parts=some r∧r.size=cs.size∧(∀t,t<k*size→r.toList[t]?=cs.toList[t]?)∧
   ∀(i:Nat) (v:Value) (j:Nat) (u:Value),l[i]?=some v→v.cells.toList[j]?=some u→r.toList[(k+i)*size+j]?=some u:=by
 intro l
 induction l with
 |nil=>
  intro k parts cs hm _ _ _
  have:parts=[]:=by cases parts<;>simp_all
  subst this
  exact⟨cs,rfl,rfl,fun _ _=>rfl,fun i v j u hi=>by simp at hi⟩
 |cons v l ih=>
  intro k parts cs hm rz cJ iK
  cases parts with
  |nil=>simp at hm
  |cons p parts=>
   obtain⟨i0,v0⟩:=p
   simp only[ais,List.cons.injEq] at hm
   obtain⟨rfl,G9⟩:=hm
   have G6:i0=k:=by have:=rz 0 _ rfl;simpa using this
   subst G6
   have uO:=cJ v0 aia
   simp only[aif] at iK
   have hle:i0*size+size≤cs.size:=by
    rw[iK]
    have:(i0+(l.length+1))*size=i0*size+size+l.length*size:=by rw[aiV,aiV];omega
    omega
   have yl:=z7 v0.cells cs (i0*size)
   obtain⟨r,e1,e2,e3,e4⟩:=ih (i0+1) parts (v0.cells.zipIdx.foldl (fun cs (c,j)=>cs.setIfInBounds (i0*size+j) c) cs) G9
    (fun j p hj=>by have:=rz (j+1) p (by simpa using hj);omega) (fun v hv=>cJ v (aip _ hv))
    (by rw[←aiL,yl,iN,aiL,iK];congr 1;omega)
   have hlen:(v0.cells.zipIdx.foldl (fun cs (c,j)=>cs.setIfInBounds (i0*size+j) c) cs).size=cs.size:=by
    rw[←aiL,yl,iN,aiL]
   have hmul:(i0+1)*size=i0*size+size:=by rw[aiV];omega
   refine⟨r,?_,by rw[e2,hlen],fun t ht=>?_,fun i v j u hi hj=>?_⟩
   ·simp only[Instr.fill,uO]
    rw[if_neg (by simp;omega)]
    exact e1
   ·rw[e3 t (by omega),yl,dm _ _ _ _ (by simp;omega),if_neg (by omega)]
   ·cases i with
    |zero=>
     simp only[aiS,Option.some.injEq] at hi
     subst hi
     have vD:j<size:=by rw[←uO,←aiL];exact(ahY.1 hj).1
     rw[ai4,e3 _ (by omega),yl,dm _ _ _ _ (by simp;omega),if_pos ⟨by omega,by rw[aiL,uO];omega⟩]
     rw[Nat.add_sub_cancel_left];exact hj
    |succ i=>
     have:=e4 i v j u (by simpa using hi) hj
     rw[show i0+(i+1)=i0+1+i from by omega]
     exact this
theorem Hf:∀(l:List (Nat×Operand)) (k:Nat),Ay k l=true→∀(j:Nat) (p:Nat×Operand),l[j]?=some p→p.1=k+j:=by
 intro l
 induction l with
 |nil=>intro k _ j p h;simp at h
 |cons q l ih=>
  intro k h j p hj
  obtain⟨i,x⟩:=q
  simp only[Ay,ahZ,beq_iff_eq] at h
  cases j with
  |zero=>simp only[aiS,Option.some.injEq] at hj;subst hj;simpa using h.1
  |succ j=>have:=ih (k+1) h.2 j p (by simpa using hj);omega
theorem DT {size:Nat}:∀(l:List AV),yd size l→∀x:AV,x∈l→x.cells.length=size∧x.mN=true:=by
 intro l
 induction l with
 |nil=>intro _ x h;cases h
 |cons y l ih=>
  intro h x hx
  rcases aiC.1 hx with rfl|h1
  ·exact h.1
  ·exact ih h.2 x h1
theorem IU {T:TypeId} {cs:Array Value} (h:Rel Γ s a w η) (k:Nat) (hX:∀b o,Γ.No b o→b<Γ.w0.heap.size):bn Γ (w.alloc (.cells cs T)) η s.hp w.heap.size k:=by
 refine⟨.inr (.inl h.keeps.size),by simp,fun hx=>by have:=hX _ _ hx;have:=h.keeps.size;omega,(aZ _ _).2 fun r v hv hb=>?_⟩
 have fZ:r<s.hp.length:=by rw[←h.heap.len];exact(ahY.1 hv).1
 refine⟨s.hp[r],by simp[fZ],?_⟩
 have ho:s.hp[r]?=some s.hp[r]:=by simp[fZ]
 cases hk:s.hp[r] with
 |dead=>exact True.intro
 |_=>
  rw[hk] at ho
  have:=h.heap.block ho True.intro hv hb
  omega
theorem wP (aD:Γ.Ok) {az:Nat→Option TD} (au:aT Γ.P az) {o:Oper} {T n e:Nat} {parts:Array (Nat×Operand)} (ho:o.op=.buildSlice T n parts) {d d':TD} (hd:az T=some d) (hk:d.kind=.lO e) (eG:az e=some d')
  (hn:n=parts.toList.length) (rz:Ay 0 parts.toList=true) (afs:n≤16777216) (aft:n*d'.size≤16777216) (hl:yd d'.size (parts.toList.map fun p=>(s.ev p.2).cm s.hp)):gi Γ o s (.clip (parts.toList.map fun p=>(s.ev p.2).cm s.hp)):=by
 intro a w η hr
 have iL:=au e d' eG
 have hu:Γ.P.underlying T=some (.slice e):=by
  obtain⟨u,h2,h3⟩:=(au T d hd).jR
  rw[hk] at h3
  rw[h2];exact congrArg some h3
 have DC:=DT _ hl
 have ec:∀(j:Nat) (x:AV) (v:Value),(parts.toList.map fun p=>(s.ev p.2).cm s.hp)[j]?=some x→(parts.toList.map fun p=>a.eval p.2)[j]?=some v→bw w (bn Γ w η s.hp) [] [] x v:=by
  intro j x v h1 h2
  simp only[aie] at h1 h2
  cases hj:parts.toList[j]? with
  |none=>rw[hj] at h1;cases h1
  |some p=>
   rw[hj] at h1 h2
   obtain rfl:=Option.some.inj h1
   obtain rfl:=Option.some.inj h2
   exact jx hr.heap hr.cE (hr.ev p.2)
 have IV:(parts.toList.map fun p=>(s.ev p.2).cm s.hp).length=n:=by simp[hn]
 have MI:(parts.toList.map fun p=>a.eval p.2).length=n:=by simp[hn]
 have DR:∀(j:Nat) (x:AV) (v:Value),(parts.toList.map fun p=>(s.ev p.2).cm s.hp)[j]?=some x→(parts.toList.map fun p=>a.eval p.2)[j]?=some v→r5 w (bn Γ w η s.hp) [] [] x.cells v.cells.toList:=
  fun j x v h1 h2=>(ec j x v h1 h2).DQ (DC x (aic h1)).2
 have abt:∀v:Value,v∈(parts.toList.map fun p=>a.eval p.2)→v.cells.size=d'.size:=by
  intro v hv
  obtain⟨j,hj⟩:=ajh hv
  have ay:j<n:=by rw[←MI];exact(ahY.1 hj).1
  have hx:(parts.toList.map fun p=>(s.ev p.2).cm s.hp)[j]?=some (parts.toList.map fun p=>(s.ev p.2).cm s.hp)[j]:=by rw[ah2 (by rw[IV];exact ay)]
  have:=(DR j _ v hx hj).1
  rw[aiL] at this
  rw[this]
  exact(DC _ (aic hx)).1
 have fin:∀cs0:Array Value,cs0.size=n*d'.size→∃r,Instr.fill (fun i=>some (i*d'.size,d'.size)) cs0 (parts.toList.map fun p=>(p.1,a.eval p.2))=some r∧
   bw (w.alloc (.cells r e)) (bn Γ (w.alloc (.cells r e)) η s.hp) η s.hp (.clip (parts.toList.map fun p=>(s.ev p.2).cm s.hp)) (.slice (some ⟨w.heap.size,0,none⟩) n n):=by
  intro cs0 iK
  obtain⟨r,e1,e2,e3,e4⟩:=yp (parts.toList.map fun p=>a.eval p.2) 0 (parts.toList.map fun p=>(p.1,a.eval p.2)) cs0 (by simp[Function.comp_def]) (fun j p hj=>by
   rw[aie] at hj
   cases vD:parts.toList[j]? with
   |none=>rw[vD] at hj;cases hj
   |some q=>
    rw[vD] at hj
    obtain rfl:=Option.some.inj hj
    exact Hf _ _ rz j q vD) abt (by rw[MI,aiw];exact iK)
  refine⟨r,e1,?_⟩
  have he:=sW (Γ:=Γ) (η:=η) (hp:=s.hp) (bX.alloc w (.cells r e)) (fun _ _=>fz)
  have ep:∀(i:Nat) (el:AV) (j:Nat) (x:AV),(parts.toList.map fun p=>(s.ev p.2).cm s.hp)[i]?=some el→el.cells[j]?=some x→∃u,r[i*d'.size+j]?=some u∧bw w (bn Γ w η s.hp) [] [] x u∧u.oneCell'=true:=by
   intro i el j x hi hj
   have ay:i<n:=by rw[←IV];exact(ahY.1 hi).1
   have hv:(parts.toList.map fun p=>a.eval p.2)[i]?=some (parts.toList.map fun p=>a.eval p.2)[i]:=by rw[ah2 (by rw[MI];exact ay)]
   have h1:=DR i el _ hi hv
   have vD:j<(parts.toList.map fun p=>a.eval p.2)[i].cells.toList.length:=by rw[h1.1];exact(ahY.1 hj).1
   have hu:(parts.toList.map fun p=>a.eval p.2)[i].cells.toList[j]?=some ((parts.toList.map fun p=>a.eval p.2)[i].cells.toList[j]):=by rw[ah2 vD]
   have h2:=e4 i _ j _ hv hu
   rw[aiw] at h2
   exact⟨_,by simpa using h2,h1.2 j x _ hj hu⟩
  have hm:(parts.toList.map fun p=>(s.ev p.2).cm s.hp).length≤maxLen:=by
   rw[IV];simp only[maxLen];omega
  have:=bw.clip (w:=w.alloc (.cells r e)) (F:=bn Γ (w.alloc (.cells r e)) η s.hp) (η:=η) (hp:=s.hp) d'.size (parts.toList.map fun p=>(s.ev p.2).cm s.hp) w.heap.size 0 (fun i j=>(r[i*d'.size+j]?).getD undef) hm
   (fun i el hi=>(DC el (aic hi)).1) (fun i el j x hi hj=>by
    obtain⟨u,h1,_,h3⟩:=ep i el j x hi hj
    rw[h1]
    refine⟨?_,IU hr _ (fun _ _=>aD.no),h3⟩
    rw[aiw,World.cell?_alloc_new];exact h1) (fun i el j x hi hj=>by
    obtain⟨u,h1,h2,_⟩:=ep i el j x hi hj
    rw[h1];exact h2.ext he.pN.ext)
  rw[IV] at this
  exact this
 have hb:¬n*d'.size>2 ^ 24:=by omega
 by_cases hz:n*d'.size=0
 ·obtain⟨r,e1,e2⟩:=fin ((Array.range (n*d'.size)).map ((#[]:Array Value)[· % (#[]:Array Value).size]!)) (by simp)
  refine⟨_,_,?_,bX.alloc w (.cells r e),e2⟩
  simp only[execOp,ho,Instr.buildSlice,Sem.run_bind,run_underlying hu,Result.andThen_ok,iL.run_sizeOf,Sem.run_ite,if_neg hb,Sem.run_pure,if_pos hz,ajV,e1,newRow,run_newObj]
  rfl
 ·obtain⟨r,e1,e2⟩:=fin ((Array.range (n*d'.size)).map (d'.zero.cells[· % d'.zero.cells.size]!)) (by simp)
  refine⟨_,_,?_,bX.alloc w (.cells r e),e2⟩
  simp only[execOp,ho,Instr.buildSlice,Sem.run_bind,run_underlying hu,Result.andThen_ok,iL.run_sizeOf,Sem.run_ite,if_neg hb,Sem.run_pure,if_neg hz,iL.jS,ajV,e1,newRow,run_newObj]
  rfl
end
section
variable {G:Type} {Γ:Env G} {s:AS G} {a:Act} {w w':World} {η:List Value} {hp:List af} {F:Nat→Nat→Prop} {P:Program}
theorem iO (h:Rel Γ s a w η) {d n:Int} {x:Operand} (hb:cg s.ev d (some x)=some n):∃k,a.eval x=.int k n:=by
 unfold cg at hb
 simp only at hb
 split at hb
 ·rename_i k m he
  obtain rfl:=Option.some.inj hb
  have hx:=h.ev x
  rw[he] at hx
  exact⟨k,hx.aE⟩
 ·cases hb
theorem run_sliceBound (w:World) {v:Value} {k:IntKind} {n:Int} (hv:v=.int k n) {y:Nat} (h0:0≤n) (h1:n≤y) (code:BoundsCode):(Instr.sliceBound v y code).run P w=.ok n.toNat w:=by
 subst hv
 have:0≤n∧n≤(y:Int):=⟨h0,h1⟩
 simp[Instr.sliceBound,asIntOf,this]
theorem bw.QZ {els:List AV} {b o c size:Nat} {x:Value} (cJ:∀y:AV,y∈els→y.cells.length=size) (hx:bw w F η hp (.sl els) x) (hv:x=.slice (some ⟨b,o,none⟩) els.length c) {l h m:Nat} (hlh:l≤h) (hh:h≤els.length) (hm:h≤m) (hmc:m≤c):
  bw w F η hp (.sl ((els.take h).drop l)) (.slice (some ⟨b,if m=l then o else o+l*size,none⟩) (h-l) (m-l))∧(h=m→bw w F η hp (.clip ((els.take h).drop l)) (.slice (some ⟨b,if m=l then o else o+l*size,none⟩) (h-l) (h-l))):=by
 have hlen:((els.take h).drop l).length=h-l:=by simp;omega
 cases hx with
 |pE a=>
  simp only[aiK,Value.slice.injEq,true_and] at hv
  obtain⟨rfl,rfl⟩:=hv
  obtain rfl:m=0:=by omega
  obtain rfl:h=0:=by omega
  obtain rfl:l=0:=by omega
  exact⟨.pE _,fun _=>.kA _⟩
 |sl vE _ b' o' c' f hc G9 hl aN ec=>
  simp only[Value.slice.injEq,Option.some.injEq,Addr.mk.injEq,and_true,true_and] at hv
  obtain⟨⟨rfl,rfl⟩,rfl⟩:=hv
  have ep:∀(i:Nat) (e:AV),((els.take h).drop l)[i]?=some e→els[l+i]?=some e∧m≠l∧vE=size:=by
   intro i e hi
   have ay:=(ahY.1 hi).1
   rw[hlen] at ay
   rw[ajc,aik,if_pos (by omega)] at hi
   exact⟨hi,by omega,by rw[←hl _ _ hi];exact cJ e (aic hi)⟩
  have DU:∀(i j:Nat),m≠l→vE=size→(if m=l then o' else o'+l*size)+i*size+j=o'+(l+i)*vE+j:=by
   intro i j h1 h2
   rw[if_neg h1,h2,aiV];omega
  have key:∀c2,h-l≤c2→c2≤maxLen→bw w F η hp (.sl ((els.take h).drop l)) (.slice (some ⟨b',if m=l then o' else o'+l*size,none⟩) (h-l) c2)∧(c2=h-l→bw w F η hp (.clip ((els.take h).drop l)) (.slice (some ⟨b',if m=l then o' else o'+l*size,none⟩) (h-l) (h-l))):=by
   intro c2 h1 h2
   have p1:∀(i:Nat) (e:AV),((els.take h).drop l)[i]?=some e→e.cells.length=size:=fun i e hi=>cJ e (aic (ep i e hi).1)
   have p2:∀(i:Nat) (e:AV) (j:Nat) (x:AV),((els.take h).drop l)[i]?=some e→e.cells[j]?=some x→
     w.cell? ⟨b',(if m=l then o' else o'+l*size)+i*size+j,none⟩=some (f (l+i) j)∧F b' ((if m=l then o' else o'+l*size)+i*size+j)∧(f (l+i) j).oneCell'=true:=by
    intro i e j x hi hj
    obtain⟨g1,g2,g3⟩:=ep i e hi
    rw[DU i j g2 g3]
    exact aN _ _ _ _ g1 hj
   have p3:∀(i:Nat) (e:AV) (j:Nat) (x:AV),((els.take h).drop l)[i]?=some e→e.cells[j]?=some x→bw w F [] [] x (f (l+i) j):=
    fun i e j x hi hj=>ec _ _ _ _ (ep i e hi).1 hj
   have q1:=bw.sl (η:=η) (hp:=hp) size ((els.take h).drop l) b' (if m=l then o' else o'+l*size) c2 (fun i j=>f (l+i) j) (by rw[hlen];exact h1) h2 p1 p2 p3
   rw[hlen] at q1
   refine⟨q1,fun _=>?_⟩
   have q2:=bw.clip (η:=η) (hp:=hp) size ((els.take h).drop l) b' (if m=l then o' else o'+l*size) (fun i j=>f (l+i) j) (by rw[hlen];omega) p1 p2 p3
   rw[hlen] at q2
   exact q2
  refine⟨(key (m-l) (by omega) (by omega)).1,fun e=>?_⟩
  exact(key (m-l) (by omega) (by omega)).2 (by omega)
theorem yq {az:Nat→Option TD} (au:aT Γ.P az) {o:Oper} {T e:Nat} {x:Operand} {lo hi mx:Option Operand} (ho:o.op=.slice T x lo hi mx) {d d':TD} (hd:az T=some d) (hk:d.kind=.lO e) (eG:az e=some d') {els:List AV} (eC:(s.ev x).jq s.hp=some els)
  {l h:Int} (hl:cg s.ev 0 lo=some l) (hh:cg s.ev els.length hi=some h) (h0:0≤l) (h1:l≤h) (h2:h≤els.length) (cJ:∀y:AV,y∈els→y.cells.length=d'.size) {r:AV}
  (hr:(mx=none∧r=.sl ((els.take h.toNat).drop l.toNat))∨(∃y m,mx=some y∧hi.isSome∧cg s.ev 0 (some y)=some m∧h=m∧r=.clip ((els.take h.toNat).drop l.toNat))):gi Γ o s r:=by
 refine aS fun a w η fQ=>?_
 have hx:=kW fQ.heap fQ.cE (fQ.ev x) eC
 have hu:Γ.P.underlying T=some (.slice e):=by
  obtain⟨u,q2,q3⟩:=(au T d hd).jR
  rw[hk] at q3
  rw[q2];exact congrArg some q3
 have AB:lo=none∧l=0∨∃y k,lo=some y∧a.eval y=.int k l:=by
  cases lo with
  |none=>simp[cg] at hl;exact .inl ⟨rfl,hl.symm⟩
  |some y=>obtain⟨k,hk⟩:=iO fQ hl;exact .inr ⟨y,k,rfl,hk⟩
 have hhv:hi=none∧h=els.length∨∃y k,hi=some y∧a.eval y=.int k h:=by
  cases hi with
  |none=>simp[cg] at hh;exact .inl ⟨rfl,hh.symm⟩
  |some y=>obtain⟨k,hk⟩:=iO fQ hh;exact .inr ⟨y,k,rfl,hk⟩
 have G1:∃ad c,a.eval x=.slice ad els.length c∧els.length≤c:=by
  generalize a.eval x=v at hx
  cases hx with
  |pE a=>exact⟨a,0,rfl,ah5 _⟩
  |sl size els b o c f hc hm hl aN hr=>exact⟨_,c,rfl,hc⟩
 obtain⟨ad,c,vF,Xo⟩:=G1
 have rL:=(au e d' eG).run_sizeOf w
 have hb:∃m:Nat,(Instr.sliceBounds true els.length c (lo.map a.eval) (hi.map a.eval) (mx.map a.eval)).run Γ.P w=.ok (l.toNat,h.toNat,m) w∧h.toNat≤m∧m≤c∧(mx≠none→m=h.toNat):=by
  rcases hr with⟨rfl,_⟩|⟨y,m,rfl,his,hm,rfl,_⟩
  ·refine⟨c,?_,by omega,ah5 _,fun h=>(h rfl).elim⟩
   rcases hhv with⟨rfl,rfl⟩|⟨y,k,rfl,hv⟩
   ·rcases AB with⟨rfl,rfl⟩|⟨y0,k0,rfl,uO⟩
    ·simp[Instr.sliceBounds]
    ·have Me:=run_sliceBound (P:=Γ.P) w uO (y:=els.length) h0 (by omega) .sliceB
     simp[Instr.sliceBounds,Me]
   ·have hs:=run_sliceBound (P:=Γ.P) w hv (y:=c) (by omega) (by omega) .sliceAcap
    rcases AB with⟨rfl,rfl⟩|⟨y0,k0,rfl,uO⟩
    ·simp[Instr.sliceBounds,hs]
    ·have Me:=run_sliceBound (P:=Γ.P) w uO (y:=h.toNat) h0 (by omega) .sliceB
     simp[Instr.sliceBounds,hs,Me]
  ·obtain⟨k2,hv2⟩:=iO fQ hm
   refine⟨h.toNat,?_,ah5 _,by omega,fun _=>rfl⟩
   rcases hhv with⟨rfl,_⟩|⟨y',k,rfl,hv⟩
   ·simp at his
   ·have UM:=run_sliceBound (P:=Γ.P) w hv2 (y:=c) (by omega) (by omega) .slice3Acap
    have hs:=run_sliceBound (P:=Γ.P) w hv (y:=h.toNat) (by omega) (by omega) .slice3B
    rcases AB with⟨rfl,rfl⟩|⟨y0,k0,rfl,uO⟩
    ·simp[Instr.sliceBounds,hs,UM]
    ·have Me:=run_sliceBound (P:=Γ.P) w uO (y:=h.toNat) h0 (by omega) .slice3C
     simp[Instr.sliceBounds,hs,UM,Me]
 obtain⟨m,gM,hm1,zZ,hm3⟩:=hb
 have hex:(execOp a.eval o).run Γ.P w=.ok (.value (.slice (if m=l.toNat then ad else ad.map (·.add (l.toNat*d'.size))) (h.toNat-l.toNat) (m-l.toNat))) w:=by
  simp only[execOp,ho,Instr.sliceAt,Sem.run_bind,run_underlying hu,Result.andThen_ok,Instr.slice,vF,gM,rL,Sem.run_pure]
 refine⟨_,hex,?_⟩
 have MJ:(els=[]∧c=0)∨∃b o,ad=some ⟨b,o,none⟩:=by
  have oR:=hx
  rw[vF] at oR
  generalize hv:Value.slice ad els.length c=v at oR
  cases oR with
  |pE a=>simp at hv;exact .inl ⟨rfl,hv.2⟩
  |sl size els b o c f hc hm hl aN hr=>simp at hv;exact .inr ⟨b,o,hv.1⟩
 rw[vF] at hx
 rcases MJ with⟨rfl,rfl⟩|⟨b,o',rfl⟩
 ·have e1:l.toNat=0:=by simp at h2;omega
  have e2:h.toNat=0:=by simp at h2;omega
  have e3:m=0:=by omega
  rw[e1,e2,e3]
  simp only[if_true,ajG]
  rcases hr with⟨_,rfl⟩|⟨_,_,_,_,_,_,rfl⟩
  ·simpa using bw.pE ad
  ·simpa using bw.kA ad
 ·have vF:=vF
  obtain⟨q1,q2⟩:=hx.QZ cJ rfl (l:=l.toNat) (h:=h.toNat) (m:=m) (by omega) (by omega) hm1 zZ
  have Hg:(if m=l.toNat then some (⟨b,o',none⟩:Addr) else(some (⟨b,o',none⟩:Addr)).map (·.add (l.toNat*d'.size)))=some ⟨b,if m=l.toNat then o' else o'+l.toNat*d'.size,none⟩:=by
   split<;>simp[Addr.add_lit]
  rw[Hg]
  rcases hr with⟨_,rfl⟩|⟨y,m',hmx,_,_,_,rfl⟩
  ·exact q1
  ·have:=hm3 (by rw[hmx];simp)
   subst this
   exact q2 rfl
theorem MK (a b:ByteArray):(a==b)=decide (a=b):=by
 obtain⟨a⟩:=a;obtain⟨b⟩:=b
 show (a==b)=_
 by_cases h:a=b
 ·subst h;simp
 ·have:¬(ByteArray.mk a=ByteArray.mk b):=fun e=>h (by injection e)
  rw[decide_eq_false this];simpa using h
structure KY {κ:Type} [DecidableEq κ] (td:TypeDesc) (kv:κ→Value) (me:List (κ×Value)→ME):Prop where
 me:∀l,KP (me l)=l.map fun p=>(kv p.1,p.2)
 same:∀a b,Instr.sameNow td (kv a) (kv b)=some (decide (a=b))
 check:∀(P:Program) (kt:TypeId) (e:Bool) (v:Value) (w:World),P.underlying kt=some td→(Instr.checkKey e 10000 kt v).run P w=.ok () w
 bits:∀a,Instr.sameBits 10000 (kv a) (kv a)=true
theorem BK {κ:Type} [DecidableEq κ] {td:TypeDesc} {kv:κ→Value} {me:List (κ×Value)→ME} (K:KY td kv me) {a:κ}:∀(es:List MapEntry) (l:List (κ×Value)) (i:Nat),(es.map fun e=>(e.key,e.val))=l.map (fun p=>(kv p.1,p.2))→
  (∃r,Instr.findNow td (kv a) es i=some r∧r.map (·.2)=bE l a)∧
   (bE l a=none→Instr.findNow td (kv a) es i=some none):=by
 intro es
 induction es with
 |nil=>
  intro l i h
  cases l with
  |nil=>exact⟨⟨none,rfl,rfl⟩,fun _=>rfl⟩
  |cons p l=>simp at h
 |cons e es ih=>
  intro l i h
  cases l with
  |nil=>simp at h
  |cons p l=>
   obtain⟨key,v⟩:=p
   simp only[ais,List.cons.injEq,Prod.mk.injEq] at h
   obtain⟨⟨h1,h2⟩,h3⟩:=h
   obtain⟨⟨r,g1,g2⟩,g3⟩:=ih l (i+1) h3
   simp only[Instr.findNow,h1,K.same,bE]
   by_cases VM:a=key
   ·subst VM
    simp[h2]
   ·simp only[if_neg VM,decide_eq_false VM]
    exact⟨⟨r,g1,g2⟩,g3⟩
theorem s6 {kt:TypeId} {k:IntKind} (hk:P.underlying kt=some (.int k)) (e:Bool) (n:Nat) (v:Value) (w:World):(Instr.checkKey e (n+1) kt v).run P w=.ok () w:=by
 unfold Instr.checkKey
 simp only[Sem.run_bind,run_underlying hk,Result.andThen]
 cases v<;>rfl
theorem XH (k:IntKind):KY (.int k) (fun a:Int=>.int .i64 a) .i:=
 ⟨fun _=>rfl,fun a b=>by simp[Instr.sameNow];rfl,fun P kt e v w hk=>s6 hk e 9999 v w,fun a=>by simp[Instr.sameBits]⟩
theorem XI:KY .string (fun a:ByteArray=>.string a) .s:=
 ⟨fun _=>rfl,fun a b=>by simp only[Instr.sameNow,MK],fun P kt e v w hk=>by
  unfold Instr.checkKey
  simp only[Sem.run_bind,run_underlying hk,Result.andThen]
  cases v<;>rfl,fun a=>by simp[Instr.sameBits,MK]⟩
theorem vG {κ:Type} [DecidableEq κ] {td:TypeDesc} {kv:κ→Value} {me:List (κ×Value)→ME} (K:KY td kv me) {az:Nat→Option TD} (au:aT Γ.P az) {o:Oper} {T kt et:Nat} {m key:Operand} {ok:Bool} (ho:o.op=.lookup T m key ok) {d dk de:TD} (hd:az T=some d) (hk:d.kind=.pQ kt et) (oT:az kt=some dk) (xl:∀u,dk.kind.fits Γ.P u→u=td) (DV:az et=some de)
  {es:List (κ×Value)} (hm:(s.ev m).Ax s.hp=some (me es)) {a:κ} (abw:s.ev key=.ah (kv a)):gi Γ o s (jM es de.zero a ok):=by
 refine aS fun act w η hr=>?_
 have hu:Γ.P.underlying T=some (.map kt et):=by
  obtain⟨u,q2,q3⟩:=(au T d hd).jR
  rw[hk] at q3
  rw[q2];exact congrArg some q3
 have Q0:Γ.P.underlying kt=some td:=by
  obtain⟨u,q2,q3⟩:=(au kt dk oT).jR
  rw[q2];exact congrArg some (xl u q3)
 have Q1:=hr.ev key
 rw[abw] at Q1
 have VN:=Q1.aE
 have Q2:=hr.ev m
 have VH:∃b en c,act.eval m=.map (some b)∧w.heap[b]?=some (.map en c)∧mI en=KP (me es):=by
  generalize s.ev m=x at hm Q2
  cases x with
  |fH l=>
   simp only[AV.Ax,Option.some.injEq] at hm
   subst hm
   generalize act.eval m=v at Q2
   cases Q2 with
   |fH b en c h1 h2 _ hl=>exact⟨b,en,c,rfl,h1,hl⟩
  |mp r=>
   simp only[AV.Ax] at hm
   split at hm
   ·rename_i es' xm
    obtain rfl:=Option.some.inj hm
    generalize act.eval m=v at Q2
    cases Q2 with
    |mp _ b eS=>
     obtain⟨b',en,c,e1,e2,e3⟩:=hr.heap.obj r _ _ xm eS
     simp only[Value.map.injEq,Option.some.injEq] at e1
     subst e1
     exact⟨b,en,c,rfl,e2,e3⟩
   ·cases hm
  |_=>simp[AV.Ax] at hm
 obtain⟨b,en,c,Q3,lV,yt⟩:=VH
 obtain⟨⟨r,g1,g2⟩,g3⟩:=BK K (a:=a) en.toList es 0 (yt.trans (K.me es))
 have ep:(getObj b).run Γ.P w=.ok (.map en c) w:=by simp[getObj,Sem.run,lV]
 have pU:(Instr.findKey kt (kv a) en.toList).run Γ.P w=.ok r w:=by
  simp only[Instr.findKey,Sem.run_bind,run_underlying Q0,Result.andThen_ok,g1,Sem.run_pure]
 have hz:=(au et de DV).jS w
 cases r with
 |none=>
  have hg:bE es a=none:=g2.symm
  cases ok with
  |true=>
   refine⟨.tuple #[de.zero,.bool false],?_,?_⟩
   ·simp only[execOp,ho,Q3,VN,Instr.lookup,Sem.run_bind,run_underlying hu,Result.andThen_ok,ep,Sem.run_pure,K.check _ _ _ _ _ Q0,pU,hz,if_true]
   ·simp only[jM,hg,if_true,Option.getD_none,Option.isSome_none]
    exact .aX _ _ rfl fun j x v hx hv=>by
     match j with
     |0=>simp at hx hv;subst hx;subst hv;exact .ah _
     |1=>simp at hx hv;subst hx;subst hv;exact .ah _
     |j+2=>simp at hx
  |false=>
   refine⟨de.zero,?_,?_⟩
   ·simp only[execOp,ho,Q3,VN,Instr.lookup,Sem.run_bind,run_underlying hu,Result.andThen_ok,ep,Sem.run_pure,K.check _ _ _ _ _ Q0,pU,hz,aij,if_false]
   ·simp only[jM,hg,aij,if_false,Option.getD_none]
    exact .ah _
 |some q=>
  obtain⟨i,v⟩:=q
  have hg:bE es a=some v:=g2.symm
  cases ok with
  |true=>
   refine⟨.tuple #[v,.bool true],?_,?_⟩
   ·simp only[execOp,ho,Q3,VN,Instr.lookup,Sem.run_bind,run_underlying hu,Result.andThen_ok,ep,Sem.run_pure,K.check _ _ _ _ _ Q0,pU,if_true]
   ·simp only[jM,hg,if_true,aiP,Option.isSome_some]
    exact .aX _ _ rfl fun j x v hx hv=>by
     match j with
     |0=>simp at hx hv;subst hx;subst hv;exact .ah _
     |1=>simp at hx hv;subst hx;subst hv;exact .ah _
     |j+2=>simp at hx
  |false=>
   refine⟨v,?_,?_⟩
   ·simp only[execOp,ho,Q3,VN,Instr.lookup,Sem.run_bind,run_underlying hu,Result.andThen_ok,ep,Sem.run_pure,K.check _ _ _ _ _ Q0,pU,aij,if_false]
   ·simp only[jM,hg,aij,if_false,aiP]
    exact .ah _
end
section
variable {G:Type} {Γ:Env G} {s:AS G} {a:Act} {w w':World} {η:List Value} {hp:List af} {F:Nat→Nat→Prop} {P:Program}
theorem z8 {az:Nat→Option TD} (au:aT Γ.P az) {o:Oper} {T:Nat} {x:Operand} {lo hi:Option Operand} (ho:o.op=.slice T x lo hi none) {d:TD} (hd:az T=some d) (hk:d.kind=.str) {b:ByteArray} (hx:s.ev x=.ah (.string b))
  {l h:Int} (hl:cg s.ev 0 lo=some l) (hh:cg s.ev b.size hi=some h) (h0:0≤l) (h1:l≤h) (h2:h≤b.size):gi Γ o s (.ah (.string (b.extract l.toNat h.toNat))):=by
 refine aS fun a w η fQ=>⟨_,?_,.ah _⟩
 have eU:=fQ.ev x
 rw[hx] at eU
 have vF:=eU.aE
 have hu:Γ.P.underlying T=some .string:=by
  obtain⟨u,q2,q3⟩:=(au T d hd).jR
  rw[hk] at q3
  rw[q2];exact congrArg some q3
 have AB:lo=none∧l=0∨∃y k,lo=some y∧a.eval y=.int k l:=by
  cases lo with
  |none=>simp[cg] at hl;exact .inl ⟨rfl,hl.symm⟩
  |some y=>obtain⟨k,hk⟩:=iO fQ hl;exact .inr ⟨y,k,rfl,hk⟩
 have hhv:hi=none∧h=b.size∨∃y k,hi=some y∧a.eval y=.int k h:=by
  cases hi with
  |none=>simp[cg] at hh;exact .inl ⟨rfl,hh.symm⟩
  |some y=>obtain⟨k,hk⟩:=iO fQ hh;exact .inr ⟨y,k,rfl,hk⟩
 rcases hhv with⟨rfl,rfl⟩|⟨y,k,rfl,hv⟩
 ·rcases AB with⟨rfl,rfl⟩|⟨y0,k0,rfl,uO⟩
  ·simp[execOp,ho,Instr.sliceAt,run_underlying hu,Instr.slice,vF,Instr.sliceBounds]
  ·have Me:=run_sliceBound (P:=Γ.P) w uO (y:=b.size) h0 (by omega) .sliceB
   simp[execOp,ho,Instr.sliceAt,run_underlying hu,Instr.slice,vF,Instr.sliceBounds,Me]
 ·have hs:=run_sliceBound (P:=Γ.P) w hv (y:=b.size) (by omega) (by omega) .sliceAlen
  rcases AB with⟨rfl,rfl⟩|⟨y0,k0,rfl,uO⟩
  ·simp[execOp,ho,Instr.sliceAt,run_underlying hu,Instr.slice,vF,Instr.sliceBounds,hs]
  ·have Me:=run_sliceBound (P:=Γ.P) w uO (y:=h.toNat) h0 (by omega) .sliceB
   simp[execOp,ho,Instr.sliceAt,run_underlying hu,Instr.slice,vF,Instr.sliceBounds,hs,Me]
theorem r6 (aD:Γ.Ok) {az:Nat→Option TD} (au:aT Γ.P az) {o:Oper} {c:Prop} {r:AV} (h:bN az s.hp s.ev o.op=some (c,r)) (hc:c):gi Γ o s r:=by
 generalize ho:o.op=op at h
 cases op with
 |move x=>
  simp only[bN,Option.some.injEq,Prod.mk.injEq] at h
  obtain⟨_,rfl⟩:=h
  exact aS fun a w η hr=>⟨a.eval x,by simp[execOp,ho],hr.ev x⟩
 |assign x=>
  simp only[bN,Option.some.injEq,Prod.mk.injEq] at h
  obtain⟨_,rfl⟩:=h
  exact aS fun a w η hr=>⟨a.eval x,by simp[execOp,ho],hr.ev x⟩
 |nilCheck x=>
  simp only[bN] at h
  split at h
  ·rename_i r0 o0 hx
   simp only[Option.some.injEq,Prod.mk.injEq] at h
   obtain⟨_,rfl⟩:=h
   refine aS fun a w η hr=>?_
   have hp:=hr.ev x
   rw[hx] at hp
   obtain⟨b,hb⟩:∃b,a.eval x=.pointer (some b):=by
    generalize a.eval x=v at hp
    cases hp
    exact⟨_,rfl⟩
   exact⟨a.eval x,by simp[execOp,ho,hb],hp⟩
  ·rename_i r0 o0 hx
   simp only[Option.some.injEq,Prod.mk.injEq] at h
   obtain⟨_,rfl⟩:=h
   refine aS fun a w η hr=>?_
   have hp:=hr.ev x
   rw[hx] at hp
   obtain⟨b,hb⟩:∃b,a.eval x=.pointer (some b):=by
    generalize a.eval x=v at hp
    cases hp
    exact⟨_,rfl⟩
   exact⟨a.eval x,by simp[execOp,ho,hb],hp⟩
  ·cases h
 |pick cc x y=>
  simp only[bN] at h
  split at h
  ·rename_i t ht
   simp only[Option.some.injEq,Prod.mk.injEq] at h
   obtain⟨_,rfl⟩:=h
   exact KU ho ht
  ·cases h
 |fieldAddr T x f=>
  simp only[bN] at h
  split at h
  ·rename_i p hp
   split at h
   ·cases h
   ·rename_i h0
    split at h
    ·rename_i n off he
     simp only[Option.some.injEq,Prod.mk.injEq] at h
     exact pT au ho hp h0 (.inl ⟨n,off,he,h.2.symm⟩)
    ·rename_i e off he
     simp only[Option.some.injEq,Prod.mk.injEq] at h
     exact pT au ho hp h0 (.inr ⟨e,off,he,h.2.symm⟩)
    ·rename_i r0 m0 i0 z0 he
     split at h
     ·rename_i hz
      simp only[Option.some.injEq,Prod.mk.injEq] at h
      obtain⟨_,rfl⟩:=h
      exact wL au ho hp h0 he hz
     ·cases h
    ·cases h
  ·cases h
 |load T x=>
  simp only[bN] at h
  split at h
  ·rename_i d hd
   split at h
   ·rename_i n off he
    split at h
    ·rename_i cs iK
     cases hl:fS d.kind.agg d.size cs off with
     |none=>rw[hl] at h;cases h
     |some v=>
      rw[hl] at h
      simp only[aiv,Option.some.injEq,Prod.mk.injEq] at h
      obtain⟨_,rfl⟩:=h
      exact Az au ho hd (.inl ⟨n,off,cs,he,iK,hl⟩)
    ·cases h
   ·rename_i e off he
    cases hl:ya d.kind.agg d.size e off with
    |none=>rw[hl] at h;cases h
    |some v=>
     rw[hl] at h
     simp only[aiv,Option.some.injEq,Prod.mk.injEq] at h
     obtain⟨_,rfl⟩:=h
     exact Az au ho hd (.inr ⟨e,off,he,hl⟩)
   ·rename_i r0 m0 i0 z0 he
    split at h
    ·rename_i e0 z' els ry
     split at h
     ·rename_i r7
      obtain⟨rfl,DN⟩:=r7
      simp only[Option.some.injEq,Prod.mk.injEq] at h
      obtain⟨rfl,rfl⟩:=h
      have hg:els.getD i0 .top=els[i0]'hc.2.1:=by simp[List.getD,hc.2.1]
      rw[hg] at hc ⊢
      exact G5 au ho hd he ry hc.1 DN hc.2.1 hc.2.2
     ·cases h
    ·cases h
   ·cases h
  ·cases h
 |indexAddr T x i=>
  simp only[bN] at h
  split at h
  ·rename_i d hd
   split at h
   ·rename_i e hk
    split at h
    ·rename_i d' els k n eG eC hi
     simp only[Option.some.injEq,Prod.mk.injEq] at h
     obtain⟨rfl,rfl⟩:=h
     exact yh au ho hd hk eG eC hi hc.1 hc.2.1 hc.2.2
    ·rename_i d' k n eG eC hi
     split at h
     ·rename_i r m e' size k' hm
      split at h
      ·rename_i r7
       simp only[Option.some.injEq,Prod.mk.injEq] at h
       obtain⟨rfl,rfl⟩:=h
       obtain⟨hx,els,ry,rfl⟩:=qJ hm
       obtain⟨rfl,rfl⟩:=r7
       exact wN au ho hd hk eG hx ry hc.2.2 hi hc.1 hc.2.1
      ·cases h
     ·cases h
    ·cases h
   ·rename_i m hk
    split at h
    ·rename_i r k n hx hi
     simp only[Option.some.injEq,Prod.mk.injEq] at h
     obtain⟨rfl,rfl⟩:=h
     exact wM au ho hd hk hx hi hc.1 hc.2
    ·cases h
   ·cases h
  ·cases h
 |binOp op T x y T'=>
  simp only[bN] at h
  split at h
  ·rename_i v hv
   simp only[Option.some.injEq,Prod.mk.injEq] at h
   obtain⟨_,rfl⟩:=h
   exact MC au ho hv
  ·exact DO au ho h hc
 |convert S D x=>
  simp only[bN] at h
  obtain⟨r',h1,h2⟩:=aiX.1 h
  simp only[Prod.mk.injEq] at h2
  rw[←h2.2]
  exact MD au ho h1
 |unOp op T x=>
  simp only[bN] at h
  split at h
  ·rename_i b he
   simp only[Option.some.injEq,Prod.mk.injEq] at h
   exact AA ho (.inl ⟨b,rfl,he,h.2.symm⟩)
  ·rename_i k n he
   simp only[Option.some.injEq,Prod.mk.injEq] at h
   exact AA ho (.inr ⟨k,n,rfl,he,h.2.symm⟩)
  ·cases h
 |build T parts=>
  simp only[bN] at h
  split at h
  ·rename_i d hd
   split at h
   ·rename_i fs hk
    cases hl:dH fs (d.zero.cells.toList.map .ah) (parts.toList.map fun p=>(p.1,s.ev p.2)) with
    |none=>rw[hl] at h;cases h
    |some cs=>
     rw[hl] at h
     simp only[aiv,Option.some.injEq,Prod.mk.injEq] at h
     obtain⟨_,rfl⟩:=h
     exact He au ho hd hk hl
   ·rename_i n hk
    cases hl:dH (yc n) (d.zero.cells.toList.map .ah) (parts.toList.map fun p=>(p.1,s.ev p.2)) with
    |none=>rw[hl] at h;cases h
    |some cs=>
     rw[hl] at h
     simp only[aiv,Option.some.injEq,Prod.mk.injEq] at h
     obtain⟨_,rfl⟩:=h
     exact DS au ho hd hk hl
   ·cases h
  ·cases h
 |buildSlice T n parts=>
  simp only[bN] at h
  split at h
  ·rename_i d hd
   split at h
   ·rename_i e hk
    split at h
    ·rename_i d' eG
     split at h
     ·rename_i mP
      simp only[Option.some.injEq,Prod.mk.injEq] at h
      obtain⟨rfl,rfl⟩:=h
      exact wP aD au ho hd hk eG mP.1 mP.2.1 mP.2.2.1 mP.2.2.2 hc
     ·cases h
    ·cases h
   ·cases h
  ·cases h
 |field T x f=>
  simp only[bN] at h
  split at h
  ·rename_i p cs hp hx
   split at h
   ·rename_i mP
    cases hl:fS p.2.2 p.2.1 cs p.1 with
    |none=>rw[hl] at h;cases h
    |some v=>
     rw[hl] at h
     simp only[aiv,Option.some.injEq,Prod.mk.injEq] at h
     obtain⟨_,rfl⟩:=h
     exact G8 au ho hp hx hl fun hf=>by
      rcases mP with h1|h1
      ·rw[h1] at hf;cases hf
      ·exact h1
   ·cases h
  ·cases h
 |lookup T m k ok=>
  simp only[bN] at h
  split at h
  ·rename_i d es a hd hm hk
   split at h
   ·rename_i kt et jV
    split at h
    ·rename_i dk de oT DV
     split at h
     ·rename_i ik xl
      simp only[Option.some.injEq,Prod.mk.injEq] at h
      obtain⟨_,rfl⟩:=h
      exact vG (XH ik) au ho hd jV oT (fun u hu=>by rw[xl] at hu;exact hu) DV hm hk
     ·cases h
    ·cases h
   ·cases h
  ·rename_i d es a hd hm hk
   split at h
   ·rename_i kt et jV
    split at h
    ·rename_i dk de oT DV
     split at h
     ·rename_i xl
      simp only[Option.some.injEq,Prod.mk.injEq] at h
      obtain⟨_,rfl⟩:=h
      exact vG XI au ho hd jV oT (fun u hu=>by rw[xl] at hu;exact hu) DV hm hk
     ·cases h
    ·cases h
   ·cases h
  ·cases h
 |index T x i=>
  simp only[bN] at h
  split at h
  ·rename_i d b k n hd hx hi
   split at h
   ·rename_i hk
    simp only[Option.some.injEq,Prod.mk.injEq] at h
    obtain⟨rfl,rfl⟩:=h
    refine aS fun a w η hr=>?_
    have h1:=hr.ev x
    rw[hx] at h1
    have h1:=h1.aE
    have h2:=hr.ev i
    rw[hi] at h2
    have h2:=h2.aE
    have hu:Γ.P.underlying T=some .string:=by
     obtain⟨u,q2,q3⟩:=(au T d hd).jR
     rw[hk] at q3
     rw[q2];exact congrArg some q3
    obtain⟨h3,h4⟩:=hc
    have ay:n.toNat<b.size:=by omega
    refine⟨.int .u8 (cq b n),?_,.ah _⟩
    have e:b[n.toNat]?=some b[n.toNat]:=getElem?_pos b n.toNat ay
    have e2:cq b n=(b[n.toNat].toNat:Int):=by
     unfold cq
     have:b.data[n.toNat]?=some b[n.toNat]:=by
      rw[aiT (by exact ay)];rfl
     rw[this];rfl
    simp only[execOp,ho,h1,h2,Instr.index,asIntOf,Sem.run_bind,Sem.run_pure,Result.andThen_ok,run_underlying hu,if_pos h3,e,e2]
   ·cases h
  ·cases h
 |extract x i=>
  simp only[bN] at h
  split at h
  ·rename_i vs he
   cases hl:vs[i]? with
   |none=>rw[hl] at h;cases h
   |some v=>
    rw[hl] at h
    simp only[aiv,Option.some.injEq,Prod.mk.injEq] at h
    obtain⟨_,rfl⟩:=h
    exact BI ho he hl
  ·cases h
 |makeFunc fn first caps=>
  cases fn with
  |func f=>
   simp only[bN] at h
   split at h
   ·rename_i h0
    simp only[Option.some.injEq,Prod.mk.injEq] at h
    obtain⟨_,rfl⟩:=h
    exact z6 ho h0
   ·split at h
    ·rename_i h0
     simp only[Option.some.injEq,Prod.mk.injEq] at h
     obtain⟨_,rfl⟩:=h
     exact wO ho h0
    ·cases h
  |_=>simp[bN] at h
 |slice T x lo hi mx=>
  simp only[bN] at h
  split at h
  ·rename_i d hd
   split at h
   ·rename_i b hk hx
    split at h
    ·rename_i l h' hl hh
     simp only[Option.some.injEq,Prod.mk.injEq] at h
     obtain⟨rfl,rfl⟩:=h
     exact z8 au ho hd hk hx hl hh hc.1 hc.2.1 hc.2.2
    ·cases h
   ·rename_i e hk
    split at h
    ·rename_i els d' eC eG
     split at h
     ·rename_i l h' hl hh hm
      simp only[Option.some.injEq,Prod.mk.injEq] at h
      obtain⟨rfl,rfl⟩:=h
      have hmx:mx=none:=by cases mx<;>simp_all
      exact yq au ho hd hk eG eC hl hh hc.1 hc.2.1 hc.2.2.1 hc.2.2.2 (.inl ⟨hmx,rfl⟩)
     ·rename_i l h' m hl hh hm
      split at h
      ·rename_i his
       simp only[Option.some.injEq,Prod.mk.injEq] at h
       obtain⟨rfl,rfl⟩:=h
       cases mx with
       |none=>simp at hm
       |some y=>
        simp only[aiv,Option.some.injEq] at hm
        exact yq au ho hd hk eG eC hl hh hc.1 hc.2.1 hc.2.2.2.1 hc.2.2.2.2 (.inr ⟨y,m,rfl,his,hm,hc.2.2.1,rfl⟩)
      ·cases h
     ·cases h
    ·cases h
   ·cases h
  ·cases h
 |call cl=>
  simp only[bN] at h
  split at h
  ·rename_i x hb hl
   split at h
   ·rename_i d hd
    have hT:∃T,cl.argTypes[0]?=some T∧az T=some d:=by
     cases hT:cl.argTypes[0]? with
     |none=>rw[hT] at hd;cases hd
     |some T=>rw[hT] at hd;exact⟨T,rfl,hd⟩
    obtain⟨T,hT,hd⟩:=hT
    split at h
    ·cases h
    ·rename_i e hk hns
     split at h
     case h_2=>
      split at h
      ·rename_i r0 m0 e0 z0 k0 hm
       simp only[Option.some.injEq,Prod.mk.injEq] at h
       obtain⟨rfl,rfl⟩:=h
       obtain⟨hx,els,ry,rfl⟩:=qJ hm
       exact KW au ho hb hl hT hd hk hx ry hc
      ·cases h
     rename_i u hu
     simp only[Option.some.injEq,Prod.mk.injEq] at h
     obtain⟨_,rfl⟩:=h
     have h:(uP s.hp (s.ev x))=some u:=hu
     have AB:∃els,(s.ev x).jq s.hp=some els∧u=.ah (.int .i64 els.length):=by
      unfold uP at h
      split at h
      ·rename_i sb he
       exact(hns sb he).elim
      ·cases eC:(s.ev x).jq s.hp with
       |none=>rw[eC] at h;cases h
       |some els=>
        rw[eC] at h
        exact⟨els,rfl,(Option.some.inj h).symm⟩
     obtain⟨els,h1,h2⟩:=AB
     exact DP au ho hb hl hT hd (.inl ⟨e,els,hk,h1,h2⟩)
    ·rename_i b hk hx
     simp only[Option.some.injEq,Prod.mk.injEq] at h
     exact DP au ho hb hl hT hd (.inr ⟨b,hk,hx,h.2.symm⟩)
    ·cases h
   ·cases h
  ·rename_i x y hb hl
   split at h
   ·rename_i k m k' n hx hy
    simp only[Option.some.injEq,Prod.mk.injEq] at h
    obtain⟨_,rfl⟩:=h
    exact MG ho hb hl hx hy
   ·cases h
  ·rename_i x y hb hl
   split at h
   ·rename_i k m k' n hx hy
    simp only[Option.some.injEq,Prod.mk.injEq] at h
    obtain⟨_,rfl⟩:=h
    exact MH ho hb hl hx hy
   ·cases h
  ·cases h
 |_=>simp[bN] at h
end
section
variable {G:Type} {Γ:Env G} {s:AS G} {a:Act} {w w':World} {η:List Value} {hp:List af} {F:Nat→Nat→Prop} {P:Program}
def gR (Γ:Env G) (o:Oper) (s:AS G) (r:AV) (hp':List af):Prop:=
 ∀a w η,Rel Γ s a w η→∃v w' aU,((execOp a.eval o).run Γ.P w=.ok (.value v) w'∨(execOp a.eval o).run Γ.P w=.ok .skip w'∧v=undef)∧
  Rel Γ { s with hp:=hp' } a w' aU∧bw w' (bn Γ w' aU hp') aU hp' r v
def bL (d:TD) (n:Nat) (els aG:List AV):Prop:=
 (∀x:AV,x∈els→x.cells.length=d.size)∧(∀x:AV,x∈aG→x.cells.length=d.size)∧n≤maxLen∧n*d.bytes≤140737488355328
def dG {κ:Type} [DecidableEq κ]:List (κ×Value)→κ→Value→List (κ×Value)
 | [],a,v=>[(a,v)]
 |(k,u)::r,a,v=>if a=k then(k,v)::r else(k,u)::dG r a v
def xp:Operand→Operand→Bool
 | .tmp a,.tmp b=>Nat.beq a b
 |_,_=>false
theorem Hh {l c:Operand} (h:xp l c=true):l=c:=by
 unfold xp at h
 split at h
 ·rw[ain h]
 ·cases h
def DW (d:TD):Option Value:=
 match Nat.beq d.size 1,d.zero.cells.toList with
 |true,[z]=>if z.oneCell'=true then some z else none
 |_,_=>none
theorem ML {d:TD} {z:Value} (h:DW d=some z):d.size=1∧d.zero.cells=#[z]∧z.oneCell'=true:=by
 unfold DW at h
 split at h
 ·rename_i z' h1 h2
  split at h
  ·rename_i h3
   obtain rfl:=Option.some.inj h
   exact⟨ain h1,by apply ajm;simpa using h2,h3⟩
  ·cases h
 ·cases h
def dV (az:Nat→Option TD) (hp:List af) (ρ:Operand→AV):Op→Option (Prop×AV×List af)
 | .alloc T=>(match az T with
  |some d=>some (True,.ptr hp.length 0,hp++[.box (d.zero.cells.toList.map .ah)])
  |none=>none)
 | .box _ x=>if(ρ x).mN=true then some (True,.ptr hp.length 0,hp++[.box (ρ x).cells]) else none
 | .store T p x=>(match az T,ρ p with
  |some d,.ptr r o=>(match hp[r]? with
   |some (.box cs)=>if(ρ x).mN=true then some ((ρ x).cells.length=d.size∧o+d.size≤cs.length,.top,hp.set r (.box (setCells cs o (ρ x).cells))) else none
   |_=>none)
  |some d,.fY r m i z=>(match hp[r]? with
   |some (.bM e size els)=>if((ρ x).gd hp).mN=true∧size=z then(if d.size=z then some (((ρ x).gd hp).cells.length=d.size∧m=els.length∧i<els.length,.top,hp.set r (.bM e size (els.set i ((ρ x).gd hp))))
     else some (((ρ x).gd hp).cells.length=d.size∧d.size≤z∧m=els.length∧i<els.length,.top,hp.set r (.bM e size (els.set i (.agg (setCells (els.getD i .top).cells 0 ((ρ x).gd hp).cells)))))) else none
   |_=>none)
  |_,_=>none)
 | .makeSlice T l c=>(match az T with
  |some d=>(match d.kind with
   | .lO e=>(match xp l c with
    |true=>(match az e,ρ c with
     |some d',.ah (.int _ n)=>(match DW d' with
      |some z=>some (0≤n∧n≤9223372036854775807∧(d'.bytes:Int)*n≤281474976710656,.own hp.length (List.replicate n.toNat (AV.ah z)).length,hp++[.bM e 1 (List.replicate n.toNat (.ah z))])
      |none=>none)
     |_,_=>none)
    |false=>(match az e,ρ l,ρ c with
     |some d',.ah (.int _ 0),.ah (.int _ n)=>some (0≤n∧n≤9223372036854775807∧(d'.bytes:Int)*n≤281474976710656∧0<d'.size,.own hp.length 0,hp++[.row e d'.size []])
     |_,_,_=>none))
   |_=>none)
  |none=>none)
 | .makeMap T none=>(match az T with
  |some d=>(match d.kind with
   | .pQ kt _=>(match az kt with
    |some dk=>(match dk.kind with
     | .str=>some (True,.mp hp.length,hp++[.cQ (.s [])])
     |_=>some (True,.mp hp.length,hp++[.cQ (.i [])]))
    |none=>none)
   |_=>none)
  |none=>none)
 | .mapUpdate T m k x=>(match az T,ρ m,ρ k,ρ x with
  |some d,.mp r,.ah (.int .i64 a),.ah v=>(match d.kind,hp[r]? with
   | .pQ kt _,some (.cQ (.i es))=>(match az kt with
    |some dk=>(match dk.kind with
     | .int _=>some (True,.top,hp.set r (.cQ (.i (dG es a v))))
     |_=>none)
    |none=>none)
   |_,_=>none)
  |some d,.mp r,.ah (.string a),.ah v=>(match d.kind,hp[r]? with
   | .pQ kt _,some (.cQ (.s es))=>(match az kt with
    |some dk=>(match dk.kind with
     | .str=>some (True,.top,hp.set r (.cQ (.s (dG es a v))))
     |_=>none)
    |none=>none)
   |_,_=>none)
  |_,_,_,_=>none)
 | .call c=>(match c.callee,c.args.toList,c.argTypes.toList with
  | .builtin .append,[b,x],[T,T']=>if T=T' then(match az T with
   |some d=>(match d.kind with
    | .lO e=>(match az e,(ρ x).jq hp with
     |some d',some aG=>(match ρ b with
      | .ah (.slice none 0 0)=>some (0<d'.size∧bL d' aG.length [] aG,.own hp.length aG.length,hp++[.row e d'.size aG])
      | .clip els=>some (0<d'.size∧(aG=[]→els=[])∧bL d' (els.length+aG.length) els aG,.own hp.length (els.length+aG.length),hp++[.row e d'.size (els++aG)])
      | .own r n=>(match hp[r]? with
       |some (.row e' size els)=>if e'=e∧size=d'.size∧n=els.length then some (bL d' (els.length+aG.length) [] aG,.own r (els.length+aG.length),hp.set r (.row e size (els++aG))) else none
       |some (.bM e' size els)=>if e'=e∧size=d'.size∧n=els.length then some (bL d' (els.length+aG.length) [] aG,.own r (els.length+aG.length),hp.set r (.bM e size (els++aG))) else none
       |_=>none)
      |_=>none)
     |_,_=>none)
    |_=>none)
   |none=>none) else none
  |_,_,_=>none)
 |_=>none
theorem MN (aD:Γ.Ok) {o:Oper} {T:Nat} {x:Operand} (ho:o.op=.box T x) (hs:(s.ev x).mN=true):gR Γ o s (.ptr s.hp.length 0) (s.hp++[.box (s.ev x).cells]):=by
 intro a w η hr
 have DR:=(hr.ev x).DQ hs
 have zX:=bX.alloc w (.cells (a.eval x).cells T)
 have he:=xj (Γ:=Γ) (o:=.box (s.ev x).cells) (v:=.pointer (some ⟨w.heap.size,0,none⟩)) hr.heap.len zX (fun b hb=>by simp only[dK,Option.some.injEq] at hb;omega)
 refine⟨.pointer (some ⟨w.heap.size,0,none⟩),_,η++[.pointer (some ⟨w.heap.size,0,none⟩)],.inl (by simp[execOp,ho,Instr.box,newVar,newRow];rfl),?_,?_⟩
 ·exact hr.add aD zX (fun b hb=>by simp only[dK,Option.some.injEq] at hb;omega) ⟨w.heap.size,(a.eval x).cells,T,rfl,heap_alloc_new w _,by simpa using DR.1,fun j y u hy hu=>by
   have:=DR.2 j y u hy (by simpa using hu)
   exact⟨this.1.ext he,this.2⟩⟩
 ·exact .ptr _ 0 w.heap.size (by rw[←hr.heap.len];simp)
theorem Hi (aD:Γ.Ok) {az:Nat→Option TD} (au:aT Γ.P az) {o:Oper} {T:Nat} (ho:o.op=.alloc T) {d:TD} (hd:az T=some d):gR Γ o s (.ptr s.hp.length 0) (s.hp++[.box (d.zero.cells.toList.map .ah)]):=by
 intro a w η hr
 have iL:=au T d hd
 have zX:=bX.alloc w (.cells d.zero.cells T)
 refine⟨.pointer (some ⟨w.heap.size,0,none⟩),_,η++[.pointer (some ⟨w.heap.size,0,none⟩)],.inl (by simp[execOp,ho,Instr.alloc,iL.jS,newVar,newRow];rfl),?_,?_⟩
 ·refine hr.add aD zX (fun b hb=>by simp only[dK,Option.some.injEq] at hb;omega) ⟨w.heap.size,d.zero.cells,T,rfl,heap_alloc_new w _,by simp,fun j y u hy hu=>?_⟩
  exact(iL.BJ (w:=_) (F:=_) (η:=_) (hp:=_)).2 j y u hy (by simpa using hu)
 ·exact .ptr _ 0 w.heap.size (by rw[←hr.heap.len];simp)
theorem DX (aD:Γ.Ok) {b r:Nat}:∀(us:List Value) (xs:List AV) (k off:Nat) (cs:List AV) (s:AS G) (w:World),Rel Γ s a w η→s.hp[r]?=some (.box cs)→η[r]?=some (.pointer (some ⟨b,0,none⟩))→
  r5 w (bn Γ w η s.hp) η s.hp xs us→off+k+xs.length≤cs.length→
  ∃w',(storeCells ⟨b,off,none⟩ us k).run Γ.P w=.ok () w'∧Rel Γ { s with hp:=s.hp.set r (.box (setCells cs (off+k) xs)) } a w' η:=by
 intro us
 induction us with
 |nil=>
  intro xs k off cs s w hr hb eS DR hle
  have:xs=[]:=aio (by have:=DR.1;simpa using this.symm)
  subst this
  refine⟨w,rfl,?_⟩
  have:s.hp.set r (.box (setCells cs (off+k) []))=s.hp:=by
   apply aiO
   intro i
   by_cases hi:r=i
   ·subst hi;rw[aA hb,hb];rfl
   ·rw[getElem?_set_ne hi]
  rw[this];exact hr
 |cons u us ih=>
  intro xs k off cs s w hr hb eS DR hle
  cases xs with
  |nil=>have:=DR.1;simp at this
  |cons x xs=>
   have h0:=DR.2 0 x u rfl rfl
   simp only[aif] at hle
   obtain⟨h1,h2,u',h3⟩:=hr.write aD (off:=off+k) hb eS (by omega) h0.2 h0.1
   have fI:r5 (w.setCell ⟨b,off+k,none⟩ u) (bn Γ (w.setCell ⟨b,off+k,none⟩ u) η (s.hp.set r (.box (cs.set (off+k) x)))) η (s.hp.set r (.box (cs.set (off+k) x))) xs us:=by
    refine⟨by simpa using DR.1,fun j y z hy hz=>?_⟩
    have h4:=DR.2 (j+1) y z (by simpa using hy) (by simpa using hz)
    refine⟨?_,h4.2⟩
    refine h4.1.ext ?_
    refine⟨fun b' o v hf hc=>?_,fun b' es c hf hc=>?_,fun b' o hf=>?_,fun _ _ h=>h,fun _ _ h=>h,fun r' n v ho=>?_⟩
    ·have bK:b'≠b:=by
      intro e
      subst e
      obtain⟨o1,q1,q2⟩:=(aZ b' o).1 hf.2.2.2 r _ eS rfl
      rw[hb] at q1
      obtain rfl:=Option.some.inj q1
      exact q2
     rw[World.cell?_of_block (ajF w _ b' u (by simpa using bK))]
     exact hc
    ·have bK:b'≠b:=by
      intro e
      subst e
      obtain⟨o1,q1,q2⟩:=(aZ b' 0).1 hf.2.2.2 r _ eS rfl
      rw[hb] at q1
      obtain rfl:=Option.some.inj q1
      exact q2
     rw[ajF w _ b' u (by simpa using bK)]
     exact hc
    ·refine⟨hf.1,by simpa using hf.2.1,hf.2.2.1,(aZ b' o).2 fun r' v hv pV=>?_⟩
     obtain⟨o1,q1,q2⟩:=(aZ b' o).1 hf.2.2.2 r' v hv pV
     by_cases KZ:r=r'
     ·subst KZ
      rw[hb] at q1
      obtain rfl:=Option.some.inj q1
      exact q2.elim
     ·exact⟨o1,by rw[getElem?_set_ne KZ];exact q1,q2⟩
    ·unfold aY at ho ⊢
     by_cases KZ:r=r'
     ·subst KZ;rw[hb] at ho;exact ho.elim
     ·rw[getElem?_set_ne KZ];exact ho
   obtain⟨w',e1,e2⟩:=ih xs (k+1) off (cs.set (off+k) x) { s with hp:=s.hp.set r (.box (cs.set (off+k) x)) } (w.setCell ⟨b,off+k,none⟩ u) h1 (aA hb) eS fI (by simp;omega)
   refine⟨w',?_,?_⟩
   ·simp only[storeCells,Sem.run_bind,Addr.add_lit]
    rw[run_store _ _ _ _ _ h0.2,h3]
    simp only[h2,aij,if_false,Result.andThen_ok]
    exact e1
   ·have:(s.hp.set r (.box (cs.set (off+k) x))).set r (.box (setCells (cs.set (off+k) x) (off+(k+1)) xs))=s.hp.set r (.box (setCells cs (off+k) (x::xs))):=by
     rw[List.set_set];rfl
    simp only[this] at e2
    exact e2
theorem Hj (aD:Γ.Ok) {az:Nat→Option TD} (au:aT Γ.P az) {o:Oper} {T r off:Nat} {p x:Operand} (ho:o.op=.store T p x) {d:TD} (hd:az T=some d) (hp:s.ev p=.ptr r off) {cs:List AV} (hb:s.hp[r]?=some (.box cs))
  (hs:(s.ev x).mN=true) (hl:(s.ev x).cells.length=d.size) (hle:off+d.size≤cs.length):gR Γ o s .top (s.hp.set r (.box (setCells cs off (s.ev x).cells))):=by
 intro a w η hr
 have rM:=hr.ev p
 rw[hp] at rM
 have eU:=(hr.ev x).DQ hs
 generalize hv:a.eval p=v at rM
 cases rM with
 |ptr _ _ b eS=>
  obtain⟨w',e1,e2⟩:=DX aD (a.eval x).cells.toList (s.ev x).cells 0 off cs s w hr hb eS eU (by omega)
  refine⟨undef,w',η,.inr ⟨?_,rfl⟩,by simpa using e2,.top _⟩
  have cJ:(a.eval x).cells.size=d.size:=by rw[←hl,←eU.1];simp
  simp only[execOp,ho,hv,Instr.storeAt,Instr.sureAddr,Sem.run_bind,Sem.run_pure,Result.andThen_ok,storeVar,(au T d hd).run_sizeOf,cJ,ne_eq,not_true_eq_false,if_false,e1]
theorem AD {b off:Nat} {T:TypeId}:∀(us:List Value) (k:Nat) (cs:Array Value) (w:World),w.heap[b]?=some (.cells cs T (0,0))→off+k+us.length≤cs.size→(∀u∈us,u.oneCell'=true)→
  ∃w' iP,(storeCells ⟨b,off,none⟩ us k).run P w=.ok () w'∧w'.heap[b]?=some (.cells iP T (0,0))∧iP.toList=fT cs.toList (off+k) us∧cD (fun x=>x=b) w w'
 | [],k,cs,w,hb,_,_=>⟨w,cs,rfl,hb,rfl,cD.refl _ _⟩
 |u::us,k,cs,w,hb,hle,h1=>by
  simp only[aif] at hle
  have wK:(w.setCell ⟨b,off+k,none⟩ u).heap[b]?=some (.cells (cs.setIfInBounds (off+k) u) T (0,0)):=Go.heap_setCell_same w b (off+k) cs T u hb
  obtain⟨w',iP,e1,e2,e3,e4⟩:=AD (off:=off) us (k+1) _ _ wK (by simp;omega) fun v hv=>h1 v (aip _ hv)
  refine⟨w',iP,?_,e2,?_,?_⟩
  ·have hc:w.cell? ⟨b,off+k,none⟩=some (cs[off+k]'(by omega)):=by
    rw[cell_of_row w b (off+k) cs T (0,0) hb];simp
   have hf:=frozen_of_row w b (off+k) cs T hb
   simp only[storeCells,Sem.run_bind,Addr.add_lit]
   rw[run_store _ _ _ _ _ (h1 u aia),hc]
   simp only[hf,aij,if_false,Result.andThen_ok]
   exact e1
  ·rw[e3];simp[fT,ajt]
  ·exact(show cD (fun x=>x=b) w (w.setCell ⟨b,off+k,none⟩ u) from⟨rfl,rfl,rfl,by simp[World.setCell],fun i _ hi=>ajF w _ i u hi⟩).trans e4 fun _ _ h=>h
theorem vH (aD:Γ.Ok) {az:Nat→Option TD} (au:aT Γ.P az) {o:Oper} {T r m i z e:Nat} {p x:Operand} (ho:o.op=.store T p x) {d:TD} (hd:az T=some d) (hp:s.ev p=.fY r m i z) {els:List AV} (hb:s.hp[r]?=some (.bM e z els))
  (hs:((s.ev x).gd s.hp).mN=true) (hl:((s.ev x).gd s.hp).cells.length=d.size) (hm:m=els.length) (DN:d.size≤z) (hi:i<els.length) {el':AV} (hle:els[i].cells.length=z→el'.cells.length=z)
  (wQ:els[i].cells.length=z→∀(j:Nat) (y:AV),el'.cells[j]?=some y→(j<d.size→((s.ev x).gd s.hp).cells[j]?=some y)∧(d.size≤j→els[i].cells[j]?=some y)):gR Γ o s .top (s.hp.set r (.bM e z (els.set i el'))):=by
 intro a w η hr
 have rM:=hr.ev p
 rw[hp] at rM
 have eU:=(mM hr.heap hr.cE (hr.ev x)).DQ hs
 generalize (s.ev x).gd s.hp=el at hs hl eU wQ
 generalize hv:a.eval p=v at rM
 cases rM with
 |fY _ _ _ _ b o' c k uS=>
  have yg:=uS
  unfold aY at yg
  rw[hb] at yg
  have eS:=yg.2 hm
  obtain⟨Mc,xs,eo,eC⟩:=hr.heap.obj r _ _ hb eS
  rcases eo.2 with⟨h0,_⟩|⟨g,cap,cur,he,h0,⟨G6,MB,hg⟩,DM,IK,iK,lU⟩
  ·omega
  obtain rfl:G6=0:=Nat.le_zero.1 MB
  ·simp only[Value.slice.injEq,Option.some.injEq,Addr.mk.injEq,and_true] at he
   obtain⟨⟨rfl,rfl⟩,rfl,rfl⟩:=he
   generalize hus:(a.eval x).cells.toList=us at eU
   have UN:us.length=d.size:=by rw[eU.1,hl]
   have hold:=eC i els[i] (ah2 hi)
   have wQ:=wQ hold.1
   have hle:=hle hold.1
   have aN:(i+1)*z≤els.length*z:=aiZ _ hi
   have G1:els.length*z≤c*z:=aiZ _ DM
   rw[aiV,Nat.one_mul] at aN
   obtain⟨w',iP,e1,e2,e3,e4⟩:=AD (P:=Γ.P) (off:=0+i*z) us 0 cur w hg (by omega) fun u hu=>by
    obtain⟨j,hj⟩:=ajh hu
    have ay:j<el.cells.length:=by rw[←eU.1];exact(ahY.1 hj).1
    exact(eU.2 j _ u (ah2 ay) hj).2
   have cJ:(a.eval x).cells.size=d.size:=by rw[←hl,←eU.1,←hus];simp
   have rI:dK (.slice (some ⟨b,0,none⟩) els.length c)=some b:=ct h0
   have Q4:η.set r (.slice (some ⟨b,0,none⟩) els.length c)=η:=by
    apply aiO
    intro k
    by_cases hk:r=k
    ·subst hk;rw[aA eS,eS]
    ·rw[getElem?_set_ne hk]
   have:=Rel.change (w':=w') (o':=.bM e z (els.set i el')) (v':=.slice (some ⟨b,0,none⟩) els.length c) aD hr hb True.intro eS
    ⟨e4.os,e4.tape,e4.output,e4.size,fun k hk hkb=>e4.block k hk fun h=>hkb (by rw[rI,h])⟩
    (fun c hc=>.inl hc) (fun k hk=>hk.elim) (fun _ _ _ _ hk=>hk.elim) (fun _ _ _ _ hk=>hk.elim)
    (fun n u ho=>by
     unfold aY at ho ⊢
     rw[hb] at ho
     rw[aA hb,Q4]
     exact⟨by rw[ajb];exact ho.1,fun h=>ho.2 (by rw[ajb] at h;exact h)⟩)
    (fun _ _=>rfl) (fun _ hx=>by cases hx)
    (fun b' d' gb eG=>by rw[rI] at gb;obtain rfl:=Option.some.inj gb;rw[hg] at eG;cases eG)
    (fun he=>⟨Mc,fT xs (i*z) us,⟨by rw[iN,ajb];exact eo.1,.inr ⟨b,c,iP,by rw[ajb],h0,⟨0,ah5 _,e2⟩,by rw[ajb];exact DM,IK,by
      have:iP.toList.length=cur.toList.length:=by rw[e3,iN]
      simp only[aiL] at this
      rw[this,iK],by
      rw[ajb]
      apply aiO
      intro k
      have hlen:i*z+us.length≤cur.toList.length:=by simp only[aiL];omega
      have DY:i*z+us.length≤xs.length:=by rw[eo.1];omega
      rw[aik,dm us xs _ _ DY,e3,ai4,aiw,dm us _ _ _ hlen]
      by_cases hk:k<els.length*z
      ·rw[if_pos hk]
       by_cases wQ:i*z≤k∧k<i*z+us.length
       ·rw[if_pos wQ,if_pos wQ]
       ·rw[if_neg wQ,if_neg wQ,←lU,aik,if_pos hk]
      ·rw[if_neg hk,if_neg (by omega),aiG (by rw[eo.1];omega)]⟩⟩,fun i' el2 rJ=>by
      have DY:i*z+us.length≤xs.length:=by rw[eo.1];omega
      by_cases Md:i=i'
      ·subst Md
       rw[List.getElem?_set_self hi] at rJ
       obtain rfl:=Option.some.inj rJ
       refine⟨hle,fun j x hj=>?_⟩
       by_cases hjd:j<d.size
       ·have hj:=(wQ j x hj).1 hjd
        have s7:j<us.length:=by omega
        refine⟨us[j],?_,((eU.2 j x _ hj (ah2 s7)).1).ext he.pN.ext,(eU.2 j x _ hj (ah2 s7)).2⟩
        rw[dm us xs _ _ DY,if_pos (by omega),show i*z+j-i*z=j from by omega,ah2 s7]
       ·obtain⟨u,q1,q2,q3⟩:=hold.2 j x ((wQ j x hj).2 (by omega))
        refine⟨u,?_,q2.ext he.pN.ext,q3⟩
        rw[dm us xs _ _ DY,if_neg (by omega)]
        exact q1
      ·rw[getElem?_set_ne Md] at rJ
       refine⟨(eC i' el2 rJ).1,fun j x hj=>?_⟩
       obtain⟨u,q1,q2,q3⟩:=(eC i' el2 rJ).2 j x hj
       refine⟨u,?_,q2.ext he.pN.ext,q3⟩
       have hjz:j<z:=by rw[←(eC i' el2 rJ).1];exact(ahY.1 hj).1
       rw[dm us xs _ _ DY,if_neg ?_]
       ·exact q1
       ·rw[UN]
        rcases Nat.lt_or_gt_of_ne Md with h|h
        ·have:=aiZ z (show i+1≤i' from h)
         rw[aiV,Nat.one_mul] at this;omega
        ·have:=aiZ z (show i'+1≤i from h)
         rw[aiV,Nat.one_mul] at this;omega⟩)
   rw[Q4] at this
   refine⟨undef,w',η,.inr ⟨?_,rfl⟩,this,.top _⟩
   simp only[execOp,ho,hv,Instr.storeAt,Instr.sureAddr,Sem.run_bind,Sem.run_pure,Result.andThen_ok,storeVar,(au T d hd).run_sizeOf,cJ,ne_eq,not_true_eq_false,if_false,hus,e1]
theorem DZ (aD:Γ.Ok) {az:Nat→Option TD} (au:aT Γ.P az) {o:Oper} {T r m i z e:Nat} {p x:Operand} (ho:o.op=.store T p x) {d:TD} (hd:az T=some d) (hp:s.ev p=.fY r m i z) {els:List AV} (hb:s.hp[r]?=some (.bM e z els))
  (hs:((s.ev x).gd s.hp).mN=true) (hl:((s.ev x).gd s.hp).cells.length=d.size) (hm:m=els.length) (DN:d.size=z) (hi:i<els.length):gR Γ o s .top (s.hp.set r (.bM e z (els.set i ((s.ev x).gd s.hp)))):=
 vH aD au ho hd hp hb hs hl hm (Nat.le_of_eq DN) hi (fun _=>by rw[hl,DN]) fun _ j y hy=>⟨fun _=>hy,fun h=>by have:=(ahY.1 hy).1;omega⟩
theorem lW:∀(xs cs:List AV) (k j:Nat),k+xs.length≤cs.length→(setCells cs k xs)[j]?=if k≤j∧j<k+xs.length then xs[j-k]? else cs[j]?
 | [],cs,k,j,_=>by rw[setCells,if_neg (by simp only[aiK];omega)]
 |x::xs,cs,k,j,h=>by
  simp only[aif] at h
  rw[setCells,lW xs _ _ _ (by rw[ajb];omega)]
  by_cases e:k=j
  ·subst e
   rw[if_neg (by omega),if_pos (by simp only[aif];omega),ajG,aiS,List.getElem?_set_self (by omega)]
  ·rw[getElem?_set_ne e]
   by_cases h2:k+1≤j∧j<k+1+xs.length
   ·rw[if_pos h2,if_pos (by simp only[aif];omega),show j-k=j-(k+1)+1 from by omega,aiB]
   ·rw[if_neg h2,if_neg (by simp only[aif];omega)]
theorem D1 (aD:Γ.Ok) {az:Nat→Option TD} (au:aT Γ.P az) {o:Oper} {T r m i z e:Nat} {p x:Operand} (ho:o.op=.store T p x) {d:TD} (hd:az T=some d) (hp:s.ev p=.fY r m i z) {els:List AV} (hb:s.hp[r]?=some (.bM e z els))
  (hs:((s.ev x).gd s.hp).mN=true) (hl:((s.ev x).gd s.hp).cells.length=d.size) (hm:m=els.length) (DN:d.size≤z) (hi:i<els.length):gR Γ o s .top (s.hp.set r (.bM e z (els.set i (.agg (setCells (els.getD i .top).cells 0 ((s.ev x).gd s.hp).cells))))):=by
 have hg:els.getD i .top=els[i]:=by simp[List.getD,hi]
 rw[hg]
 refine vH aD au ho hd hp hb hs hl hm DN hi (fun h=>by show (setCells _ 0 _).length=z;rw[wJ,h]) fun h j y hy=>?_
 have GX:(setCells els[i].cells 0 ((s.ev x).gd s.hp).cells)[j]?=some y:=hy
 rw[lW _ _ _ _ (by rw[hl,h];omega),hl] at GX
 refine⟨fun hj=>?_,fun hj=>?_⟩
 ·rw[if_pos (by omega)] at GX;exact GX
 ·rw[if_neg (by omega)] at GX;exact GX
theorem yu (aD:Γ.Ok) {az:Nat→Option TD} (au:aT Γ.P az) {o:Oper} {T e:Nat} {l c:Operand} (ho:o.op=.makeSlice T l c) {d d':TD} (hd:az T=some d) (hk:d.kind=.lO e) (eG:az e=some d')
  {k k':IntKind} {n:Int} (hl:s.ev l=.ah (.int k 0)) (hc:s.ev c=.ah (.int k' n)) (h0:0≤n) (BA:n≤9223372036854775807) (XD:(d'.bytes:Int)*n≤281474976710656) (cJ:0<d'.size):
  gR Γ o s (.own s.hp.length 0) (s.hp++[.row e d'.size []]):=by
 intro a w η hr
 have Ma:=hr.ev l
 have UL:=hr.ev c
 rw[hl] at Ma;rw[hc] at UL
 have iL:=au e d' eG
 obtain⟨i,pG,sX,DB,IL⟩:=iL.info
 have hu:Γ.P.underlying T=some (.slice e):=by
  obtain⟨u,q2,q3⟩:=(au T d hd).jR
  rw[hk] at q3
  rw[q2];exact congrArg some q3
 have hw:IntKind.i64.wrap n=n:=by
  simp only[IntKind.wrap,IntKind.bits,IntKind.signed];simp;omega
 have hw0:IntKind.i64.wrap 0=0:=by decide
 have IW:((decide (n<0)||decide ((d'.bytes:Int)*n>2 ^ 48))||decide ((0:Int)<0)||decide ((0:Int)>n))=false:=by
  simp;omega
 have gM:∃arr:Array Value,arr.size=n.toNat*d'.size∧(execOp a.eval o).run Γ.P w=.ok (.value (.slice (some ⟨w.heap.size,0,none⟩) 0 n.toNat)) (w.alloc (.cells arr e)):=by
  by_cases hz:n.toNat*d'.size=0
  ·refine⟨(Array.range (n.toNat*d'.size)).map ((#[]:Array Value)[· % (#[]:Array Value).size]!),by simp,?_⟩
   simp only[execOp,ho,Instr.makeSlice,Sem.run_bind,run_underlying hu,Result.andThen_ok,asInt,Ma.aE,UL.aE,asIntOf,Sem.run_pure,typeInfo,run_program,pG,DB,hw,hw0,IW,aij,if_false,run_askRoom,sizeOf,sX,if_pos hz,newRow,run_newObj]
   rfl
  ·refine⟨(Array.range (n.toNat*d'.size)).map (d'.zero.cells[· % d'.zero.cells.size]!),by simp,?_⟩
   simp only[execOp,ho,Instr.makeSlice,Sem.run_bind,run_underlying hu,Result.andThen_ok,asInt,Ma.aE,UL.aE,asIntOf,Sem.run_pure,typeInfo,run_program,pG,DB,hw,hw0,IW,aij,if_false,run_askRoom,sizeOf,sX,if_neg hz,iL.jS,newRow,run_newObj]
   rfl
 obtain⟨arr,rL,gM⟩:=gM
 have zX:=bX.alloc w (.cells arr e)
 refine⟨_,_,η++[.slice (some ⟨w.heap.size,0,none⟩) 0 n.toNat],.inl gM,?_,?_⟩
 ·refine hr.add aD zX (fun b hb=>?_) ⟨cJ,[],⟨by simp,?_⟩,fun i el hi=>by simp at hi⟩
  ·simp only[dK] at hb
   split at hb
   ·cases hb
   ·obtain rfl:=Option.some.inj hb;exact ah5 _
  ·by_cases hn:n.toNat=0
   ·exact .inl ⟨rfl,.inr ⟨_,by rw[hn]⟩⟩
   ·exact .inr ⟨w.heap.size,n.toNat,arr,rfl,by omega,⟨0,ah3 _,heap_alloc_new w _⟩,ah3 _,by simp only[maxLen];omega,rL,by simp⟩
 ·refine .own _ 0 _ rfl ?_
  unfold aY
  have:(s.hp++[af.row e d'.size []])[s.hp.length]?=some (.row e d'.size []):=by simp
  rw[this]
  exact⟨ah5 _,fun _=>by rw[←hr.heap.len];simp⟩
theorem Hl (aD:Γ.Ok) {az:Nat→Option TD} (au:aT Γ.P az) {o:Oper} {T e:Nat} {l c:Operand} (ho:o.op=.makeSlice T l c) {d d':TD} (hd:az T=some d) (hk:d.kind=.lO e) (eG:az e=some d')
  {k k':IntKind} {n:Int} (hl:s.ev l=.ah (.int k n)) (hc:s.ev c=.ah (.int k' n)) (h0:0≤n) (BA:n≤9223372036854775807) (XD:(d'.bytes:Int)*n≤281474976710656) {z:Value} (hz:DW d'=some z):
  gR Γ o s (.own s.hp.length (List.replicate n.toNat (AV.ah z)).length) (s.hp++[.bM e 1 (List.replicate n.toNat (.ah z))]):=by
 intro a w η hr
 have Ma:=hr.ev l
 have UL:=hr.ev c
 rw[hl] at Ma;rw[hc] at UL
 have iL:=au e d' eG
 obtain⟨i,pG,sX,DB,IL⟩:=iL.info
 obtain⟨MO,hzc,KT⟩:=ML hz
 have hu:Γ.P.underlying T=some (.slice e):=by
  obtain⟨u,q2,q3⟩:=(au T d hd).jR
  rw[hk] at q3
  rw[q2];exact congrArg some q3
 have hw:IntKind.i64.wrap n=n:=by
  simp only[IntKind.wrap,IntKind.bits,IntKind.signed];simp;omega
 have IW:((decide (n<0)||decide ((d'.bytes:Int)*n>2 ^ 48))||decide (n<0)||decide (n>n))=false:=by
  simp;omega
 have gM:∃arr:Array Value,arr.toList=List.replicate n.toNat z∧(execOp a.eval o).run Γ.P w=.ok (.value (.slice (some ⟨w.heap.size,0,none⟩) n.toNat n.toNat)) (w.alloc (.cells arr e)):=by
  by_cases hz:n.toNat*d'.size=0
  ·have qL:n.toNat=0:=by rw[MO] at hz;omega
   refine⟨(Array.range (n.toNat*d'.size)).map ((#[]:Array Value)[· % (#[]:Array Value).size]!),by rw[hz,qL];simp,?_⟩
   simp only[execOp,ho,Instr.makeSlice,Sem.run_bind,run_underlying hu,Result.andThen_ok,asInt,Ma.aE,UL.aE,asIntOf,Sem.run_pure,typeInfo,run_program,pG,DB,hw,IW,aij,if_false,run_askRoom,sizeOf,sX,if_pos hz,newRow,run_newObj]
   rfl
  ·refine⟨(Array.range (n.toNat*d'.size)).map (d'.zero.cells[· % d'.zero.cells.size]!),?_,?_⟩
   ·rw[MO,hzc,ajg]
    refine List.ext_getElem (by simp) fun j h1 h2=>?_
    simp[Nat.mod_one]
   simp only[execOp,ho,Instr.makeSlice,Sem.run_bind,run_underlying hu,Result.andThen_ok,asInt,Ma.aE,UL.aE,asIntOf,Sem.run_pure,typeInfo,run_program,pG,DB,hw,IW,aij,if_false,run_askRoom,sizeOf,sX,if_neg hz,iL.jS,newRow,run_newObj]
   rfl
 obtain⟨arr,k6,gM⟩:=gM
 have rL:arr.size=n.toNat:=by rw[←aiL,k6,ajJ]
 have zX:=bX.alloc w (.cells arr e)
 have hle:=ajJ (n:=n.toNat) (a:=AV.ah z)
 refine⟨_,_,η++[.slice (some ⟨w.heap.size,0,none⟩) n.toNat n.toNat],.inl gM,?_,?_⟩
 ·refine hr.add aD zX (fun b hb=>?_) ⟨Nat.one_pos,List.replicate n.toNat z,⟨by simp,?_⟩,fun i el hi=>?_⟩
  ·simp only[dK] at hb
   split at hb
   ·cases hb
   ·obtain rfl:=Option.some.inj hb;exact ah5 _
  ·rw[hle]
   by_cases hn:n.toNat=0
   ·exact .inl ⟨hn,.inr ⟨_,by rw[hn]⟩⟩
   ·exact .inr ⟨w.heap.size,n.toNat,arr,rfl,by omega,⟨0,ah5 _,heap_alloc_new w _⟩,ah5 _,by simp only[maxLen];omega,by omega,by rw[k6,ah9 (by simp)]⟩
  ·obtain⟨ay,rfl⟩:i<n.toNat∧el=.ah z:=by
    rw[List.getElem?_replicate] at hi
    split at hi
    ·rename_i ay;exact⟨ay,(Option.some.inj hi).symm⟩
    ·cases hi
   refine⟨rfl,fun j x hj=>?_⟩
   have vD:[AV.ah z][j]?=some x:=hj
   cases j with
   |zero=>
    obtain rfl:=Option.some.inj vD
    exact⟨z,by rw[List.getElem?_replicate,if_pos (by omega)],.ah z,KT⟩
   |succ j=>simp at vD
 ·refine .own _ _ _ rfl ?_
  unfold aY
  have:(s.hp++[af.bM e 1 (List.replicate n.toNat (.ah z))])[s.hp.length]?=some (.bM e 1 (List.replicate n.toNat (.ah z))):=by simp
  rw[this]
  refine⟨ah5 _,fun _=>?_⟩
  have hlen:η.length=s.hp.length:=hr.heap.len
  rw[←hlen];simp
theorem lX (aD:Γ.Ok) {az:Nat→Option TD} (au:aT Γ.P az) {o:Oper} {c:Call} (ho:o.op=.call c) (hb:c.callee=.builtin .append) {b x:Operand} (hl:c.args.toList=[b,x]) {T e:Nat} (hT:c.argTypes.toList=[T,T]) {d d':TD} (hd:az T=some d)
  (hk:d.kind=.lO e) (eG:az e=some d') {aG:List AV} (hx:(s.ev x).jq s.hp=some aG) {r:AV} {hp':List af}
  (h:(∃els,(s.ev b=.ah (.slice none 0 0)∧els=[]∨s.ev b=.clip els)∧0<d'.size∧(aG=[]→els=[])∧bL d' (els.length+aG.length) els aG∧r=.own s.hp.length (els.length+aG.length)∧hp'=s.hp++[.row e d'.size (els++aG)])∨
   (∃M n els,s.ev b=.own n els.length∧s.hp[n]?=some (pH M e d'.size els)∧bL d' (els.length+aG.length) [] aG∧r=.own n (els.length+aG.length)∧hp'=s.hp.set n (pH M e d'.size (els++aG)))):gR Γ o s r hp':=by
 intro a w η hr
 have hu:Γ.P.underlying T=some (.slice e):=by
  obtain⟨u,q2,q3⟩:=(au T d hd).jR
  rw[hk] at q3
  rw[q2];exact congrArg some q3
 have eU:=kW hr.heap hr.cE (hr.ev x) hx
 have IX:=hr.ev b
 have pW:c.argTypes=#[T,T]:=by rw[←aiF (xs:=c.argTypes),hT]
 have aI:c.args=#[b,x]:=by rw[←aiF (xs:=c.args),hl]
 have oU:∀v w',(Builtin.append_ #[T,T] o.type #[a.eval b,a.eval x]).run Γ.P w=.ok v w'→(execOp a.eval o).run Γ.P w=.ok (.value v) w':=by
  intro v w' gM
  simp only[execOp,ho,resolve,hb,Sem.run_bind,Sem.run_pure,Result.andThen_ok,invoke,builtin,pW,aI,ajx,ais,aiY,gM]
 rcases h with⟨els,pV,cJ,bK,s8,rfl,rfl⟩|⟨M,n,els,pV,eo,s8,rfl,rfl⟩
 ·have DU:a.eval b=.slice none 0 0∧els=[]∨bw w (bn Γ w η s.hp) η s.hp (.clip els) (a.eval b):=by
   rcases pV with⟨h1,h2⟩|h1
   ·rw[h1] at IX;exact .inl ⟨IX.aE,h2⟩
   ·rw[h1] at IX;exact .inr IX
  obtain⟨v',w',h1,h2,h3⟩:=x6 aD hr (ty:=o.type) hu (au e d' eG) cJ DU eU s8.1 s8.2.1 bK s8.2.2.1 s8.2.2.2 (ob:=.row e d'.size (els++aG)) (.inl rfl)
  refine⟨v',w',η++[v'],.inl (oU _ _ h1),h2,.own _ _ _ h3 ?_⟩
  unfold aY
  have:(s.hp++[af.row e d'.size (els++aG)])[s.hp.length]?=some (.row e d'.size (els++aG)):=by simp
  rw[this]
  exact⟨by simp,fun _=>by rw[←hr.heap.len];simp⟩
 ·rw[pV] at IX
  have uK:aY η s.hp n els.length (a.eval b):=by cases IX;assumption
  have uO:η[n]?=some (a.eval b):=((mK eo).1 uK).2 rfl
  obtain⟨news,hn⟩:=sY (ty:=o.type) hu (au e d' eG) (pS.1 (hr.heap.obj n _ _ eo uO)).1 eU s8.2.1
  obtain⟨v',w',aU,h1,h2,h3,h4⟩:=x9 aD hr (au e d' eG) eo uK hn s8.2.1 s8.2.2.1 s8.2.2.2
  exact⟨v',w',aU,.inl (oU _ _ h1),h2,.own _ _ _ h3 ((mK (aA eo)).2 ⟨by simp,fun _=>h4⟩)⟩
theorem BL (aD:Γ.Ok) {az:Nat→Option TD} (au:aT Γ.P az) {o:Oper} {c:Call} (ho:o.op=.call c) (hb:c.callee=.builtin .append) {b x:Operand} (hl:c.args.toList=[b,x]) {T e:Nat} (hT:c.argTypes.toList=[T,T]) {d d':TD} (hd:az T=some d)
  (hk:d.kind=.lO e) (eG:az e=some d') {aG:List AV} (hx:(s.ev x).jq s.hp=some aG) {els:List AV} (pV:s.ev b=.ah (.slice none 0 0)∧els=[]∨s.ev b=.clip els) (cJ:0<d'.size) (bK:aG=[]→els=[]) (s8:bL d' (els.length+aG.length) els aG):
  gR Γ o s (.own s.hp.length (els++aG).length) (s.hp++[.bM e d'.size (els++aG)]):=by
 intro a w η hr
 have hu:Γ.P.underlying T=some (.slice e):=by
  obtain⟨u,q2,q3⟩:=(au T d hd).jR
  rw[hk] at q3
  rw[q2];exact congrArg some q3
 have eU:=kW hr.heap hr.cE (hr.ev x) hx
 have IX:=hr.ev b
 have pW:c.argTypes=#[T,T]:=by rw[←aiF (xs:=c.argTypes),hT]
 have aI:c.args=#[b,x]:=by rw[←aiF (xs:=c.args),hl]
 have oU:∀v w',(Builtin.append_ #[T,T] o.type #[a.eval b,a.eval x]).run Γ.P w=.ok v w'→(execOp a.eval o).run Γ.P w=.ok (.value v) w':=by
  intro v w' gM
  simp only[execOp,ho,resolve,hb,Sem.run_bind,Sem.run_pure,Result.andThen_ok,invoke,builtin,pW,aI,ajx,ais,aiY,gM]
 have DU:a.eval b=.slice none 0 0∧els=[]∨bw w (bn Γ w η s.hp) η s.hp (.clip els) (a.eval b):=by
  rcases pV with⟨h1,h2⟩|h1
  ·rw[h1] at IX;exact .inl ⟨IX.aE,h2⟩
  ·rw[h1] at IX;exact .inr IX
 obtain⟨v',w',h1,h2,h3⟩:=x6 aD hr (ty:=o.type) hu (au e d' eG) cJ DU eU s8.1 s8.2.1 bK s8.2.2.1 s8.2.2.2 (ob:=.bM e d'.size (els++aG)) (.inr rfl)
 refine⟨v',w',η++[v'],.inl (oU _ _ h1),h2,.own _ _ _ h3 ?_⟩
 unfold aY
 have:(s.hp++[af.bM e d'.size (els++aG)])[s.hp.length]?=some (.bM e d'.size (els++aG)):=by simp
 rw[this]
 exact⟨ah5 _,fun _=>by rw[←hr.heap.len];simp⟩
theorem s9 (aD:Γ.Ok) {o:Oper} {T:Nat} (ho:o.op=.makeMap T none) {me:ME} (hme:KP me=[]):gR Γ o s (.mp s.hp.length) (s.hp++[.cQ me]):=by
 intro a w η hr
 have zX:=bX.alloc w (.map #[] 0)
 refine⟨.map (some w.heap.size),_,η++[.map (some w.heap.size)],.inl (by simp[execOp,ho,Instr.makeMap];rfl),?_,?_⟩
 ·exact hr.add aD zX (fun b hb=>by simp only[dK,Option.some.injEq] at hb;omega) ⟨w.heap.size,#[],0,rfl,World.alloc_heap_new w _,hme.symm⟩
 ·exact .mp _ w.heap.size (by rw[←hr.heap.len];simp)
theorem MP {κ:Type} [DecidableEq κ] {td:TypeDesc} {kv:κ→Value} {me:List (κ×Value)→ME} (K:KY td kv me) {a:κ} {v:Value}:∀(es:List MapEntry) (l:List (κ×Value)) (i:Nat),(es.map fun e=>(e.key,e.val))=l.map (fun p=>(kv p.1,p.2))→
  (∃j u,Instr.findNow td (kv a) es i=some (some (i+j,u))∧(es[j]?).map (·.key)=some (kv a)∧((es.modify j fun e=>{ e with key:=kv a,val:=v }).map fun e=>(e.key,e.val))=(dG l a v).map (fun p=>(kv p.1,p.2)))∨
   (Instr.findNow td (kv a) es i=some none∧(dG l a v).map (fun p=>(kv p.1,p.2))=(es.map fun e=>(e.key,e.val))++[(kv a,v)]):=by
 intro es
 induction es with
 |nil=>
  intro l i h
  cases l with
  |nil=>exact .inr ⟨rfl,rfl⟩
  |cons p l=>simp at h
 |cons e es ih=>
  intro l i h
  cases l with
  |nil=>simp at h
  |cons p l=>
   obtain⟨key,u⟩:=p
   simp only[ais,List.cons.injEq,Prod.mk.injEq] at h
   obtain⟨⟨h1,h2⟩,h3⟩:=h
   simp only[Instr.findNow,h1,K.same,dG]
   by_cases VM:a=key
   ·subst VM
    simp only[decide_true,if_true]
    refine .inl ⟨0,e.val,rfl,by simp[h1],?_⟩
    simp only[List.modify_zero_cons,ais]
    rw[h3]
   ·simp only[if_neg VM,decide_eq_false VM]
    rcases ih l (i+1) h3 with⟨j,u',g1,g2,g3⟩|⟨g1,g2⟩
    ·refine .inl ⟨j+1,u',by rw[g1];congr 3;omega,by simpa using g2,?_⟩
     simp only[List.modify_succ_cons,ais,h1,h2]
     rw[g3]
    ·refine .inr ⟨g1,?_⟩
     simp only[ais,ai1,h1,h2] at g2 ⊢
     rw[g2]
theorem pX {κ:Type} [DecidableEq κ] {td:TypeDesc} {kv:κ→Value} {me:List (κ×Value)→ME} (K:KY td kv me) (aD:Γ.Ok) {az:Nat→Option TD} (au:aT Γ.P az) {o:Oper} {T kt et r:Nat} {m k x:Operand} (ho:o.op=.mapUpdate T m k x) {d dk:TD} (hd:az T=some d) (jV:d.kind=.pQ kt et) (oT:az kt=some dk) (xl:∀u,dk.kind.fits Γ.P u→u=td)
  (hm:s.ev m=.mp r) {es:List (κ×Value)} (xm:s.hp[r]?=some (.cQ (me es))) {a:κ} (hk:s.ev k=.ah (kv a)) {v:Value} (hx:s.ev x=.ah v):gR Γ o s .top (s.hp.set r (.cQ (me (dG es a v)))):=by
 intro act w η hr
 have hu:Γ.P.underlying T=some (.map kt et):=by
  obtain⟨u,q2,q3⟩:=(au T d hd).jR
  rw[jV] at q3
  rw[q2];exact congrArg some q3
 have Q0:Γ.P.underlying kt=some td:=by
  obtain⟨u,q2,q3⟩:=(au kt dk oT).jR
  rw[q2];exact congrArg some (xl u q3)
 have Q1:=hr.ev k
 rw[hk] at Q1
 have VN:=Q1.aE
 have eU:=hr.ev x
 rw[hx] at eU
 have vF:=eU.aE
 have Q2:=hr.ev m
 rw[hm] at Q2
 generalize Q3:act.eval m=mv at Q2
 cases Q2 with
 |mp _ b eS=>
  obtain⟨b',en,c,e1,lV,yt⟩:=hr.heap.obj r _ _ xm eS
  simp only[Value.map.injEq,Option.some.injEq] at e1
  subst e1
  have ay:=bY lV
  have ep:(getObj b).run Γ.P w=.ok (.map en c) w:=by simp[getObj,Sem.run,lV]
  have wK:∀o',(setObj b o').run Γ.P w=.ok () (w.putObj b o'):=fun o'=>by simp[setObj,Sem.run,lV,World.putObj]
  have key:∀XJ c',mI XJ=KP (me (dG es a v))→Rel Γ { s with hp:=s.hp.set r (.cQ (me (dG es a v))) } act (w.putObj b (.map XJ c')) η:=by
   intro XJ c' hp'
   have Q4:η.set r (.map (some b))=η:=by
    apply aiO
    intro i
    by_cases hi:r=i
    ·subst hi;rw[aA eS,eS]
    ·rw[getElem?_set_ne hi]
   have:=Rel.change (w':=w.putObj b (.map XJ c')) (o':=.cQ (me (dG es a v))) (v':=.map (some b)) aD hr xm True.intro eS
    ⟨rfl,rfl,rfl,by simp,fun q hq hb=>World.putObj_heap_other (fun e=>hb (by rw[e];rfl))⟩
    (fun q hq=>.inl hq) (fun q hq=>hq.elim) (fun _ _ _ _ hq=>hq.elim) (fun _ _ _ _ hq=>hq.elim)
    (fun n u xZ=>by simp[aY,xm] at xZ) (fun _ hq=>by cases hq) (fun _ _=>rfl)
    (fun q dd hb hdd=>by simp only[dK,Option.some.injEq] at hb;subst hb;rw[lV] at hdd;cases hdd)
    (fun _=>⟨b,XJ,c',rfl,World.putObj_heap_same ay,hp'⟩)
   rw[Q4] at this
   exact this
  have Qx:∀q,Instr.findNow td (kv a) en.toList 0=some q→(Instr.findKey kt (kv a) en.toList).run Γ.P w=.ok q w:=fun q hq=>by
   simp only[Instr.findKey,Sem.run_bind,run_underlying Q0,Result.andThen_ok,hq,Sem.run_pure]
  rcases MP K (a:=a) (v:=v) en.toList es 0 (yt.trans (K.me es)) with⟨j,u,g1,g2,g3⟩|⟨g1,g2⟩
  ·rw[aiw] at g1
   have hj:(en[j]?).map (·.key)=some (kv a):=by simpa using g2
   have abz:(Instr.keyThatStays (((en[j]?).map (·.key)).getD (kv a)) (kv a)).run Γ.P w=.ok (kv a) w:=by
    rw[hj]
    simp[Instr.keyThatStays,K.bits]
   refine⟨undef,_,η,.inr ⟨?_,rfl⟩,key (en.modify j fun e=>{ e with key:=kv a,val:=v }) c ?_,.top _⟩
   ·simp only[execOp,ho,Q3,VN,vF,Instr.mapUpdate,Sem.run_bind,run_underlying hu,Result.andThen_ok,ep,K.check _ _ _ _ _ Q0,Qx _ g1,abz,wK,Sem.run_pure]
   ·unfold mI;rw[Array.toList_modify,K.me];exact g3
  ·refine⟨undef,_,η,.inr ⟨?_,rfl⟩,key (en.push { key:=kv a,val:=v,born:=c }) (c+1) ?_,.top _⟩
   ·simp only[execOp,ho,Q3,VN,vF,Instr.mapUpdate,Sem.run_bind,run_underlying hu,Result.andThen_ok,ep,K.check _ _ _ _ _ Q0,Qx _ g1,wK,Sem.run_pure]
   ·unfold mI;rw[K.me,g2];simp
theorem jy (aD:Γ.Ok) {az:Nat→Option TD} (au:aT Γ.P az) {o:Oper} {c:Prop} {r:AV} {hp':List af} (h:dV az s.hp s.ev o.op=some (c,r,hp')) (hc:c):gR Γ o s r hp':=by
 generalize ho:o.op=op at h
 cases op with
 |alloc T=>
  simp only[dV] at h
  split at h
  ·rename_i d hd
   simp only[Option.some.injEq,Prod.mk.injEq] at h
   obtain⟨_,rfl,rfl⟩:=h
   exact Hi aD au ho hd
  ·cases h
 |box T x=>
  simp only[dV] at h
  split at h
  ·rename_i hs
   simp only[Option.some.injEq,Prod.mk.injEq] at h
   obtain⟨_,rfl,rfl⟩:=h
   exact MN aD ho hs
  ·cases h
 |store T p x=>
  simp only[dV] at h
  split at h
  ·rename_i d r' off hd hp
   split at h
   ·rename_i cs iK
    split at h
    ·rename_i hs
     simp only[Option.some.injEq,Prod.mk.injEq] at h
     obtain⟨rfl,rfl,rfl⟩:=h
     exact Hj aD au ho hd hp iK hs hc.1 hc.2
    ·cases h
   ·cases h
  ·rename_i d r' m i z hd hp
   split at h
   ·rename_i e size els iK
    split at h
    ·rename_i hs
     obtain⟨hs,rfl⟩:=hs
     split at h
     ·rename_i DN
      simp only[Option.some.injEq,Prod.mk.injEq] at h
      obtain⟨rfl,rfl,rfl⟩:=h
      exact DZ aD au ho hd hp iK hs hc.1 hc.2.1 DN hc.2.2
     ·simp only[Option.some.injEq,Prod.mk.injEq] at h
      obtain⟨rfl,rfl,rfl⟩:=h
      exact D1 aD au ho hd hp iK hs hc.1 hc.2.2.1 hc.2.1 hc.2.2.2
    ·cases h
   ·cases h
  ·cases h
 |makeSlice T l c'=>
  simp only[dV] at h
  split at h
  ·rename_i d hd
   split at h
   ·rename_i e hk
    split at h
    ·rename_i Xo
     obtain rfl:=Hh Xo
     split at h
     ·rename_i d' k n eG MQ
      split at h
      ·rename_i z hz
       simp only[Option.some.injEq,Prod.mk.injEq] at h
       obtain⟨rfl,rfl,rfl⟩:=h
       exact Hl aD au ho hd hk eG MQ MQ hc.1 hc.2.1 hc.2.2 hz
      ·cases h
     ·cases h
    split at h
    ·rename_i d' k k' n eG hl MQ
     simp only[Option.some.injEq,Prod.mk.injEq] at h
     obtain⟨rfl,rfl,rfl⟩:=h
     exact yu aD au ho hd hk eG hl MQ hc.1 hc.2.1 hc.2.2.1 hc.2.2.2
    ·cases h
   ·cases h
  ·cases h
 |makeMap T r'=>
  cases r' with
  |some r'=>simp[dV] at h
  |none=>
   simp only[dV] at h
   split at h
   ·split at h
    ·split at h
     ·split at h
      ·simp only[Option.some.injEq,Prod.mk.injEq] at h
       obtain⟨_,rfl,rfl⟩:=h
       exact s9 aD ho rfl
      ·simp only[Option.some.injEq,Prod.mk.injEq] at h
       obtain⟨_,rfl,rfl⟩:=h
       exact s9 aD ho rfl
     ·cases h
    ·cases h
   ·cases h
 |mapUpdate T m k x=>
  simp only[dV] at h
  split at h
  ·rename_i d r' a v hd hm hk hx
   split at h
   ·rename_i kt et es jV xm
    split at h
    ·rename_i dk oT
     split at h
     ·rename_i ik xl
      simp only[Option.some.injEq,Prod.mk.injEq] at h
      obtain⟨_,rfl,rfl⟩:=h
      exact pX (XH ik) aD au ho hd jV oT (fun u hu=>by rw[xl] at hu;exact hu) hm xm hk hx
     ·cases h
    ·cases h
   ·cases h
  ·rename_i d r' a v hd hm hk hx
   split at h
   ·rename_i kt et es jV xm
    split at h
    ·rename_i dk oT
     split at h
     ·rename_i xl
      simp only[Option.some.injEq,Prod.mk.injEq] at h
      obtain⟨_,rfl,rfl⟩:=h
      exact pX XI aD au ho hd jV oT (fun u hu=>by rw[xl] at hu;exact hu) hm xm hk hx
     ·cases h
    ·cases h
   ·cases h
  ·cases h
 |call cl=>
  simp only[dV] at h
  split at h
  ·rename_i b x T T' hb hl hT
   split at h
   ·rename_i Xp
    subst Xp
    split at h
    ·rename_i d hd
     split at h
     ·rename_i e hk
      split at h
      ·rename_i d' aG eG hx
       split at h
       ·rename_i pV
        simp only[Option.some.injEq,Prod.mk.injEq] at h
        obtain⟨rfl,rfl,rfl⟩:=h
        exact lX aD au ho hb hl hT hd hk eG hx (.inl ⟨[],.inl ⟨pV,rfl⟩,hc.1,fun _=>rfl,by simpa using hc.2,by simp,by simp⟩)
       ·rename_i els pV
        simp only[Option.some.injEq,Prod.mk.injEq] at h
        obtain⟨rfl,rfl,rfl⟩:=h
        exact lX aD au ho hb hl hT hd hk eG hx (.inl ⟨els,.inr pV,hc.1,hc.2.1,hc.2.2,rfl,rfl⟩)
       ·rename_i n m pV
        split at h
        ·rename_i e' size els eo
         split at h
         ·rename_i mP
          obtain⟨rfl,rfl,rfl⟩:=mP
          simp only[Option.some.injEq,Prod.mk.injEq] at h
          obtain⟨rfl,rfl,rfl⟩:=h
          exact lX aD au ho hb hl hT hd hk eG hx (.inr ⟨false,n,els,pV,eo,hc,rfl,rfl⟩)
         ·cases h
        ·rename_i e' size els eo
         split at h
         ·rename_i mP
          obtain⟨rfl,rfl,rfl⟩:=mP
          simp only[Option.some.injEq,Prod.mk.injEq] at h
          obtain⟨rfl,rfl,rfl⟩:=h
          exact lX aD au ho hb hl hT hd hk eG hx (.inr ⟨true,n,els,pV,eo,hc,rfl,rfl⟩)
         ·cases h
        ·cases h
       ·cases h
      ·cases h
     ·cases h
    ·cases h
   ·cases h
  ·cases h
 |_=>simp[dV] at h
end
end Go.Proofs.YtjhanogfpkbamaaGreatDoor
