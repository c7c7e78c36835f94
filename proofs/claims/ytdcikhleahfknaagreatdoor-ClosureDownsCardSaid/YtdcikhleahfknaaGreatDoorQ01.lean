/- Texts of ours laid together for a claim: FilA FilB FilC FilD FilE FilF FilG FilH FilI FilJ FilK FilL FilM. -/
import Derived.WalkKit
import Derived.CallsIn
import Derived.RangeFuncRecord
import Derived.Laws.AppendOwn
import Derived.Lib.AppendStr
import Derived.ArgAppend
namespace Go.Proofs.YtdcikhleahfknaaGreatDoor
open Go
theorem als:type_of% @Option.some.injEq:=@Option.some.injEq
theorem alu:type_of% @List.getElem?_eq_some_iff:=@List.getElem?_eq_some_iff
theorem alv:type_of% @List.length_map:=@List.length_map
theorem alw:type_of% @Option.some.inj:=@Option.some.inj
theorem alx:type_of% @Prod.mk.injEq:=@Prod.mk.injEq
theorem aly:type_of% @List.getElem?_eq_getElem:=@List.getElem?_eq_getElem
theorem alz:type_of% @List.length_append:=@List.length_append
theorem alA:type_of% @Nat.le_refl:=@Nat.le_refl
theorem alB:type_of% @Bool.and_eq_true:=@Bool.and_eq_true
theorem alC:type_of% @List.drop_eq_getElem_cons:=@List.drop_eq_getElem_cons
theorem alD:type_of% @List.drop_eq_nil_of_le:=@List.drop_eq_nil_of_le
theorem alE:type_of% @Nat.zero_le:=@Nat.zero_le
theorem alF:type_of% @List.mem_of_getElem?:=@List.mem_of_getElem?
theorem alG:type_of% @List.getElem_mem:=@List.getElem_mem
theorem alH:type_of% @List.getElem?_append_left:=@List.getElem?_append_left
theorem alI:type_of% @List.take_of_length_le:=@List.take_of_length_le
theorem alJ:type_of% @List.length_cons:=@List.length_cons
theorem alK:type_of% @List.all_eq_true:=@List.all_eq_true
theorem alL:type_of% @List.take_succ_eq_append_getElem:=@List.take_succ_eq_append_getElem
theorem alM:type_of% @List.getElem?_map:=@List.getElem?_map
theorem alN:type_of% @Bool.true_and:=@Bool.true_and
theorem alO:type_of% @List.getElem?_take:=@List.getElem?_take
theorem alP:type_of% @Bool.false_and:=@Bool.false_and
theorem alQ:type_of% @Bool.false_eq_true:=@Bool.false_eq_true
theorem alR:type_of% @List.mem_cons_of_mem:=@List.mem_cons_of_mem
theorem alS:type_of% @List.mem_cons_self:=@List.mem_cons_self
theorem alT:type_of% @Nat.eq_of_beq_eq_true:=@Nat.eq_of_beq_eq_true
theorem alU:type_of% @List.append_assoc:=@List.append_assoc
theorem alV:type_of% @List.append_nil:=@List.append_nil
theorem alW:type_of% @List.length_singleton:=@List.length_singleton
theorem alX:type_of% @Array.getElem?_eq_getElem:=@Array.getElem?_eq_getElem
theorem alY:type_of% @Array.getElem?_eq_some_iff:=@Array.getElem?_eq_some_iff
theorem alZ:type_of% @Nat.le_of_ble_eq_true:=@Nat.le_of_ble_eq_true
theorem al0:type_of% @List.getElem?_eq_none:=@List.getElem?_eq_none
theorem al1:type_of% @List.eq_nil_of_length_eq_zero:=@List.eq_nil_of_length_eq_zero
theorem al2:type_of% @Nat.zero_add:=@Nat.zero_add
theorem al3:type_of% @List.map_cons:=@List.map_cons
theorem al4:type_of% @List.length_nil:=@List.length_nil
theorem al5:type_of% @List.getElem?_cons_succ:=@List.getElem?_cons_succ
theorem al6:type_of% @List.mem_cons:=@List.mem_cons
theorem al7:type_of% @Option.map_some:=@Option.map_some
theorem al8:type_of% @Nat.lt_of_lt_of_le:=@Nat.lt_of_lt_of_le
theorem al9:type_of% @Array.getD_eq_getD_getElem?:=@Array.getD_eq_getD_getElem?
theorem ama:type_of% @List.map_append:=@List.map_append
theorem amb:type_of% @List.getElem?_append_right:=@List.getElem?_append_right
theorem amc:type_of% @List.mem_singleton:=@List.mem_singleton
theorem amd:type_of% @List.length_take:=@List.length_take
theorem ame:type_of% @Bool.not_eq_true':=@Bool.not_eq_true'
theorem amf:type_of% @Nat.le_trans:=@Nat.le_trans
theorem amg:type_of% @Array.length_toList:=@Array.length_toList
theorem amh:type_of% @List.cons_append:=@List.cons_append
theorem ami:type_of% @Array.toArray_toList:=@Array.toArray_toList
theorem amj:type_of% @List.all_cons:=@List.all_cons
theorem amk:type_of% @List.take_append_drop:=@List.take_append_drop
theorem aml:type_of% @List.map_nil:=@List.map_nil
theorem amm:type_of% @Option.bind_eq_some_iff:=@Option.bind_eq_some_iff
theorem amn:type_of% @List.mem_append:=@List.mem_append
theorem amo:type_of% @Bool.or_eq_true:=@Bool.or_eq_true
theorem amp:type_of% @List.getElem?_cons_zero:=@List.getElem?_cons_zero
theorem amq:type_of% @List.nil_append:=@List.nil_append
theorem amr:type_of% @List.getElem?_set:=@List.getElem?_set
theorem ams:type_of% @List.ext_getElem?:=@List.ext_getElem?
theorem amt:type_of% @Option.getD_some:=@Option.getD_some
theorem amu:type_of% @Nat.add_mul:=@Nat.add_mul
theorem amv:type_of% @Option.map_eq_some_iff:=@Option.map_eq_some_iff
theorem amw:type_of% @Nat.mul_le_mul_right:=@Nat.mul_le_mul_right
theorem amx:type_of% @List.getElem?_drop:=@List.getElem?_drop
theorem amy:type_of% @Nat.add_zero:=@Nat.add_zero
theorem amz:type_of% @List.mem_map:=@List.mem_map
theorem amA:type_of% @Int.toNat_natCast:=@Int.toNat_natCast
theorem amB:type_of% @List.getD_eq_getElem?_getD:=@List.getD_eq_getElem?_getD
theorem amC:type_of% @List.getElem?_of_mem:=@List.getElem?_of_mem
theorem amD:type_of% @List.mem_append_left:=@List.mem_append_left
theorem amE:type_of% @Bool.eq_iff_iff:=@Bool.eq_iff_iff
theorem amF:type_of% @Array.setIfInBounds_comm:=@Array.setIfInBounds_comm
theorem amG:type_of% @Array.getElem?_setIfInBounds:=@Array.getElem?_setIfInBounds
theorem amH:type_of% @Bool.and_false:=@Bool.and_false
theorem amI:type_of% @Nat.mul_one:=@Nat.mul_one
theorem amJ:type_of% @List.length_set:=@List.length_set
theorem amK:type_of% @List.contains_iff_mem:=@List.contains_iff_mem
theorem amL:type_of% @Bool.not_eq_false':=@Bool.not_eq_false'
theorem amM:type_of% @List.map_congr_left:=@List.map_congr_left
theorem amN:type_of% @List.length_drop:=@List.length_drop
theorem amO:type_of% @Array.getElem?_toList:=@Array.getElem?_toList
theorem amP:type_of% @Bool.false_or:=@Bool.false_or
theorem amQ:type_of% @List.mem_append_right:=@List.mem_append_right
theorem amR:type_of% @List.mem_range:=@List.mem_range
theorem amS:type_of% @Array.getElem?_setIfInBounds_ne:=@Array.getElem?_setIfInBounds_ne
theorem amT:type_of% @Array.ext':=@Array.ext'
theorem amU:type_of% @List.foldl_cons:=@List.foldl_cons
theorem amV:type_of% @List.eq_nil_iff_forall_not_mem:=@List.eq_nil_iff_forall_not_mem
theorem amW:type_of% @Bool.true_or:=@Bool.true_or
theorem amX:type_of% @Bool.not_true:=@Bool.not_true
theorem amY:type_of% @List.take_length:=@List.take_length
theorem amZ:type_of% @Array.mem_toList_iff:=@Array.mem_toList_iff
theorem am0:type_of% @Classical.byContradiction:=@Classical.byContradiction
theorem am1:type_of% @Nat.mul_le_mul:=@Nat.mul_le_mul
theorem am2:type_of% @List.map_toArray:=@List.map_toArray
theorem am3:type_of% @Array.mem_append:=@Array.mem_append
theorem am4:type_of% @List.filter_cons:=@List.filter_cons
theorem am5:type_of% @Ne.symm:=@Ne.symm
theorem am6:type_of% @List.length_eq_zero_iff:=@List.length_eq_zero_iff
theorem am7:type_of% @List.any_cons:=@List.any_cons
theorem am8:type_of% @Go.heap_setCell_other:=@Go.heap_setCell_other
theorem am9:type_of% @Nat.sub_self:=@Nat.sub_self
theorem ana:type_of% @List.getElem?_toArray:=@List.getElem?_toArray
theorem anb:type_of% @Array.eq_empty_of_size_eq_zero:=@Array.eq_empty_of_size_eq_zero
theorem ane:type_of% @Array.getElem?_modify:=@Array.getElem?_modify
theorem anf:type_of% @List.forall_mem_cons:=@List.forall_mem_cons
theorem ang:type_of% @List.length_pos_iff:=@List.length_pos_iff
theorem anh:type_of% @List.find?_cons:=@List.find?_cons
theorem ani:type_of% @Array.getElem?_append_left:=@Array.getElem?_append_left
theorem anj:type_of% @List.count_pos_iff:=@List.count_pos_iff
theorem ank:type_of% @List.take_zero:=@List.take_zero
theorem anl:type_of% @List.size_toArray:=@List.size_toArray
theorem anm:type_of% @Array.getElem?_replicate:=@Array.getElem?_replicate
theorem ann:type_of% @List.flatMap_cons:=@List.flatMap_cons
theorem ano:type_of% @List.foldl_append:=@List.foldl_append
theorem anp:type_of% @Nat.add_assoc:=@Nat.add_assoc
theorem anq:type_of% @Bool.and_true:=@Bool.and_true
theorem anr:type_of% @Array.toList_map:=@Array.toList_map
theorem ans:type_of% @Nat.not_lt_zero:=@Nat.not_lt_zero
theorem ant:type_of% @Nat.sub_zero:=@Nat.sub_zero
theorem anu:type_of% @List.singleton_append:=@List.singleton_append
theorem anv:type_of% @List.length_filter_le:=@List.length_filter_le
theorem anw:type_of% @List.take_left:=@List.take_left
theorem anx:type_of% @List.getElem?_range:=@List.getElem?_range
theorem anz:type_of% @Nat.one_mul:=@Nat.one_mul
theorem anA:type_of% @List.replicate_zero:=@List.replicate_zero
set_option linter.unusedSimpArgs false
set_option linter.unusedVariables false
section
inductive ME where
 |i (l:List (Int×Value))
 |s (l:List (ByteArray×Value))
def wE:TypeId:=200
inductive AV where
 |top
 |ae (v:Value)
 |fn (v:Value)
 |sl (els:List AV)
 |clip (els:List AV)
 |own (r n:Nat)
 |ptr (r off:Nat)
 |aS (e:AV) (off:Nat)
 |agg (cs:List AV)
 |aL (vs:List AV)
 |aY (f:Nat) (caps:List AV)
 |mp (r:Nat)
 |eG (es:ME)
 |fa (r n i size:Nat)
 |dm (f:Nat) (first:List AV)
instance:Inhabited AV:=⟨.top⟩
def AV.cells:AV->List AV
 | .agg cs=>cs
 |v=>[v]
inductive af where
 |dead
 |box (cs:List AV)
 |row (e size:Nat) (els:List AV)
 |aJ (es:ME)
 |cU (r n:Nat)
 |aQ (e size:Nat) (els:List AV)
 |dN (e m:Nat) (ns:List Int)
def af.live:af->Prop
 | .dead=>False
 |_=>True
def ct:Value->Option Nat
 | .pointer (some a)=>some a.block
 | .slice (some a) _ c=>if c=0 then none else some a.block
 | .map (some b)=>some b
 |_=>none
def aT (η:List Value) (hp:List af) (r n:Nat) (v:Value):Prop:=
 match hp[r]? with
 |some (.row _ _ els)=>n<=els.length/\(n=els.length->η[r]?=some v)
 |some (.aQ _ _ els)=>n<=els.length/\(n=els.length->η[r]?=some v)
 |some (.dN _ m _)=>n<=m/\(n=m->η[r]?=some v)
 |some .dead=>True
 |_=>False
def lM (es:Array MapEntry):List (Value×Value):=es.toList.map fun e=>(e.key,e.val)
def K9:ME->List (Value×Value)
 | .i l=>l.map fun p=>(.int .i64 p.1,p.2)
 | .s l=>l.map fun p=>(.string p.1,p.2)
inductive bm (w:World) (F:Nat->Nat->Prop):List Value->List af->AV->Value->Prop
 |top {η:List Value} {hp:List af} (v:Value):bm w F η hp .top v
 |ae {η:List Value} {hp:List af} (v:Value):bm w F η hp (.ae v) v
 |fn {η:List Value} {hp:List af} (v:Value) (h1:v.oneCell'=true):bm w F η hp (.fn v) v
 |lL {η:List Value} {hp:List af} (a:Option Addr):bm w F η hp (.sl []) (.slice a 0 0)
 |jv {η:List Value} {hp:List af} (a:Option Addr):bm w F η hp (.clip []) (.slice a 0 0)
 |sl {η:List Value} {hp:List af} (size:Nat) (els:List AV) (b o c:Nat) (f:Nat->Nat->Value) (hc:els.length<=c) (hm:c<=maxLen)
   (hl:∀(i:Nat) (e:AV),els[i]?=some e->e.cells.length=size)
   (aE:∀(i:Nat) (e:AV) (j:Nat) (x:AV),els[i]?=some e->e.cells[j]?=some x->w.cell? ⟨b,o+i*size+j,none⟩=some (f i j)/\F b (o+i*size+j)/\(f i j).oneCell'=true)
   (hr:∀(i:Nat) (e:AV) (j:Nat) (x:AV),els[i]?=some e->e.cells[j]?=some x->bm w F [] [] x (f i j)):
   bm w F η hp (.sl els) (.slice (some ⟨b,o,none⟩) els.length c)
 |clip {η:List Value} {hp:List af} (size:Nat) (els:List AV) (b o:Nat) (f:Nat->Nat->Value) (hm:els.length<=maxLen)
   (hl:∀(i:Nat) (e:AV),els[i]?=some e->e.cells.length=size)
   (aE:∀(i:Nat) (e:AV) (j:Nat) (x:AV),els[i]?=some e->e.cells[j]?=some x->w.cell? ⟨b,o+i*size+j,none⟩=some (f i j)/\F b (o+i*size+j)/\(f i j).oneCell'=true)
   (hr:∀(i:Nat) (e:AV) (j:Nat) (x:AV),els[i]?=some e->e.cells[j]?=some x->bm w F [] [] x (f i j)):
   bm w F η hp (.clip els) (.slice (some ⟨b,o,none⟩) els.length els.length)
 |own {η:List Value} {hp:List af} (r n:Nat) (v:Value) (h1:v.oneCell'=true) (h:aT η hp r n v):bm w F η hp (.own r n) v
 |ptr {η:List Value} {hp:List af} (r off b:Nat) (h:η[r]?=some (.pointer (some ⟨b,0,none⟩))):bm w F η hp (.ptr r off) (.pointer (some ⟨b,off,none⟩))
 |aS {η:List Value} {hp:List af} (e:AV) (off b o:Nat) (f:Nat->Value)
   (aE:∀(j:Nat) (x:AV),e.cells[j]?=some x->w.cell? ⟨b,o+j,none⟩=some (f j)/\F b (o+j)/\(f j).oneCell'=true)
   (hr:∀(j:Nat) (x:AV),e.cells[j]?=some x->bm w F [] [] x (f j)):
   bm w F η hp (.aS e off) (.pointer (some ⟨b,o+off,none⟩))
 |agg {η:List Value} {hp:List af} (cs:List AV) (vs:Array Value) (hl:vs.size=cs.length) (h1:∀v:Value,v∈vs->v.oneCell'=true)
   (hr:∀(j:Nat) (x:AV) (v:Value),cs[j]?=some x->vs[j]?=some v->bm w F η hp x v):bm w F η hp (.agg cs) (.agg vs)
 |aL {η:List Value} {hp:List af} (cs:List AV) (vs:Array Value) (hl:vs.size=cs.length)
   (hr:∀(j:Nat) (x:AV) (v:Value),cs[j]?=some x->vs[j]?=some v->bm w F η hp x v):bm w F η hp (.aL cs) (.tuple vs)
 |aY {η:List Value} {hp:List af} (fn:Nat) (cs:List AV) (vs:Array Value) (hl:vs.size=cs.length)
   (hr:∀(j:Nat) (x:AV) (v:Value),cs[j]?=some x->vs[j]?=some v->bm w F η hp x v):bm w F η hp (.aY fn cs) (.func (.func fn) #[] vs)
 |mp {η:List Value} {hp:List af} (r b:Nat) (h:η[r]?=some (.map (some b))):bm w F η hp (.mp r) (.map (some b))
 |eG {η:List Value} {hp:List af} (b:Nat) (es:Array MapEntry) (c:Nat) (h:w.heap[b]?=some (.map es c)) (hF:F b 0) (l:ME) (hl:lM es=K9 l):bm w F η hp (.eG l) (.map (some b))
 |fa {η:List Value} {hp:List af} (r n i size b o c k:Nat) (h:aT η hp r n (.slice (some ⟨b,o,none⟩) k c)):bm w F η hp (.fa r n i size) (.pointer (some ⟨b,o+i*size,none⟩))
 |dm {η:List Value} {hp:List af} (fn:Nat) (cs:List AV) (vs:Array Value) (hl:vs.size=cs.length)
   (hr:∀(j:Nat) (x:AV) (v:Value),cs[j]?=some x->vs[j]?=some v->bm w F η hp x v):bm w F η hp (.dm fn cs) (.func (.func fn) vs #[])
structure M7 (w:World) (F:Nat->Nat->Prop) (w':World) (F':Nat->Nat->Prop):Prop where
 cell:∀b o v,F b o->w.cell? ⟨b,o,none⟩=some v->w'.cell? ⟨b,o,none⟩=some v
 ir:∀b es c,F b 0->w.heap[b]?=some (.map es c)->w'.heap[b]?=some (.map es c)
 bg:∀b o,F b o->F' b o
structure Ext (w:World) (F:Nat->Nat->Prop) (η:List Value) (hp:List af) (w':World) (F':Nat->Nat->Prop) (aN:List Value) (hp':List af):Prop where
 cell:∀b o v,F b o->w.cell? ⟨b,o,none⟩=some v->w'.cell? ⟨b,o,none⟩=some v
 ir:∀b es c,F b 0->w.heap[b]?=some (.map es c)->w'.heap[b]?=some (.map es c)
 bg:∀b o,F b o->F' b o
 ptr:∀(r:Nat) a,η[r]?=some (.pointer a)->aN[r]?=some (.pointer a)
 mp:∀(r:Nat) a,η[r]?=some (.map a)->aN[r]?=some (.map a)
 own:∀r n v,aT η hp r n v->aT aN hp' r n v
variable {w w':World} {F F':Nat->Nat->Prop} {η aN:List Value} {hp hp':List af}
theorem M7.ext (h:M7 w F w' F'):Ext w F [] [] w' F' [] []:=
 ⟨h.cell,h.ir,h.bg,fun _ _ h=>h,fun _ _ h=>h,fun _ _ _ h=>h⟩
theorem Ext.lN (h:Ext w F η hp w' F' aN hp'):M7 w F w' F':=⟨h.cell,h.ir,h.bg⟩
theorem bm.ext (h:Ext w F η hp w' F' aN hp') {x:AV} {v:Value} (hx:bm w F η hp x v):bm w' F' aN hp' x v:=by
 induction hx generalizing aN hp' with
 |top v=>exact .top v
 |ae v=>exact .ae v
 |fn v h1=>exact .fn v h1
 |lL a=>exact .lL a
 |jv a=>exact .jv a
 |sl size els b o c f hc hm hl aE _ ih=>
  exact .sl size els b o c f hc hm hl (fun i e j x hi hj=>let ⟨h1,h2,h3⟩:=aE i e j x hi hj;⟨h.cell _ _ _ h2 h1,h.bg _ _ h2,h3⟩) fun i e j x hi hj=>ih i e j x hi hj h.lN.ext
 |clip size els b o f hm hl aE _ ih=>
  exact .clip size els b o f hm hl (fun i e j x hi hj=>let ⟨h1,h2,h3⟩:=aE i e j x hi hj;⟨h.cell _ _ _ h2 h1,h.bg _ _ h2,h3⟩) fun i e j x hi hj=>ih i e j x hi hj h.lN.ext
 |own r n v h1 h2=>exact .own r n v h1 (h.own _ _ _ h2)
 |ptr r off b h1=>exact .ptr r off b (h.ptr _ _ h1)
 |aS e off b o f aE _ ih=>
  exact .aS e off b o f (fun j x hj=>let ⟨h1,h2,h3⟩:=aE j x hj;⟨h.cell _ _ _ h2 h1,h.bg _ _ h2,h3⟩) fun j x hj=>ih j x hj h.lN.ext
 |agg cs vs hl h1 _ ih=>exact .agg cs vs hl h1 fun j x v h1 h2=>ih j x v h1 h2 h
 |aL cs vs hl _ ih=>exact .aL cs vs hl fun j x v h1 h2=>ih j x v h1 h2 h
 |aY fn cs vs hl _ ih=>exact .aY fn cs vs hl fun j x v h1 h2=>ih j x v h1 h2 h
 |mp r b h1=>exact .mp r b (h.mp _ _ h1)
 |eG b es c h1 h2 l hl=>exact .eG b es c (h.ir _ _ _ h2 h1) (h.bg _ _ h2) l hl
 |fa r n i size b o c k h1=>exact .fa r n i size b o c k (h.own _ _ _ h1)
 |dm fn cs vs hl _ ih=>exact .dm fn cs vs hl fun j x v h1 h2=>ih j x v h1 h2 h
theorem bm.lift {x:AV} {v:Value} (hx:bm w F [] [] x v):bm w F η hp x v:=
 hx.ext ⟨fun _ _ _ _ h=>h,fun _ _ _ _ h=>h,fun _ _ h=>h,fun _ _ h=>by simp at h,fun _ _ h=>by simp at h,fun _ _ _ h=>by simp[aT] at h⟩
theorem Ext.trans {w1 w2 w3:World} {F1 F2 F3:Nat->Nat->Prop} {jP jQ MO:List Value} {h1 h2 h3:List af} (h:Ext w1 F1 jP h1 w2 F2 jQ h2) (k:Ext w2 F2 jQ h2 w3 F3 MO h3):Ext w1 F1 jP h1 w3 F3 MO h3:=
 ⟨fun b o v hf hc=>k.cell b o v (h.bg _ _ hf) (h.cell b o v hf hc),fun b es c hf hc=>k.ir b es c (h.bg _ _ hf) (h.ir b es c hf hc),fun b o hf=>k.bg _ _ (h.bg _ _ hf),
  fun r a hr=>k.ptr r a (h.ptr r a hr),fun r a hr=>k.mp r a (h.mp r a hr),fun r n v ho=>k.own r n v (h.own r n v ho)⟩
def AV.M8:AV->Bool
 | .ae v=>v.oneCell'
 | .top | .agg _ | .aL _=>false
 |_=>true
def bZ (w:World) (F:Nat->Nat->Prop) (η:List Value) (hp:List af):List AV->List Value->Prop
 | [],[]=>True
 |x::xs,v::vs=>bm w F η hp x v/\bZ w F η hp xs vs
 |_,_=>False
theorem bZ.length {xs:List AV} {vs:List Value} (h:bZ w F η hp xs vs):vs.length=xs.length:=by
 induction xs generalizing vs with
 |nil=>cases vs<;>simp_all [bZ]
 |cons x xs ih=>cases vs with
  |nil=>simp[bZ] at h
  |cons v vs=>simp only[alJ];rw[ih h.2]
theorem bZ.get {xs:List AV} {vs:List Value} (h:bZ w F η hp xs vs):∀(j:Nat) (x:AV) (v:Value),xs[j]?=some x->vs[j]?=some v->bm w F η hp x v:=by
 induction xs generalizing vs with
 |nil=>intro j x v hx;simp at hx
 |cons x xs ih=>cases vs with
  |nil=>simp[bZ] at h
  |cons v vs=>
   intro j y u hy hu
   cases j with
   |zero=>simp at hy hu;subst hy;subst hu;exact h.1
   |succ j=>exact ih h.2 j y u (by simpa using hy) (by simpa using hu)
theorem cF {xs:List AV} {vs:List Value} (hl:vs.length=xs.length) (h:∀(j:Nat) (x:AV) (v:Value),xs[j]?=some x->vs[j]?=some v->bm w F η hp x v):bZ w F η hp xs vs:=by
 induction xs generalizing vs with
 |nil=>cases vs with
  |nil=>exact True.intro
  |cons v vs=>simp at hl
 |cons x xs ih=>cases vs with
  |nil=>simp at hl
  |cons v vs=>
   exact⟨h 0 x v rfl rfl,ih (by simpa using hl) fun j y u hy hu=>h (j+1) y u (by simpa using hy) (by simpa using hu)⟩
theorem bZ.ext (h:Ext w F η hp w' F' aN hp') {xs:List AV} {vs:List Value} (hx:bZ w F η hp xs vs):bZ w' F' aN hp' xs vs:=
 cF hx.length fun j x v h1 h2=>(hx.get j x v h1 h2).ext h
def Dm:List (Nat×List Value):=[(0,(List.range 20).map fun i=>.int .u64 ((10 ^ i:Nat):Int))]
def mS (b:Nat):Prop:=∃p,p∈Dm/\p.1=b
def og (w:World):Prop:=∀p,p∈Dm->∃T,w.heap[p.1]?=some (.cells p.2.toArray T (0,0))
structure bI (w w':World):Prop where
 os:w'.os=w.os
 tape:w'.tape=w.tape
 output:w'.output=w.output
 size:w.heap.size<=w'.heap.size
 block:∀k,k<w.heap.size->w'.heap[k]?=w.heap[k]?
structure bE (X:Nat->Prop) (w w':World):Prop where
 os:w'.os=w.os
 tape:w'.tape=w.tape
 output:w'.output=w.output
 size:w.heap.size<=w'.heap.size
 block:∀k,k<w.heap.size->¬X k->w'.heap[k]?=w.heap[k]?
theorem bm.pF {els:List AV} {v:Value} (h:bm w F η hp (.clip els) v):bm w F η hp (.sl els) v:=by
 cases h with
 |jv a=>exact .lL a
 |clip size els b o f hm hl aE hr=>exact .sl size els b o _ f (alA _) hm hl aE hr
def kQ (w:World) (e:TypeId) (size:Nat) (v:Value) (n:Nat) (xs:List Value) (k:Nat):Prop:=
 xs.length=n*size/\((n=0/\(v=.slice none 0 0\/∃ad:Addr,v=.slice (some ad) 0 0))\/
  ∃g cap cur,v=.slice (some ⟨g,0,none⟩) n cap/\0<cap/\(∃hi,hi<=k/\w.heap[g]?=some (.cells cur e (0,hi)))/\n<=cap/\cap<=maxLen/\cur.size=cap*size/\cur.toList.take (n*size)=xs)
theorem bp {a:Addr} {n c:Nat} (h:0<c):ct (.slice (some a) n c)=some a.block:=by simp[ct];omega
theorem kQ.lt {w:World} {e size n k:Nat} {v:Value} {xs:List Value} (h:kQ w e size v n xs k) {b:Nat} (hb:ct v=some b):∃cz:Array Value×Nat,w.heap[b]?=some (.cells cz.1 e (0,cz.2)):=by
 rcases h.2 with⟨_,rfl|⟨ad,rfl⟩⟩|⟨g,cap,cur,rfl,h0,⟨hi,_,h1⟩,_⟩
 ·simp[ct] at hb
 ·simp[ct] at hb
 ·rw[bp h0] at hb;obtain rfl:=alw hb;exact⟨(cur,hi),h1⟩
theorem kQ.keep {w w':World} {e size n k:Nat} {v:Value} {xs:List Value} (h:kQ w e size v n xs k) (hb:∀b,ct v=some b->b<w.heap.size->w'.heap[b]?=w.heap[b]?):kQ w' e size v n xs k:=by
 refine⟨h.1,?_⟩;rcases h.2 with h1|⟨g,cap,cur,rfl,h0,⟨hi,hk,h1⟩,h2⟩
 ·exact .inl h1
 ·exact .inr ⟨g,cap,cur,rfl,h0,⟨hi,hk,by rw[hb g (bp h0) (alY.1 h1).1];exact h1⟩,h2⟩
theorem kQ.more {w:World} {e size n k k':Nat} {v:Value} {xs:List Value} (h:kQ w e size v n xs k) (hk:k<=k'):kQ w e size v n xs k':=
 ⟨h.1,h.2.imp id fun⟨g,cap,cur,h1,h2,⟨hi,h3,h4⟩,h5⟩=>⟨g,cap,cur,h1,h2,⟨hi,amf h3 hk,h4⟩,h5⟩⟩
def eS (w:World) (e:TypeId) (v:Value) (ns:List Int):Prop:=
 (ns=[]/\∃ad,v=.slice ad 0 0)\/
  ∃g o cap cur,v=.slice (some ⟨g,o,none⟩) ns.length cap/\0<cap/\w.heap[g]?=some (.cells cur e (0,0))/\ns.length<=cap/\cap<=maxLen/\o+cap<=cur.size/\
   ∀(i:Nat) (n:Int),ns[i]?=some n->cur[o+i]?=some (.int .i64 n)
theorem eS.lt {w:World} {e:Nat} {v:Value} {ns:List Int} (h:eS w e v ns) {b:Nat} (hb:ct v=some b):∃cur,w.heap[b]?=some (.cells cur e (0,0)):=by
 rcases h with⟨_,ad,rfl⟩|⟨g,o,cap,cur,rfl,h0,h1,_⟩
 ·cases ad<;>simp[ct] at hb
 ·rw[bp h0] at hb;obtain rfl:=alw hb;exact⟨cur,h1⟩
theorem eS.keep {w w':World} {e:Nat} {v:Value} {ns:List Int} (h:eS w e v ns) (hb:∀b,ct v=some b->b<w.heap.size->w'.heap[b]?=w.heap[b]?):eS w' e v ns:=by
 rcases h with h1|⟨g,o,cap,cur,rfl,h0,h1,h2⟩
 ·exact .inl h1
 ·exact .inr ⟨g,o,cap,cur,rfl,h0,by rw[hb g (bp h0) (alY.1 h1).1];exact h1,h2⟩
theorem bI.refl (w:World):bI w w:=⟨rfl,rfl,rfl,alA _,fun _ _=>rfl⟩
theorem bI.trans {a b c:World} (h:bI a b) (k:bI b c):bI a c:=
 ⟨k.os.trans h.os,k.tape.trans h.tape,k.output.trans h.output,amf h.size k.size,fun i hi=>(k.block i (al8 hi h.size)).trans (h.block i hi)⟩
theorem bI.alloc (w:World) (o:Obj):bI w (w.alloc o):=⟨rfl,rfl,rfl,by simp,fun k hk=>heap_alloc_old w o hk⟩
theorem bI.drew (w:World):bI w w.drew:=⟨rfl,rfl,rfl,alA _,fun _ _=>rfl⟩
theorem bI.keeps {w w':World} (X:Nat->Prop) (h:bI w w'):bE X w w':=⟨h.os,h.tape,h.output,h.size,fun k hk _=>h.block k hk⟩
theorem bE.same {w w':World} {X:Nat->Prop} (h:bE X w w') (hX:∀b,b<w.heap.size->¬X b):bI w w':=⟨h.os,h.tape,h.output,h.size,fun k hk=>h.block k hk (hX k hk)⟩
theorem bE.refl (X:Nat->Prop) (w:World):bE X w w:=⟨rfl,rfl,rfl,alA _,fun _ _ _=>rfl⟩
theorem bE.trans {X Z:Nat->Prop} {a b c:World} (h:bE X a b) (k:bE Z b c) (hZ:∀i,i<a.heap.size->Z i->X i):bE X a c:=
 ⟨k.os.trans h.os,k.tape.trans h.tape,k.output.trans h.output,amf h.size k.size,
  fun i hi hx=>(k.block i (al8 hi h.size) (fun hz=>hx (hZ i hi hz))).trans (h.block i hi hx)⟩
theorem bE.cell {X:Nat->Prop} {w w':World} (h:bE X w w') {b o:Nat} (hb:b<w.heap.size) (hx:¬X b):w'.cell? ⟨b,o,none⟩=w.cell? ⟨b,o,none⟩:=by
 simp[World.cell?,h.block b hb hx]
theorem og.lt {w:World} (h:og w) {b:Nat} (hb:mS b):b<w.heap.size:=by
 obtain⟨p,hp,rfl⟩:=hb;obtain⟨T,h1⟩:=h p hp;exact(alY.1 h1).1
theorem og.keeps {X:Nat->Prop} {w w':World} (h:og w) (k:bE X w w') (hx:∀b,mS b->¬X b):og w':=fun p hp=>by
 obtain⟨T,h1⟩:=h p hp;exact⟨T,by rw[k.block p.1 (h.lt ⟨p,hp,rfl⟩) (hx p.1 ⟨p,hp,rfl⟩)];exact h1⟩
theorem og.same {w w':World} (h:og w) (k:bI w w'):og w':=h.keeps (k.keeps fun _=>False) fun _ _=>not_false
theorem bo {w:World} {b:Nat} {o:Obj} (h:w.heap[b]?=some o):b<w.heap.size:=(alY.1 h).1
end
section
structure Env (G:Type) where
 P:Program
 w0:World
 F0:Nat->Nat->Prop
 X:Nat->Prop
 Y:Nat->Prop
 Inv:G->World->Prop
 nt:Nat
 zH:Option Nat
 m0:Nat->Prop
 Z:Nat->Nat->Prop
 yY:List Value
 jR:List af
def Env.No {G:Type} (Γ:Env G) (b o:Nat):Prop:=Γ.X b\/Γ.Z b o
structure Env.Ok {G:Type} (Γ:Env G):Prop where
 l0:Γ.yY.length=Γ.jR.length
 x:∀b,Γ.X b->b<Γ.w0.heap.size
 y:∀b,Γ.Y b->b<Γ.w0.heap.size
 ou:∀g w w',(∀b,Γ.X b->w'.heap[b]?=w.heap[b]?)->w.heap.size<=w'.heap.size->Γ.Inv g w->Γ.Inv g w'
 z:∀b o,Γ.Z b o->b<Γ.w0.heap.size
 gL:og Γ.w0
 gx:∀b,mS b->¬(Γ.X b\/Γ.Y b)
def Env.Dn {G:Type} (Γ:Env G):Prop:=Γ.zH=none/\∀r,Γ.w0.heap.size<=r->Γ.m0 r
theorem Env.Ok.no {G:Type} {Γ:Env G} (h:Γ.Ok) {b o:Nat} (hb:Γ.No b o):b<Γ.w0.heap.size:=hb.elim (h.x b) (h.z b o)
structure AS (G:Type) where
 tmps:Nat->AV
 hp:List af
 g:G
def iR (η:List Value) (hp:List af) (b o:Nat):Prop:=
 ∀(r:Nat) (v:Value),η[r]?=some v->ct v=some b->
  match hp[r]? with
  |some (.row _ size els)=>o<els.length*size
  |some .dead=>True
  |_=>False
def bk {G:Type} (Γ:Env G) (w:World) (η:List Value) (hp:List af) (b o:Nat):Prop:=
 (Γ.F0 b o\/Γ.w0.heap.size<=b\/Γ.Y b)/\b<w.heap.size/\¬Γ.No b o/\iR η hp b o
def fM (w:World) (F:Nat->Nat->Prop) (η:List Value) (hp:List af):af->Value->Prop
 | .dead,_=>True
 | .box cs,v=>∃(b:Nat) (vs:Array Value) (T:TypeId),v=.pointer (some ⟨b,0,none⟩)/\w.heap[b]?=some (.cells vs T (0,0))/\vs.size=cs.length/\
   ∀(j:Nat) (x:AV) (u:Value),cs[j]?=some x->vs[j]?=some u->bm w F η hp x u/\u.oneCell'=true
 | .row e size els,v=>0<size/\∃xs:List Value,kQ w e size v els.length xs (els.length*size)/\
   ∀(i:Nat) (el:AV),els[i]?=some el->el.cells.length=size/\
    ∀(j:Nat) (x:AV),el.cells[j]?=some x->∃u,xs[i*size+j]?=some u/\bm w F [] [] x u/\u.oneCell'=true
 | .cU r n,v=>∃(b:Nat) (vs:Array Value),v=.pointer (some ⟨b,0,none⟩)/\w.heap[b]?=some (.cells vs wE (0,0))/\(vs.size=2/\(n=0->vs[1]?=some (.slice none 0 0)))/\(vs[0]?=some (.pointer none)\/vs[0]?=some v)/\∃u,vs[1]?=some u/\bm w F η hp (.own r n) u
 | .aJ es,v=>∃(b:Nat) (en:Array MapEntry) (c:Nat),v=.map (some b)/\w.heap[b]?=some (.map en c)/\lM en=K9 es
 | .aQ e size els,v=>0<size/\∃xs:List Value,kQ w e size v els.length xs 0/\
   ∀(i:Nat) (el:AV),els[i]?=some el->el.cells.length=size/\
    ∀(j:Nat) (x:AV),el.cells[j]?=some x->∃u,xs[i*size+j]?=some u/\bm w F [] [] x u/\u.oneCell'=true
 | .dN e _ ns,v=>eS w e v ns
structure dC (w:World) (F:Nat->Nat->Prop) (η:List Value) (hp:List af):Prop where
 len:η.length=hp.length
 obj:∀(r:Nat) (o:af) (v:Value),hp[r]?=some o->η[r]?=some v->fM w F η hp o v
 sep:∀(r r':Nat) (o o':af) (v v':Value) (b:Nat),r≠r'->hp[r]?=some o->hp[r']?=some o'->o.live->o'.live->
  η[r]?=some v->η[r']?=some v'->ct v=some b->ct v'≠some b
def vB {G:Type} (Γ:Env G) (η:List Value) (hp:List af):Prop:=
 ∀(r:Nat) (o:af) (v:Value) (b:Nat),hp[r]?=some o->o.live->η[r]?=some v->ct v=some b->(Γ.w0.heap.size<=b\/Γ.Y b)/\∀o,¬Γ.No b o
structure Marks (N:Nat->Prop) (ds:List Deferred) (w:World):Prop where
 all:∀d,d∈ds->∃r,d.target=.collected r/\w.heap[r]?=some (.deferred (some []))/\N r
 apart:ds.Pairwise fun d d'=>d.target≠d'.target
structure Rel {G:Type} (Γ:Env G) (s:AS G) (a:Act) (w:World) (η:List Value):Prop where
 nt:a.tmps.size=Γ.nt
 tmps:∀t,bm w (bk Γ w η s.hp) η s.hp (s.tmps t) (a.tmps.getD t undef)
 heap:dC w (bk Γ w η s.hp) η s.hp
 bM:vB Γ η s.hp
 keeps:bE (fun b=>Γ.X b\/Γ.Y b) Γ.w0 w
 inv:Γ.Inv s.g w
 marks:Marks Γ.m0 a.defers w
 ext:Ext Γ.w0 Γ.F0 Γ.yY Γ.jR w (bk Γ w η s.hp) η s.hp
def yZ (f:Nat->AV) (t:Nat) (x:AV):Nat->AV:=fun u=>if u=t then x else f u
theorem fc (f:Nat->AV) (t:Nat) (x:AV) (u:Nat):yZ f t x u=if u=t then x else f u:=rfl
def AS.put {G:Type} (s:AS G) (d:Option Nat) (x:AV):AS G:=
 match d with
 |some d=>{ s with tmps:=yZ s.tmps d x }
 |none=>s
variable {G:Type} {Γ:Env G} {s:AS G} {a:Act} {w w':World} {η aN:List Value} {hp:List af}
theorem bE.marks {X:Nat->Prop} {N:Nat->Prop} {ds:List Deferred} (h:Marks N ds w) (k:bE X w w') (hX:∀b,X b->¬N b\/∀d,w.heap[b]?≠some (.deferred d)):Marks N ds w':=by
 refine⟨fun d hd=>?_,h.apart⟩;obtain⟨r,h1,h2,h3⟩:=h.all d hd;refine⟨r,h1,?_,h3⟩;rw[k.block r (bo h2)]
 ·exact h2
 ·intro hx;rcases hX r hx with h4|h4
  ·exact h4 h3
  ·exact h4 _ h2
theorem ov (hs:bI w w') (hF:∀b o,bk Γ w η hp b o->b<w.heap.size):Ext w (bk Γ w η hp) η hp w' (bk Γ w' η hp) η hp where
 cell b o v hf hc:=by rw[World.cell?_of_block (hs.block b (hF b o hf))];exact hc
 ir b es c hf hc:=by rw[hs.block b (hF b 0 hf)];exact hc
 bg b o hf:=⟨hf.1,al8 hf.2.1 hs.size,hf.2.2⟩
 ptr _ _ h:=h
 mp _ _ h:=h
 own _ _ _ h:=h
theorem dZ {b o:Nat} (h:bk Γ w η hp b o):b<w.heap.size:=h.2.1
theorem fM.ext {F F':Nat->Nat->Prop} {hp':List af} {o:af} {v:Value} (h:fM w F η hp o v) (he:Ext w F η hp w' F' aN hp') (bN:w.heap.size<=w'.heap.size)
  (hb:∀b,ct v=some b->b<w.heap.size->w'.heap[b]?=w.heap[b]?):fM w' F' aN hp' o v:=by
 cases o with
 |dead=>exact True.intro
 |box cs=>
  obtain⟨b,vs,T,rfl,h1,h2,h3⟩:=h;exact⟨b,vs,T,rfl,by rw[hb b rfl (bo h1)];exact h1,h2,fun j x u hx hu=>⟨(h3 j x u hx hu).1.ext he,(h3 j x u hx hu).2⟩⟩
 |row e size els=>
  obtain⟨h0,xs,h1,h2⟩:=h;refine⟨h0,xs,h1.keep hb,fun i el hi=>⟨(h2 i el hi).1,fun j x hj=>?_⟩⟩
  ·obtain⟨u,h3,h4,h5⟩:=(h2 i el hi).2 j x hj;exact⟨u,h3,h4.ext he.lN.ext,h5⟩
 |cU q k=>
  obtain⟨b,vs,rfl,h1,h2,h3,u,h4,h5⟩:=h;exact⟨b,vs,rfl,by rw[hb b rfl (bo h1)];exact h1,h2,h3,u,h4,h5.ext he⟩
 |aJ es=>
  obtain⟨b,en,c,rfl,h1,h2⟩:=h;exact⟨b,en,c,rfl,by rw[hb b rfl (bo h1)];exact h1,h2⟩
 |aQ e size els=>
  obtain⟨h0,xs,h1,h2⟩:=h;refine⟨h0,xs,h1.keep hb,fun i el hi=>⟨(h2 i el hi).1,fun j x hj=>?_⟩⟩
  ·obtain⟨u,h3,h4,h5⟩:=(h2 i el hi).2 j x hj;exact⟨u,h3,h4.ext he.lN.ext,h5⟩
 |dN e m ns=>exact eS.keep h hb
theorem dC.same (h:dC w (bk Γ w η hp) η hp) (hs:bI w w'):dC w' (bk Γ w' η hp) η hp:=
 ⟨h.len,fun r o v h1 h2=>(h.obj r o v h1 h2).ext (ov hs fun _ _=>dZ) hs.size fun b _ ak=>hs.block b ak,h.sep⟩
theorem bE.A6 {X:Nat->Prop} {w0:World} (h:bE X w0 w) (hs:bI w w'):bE X w0 w':=
 h.trans (hs.keeps fun _=>False) fun _ _ hf=>hf.elim
theorem Rel.same (ax:Γ.Ok) (h:Rel Γ s a w η) (hs:bI w w'):Rel Γ s a w' η where
 nt:=h.nt
 tmps t:=(h.tmps t).ext (ov hs fun _ _=>dZ)
 heap:=h.heap.same hs
 bM:=h.bM
 keeps:=h.keeps.A6 hs
 inv:=ax.ou _ _ _ (fun b hb=>hs.block b (al8 (ax.x b hb) h.keeps.size)) hs.size h.inv
 marks:=(hs.keeps fun _=>False).marks h.marks fun _ hf=>hf.elim
 ext:=h.ext.trans (ov hs fun _ _=>dZ)
theorem Rel.gL (ax:Γ.Ok) (h:Rel Γ s a w η):og w:=ax.gL.keeps h.keeps ax.gx
theorem Rel.put (h:Rel Γ s a w η) {d:Option Nat} {x:AV} {v:Value} (hd:∀t,d=some t->t<Γ.nt) (hr:bm w (bk Γ w η s.hp) η s.hp x v):Rel Γ (s.put d x) (a.put d v) w η:=by
 cases d with
 |none=>exact h
 |some d=>
  refine⟨by simpa [Act.put] using h.nt,fun t=>?_,h.heap,h.bM,h.keeps,h.inv,h.marks,h.ext⟩;show bm w _ η s.hp (yZ s.tmps d x t) ((a.tmps.setIfInBounds d v).getD t undef)
  by_cases htd:t=d
  ·subst htd;have ak:t<a.tmps.size:=by rw[h.nt];exact hd t rfl
   have e:(a.tmps.setIfInBounds t v).getD t undef=v:=by simp[ak]
   rw[fc,if_pos rfl,e];exact hr
  ·have e:(a.tmps.setIfInBounds d v).getD t undef=a.tmps.getD t undef:=by
    simp only[al9];rw[amS (am5 htd)]
   rw[fc,if_neg htd,e];exact h.tmps t
def AS.add (s:AS G) (o:af):AS G:={ s with hp:=s.hp++[o] }
theorem cw {α:Type} {l:List α} {x y:α} {r:Nat} (h:l[r]?=some y):(l++[x])[r]?=some y:=by
 rw[alH (alu.1 h).1];exact h
theorem dt {α:Type} {l:List α} {x y:α} {r:Nat} (h:(l++[x])[r]?=some y):l[r]?=some y\/(r=l.length/\y=x):=by
 rcases Nat.lt_trichotomy r l.length with h1|h1|h1
 ·rw[alH h1] at h;exact .inl h
 ·subst h1;simp at h;exact .inr ⟨rfl,h.symm⟩
 ·rw[amb (by omega)] at h;have:r-l.length≠0:=by omega
  cases hk:r-l.length with
  |zero=>omega
  |succ k=>rw[hk] at h;simp at h
theorem iR.snoc {o:af} {v:Value} {b k:Nat} (hl:η.length=hp.length) (h:iR η hp b k) (hv:ct v=some b->False):iR (η++[v]) (hp++[o]) b k:=by
 intro r u hu hb;rcases dt hu with h1|⟨rfl,rfl⟩
 ·have:=h r u h1 hb;have hr:r<hp.length:=by rw[<-hl];exact(alu.1 h1).1
  rw[alH hr];exact this
 ·exact(hv hb).elim
theorem aT.snoc {o:af} {v u:Value} {r n:Nat} (h:aT η hp r n u):aT (η++[v]) (hp++[o]) r n u:=by
 unfold aT at h ⊢
 cases hr:hp[r]? with
 |none=>simp[hr] at h
 |some x=>
  rw[cw hr];rw[hr] at h
  cases x with
  |row e size els=>exact⟨h.1,fun hn=>cw (h.2 hn)⟩
  |dead=>exact True.intro
  |box cs=>exact h
  |aJ es=>exact h
  |cU q k=>exact h
  |aQ e size els=>exact⟨h.1,fun hn=>cw (h.2 hn)⟩
  |dN e m ns=>exact⟨h.1,fun hn=>cw (h.2 hn)⟩
theorem rD {o:af} {v:Value} (hl:η.length=hp.length) (hs:bI w w') (hv:∀b,ct v=some b->w.heap.size<=b):
  Ext w (bk Γ w η hp) η hp w' (bk Γ w' (η++[v]) (hp++[o])) (η++[v]) (hp++[o]) where
 cell b k u hf hc:=by rw[World.cell?_of_block (hs.block b (dZ hf))];exact hc
 ir b es c hf hc:=by rw[hs.block b (dZ hf)];exact hc
 bg b k hf:=⟨hf.1,al8 hf.2.1 hs.size,hf.2.2.1,hf.2.2.2.snoc hl fun hb=>by have:=hv b hb;have:=dZ hf;omega⟩
 ptr _ _ h:=cw h
 mp _ _ h:=cw h
 own _ _ _ h:=h.snoc
theorem Rel.add (ax:Γ.Ok) (h:Rel Γ s a w η) {o:af} {v:Value} (hs:bI w w') (hv:∀b,ct v=some b->w.heap.size<=b)
  (ho:fM w' (bk Γ w' (η++[v]) (s.hp++[o])) (η++[v]) (s.hp++[o]) o v):Rel Γ (s.add o) a w' (η++[v]):=by
 have he:=rD (Γ:=Γ) (o:=o) (v:=v) h.heap.len hs hv;have bN:=h.keeps.size;have iS:∀(r:Nat) (u:Value) (b:Nat),η[r]?=some u->ct u=some b->b<w.heap.size\/¬∃o:af,s.hp[r]?=some o/\o.live:=by
  intro r u b hu hb
  by_cases ak:b<w.heap.size
  ·exact .inl ak
  ·refine .inr fun⟨o',wF,hli⟩=>ak ?_;have dB:=h.heap.obj r o' u wF hu
   cases o' with
   |dead=>exact hli.elim
   |box cs=>obtain⟨b',vs,T,rfl,h1,_⟩:=dB;simp only[ct,als] at hb;subst hb;exact bo h1
   |row e size els=>
    obtain⟨_,xs,h1,_⟩:=dB;obtain⟨cur,h5⟩:=h1.lt hb;exact bo h5
   |aJ es=>obtain⟨b',en,c,rfl,h1,_⟩:=dB;simp only[ct,als] at hb;subst hb;exact bo h1
   |cU q k=>obtain⟨b',vs,rfl,h1,_⟩:=dB;simp only[ct,als] at hb;subst hb;exact bo h1
   |aQ e size els=>
    obtain⟨_,xs,h1,_⟩:=dB;obtain⟨cur,h5⟩:=h1.lt hb;exact bo h5
   |dN e m ns=>obtain⟨cur,h5⟩:=eS.lt dB hb;exact bo h5
 refine⟨h.nt,fun t=>(h.tmps t).ext he,⟨by simp[AS.add,h.heap.len],?_,?_⟩,?_,h.keeps.A6 hs,
  ax.ou _ _ _ (fun b hb=>hs.block b (al8 (ax.x b hb) h.keeps.size)) hs.size h.inv,(hs.keeps fun _=>False).marks h.marks fun _ hf=>hf.elim,h.ext.trans he⟩
 ·intro r o' u h1 h2;rcases dt h1 with h3|⟨rfl,rfl⟩
  ·rcases dt h2 with h4|⟨rfl,rfl⟩
   ·exact(h.heap.obj r o' u h3 h4).ext he hs.size fun b _ ak=>hs.block b ak
   ·have:=(alu.1 h3).1;have:=h.heap.len;omega
  ·have:(η++[v])[s.hp.length]?=some v:=by rw[<-h.heap.len];simp
   rw[this] at h2;obtain rfl:=alw h2;exact ho
 ·intro r r' o1 o2 v1 v2 b bu h1 h2 l1 l2 e1 e2 hb;rcases dt h1 with h3|⟨rfl,rfl⟩<;>rcases dt h2 with h4|⟨rfl,rfl⟩
  ·have hr:r<η.length:=by rw[h.heap.len];exact(alu.1 h3).1
   have eH:r' < η.length:=by rw[h.heap.len];exact(alu.1 h4).1
   rw[alH hr] at e1;rw[alH eH] at e2;exact h.heap.sep r r' o1 o2 v1 v2 b bu h3 h4 l1 l2 e1 e2 hb
  ·have hr:r<η.length:=by rw[h.heap.len];exact(alu.1 h3).1
   rw[alH hr] at e1;have:(η++[v])[s.hp.length]?=some v:=by rw[<-h.heap.len];simp
   rw[this] at e2;obtain rfl:=alw e2;intro eF;have:=hv b eF;rcases iS r v1 b e1 hb with h5|h5
   ·omega
   ·exact h5 ⟨o1,h3,l1⟩
  ·have eH:r' < η.length:=by rw[h.heap.len];exact(alu.1 h4).1
   rw[alH eH] at e2;have:(η++[v])[s.hp.length]?=some v:=by rw[<-h.heap.len];simp
   rw[this] at e1;obtain rfl:=alw e1;intro eF;have:=hv b hb;rcases iS r' v2 b e2 eF with h5|h5
   ·omega
   ·exact h5 ⟨o2,h4,l2⟩
  ·exact(bu rfl).elim
 ·intro r o' u b h1 hli h2 hb;rcases dt h1 with h3|⟨rfl,rfl⟩
  ·have hr:r<η.length:=by rw[h.heap.len];exact(alu.1 h3).1
   rw[alH hr] at h2;exact h.bM r o' u b h3 hli h2 hb
  ·have:(η++[v])[s.hp.length]?=some v:=by rw[<-h.heap.len];simp
   rw[this] at h2;obtain rfl:=alw h2;have h5:=hv b hb;exact⟨.inl (amf bN h5),fun o hx=>by have:=ax.no hx;omega⟩
end
section
variable {G:Type} {Γ:Env G} {s:AS G} {a:Act} {w w':World} {η aN:List Value} {hp:List af}
theorem getElem?_set_ne {α:Type} {l:List α} {r r':Nat} {x:α} (h:r≠r'):(l.set r x)[r']?=l[r']?:=by
 rw[amr];simp[h]
theorem au {α:Type} {l:List α} {r:Nat} {x y:α} (h:l[r]?=some y):(l.set r x)[r]?=some x:=by
 rw[amr];simp[(alu.1 h).1]
def af.bg (k:Nat):af->Prop
 | .row _ size els=>k<els.length*size
 | .dead=>True
 |_=>False
theorem aU (b k:Nat):iR η hp b k↔∀(r:Nat) (v:Value),η[r]?=some v->ct v=some b->∃o,hp[r]?=some o/\o.bg k:=by
 constructor
 ·intro h r v h1 h2;have:=h r v h1 h2
  cases hr:hp[r]? with
  |none=>simp[hr] at this
  |some o=>rw[hr] at this;refine⟨o,rfl,?_⟩;cases o<;>exact this
 ·intro h r v h1 h2;obtain⟨o,h3,h4⟩:=h r v h1 h2;rw[h3]
  cases o<;>exact h4
theorem dC.block (h:dC w (bk Γ w η hp) η hp) {r:Nat} {o:af} {u:Value} {b:Nat} (ho:hp[r]?=some o) (hl:o.live) (hu:η[r]?=some u) (hb:ct u=some b):b<w.heap.size:=by
 have dB:=h.obj r o u ho hu
 cases o with
 |dead=>exact hl.elim
 |box cs=>obtain⟨b',vs,T,rfl,h1,_⟩:=dB;simp only[ct,als] at hb;subst hb;exact bo h1
 |row e size els=>
  obtain⟨_,xs,h1,_⟩:=dB;obtain⟨cur,h5⟩:=h1.lt hb;exact bo h5
 |aJ es=>obtain⟨b',en,c,rfl,h1,_⟩:=dB;simp only[ct,als] at hb;subst hb;exact bo h1
 |cU q k=>obtain⟨b',vs,rfl,h1,_⟩:=dB;simp only[ct,als] at hb;subst hb;exact bo h1
 |aQ e size els=>
  obtain⟨_,xs,h1,_⟩:=dB;obtain⟨cur,h5⟩:=h1.lt hb;exact bo h5
 |dN e m ns=>obtain⟨cur,h5⟩:=eS.lt dB hb;exact bo h5
theorem Rel.change (ax:Γ.Ok) (h:Rel Γ s a w η) {r:Nat} {o o':af} {v v':Value} (hr:s.hp[r]?=some o) (da:o.live) (hv:η[r]?=some v)
  (hk:bE (fun k=>ct v=some k) w w') (Jp:∀b,ct v'=some b->ct v=some b\/w.heap.size<=b)
  (ew:∀k,o.bg k->o'.bg k)
  (aE:∀b k u,ct v=some b->o.bg k->w.cell? ⟨b,k,none⟩=some u->w'.cell? ⟨b,k,none⟩=some u)
  (Z6:∀b es c,ct v=some b->o.bg 0->w.heap[b]?=some (.map es c)->False)
  (qe:∀n u,aT η s.hp r n u->aT (η.set r v') (s.hp.set r o') r n u)
  (aeo:∀x,v=.pointer x->v'=v) (hmp:∀x,v=.map x->v'=v)
  (X2:∀b d,ct v=some b->w.heap[b]?=some (.deferred d)->False)
  (wF:Ext w (bk Γ w η s.hp) η s.hp w' (bk Γ w' (η.set r v') (s.hp.set r o')) (η.set r v') (s.hp.set r o')->fM w' (bk Γ w' (η.set r v') (s.hp.set r o')) (η.set r v') (s.hp.set r o') o' v'):
  Rel Γ { s with hp:=s.hp.set r o' } a w' (η.set r v'):=by
 have dB:∀b k,bk Γ w η s.hp b k->ct v=some b->o.bg k:=fun b k hf hb=>by
  obtain⟨o1,h1,h2⟩:=(aU b k).1 hf.2.2.2 r v hv hb;rw[hr] at h1;obtain rfl:=alw h1;exact h2
 have he:Ext w (bk Γ w η s.hp) η s.hp w' (bk Γ w' (η.set r v') (s.hp.set r o')) (η.set r v') (s.hp.set r o'):=by
  refine⟨fun b k u hf hc=>?_,fun b es c hf hc=>?_,fun b k hf=>?_,fun r1 x h1=>?_,fun r1 x h1=>?_,fun r1 n u h1=>?_⟩
  ·by_cases hb:ct v=some b
   ·exact aE b k u hb (dB b k hf hb) hc
   ·rw[hk.cell (dZ hf) hb];exact hc
  ·by_cases hb:ct v=some b
   ·exact(Z6 b es c hb (dB b 0 hf hb) hc).elim
   ·rw[hk.block b (dZ hf) hb];exact hc
  ·refine⟨hf.1,al8 hf.2.1 hk.size,hf.2.2.1,(aU b k).2 fun r1 u h1 hb=>?_⟩
   by_cases bu:r=r1
   ·subst bu;rw[au hv] at h1;obtain rfl:=alw h1;refine⟨o',au hr,?_⟩;rcases Jp b hb with h2|h2
    ·exact ew k (dB b k hf h2)
    ·have:=dZ hf;omega
   ·rw[getElem?_set_ne bu] at h1 ⊢;exact(aU b k).1 hf.2.2.2 r1 u h1 hb
  ·by_cases bu:r=r1
   ·subst bu;rw[hv] at h1;obtain rfl:=alw h1;rw[au hv,aeo _ rfl]
   ·rw[getElem?_set_ne bu];exact h1
  ·by_cases bu:r=r1
   ·subst bu;rw[hv] at h1;obtain rfl:=alw h1;rw[au hv,hmp _ rfl]
   ·rw[getElem?_set_ne bu];exact h1
  ·by_cases bu:r=r1
   ·subst bu;exact qe n u h1
   ·unfold aT at h1 ⊢;rw[getElem?_set_ne bu,getElem?_set_ne bu];exact h1
 refine⟨h.nt,fun t=>(h.tmps t).ext he,⟨by simp[h.heap.len],fun r1 o1 u h1 h2=>?_,fun r1 r2 o1 o2 v1 v2 b bu h1 h2 l1 l2 e1 e2 hb=>?_⟩,fun r1 o1 u b h1 hl h2 hb=>?_,?_,?_,?_,h.ext.trans he⟩
 ·simp only at h1
  by_cases bu:r=r1
  ·subst bu;rw[au hr] at h1;rw[au hv] at h2;obtain rfl:=alw h1;obtain rfl:=alw h2;exact wF he
  ·rw[getElem?_set_ne bu] at h1 h2
   by_cases A7:o1.live
   ·exact(h.heap.obj r1 o1 u h1 h2).ext he hk.size fun b hb ak=>hk.block b ak fun eF=>h.heap.sep r1 r o1 o u v b (am5 bu) h1 hr A7 da h2 hv hb eF
   ·cases o1<;>first|exact True.intro|exact(A7 True.intro).elim
 ·simp only at h1 h2
  by_cases n1:r=r1
  ·subst n1;rw[au hv] at e1;obtain rfl:=alw e1;rw[getElem?_set_ne bu] at h2 e2;intro eF;rcases Jp b hb with h3|h3
   ·exact h.heap.sep r r2 o o2 v v2 b bu hr h2 da l2 hv e2 h3 eF
   ·have:=h.heap.block h2 l2 e2 eF;omega
  ·rw[getElem?_set_ne n1] at h1 e1
   by_cases n2:r=r2
   ·subst n2;rw[au hv] at e2;obtain rfl:=alw e2;intro eF;rcases Jp b eF with h3|h3
    ·exact h.heap.sep r r1 o o1 v v1 b (fun e=>n1 e) hr h1 da l1 hv e1 h3 hb
    ·have:=h.heap.block h1 l1 e1 hb;omega
   ·rw[getElem?_set_ne n2] at h2 e2;exact h.heap.sep r1 r2 o1 o2 v1 v2 b bu h1 h2 l1 l2 e1 e2 hb
 ·simp only at h1
  by_cases bu:r=r1
  ·subst bu;rw[au hv] at h2;obtain rfl:=alw h2;rcases Jp b hb with h3|h3
   ·exact h.bM r o v b hr da hv h3
   ·exact⟨.inl (amf h.keeps.size h3),fun o hx=>by have:=ax.no hx;have:=h.keeps.size;omega⟩
  ·rw[getElem?_set_ne bu] at h1 h2;exact h.bM r1 o1 u b h1 hl h2 hb
 ·refine h.keeps.trans hk fun b hb pG=>?_;rcases (h.bM r o v b hr da hv pG).1 with h1|h1
  ·omega
  ·exact .inr h1
 ·refine ax.ou _ _ _ (fun b hb=>hk.block b (al8 (ax.x b hb) h.keeps.size) fun pG=>?_) hk.size h.inv;exact(h.bM r o v b hr da hv pG).2 0 (.inl hb)
 ·exact hk.marks h.marks fun b pG=>.inr fun d hd=>X2 b d pG hd
def setCells (cs:List AV) (off:Nat):List AV->List AV
 | []=>cs
 |x::xs=>setCells (cs.set off x) (off+1) xs
theorem vC (xs:List AV):∀(cs:List AV) (off:Nat),(setCells cs off xs).length=cs.length:=by
 induction xs with
 |nil=>intro cs off;rfl
 |cons x xs ih=>intro cs off;simp[setCells,ih]
theorem Rel.write (ax:Γ.Ok) (h:Rel Γ s a w η) {r off b:Nat} {cs:List AV} {x:AV} {v:Value} (hr:s.hp[r]?=some (.box cs)) (hv:η[r]?=some (.pointer (some ⟨b,0,none⟩)))
  (SL:off<cs.length) (h1:v.oneCell'=true) (hx:bm w (bk Γ w η s.hp) η s.hp x v):
  Rel Γ { s with hp:=s.hp.set r (.box (cs.set off x)) } a (w.setCell ⟨b,off,none⟩ v) η/\w.frozen? ⟨b,off,none⟩=false/\∃u,w.cell? ⟨b,off,none⟩=some u:=by
 have dB:=h.heap.obj r _ _ hr hv;obtain⟨b',vs,T,he,hg,bN,hc⟩:=dB;simp only[Value.pointer.injEq,als,Addr.mk.injEq,and_true] at he;subst he;have qf:(w.setCell ⟨b,off,none⟩ v).heap[b]?=some (.cells (vs.setIfInBounds off v) T (0,0)):=Go.heap_setCell_same w b off vs T v hg;have dR:η.set r (.pointer (some ⟨b,0,none⟩))=η:=by
  apply ams;intro i
  by_cases hi:r=i
  ·subst hi;rw[au hv,hv]
  ·rw[getElem?_set_ne hi]
 refine⟨?_,frozen_of_row w b off vs T hg,?_⟩
 ·have:=Rel.change (w':=w.setCell ⟨b,off,none⟩ v) (o':=.box (cs.set off x)) (v':=.pointer (some ⟨b,0,none⟩)) ax h hr True.intro hv
   ⟨rfl,rfl,rfl,by simp[World.setCell],fun k hk hb=>am8 w _ k v (by intro e;exact hb (by rw[e];rfl))⟩
   (fun c hc=>.inl hc) (fun k hk=>hk.elim) (fun _ _ _ _ hk=>hk.elim) (fun _ _ _ _ hk=>hk.elim)
   (fun n u ho=>by simp[aT,hr] at ho)
   (fun _ _=>rfl) (fun _ hx=>by cases hx)
   (fun c d hb hd=>by simp only[ct,als] at hb;subst hb;rw[hg] at hd;cases hd)
   (fun he=>⟨b,vs.setIfInBounds off v,T,rfl,qf,by simp[bN],fun j y u hy hu=>by
    by_cases hj:off=j
    ·subst hj;have ak:off<vs.size:=by rw[bN];exact SL
     have e1:(cs.set off x)[off]?=some x:=by rw[amr];simp[SL]
     have e2:(vs.setIfInBounds off v)[off]?=some v:=by rw[amG];simp[ak]
     rw[e1] at hy;rw[e2] at hu;obtain rfl:=alw hy;obtain rfl:=alw hu;exact⟨hx.ext he,h1⟩
    ·rw[getElem?_set_ne hj] at hy;have e2:(vs.setIfInBounds off v)[j]?=vs[j]?:=by rw[amG];simp[hj]
     rw[e2] at hu
     exact⟨(hc j y u hy hu).1.ext he,(hc j y u hy hu).2⟩⟩)
  rw[dR] at this;exact this
 ·rw[cell_of_row w b off vs T (0,0) hg];exact⟨vs[off]'(by rw[bN];exact SL),by simp[bN,SL]⟩
end
section
inductive TK where
 |other
 |int (k:IntKind)
 |str
 |bool
 |cr (fields:List (Nat×Nat×Bool))
 |jS (e:Nat)
 |oh (k e:Nat)
 |ptr (e:Nat)
 |arr (n:Nat)
 |ifc
structure TD where
 flat:Bool:=false
 kind:TK
 size:Nat
 bytes:Nat
 zero:Value
def TK.agg:TK->Bool
 | .cr _=>true
 | .arr _=>true
 |_=>false
def M9:TypeDesc->Bool
 | .struct _ | .array _ _=>true
 |_=>false
def TK.fits (P:Program) (u:TypeDesc):TK->Prop
 | .other=>(match u with | .struct _ | .array _ _=>False|_=>True)
 | .int k=>u=.int k
 | .str=>u=.string
 | .bool=>u=.bool
 | .cr fs=>∃fields,u=.struct fields/\fields.toList.map (fun f=>(f.offset,(P.info? f.type).map (·.size),(P.underlying f.type).map M9))=fs.map fun p=>(p.1,some p.2.1,some p.2.2)
 | .jS e=>u=.slice e
 | .oh k e=>u=.map k e
 | .ptr e=>u=.pointer e
 | .ifc=>∃ms,u=.interface ms
 | .arr n=>∃e i,u=.array n e/\P.info? e=some i/\i.size=1
structure fN (P:Program) (T:TypeId) (d:TD):Prop where
 info:∃i,P.info? T=some i/\i.size=d.size/\i.bytes=d.bytes/\i.zero=some d.zero
 kC:∃u,P.underlying T=some u/\d.kind.fits P u
 Jq:d.zero.cells.size=d.size
 aep:∀v:Value,v∈d.zero.cells->v.oneCell'=true
 aiV:d.kind.agg=true->∃cs,d.zero=.agg cs
 WX:d.kind.agg=false->d.size=1/\d.zero.oneCell'=true
 feq:d.flat=true->P.eqGuardType P.depth T=false/\∀(w:World) (a1 a2 b1 b2:Int),(Op.equalIn 10000 T (.agg #[.int .i64 a1,.int .i64 a2]) (.agg #[.int .i64 b1,.int .i64 b2])).run P w=.ok (a1==b1&&a2==b2) w
def aZ (P:Program) (tab:Nat->Option TD):Prop:=∀T d,tab T=some d->fN P T d
variable {G:Type} {Γ:Env G} {s:AS G} {a:Act} {w w':World} {η:List Value} {hp:List af} {F:Nat->Nat->Prop} {P:Program}
theorem fN.La {T:TypeId} {d:TD} (h:fN P T d) (w:World):(isAgg T).run P w=.ok d.kind.agg w:=by
 obtain⟨u,h1,h2⟩:=h.kC;simp only[isAgg,Sem.run_bind,run_underlying h1,Result.andThen_ok];revert h2
 cases hk:d.kind<;>intro h2<;>simp only[TK.fits] at h2
 ·cases u<;>first|rfl|exact h2.elim
 ·subst h2;rfl
 ·subst h2;rfl
 ·subst h2;rfl
 ·obtain⟨f,rfl,_⟩:=h2;rfl
 ·subst h2;rfl
 ·subst h2;rfl
 ·subst h2;rfl
 ·obtain⟨e,i,rfl,_⟩:=h2;rfl
 ·obtain⟨m,rfl⟩:=h2;rfl
theorem fN.run_sizeOf {T:TypeId} {d:TD} (h:fN P T d) (w:World):(sizeOf T).run P w=.ok d.size w:=by
 obtain⟨i,h1,h2,_⟩:=h.info;simp[sizeOf,typeInfo,h1,h2]
theorem fN.gM {T:TypeId} {d:TD} (h:fN P T d) (w:World):(zeroValue T).run P w=.ok d.zero w:=by
 obtain⟨i,h1,_,_,h4⟩:=h.info;simp[zeroValue,typeInfo,h1,h4]
theorem fN.run_load {T:TypeId} {d:TD} (h:fN P T d) {b o:Nat} {vs:List Value} (hl:vs.length=d.size) (hc:∀(j:Nat) (v:Value),vs[j]?=some v->w.cell? ⟨b,o+j,none⟩=some v):
  (loadVar T ⟨b,o,none⟩).run P w=.ok (if d.kind.agg then .agg vs.toArray else vs.headD undef) w:=by
 simp only[loadVar,Sem.run_bind,h.La,Result.andThen_ok]
 cases hk:d.kind.agg with
 |true=>
  simp only[if_true,Sem.run_bind,h.run_sizeOf,Result.andThen_ok];rw[<-hl,run_loadCells_list (P:=P) w ⟨b,o,none⟩ vs (fun j v hj=>by rw[Addr.add_lit];exact hc j v hj)];rfl
 |false=>
  have h1:=(h.WX hk).1;rw[h1] at hl
  match vs,hl with
  | [v],_=>
   have:=hc 0 v rfl;simp only[amy] at this;simp[run_load,this]
def AV.gN (hp:List af):AV->Option (List AV)
 | .sl els=>some els
 | .clip els=>some els
 | .ae (.slice none 0 0)=>some []
 | .own r n=>match hp[r]? with
  |some (.row _ _ els)=>if n=els.length then some els else none
  |_=>none
 |_=>none
theorem Rel.X3 {r:Nat} {e size:Nat} {els:List AV} {v:Value} (hF:∀b k,(∃u,η[r]?=some u/\ct u=some b)->k<els.length*size->F b k)
  (dB:fM w F η hp (.row e size els) v) (hv:η[r]?=some v):bm w F η hp (.sl els) v:=by
 obtain⟨h0,xs,cy,cS⟩:=dB;rcases cy.2 with⟨hn,rfl|⟨ad,rfl⟩⟩|⟨g,cap,cur,rfl,G4,⟨hi,_,hg⟩,Dp,G5,fO,kR⟩
 ·have:els=[]:=al1 hn;subst this;exact .lL _
 ·have:els=[]:=al1 hn;subst this;exact .lL _
 ·have aE:∀(i:Nat) (el:AV) (j:Nat) (x:AV),els[i]?=some el->el.cells[j]?=some x->∃u,w.cell? ⟨g,0+i*size+j,none⟩=some u/\xs.getD (i*size+j) undef=u/\F g (0+i*size+j)/\u.oneCell'=true/\bm w F [] [] x u:=by
   intro i el j x hi hj;obtain⟨hlen,hx⟩:=cS i el hi;obtain⟨u,hu,cX,h1⟩:=hx j x hj;have qu:i<els.length:=(alu.1 hi).1;have rB:j<size:=by rw[<-hlen];exact(alu.1 hj).1
   have ak:i*size+j<els.length*size:=by
    have:=amw size (show i+1<=els.length from qu);rw[amu] at this;omega
   refine⟨u,?_,by simp[List.getD,hu],hF _ _ ⟨_,hv,bp G4⟩ (by omega),h1,cX⟩;rw[al2,cell_of_row w g _ cur e _ hg];rw[<-kR,alO,if_pos ak] at hu;simpa using hu
  refine .sl size els g 0 cap (fun i j=>xs.getD (i*size+j) undef) Dp G5 (fun i el hi=>(cS i el hi).1) (fun i el j x hi hj=>?_) (fun i el j x hi hj=>?_)
  ·obtain⟨u,h1,h2,h3,h4,_⟩:=aE i el j x hi hj;exact⟨by rw[h2];exact h1,h3,by rw[h2];exact h4⟩
  ·obtain⟨u,h1,h2,h3,h4,h5⟩:=aE i el j x hi hj;rw[h2];exact h5
theorem SM (h:dC w (bk Γ w η hp) η hp) (hm:vB Γ η hp) {r e size:Nat} {els:List AV} {v:Value} (hr:hp[r]?=some (.row e size els)) (hv:η[r]?=some v)
  {b k:Nat} (hb:ct v=some b) (rE:k<els.length*size):bk Γ w η hp b k:=by
 have h1:=hm r _ v b hr True.intro hv hb;refine⟨.inr h1.1,h.block hr True.intro hv hb,h1.2 _,(aU b k).2 fun r' u hu eF=>?_⟩
 ·by_cases bu:r=r'
  ·subst bu;exact⟨_,hr,rE⟩
  ·have eH:r' < hp.length:=by rw[<-h.len];exact(alu.1 hu).1
   refine⟨hp[r'],by simp[eH],?_⟩
   cases ho:hp[r'] with
   |dead=>exact True.intro
   |box cs=>exact(h.sep r r' _ (.box cs) v u b bu hr (by rw[<-ho];simp[eH]) True.intro True.intro hv hu hb eF).elim
   |row e' s' lO=>exact(h.sep r r' _ (.row e' s' lO) v u b bu hr (by rw[<-ho];simp[eH]) True.intro True.intro hv hu hb eF).elim
   |aJ es=>exact(h.sep r r' _ (.aJ es) v u b bu hr (by rw[<-ho];simp[eH]) True.intro True.intro hv hu hb eF).elim
   |cU q k=>exact(h.sep r r' _ (.cU q k) v u b bu hr (by rw[<-ho];simp[eH]) True.intro True.intro hv hu hb eF).elim
   |aQ e' s' lO=>exact(h.sep r r' _ (.aQ e' s' lO) v u b bu hr (by rw[<-ho];simp[eH]) True.intro True.intro hv hu hb eF).elim
   |dN e' m' Z7=>exact(h.sep r r' _ (.dN e' m' Z7) v u b bu hr (by rw[<-ho];simp[eH]) True.intro True.intro hv hu hb eF).elim
end
section
variable {G:Type} {Γ:Env G} {s:AS G} {a:Act} {w w':World} {η:List Value} {hp:List af} {F:Nat->Nat->Prop} {P:Program}
theorem SN (h:dC w (bk Γ w η hp) η hp) (hm:vB Γ η hp) {r n e size:Nat} {els:List AV} {v:Value} (hr:hp[r]?=some (.row e size els)) (ho:aT η hp r n v) (hn:n=els.length):
  bm w (bk Γ w η hp) η hp (.sl els) v:=by
 have hv:η[r]?=some v:=by
  unfold aT at ho;rw[hr] at ho;exact ho.2 hn
 exact Rel.X3 (fun b k ⟨u,h1,h2⟩ hk=>SM h hm hr h1 h2 hk) (h.obj r _ v hr hv) hv
theorem jT (h:dC w (bk Γ w η hp) η hp) (hm:vB Γ η hp) {x:AV} {els:List AV} {v:Value} (hx:bm w (bk Γ w η hp) η hp x v) (he:x.gN hp=some els):
  bm w (bk Γ w η hp) η hp (.sl els) v:=by
 cases x with
 |sl l=>simp only[AV.gN,als] at he;subst he;exact hx
 |clip l=>simp only[AV.gN,als] at he;subst he;exact hx.pF
 |ae u=>
  have:u=v:=by cases hx;rfl
  subst this;unfold AV.gN at he
  split at he<;>try (simp at he;done)
  ·rename_i h1;cases h1
  ·rename_i h1;cases h1
  ·rename_i h1;simp only[AV.ae.injEq] at h1;subst h1;obtain rfl:=alw he;exact .lL _
  ·rename_i h1;cases h1
 |own r n=>
  have ho:aT η hp r n v:=by cases hx;assumption
  simp only[AV.gN] at he
  cases hr:hp[r]? with
  |none=>simp[hr] at he
  |some o=>
   cases o with
   |row e size l=>
    simp only[hr] at he;split at he
    ·rename_i hn;obtain rfl:=alw he;exact SN h hm hr ho hn
    ·cases he
   |_=>simp[hr] at he
 |_=>simp[AV.gN] at he
structure A8 (w:World) (F:Nat->Nat->Prop) (size:Nat) (els:List AV) (v:Value) (news:List Value):Prop where
 shape:(∃ad:Option Addr,v=.slice ad 0 0/\els=[])\/∃b o c,v=.slice (some ⟨b,o,none⟩) els.length c/\els.length<=c/\c<=maxLen/\∀(k:Nat) (u:Value),news[k]?=some u->w.cell? ⟨b,o+k,none⟩=some u
 len:news.length=els.length*size
 one:∀u:Value,u∈news->u.oneCell'=true
 rep:∀(i:Nat) (e:AV) (j:Nat) (x:AV),els[i]?=some e->e.cells[j]?=some x->∃u,news[i*size+j]?=some u/\bm w F [] [] x u/\u.oneCell'=true
theorem bm.vW {size:Nat} {els:List AV} {v:Value} (h:bm w F η hp (.sl els) v) (bN:0<size) (hl:∀e:AV,e∈els->e.cells.length=size):∃news,A8 w F size els v news:=by
 cases h with
 |lL a=>exact⟨[],.inl ⟨a,rfl,rfl⟩,by simp,(fun u hu=>by cases hu),fun i e j x hi=>by simp at hi⟩
 |sl uE els b o c f hc hm G6 aE hr=>
  have aeq:∀k,k<els.length*size->k / size<els.length/\k % size<size/\k=k / size*size+k % size:=fun k hk=>
   ⟨Nat.div_lt_of_lt_mul (by rw[Nat.mul_comm];exact hk),Nat.mod_lt _ bN,by rw[Nat.mul_comm];exact(Nat.div_add_mod k size).symm⟩
  have cq:∀k,k<els.length*size->w.cell? ⟨b,o+k,none⟩=some (f (k / size) (k % size))/\(f (k / size) (k % size)).oneCell'=true:=fun k hk=>by
   obtain⟨h1,h2,h3⟩:=aeq k hk;have he:els[k / size]?=some els[k / size]:=by simp[h1]
   have hlen:=hl _ (alG h1);have hj:els[k / size].cells[k % size]?=some (els[k / size].cells[k % size]'(by rw[hlen];exact h2)):=by simp[hlen,h2]
   have A9:uE=size:=by rw[<-G6 _ _ he];exact hlen
   have:=aE _ _ _ _ he hj;rw[A9,anp,<-h3] at this;exact⟨this.1,this.2.2⟩
  refine⟨(List.range (els.length*size)).map fun k=>f (k / size) (k % size),.inr ⟨b,o,c,rfl,hc,hm,fun k u hk=>?_⟩,by simp,fun u hu=>?_,fun i e j x hi hj=>?_⟩
  ·rw[alM] at hk
   by_cases ak:k<els.length*size
   ·rw[anx ak] at hk;obtain rfl:=alw hk;exact(cq k ak).1
   ·rw[al0 (by simp;omega)] at hk;cases hk
  ·obtain⟨k,hk,rfl⟩:=amz.1 hu;exact(cq k (amR.1 hk)).2
  ·have hlen:=hl e (alF hi);have qu:i<els.length:=(alu.1 hi).1;have rB:j<size:=by rw[<-hlen];exact(alu.1 hj).1
   have ak:i*size+j<els.length*size:=by
    have:=amw size (show i+1<=els.length from qu);rw[amu] at this;omega
   have e1:(i*size+j) / size=i:=by rw[Nat.mul_comm,Nat.mul_add_div bN,Nat.div_eq_of_lt rB,amy]
   have e2:(i*size+j) % size=j:=by rw[Nat.mul_comm,Nat.mul_add_mod,Nat.mod_eq_of_lt rB]
   refine⟨f i j,?_,hr i e j x hi hj,(aE i e j x hi hj).2.2⟩;rw[alM,anx ak];simp[e1,e2]
theorem A8.ext {w':World} {F':Nat->Nat->Prop} {size:Nat} {els:List AV} {v:Value} {news:List Value} (h:A8 w F size els v news) (he:M7 w F w' F'):
  ∀(i:Nat) (e:AV) (j:Nat) (x:AV),els[i]?=some e->e.cells[j]?=some x->∃u,news[i*size+j]?=some u/\bm w' F' [] [] x u/\u.oneCell'=true:=
 fun i e j x hi hj=>let ⟨u,h1,h2,h3⟩:=h.rep i e j x hi hj;⟨u,h1,h2.ext he.ext,h3⟩
theorem mU {R:AV->Value->Prop} {size:Nat} {l1 l2:List AV} {x1 x2:List Value} (hx1:x1.length=l1.length*size)
  (h1:∀(i:Nat) (e:AV) (j:Nat) (x:AV),l1[i]?=some e->e.cells[j]?=some x->∃u,x1[i*size+j]?=some u/\R x u/\u.oneCell'=true)
  (h2:∀(i:Nat) (e:AV) (j:Nat) (x:AV),l2[i]?=some e->e.cells[j]?=some x->∃u,x2[i*size+j]?=some u/\R x u/\u.oneCell'=true):
  ∀(i:Nat) (e:AV) (j:Nat) (x:AV),(l1++l2)[i]?=some e->e.cells[j]?=some x->∃u,(x1++x2)[i*size+j]?=some u/\R x u/\u.oneCell'=true:=by
 intro i e j x hi hj
 by_cases ak:i<l1.length
 ·rw[alH ak] at hi;obtain⟨u,h3,h4⟩:=h1 i e j x hi hj;exact⟨u,by rw[alH (alu.1 h3).1];exact h3,h4⟩
 ·rw[amb (by omega)] at hi;obtain⟨u,h3,h4⟩:=h2 _ e j x hi hj;refine⟨u,?_,h4⟩;have:x1.length<=i*size+j:=by
   rw[hx1];have:=amw size (show l1.length<=i by omega);omega
  rw[amb this,hx1,<-h3]
  congr 1
  rw[Nat.sub_mul];have:=amw size (show l1.length<=i by omega);omega
theorem jn {t ty e:TypeId} {ed:TD} (ht:P.underlying t=some (.slice e)) (he:fN P e ed) (b:Option Addr) (n c:Nat) (hn:n<=c) (x:Value) (hx:x=.slice none 0 0\/∃ad k,x=.slice (some ad) 0 k):
  (Builtin.append_ #[t,t] ty #[.slice b n c,x]).run P w=.ok (.slice b n c) w:=by
 obtain⟨i,h1,h2,_⟩:=he.info;rcases hx with rfl|⟨ad,k,rfl⟩<;>cases b <;>
  simp[Builtin.append_,run_underlying ht,sizeOf,typeInfo,h1,Builtin.lenOf,hn,Builtin.firstCells,storeCells,loadCells,loadCellsFrom]
theorem tF {e size:Nat} {n m:Nat} {z:Array Value} (olds news:List Value) (ho:olds.length=n*size) (hnw:news.length=m*size) (hz:z.size=size) (old:Nat) (hm:0<m) (Ba:n+m<=maxLen):
  kQ (w.drew.alloc (.cells (olds.toArray++news.toArray++Builtin.zeroCells z (grownCap w (n+m) old e-(n+m))) e)) e size
   (.slice (some ⟨w.heap.size,0,none⟩) (n+m) (grownCap w (n+m) old e)) (n+m) (olds++news) 0:=by
 have tB:=grownCap_ge w (n+m) old e;have G5:grownCap w (n+m) old e<=maxLen:=grownCap_le_maxLen w (n+m) old e Ba;have hlen:(olds++news).length=(n+m)*size:=by rw[alz,ho,hnw,amu]
 refine⟨hlen,.inr ⟨w.heap.size,_,_,rfl,by omega,⟨0,alA _,heap_alloc_new w.drew _⟩,tB,G5,?_,?_⟩⟩
 ·simp only[Array.size_append,anl,size_zeroCells,hz,ho,hnw,<-amu]
  congr 1
  omega
 ·simp only[Array.toList_append,alU];rw[<-alU,<-hlen];exact anw
end
section
variable {G:Type} {Γ:Env G} {s:AS G} {a:Act} {w w':World} {η:List Value} {hp:List af} {F:Nat->Nat->Prop} {P:Program}
theorem wG (ax:Γ.Ok) (h:Rel Γ s a w η) {t ty e:TypeId} {d:TD} (ht:Γ.P.underlying t=some (.slice e)) (gO:fN Γ.P e d) (bN:0<d.size) {els aD:List AV} {v0 v2:Value}
  (hb:v0=.slice none 0 0/\els=[]\/bm w (bk Γ w η s.hp) η s.hp (.clip els) v0) (hx:bm w (bk Γ w η s.hp) η s.hp (.sl aD) v2)
  (hl:∀x:AV,x∈els->x.cells.length=d.size) (qg:∀x:AV,x∈aD->x.cells.length=d.size) (bu:aD=[]->els=[])
  (hm:els.length+aD.length<=maxLen) (G7:(els.length+aD.length)*d.bytes<=140737488355328) {ob:af} (dB:ob=.row e d.size (els++aD)\/ob=.aQ e d.size (els++aD)):
  ∃v' w',(Builtin.append_ #[t,t] ty #[v0,v2]).run Γ.P w=.ok v' w'/\Rel Γ (s.add ob) a w' (η++[v'])/\v'.oneCell'=true:=by
 have lP:∀{w:World} {F:Nat->Nat->Prop} {η:List Value} {hp:List af} {v:Value},fM w F η hp (.aQ e d.size (els++aD)) v->fM w F η hp ob v:=by
  rcases dB with rfl|rfl
  ·exact fun⟨h1,xs,h2,h3⟩=>⟨h1,xs,h2.more (alE _),h3⟩
  ·exact id
 obtain⟨i,ox,rC,Df,Jr⟩:=gO.info;have hbs:bm w (bk Γ w η s.hp) η s.hp (.sl els) v0:=by
  rcases hb with⟨rfl,rfl⟩|hb
  ·exact .lL _
  ·exact hb.pF
 obtain⟨olds,ho⟩:=hbs.vW bN hl;obtain⟨news,hn⟩:=hx.vW bN qg;have tG:(∃ad:Option Addr,v0=.slice ad 0 0/\els=[])\/∃b o,v0=.slice (some ⟨b,o,none⟩) els.length els.length/\∀(k:Nat) (u:Value),olds[k]?=some u->w.cell? ⟨b,o+k,none⟩=some u:=by
  rcases ho.shape with h1|⟨b,o,c,rfl,_,_,hc⟩
  ·exact .inl h1
  ·rcases hb with⟨hb,_⟩|hb
   ·cases hb
   ·cases hb with
    |jv=>exact .inl ⟨_,rfl,rfl⟩
    |clip size els b o f hm G6 aE hr=>exact .inr ⟨_,_,rfl,hc⟩
 by_cases hz:aD=[]
 ·have hz':=bu hz;subst hz;subst hz';have hv2:v2=.slice none 0 0\/∃ad k,v2=.slice (some ad) 0 k:=by
   rcases hn.shape with⟨ad,rfl,_⟩|⟨b,o,c,rfl,_⟩
   ·cases ad with
    |none=>exact .inl rfl
    |some ad=>exact .inr ⟨_,_,rfl⟩
   ·exact .inr ⟨_,_,rfl⟩
  rcases tG with⟨ad,rfl,_⟩|⟨b,o,rfl,_⟩
  ·refine⟨_,w,jn ht gO ad 0 0 (alA _) v2 hv2,?_,rfl⟩;exact h.add ax (bI.refl w) (fun b hb=>by cases ad<;>simp[ct] at hb) (lP ⟨bN,[],⟨by simp,.inl ⟨rfl,by cases ad with|none=>exact .inl rfl|some ad=>exact .inr ⟨ad,rfl⟩⟩⟩,fun i el hi=>by simp at hi⟩)
  ·refine⟨_,w,jn ht gO (some ⟨b,o,none⟩) 0 0 (alA _) v2 hv2,?_,rfl⟩;exact h.add ax (bI.refl w) (fun b hb=>by simp[ct] at hb) (lP ⟨bN,[],⟨by simp,.inl ⟨rfl,.inr ⟨_,rfl⟩⟩⟩,fun i el hi=>by simp at hi⟩)
 ·have Bb:0<aD.length:=ang.2 hz;rcases hn.shape with⟨_,_,h1⟩|⟨b2,o2,c2,rfl,_,_,Js⟩
  ·exact(hz h1).elim
  have nP:∀(j:Nat) (u:Value),news[j]?=some u->w.cell? ((⟨b2,o2,none⟩:Addr).add j)=some u:=fun j u hj=>by rw[Addr.add_lit];exact Js j u hj
  have Ba:els.length+aD.length<=9223372036854775807:=by simp only[maxLen] at hm;omega
  have fin:∀(old:Nat),Rel Γ (s.add ob) a
    (w.drew.alloc (.cells (olds.toArray++news.toArray++Builtin.zeroCells d.zero.cells (grownCap w (els.length+aD.length) old e-(els.length+aD.length))) e))
    (η++[.slice (some ⟨w.heap.size,0,none⟩) (els.length+aD.length) (grownCap w (els.length+aD.length) old e)]):=by
   intro old;have hs:bI w (w.drew.alloc (.cells (olds.toArray++news.toArray++Builtin.zeroCells d.zero.cells (grownCap w (els.length+aD.length) old e-(els.length+aD.length))) e)):=
    (bI.drew w).trans (bI.alloc _ _)
   have iS:∀b,ct (.slice (some ⟨w.heap.size,0,none⟩) (els.length+aD.length) (grownCap w (els.length+aD.length) old e))=some b->w.heap.size<=b:=by
    intro b hb;rw[bp (by have:=grownCap_ge w (els.length+aD.length) old e;omega)] at hb;obtain rfl:=alw hb;exact alA _
   have he:=rD (Γ:=Γ) (o:=ob) h.heap.len hs iS;refine h.add ax hs iS (lP ⟨bN,olds++news,?_,fun i el hi=>⟨?_,?_⟩⟩)
   ·rw[alz];exact tF olds news ho.len hn.len gO.Jq old Bb hm
   ·rcases amn.1 (alF hi) with h1|h1
    ·exact hl _ h1
    ·exact qg _ h1
   ·exact fun j x hj=>mU ho.len (ho.ext he.lN) (hn.ext he.lN) i el j x hi hj
  rcases tG with⟨ad,rfl,rfl⟩|⟨b,o,rfl,hc⟩
  ·have:olds=[]:=al1 (by simpa using ho.len);subst this
   cases ad with
   |some ad=>
    have:=run_append_grow (P:=Γ.P) w t ty e i d.zero ht ox Jr ad 0 0 [] (by simp) (fun j u hj=>by simp at hj) ⟨b2,o2,none⟩ aD.length c2 news (by rw[rC];exact hn.len) nP (by omega)
     (by simp only[al4,al2] at Ba ⊢;omega) (growslice_fits (by omega) (by rw[Df];simpa only[al4] using G7))
    refine⟨_,_,this,?_,rfl⟩;have f0:=fin 0;simpa only[al4,al2,amq] using f0
   |none=>
   have:=run_append_nil (P:=Γ.P) w t ty e i d.zero ht ox Jr ⟨b2,o2,none⟩ aD.length c2 news (by rw[rC];exact hn.len) nP Bb (by simp only[al4,al2] at Ba;omega) (by rw[Df];simp only[al4,al2] at G7;omega);refine⟨_,_,this,?_,rfl⟩;have f0:=fin 0;simpa only[al4,al2,amq,Array.empty_append] using f0
  ·have holds:∀(j:Nat) (u:Value),olds[j]?=some u->w.cell? ((⟨b,o,none⟩:Addr).add j)=some u:=fun j u hj=>by rw[Addr.add_lit];exact hc j u hj
   have:=run_append_grow (P:=Γ.P) w t ty e i d.zero ht ox Jr ⟨b,o,none⟩ els.length els.length olds (by rw[rC];exact ho.len) holds ⟨b2,o2,none⟩ aD.length c2 news (by rw[rC];exact hn.len) nP (by omega)
    (by omega) (growslice_fits (by omega) (by rw[Df];exact G7))
   exact⟨_,_,this,fin els.length,rfl⟩
theorem mV {g e z:Nat}:∀(us:List Value) (o:Nat) (cur:Array Value) (w:World),w.heap[g]?=some (.cells cur e (0,z))->o+us.length<=cur.size->
  w.setCells g o us=w.setRow g (cur.toList.take o++us++cur.toList.drop (o+us.length)).toArray:=by
 intro us
 induction us with
 |nil=>
  intro o cur w hg _;simp only[World.setCells,alV,al4,amy,amk];have ak:g<w.heap.size:=(alY.1 hg).1;have hv:w.heap[g]=.cells cur e (0,z):=(alY.1 hg).2;unfold World.setRow
  cases w with
  |mk heap tape drawn os output=>
   congr 1
   apply Array.ext
   ·simp
   ·intro k h1 h2;simp only[Array.getElem_modify];split
    ·rename_i hk;subst hk;simp at hv;simp[hv]
    ·rfl
 |cons u us ih=>
  intro o cur w hg hl;rw[alJ] at hl;rw[World.setCells,setCell_eq_setRow w g o cur e _ u hg,ih (o+1) _ _ (setRow_heap w g cur _ e _ hg) (by simp;omega),setRow_setRow]
  congr 2
  apply ams;intro k;have e1:(cur.setIfInBounds o u).toList=cur.toList.set o u:=by simp
  rw[e1];have hlen:cur.toList.length=cur.size:=by simp
  rcases Nat.lt_trichotomy k o with h|h|h
  ·rw[alU,alU,alH (by simp;omega),alH (by simp;omega),alO,alO,if_pos (by omega),if_pos h,List.getElem?_set_ne (by omega)]
  ·subst h;have hk:(cur.toList.take k).length=k:=by rw[amd];omega
   rw[alU,alU,alH (by simp;omega),amb (by omega),hk,am9,alO,if_pos (by omega),List.getElem?_set_self (by omega)];rfl
  ·have e2:(cur.toList.take o++(u::us)++cur.toList.drop (o+(us.length+1)))[k]?=(us++cur.toList.drop (o+(us.length+1)))[k-(o+1)]?:=by
    rw[alU,amb (by simp;omega),amh];have:k-(List.take o cur.toList).length=(k-(o+1))+1:=by rw[amd];omega
    rw[this,al5]
   rw[alJ,e2,alU,amb (by simp;omega)];have:k-(List.take (o+1) (cur.toList.set o u)).length=k-(o+1):=by rw[amd,amJ];omega
   rw[this,List.drop_set_of_lt (by omega),show o+1+us.length=o+(us.length+1) by omega]
theorem jU {w:World} {g e z o:Nat} {cur:Array Value} {us:List Value} (hg:w.heap[g]?=some (.cells cur e (0,z))) (hz:z<=o) (hf:o+us.length<=cur.size):
  (∀j,j<us.length->(w.cell? ⟨g,o+j,none⟩).isSome=true)/\∀j,j<us.length->w.frozen? ⟨g,o+j,none⟩=false:=by
 refine⟨fun j hj=>?_,fun j hj=>?_⟩
 ·rw[cell_of_row w g _ cur e _ hg,alX (by omega)];rfl
 ·simp only[World.frozen?,hg];have:¬(o+j<z):=by omega
  simp[this]
structure wH (P:Program) (w:World) (F:Nat->Nat->Prop) (t u ty e:TypeId) (d:TD) (aD:List AV) (v2:Value) (news:List Value):Prop where
 len:news.length=aD.length*d.size
 one:∀u∈news,u.oneCell'=true
 rep:∀(i:Nat) (e:AV) (j:Nat) (x:AV),aD[i]?=some e->e.cells[j]?=some x->∃u,news[i*d.size+j]?=some u/\bm w F [] [] x u/\u.oneCell'=true
 nothing:aD=[]->∀b n c,n<=c->(Builtin.append_ #[t,u] ty #[.slice b n c,v2]).run P w=.ok (.slice b n c) w
 nil:0<aD.length->(aD.length:Int)<=9223372036854775807->aD.length*d.bytes<=281474976710656->(Builtin.append_ #[t,u] ty #[.slice none 0 0,v2]).run P w=
  .ok (.slice (some ⟨w.heap.size,0,none⟩) aD.length (grownCap w aD.length 0 e)) (w.drew.alloc (.cells (news.toArray++Builtin.zeroCells d.zero.cells (grownCap w aD.length 0 e-aD.length)) e))
 grow:0<aD.length->∀(b:Addr) (iT qh:Nat) (olds:List Value),olds.length=iT*d.size->(∀j v,olds[j]?=some v->w.cell? (b.add j)=some v)->qh<iT+aD.length->((iT+aD.length:Nat):Int)<=9223372036854775807->
  Builtin.nextslicecap (iT+aD.length) qh*d.bytes<=281474976710656->(Builtin.append_ #[t,u] ty #[.slice (some b) iT qh,v2]).run P w=
   .ok (.slice (some ⟨w.heap.size,0,none⟩) (iT+aD.length) (grownCap w (iT+aD.length) qh e)) (w.drew.alloc (.cells (olds.toArray++news.toArray++Builtin.zeroCells d.zero.cells (grownCap w (iT+aD.length) qh e-(iT+aD.length))) e))
 room:0<aD.length->∀(g iT qh:Nat) (cur:Array Value) (hi:Nat),hi<=iT*d.size->w.heap[g]?=some (.cells cur e (0,hi))->iT+aD.length<=qh->iT*d.size+news.length<=cur.size->(Builtin.append_ #[t,u] ty #[.slice (some ⟨g,0,none⟩) iT qh,v2]).run P w=
   .ok (.slice (some ⟨g,0,none⟩) (iT+aD.length) qh) (w.setRow g (cur.toList.take (iT*d.size)++news++cur.toList.drop (iT*d.size+news.length)).toArray)
theorem wH.ext {P:Program} {F F':Nat->Nat->Prop} {t u ty e:TypeId} {d:TD} {aD:List AV} {v2:Value} {news:List Value} (h:wH P w F t u ty e d aD v2 news) (he:M7 w F w' F'):
  ∀(i:Nat) (e:AV) (j:Nat) (x:AV),aD[i]?=some e->e.cells[j]?=some x->∃u,news[i*d.size+j]?=some u/\bm w' F' [] [] x u/\u.oneCell'=true:=
 fun i e j x hi hj=>let ⟨u,h1,h2,h3⟩:=h.rep i e j x hi hj;⟨u,h1,h2.ext he.ext,h3⟩
theorem rF {P:Program} {F:Nat->Nat->Prop} {t ty e:TypeId} {d:TD} (ht:P.underlying t=some (.slice e)) (gO:fN P e d) (bN:0<d.size) {aD:List AV} {v2:Value} (hx:bm w F η hp (.sl aD) v2)
  (qg:∀x:AV,x∈aD->x.cells.length=d.size):∃news,wH P w F t t ty e d aD v2 news:=by
 obtain⟨i,ox,rC,Df,Jr⟩:=gO.info;obtain⟨news,hn⟩:=hx.vW bN qg;have pos:0<aD.length->∃b2 o2 c2,v2=.slice (some ⟨b2,o2,none⟩) aD.length c2/\∀(j:Nat) (u:Value),news[j]?=some u->w.cell? ((⟨b2,o2,none⟩:Addr).add j)=some u:=fun h0=>by
  rcases hn.shape with⟨_,_,h1⟩|⟨b2,o2,c2,rfl,_,_,Js⟩
  ·rw[h1] at h0;simp at h0
  ·exact⟨b2,o2,c2,rfl,fun j u hj=>by rw[Addr.add_lit];exact Js j u hj⟩
 refine⟨news,hn.len,hn.one,hn.rep,fun h0 b n c Dp=>?_,fun h0 Ba Z8=>?_,fun h0 b iT qh olds MP ho hg Ba rG=>?_,fun h0 g iT qh cur hi WY hg eU rG=>?_⟩
 ·refine jn ht gO b n c Dp v2 ?_;subst h0;rcases hn.shape with⟨ad,rfl,_⟩|⟨b,o,c,rfl,_⟩
  ·cases ad with
   |none=>exact .inl rfl
   |some ad=>exact .inr ⟨_,_,rfl⟩
  ·exact .inr ⟨_,_,rfl⟩
 ·obtain⟨b2,o2,c2,rfl,hc⟩:=pos h0;exact run_append_nil (P:=P) w t ty e i d.zero ht ox Jr ⟨b2,o2,none⟩ aD.length c2 news (by rw[rC];exact hn.len) hc h0 Ba (by rw[Df];exact Z8)
 ·obtain⟨b2,o2,c2,rfl,hc⟩:=pos h0;exact run_append_grow (P:=P) w t ty e i d.zero ht ox Jr b iT qh olds (by rw[rC];exact MP) ho ⟨b2,o2,none⟩ aD.length c2 news (by rw[rC];exact hn.len) hc hg Ba (by rw[Df];exact rG)
 ·obtain⟨b2,o2,c2,rfl,hc⟩:=pos h0;have:=run_append_room_cells (P:=P) w t ty e i ht ox g 0 iT qh ⟨b2,o2,none⟩ aD.length c2 news (by rw[rC];exact hn.len) hc hn.one eU (by rw[rC,al2];exact(jU hg WY rG).1) (by rw[rC,al2];exact(jU hg WY rG).2);rw[rC,al2,mV news _ cur w hg rG] at this;exact this
def bh (b:ByteArray):List AV:=b.data.toList.map fun c=>.ae (.int .u8 c.toNat)
theorem eM (b:ByteArray):(bh b).length=b.size:=by simp[bh]
theorem G8 {P:Program} {F:Nat->Nat->Prop} {t u ty e:TypeId} {d:TD} (ht:P.underlying t=some (.slice e)) (hu:P.underlying u=some .string) (gO:fN P e d) (h1:d.size=1) (hz:d.zero=.int .u8 0) (b:ByteArray):
  wH P w F t u ty e d (bh b) (.string b) (Lib.strCells b):=by
 obtain⟨i,ox,rC,Df,Jr⟩:=gO.info;have hl:=eM b;have e1:(b.data.map fun b=>Value.int .u8 b.toNat)=(Lib.strCells b).toArray:=by
  apply amT;simp[Lib.strCells]
 refine⟨by rw[Lib.strCells_length,hl,h1,amI],Lib.strCells_oneCell b,fun i el j x hi hj=>?_,fun h0 a n c Dp=>?_,fun h0 Ba Z8=>?_,fun h0 a iT qh olds MP ho hg Ba rG=>?_,fun h0 g iT qh cur hi WY hg eU rG=>?_⟩
 ·simp only[bh,alM,amv] at hi;obtain⟨c,hc,rfl⟩:=hi
  cases j with
  |succ j=>simp[AV.cells] at hj
  |zero=>
   simp only[AV.cells,amp,als] at hj;subst hj;exact⟨_,by rw[h1,amI,amy,Lib.strCells,alM,hc];rfl,.ae _,rfl⟩
 ·have hb:b.size=0:=by rw[<-hl,h0];rfl
  have hf:=Lib.run_firstCells_string (P:=P) w i.size b;rw[hb] at hf;have G4:Lib.strCells b=[]:=al1 (by rw[Lib.strCells_length];exact hb)
  cases a<;>simp[Builtin.append_,run_underlying ht,run_underlying hu,sizeOf,typeInfo,ox,Builtin.lenOf,hb,Dp,hf,G4,storeCells]
 ·rw[hl] at *;have:=run_append_nil_string (P:=P) w t u ty e i d.zero ht hu ox Jr b h0 Ba (by rw[Df];exact Z8);rw[e1] at this;exact this
 ·rw[hl] at *;exact Lib.run_append_grow_string (P:=P) w t u ty e i d.zero ht hu ox Jr a iT qh olds (by rw[rC];exact MP) ho b hg Ba (by rw[Df];exact rG)
 ·rw[hl] at *;rw[h1,amI,Lib.strCells_length] at *;have Jt:iT+(Lib.strCells b).length<=cur.size:=by rw[Lib.strCells_length];exact rG
  have hf:=Lib.run_firstCells_string (P:=P) w 1 b;have qv:=run_storeCells_cells (P:=P) g iT (Lib.strCells b) 0 w (jU hg WY Jt).1 (jU hg WY Jt).2 (Lib.strCells_oneCell b);rw[amy,mV _ _ cur w hg Jt,Lib.strCells_length] at qv;simp[Builtin.append_,run_underlying ht,run_underlying hu,sizeOf,typeInfo,ox,show i.size=1 by rw[rC],Builtin.lenOf,eU,hf,Addr.add_lit,qv]
def ea (M:Bool) (e size:Nat) (els:List AV):af:=match M with|false=>.row e size els|true=>.aQ e size els
def kB (M:Bool) (n:Nat):Nat:=match M with|false=>n|true=>0
theorem Z9 (M:Bool) (n:Nat):kB M n<=n:=by cases M<;>simp[kB]
theorem SP (M:Bool) {n m:Nat} (h:n<=m):kB M n<=kB M m:=by cases M<;>simp[kB,h]
theorem jV {F:Nat->Nat->Prop} {M:Bool} {e size:Nat} {els:List AV} {v:Value}:fM w F η hp (ea M e size els) v↔(0<size/\∃xs:List Value,kQ w e size v els.length xs (kB M (els.length*size))/\
   ∀(i:Nat) (el:AV),els[i]?=some el->el.cells.length=size/\
    ∀(j:Nat) (x:AV),el.cells[j]?=some x->∃u,xs[i*size+j]?=some u/\bm w F [] [] x u/\u.oneCell'=true):=by cases M<;>exact Iff.rfl
theorem iU {M:Bool} {e size r n:Nat} {els:List AV} {v:Value} (h:hp[r]?=some (ea M e size els)):aT η hp r n v↔n<=els.length/\(n=els.length->η[r]?=some v):=by
 unfold aT;rw[h]
 cases M<;>exact Iff.rfl
theorem zI {M:Bool} {e size k:Nat} {els:List AV} (h:(ea M e size els).bg k):k<els.length*size:=by cases M<;>first|exact h|exact h.elim
theorem zJ {M:Bool} {e size k:Nat} {els aD:List AV} (h:(ea M e size els).bg k):(ea M e size (els++aD)).bg k:=by
 have h':=zI h
 cases M with
 |false=>show k<(els++aD).length*size;rw[alz,amu];omega
 |true=>exact h.elim
theorem tH (M:Bool) (e size:Nat) (els:List AV):(ea M e size els).live:=by cases M<;>exact True.intro
theorem wI (ax:Γ.Ok) (h:Rel Γ s a w η) {t u ty e:TypeId} {d:TD} (gO:fN Γ.P e d) {M:Bool} {r:Nat} {els aD:List AV} {v0 v2:Value}
  (hr:s.hp[r]?=some (ea M e d.size els)) (hv:aT η s.hp r els.length v0) {news:List Value} (hn:wH Γ.P w (bk Γ w η s.hp) t u ty e d aD v2 news)
  (qg:∀x:AV,x∈aD->x.cells.length=d.size)
  (hm:els.length+aD.length<=maxLen) (G7:(els.length+aD.length)*d.bytes<=140737488355328):
  ∃v' w' aN,(Builtin.append_ #[t,u] ty #[v0,v2]).run Γ.P w=.ok v' w'/\Rel Γ { s with hp:=s.hp.set r (ea M e d.size (els++aD)) } a w' aN/\v'.oneCell'=true/\aN[r]?=some v':=by
 have rH:η[r]?=some v0:=((iU hr).1 hv).2 rfl;obtain⟨bN,xs,cy,cS⟩:=jV.1 (h.heap.obj r _ v0 hr rH);have hold:∀(i:Nat) (e:AV) (j:Nat) (x:AV),els[i]?=some e->e.cells[j]?=some x->∃u,xs[i*d.size+j]?=some u/\bm w (bk Γ w η s.hp) [] [] x u/\u.oneCell'=true:=
  fun i el j x hi hj=>(cS i el hi).2 j x hj
 by_cases hz:aD=[]
 ·subst hz;have eA:s.hp.set r (ea M e d.size (els++[]))=s.hp:=by
   apply ams;intro k
   by_cases hk:r=k
   ·subst hk;rw[au hr,alV,hr]
   ·rw[getElem?_set_ne hk]
  have Na:∀b n c,v0=.slice b n c->n<=c->∃v' w' aN,(Builtin.append_ #[t,u] ty #[v0,v2]).run Γ.P w=.ok v' w'/\Rel Γ { s with hp:=s.hp.set r (ea M e d.size (els++[])) } a w' aN/\v'.oneCell'=true/\aN[r]?=some v':=by
   intro b n c e1 e2;subst e1;exact⟨_,w,η,hn.nothing rfl b n c e2,by rw[eA];exact h,rfl,rH⟩
  rcases cy.2 with⟨h0,rfl|⟨ad,rfl⟩⟩|⟨g,cap,cur,rfl,h0,_,Dp,_⟩
  ·exact Na none 0 0 rfl (alA _)
  ·exact Na _ 0 0 rfl (alA _)
  ·exact Na _ _ _ rfl Dp
 ·have Bb:0<aD.length:=ang.2 hz;have Ba:els.length+aD.length<=9223372036854775807:=by simp only[maxLen] at hm;omega
  have qe:∀v' n u,aT η s.hp r n u->aT (η.set r v') (s.hp.set r (ea M e d.size (els++aD))) r n u:=by
   intro v' n u ho;replace ho:=(iU hr).1 ho;refine(iU (au hr)).2 ⟨by rw[alz];have:=ho.1;omega,fun Ju=>?_⟩;rw[alz] at Ju;have:=ho.1;omega
  have WZ:∀(x:AV),x∈els++aD->x.cells.length=d.size:=by
   intro x kD;rcases amn.1 kD with h1|h1
   ·obtain⟨k,hk⟩:=amC h1;exact(cS k x hk).1
   ·exact qg _ h1
  have grown:∀(old:Nat),(∀b es c,ct v0=some b->w.heap[b]?=some (.map es c)->False)->(∀b d,ct v0=some b->w.heap[b]?=some (.deferred d)->False)->(∀x,v0 ≠ .pointer x)->(∀x,v0 ≠ .map x)->
    Rel Γ { s with hp:=s.hp.set r (ea M e d.size (els++aD)) } a
    (w.drew.alloc (.cells (xs.toArray++news.toArray++Builtin.zeroCells d.zero.cells (grownCap w (els.length+aD.length) old e-(els.length+aD.length))) e))
    (η.set r (.slice (some ⟨w.heap.size,0,none⟩) (els.length+aD.length) (grownCap w (els.length+aD.length) old e))):=by
   intro old X4 aes fG mO;have hs:bI w (w.drew.alloc (.cells (xs.toArray++news.toArray++Builtin.zeroCells d.zero.cells (grownCap w (els.length+aD.length) old e-(els.length+aD.length))) e)):=
    (bI.drew w).trans (bI.alloc _ _)
   have iS:∀b,ct (.slice (some ⟨w.heap.size,0,none⟩) (els.length+aD.length) (grownCap w (els.length+aD.length) old e))=some b->w.heap.size<=b:=by
    intro b hb;rw[bp (by have:=grownCap_ge w (els.length+aD.length) old e;omega)] at hb;obtain rfl:=alw hb;exact alA _
   refine h.change ax (o':=ea M e d.size (els++aD)) hr (tH _ _ _ _) rH (hs.keeps _) (fun b hb=>.inr (iS b hb)) (fun k hk=>?_) (fun b k u hb _ hc=>?_) (fun b es c hb _ hh=>X4 b es c hb hh) (qe _)
    (fun x kD=>(fG x kD).elim) (fun x kD=>(mO x kD).elim) aes (fun he=>jV.2 ⟨bN,xs++news,?_,fun i el hi=>⟨WZ _ (alF hi),?_⟩⟩)
   ·exact zJ hk
   ·rw[World.cell?_of_block (hs.block b (h.heap.block hr (tH _ _ _ _) rH hb))];exact hc
   ·rw[alz];exact(tF xs news cy.1 hn.len gO.Jq old Bb hm).more (alE _)
   ·exact fun j x hj=>mU cy.1 (fun i e j x hi hj=>let ⟨u,h1,h2,h3⟩:=hold i e j x hi hj;⟨u,h1,h2.ext he.lN.ext,h3⟩) (hn.ext he.lN) i el j x hi hj
  have Bc:∀v',(η.set r v')[r]?=some v':=fun v'=>au rH;rcases cy.2 with⟨h0,rfl|⟨ad,rfl⟩⟩|⟨g,cap,cur,rfl,h0,⟨hi,WY,hg⟩,Dp,G5,fO,kR⟩
  ·have Dq:els=[]:=al1 h0;have Sv:xs=[]:=al1 (by rw[cy.1,h0];simp);have gr:=grown 0 (fun b es c hb=>by simp[ct] at hb) (fun b d hb=>by simp[ct] at hb) (fun x kD=>by cases kD) (fun x kD=>by cases kD);subst Dq;subst Sv;have:=hn.nil Bb (by simp only[al4,al2] at Ba;omega) (by simp only[al4,al2] at G7;omega);refine⟨_,_,_,this,?_,rfl,Bc _⟩;simpa only[al4,al2,amq,Array.empty_append] using gr
  ·have Dq:els=[]:=al1 h0;have Sv:xs=[]:=al1 (by rw[cy.1,h0];simp);have gr:=grown 0 (fun b es c hb=>by simp[ct] at hb) (fun b d hb=>by simp[ct] at hb) (fun x kD=>by cases kD) (fun x kD=>by cases kD);subst Dq;subst Sv;have:=hn.grow Bb ad 0 0 [] (by simp) (fun j u hj=>by simp at hj) (by omega)
    (by simp only[al4,al2] at Ba ⊢;omega) (growslice_fits (by omega) (by simpa only[al4] using G7))
   refine⟨_,_,_,this,?_,rfl,Bc _⟩;simpa only[al4,al2,amq] using gr
  ·by_cases eU:els.length+aD.length<=cap
   ·have rG:els.length*d.size+news.length<=cur.size:=by rw[hn.len,fO,<-amu];exact amw _ eU
    have fz:=hn.room Bb g els.length cap cur hi (amf WY (Z9 _ _)) hg eU rG;refine⟨_,_,_,fz,?_,rfl,Bc _⟩;have pG:ct (.slice (some ⟨g,0,none⟩) els.length cap)=some g:=bp h0;have aet:ct (.slice (some ⟨g,0,none⟩) (els.length+aD.length) cap)=some g:=bp h0;have Jv:=setRow_heap w g cur (cur.toList.take (els.length*d.size)++news++cur.toList.drop (els.length*d.size+news.length)).toArray e (0,hi) hg;refine h.change ax (o':=ea M e d.size (els++aD)) hr (tH _ _ _ _) rH ⟨rfl,rfl,rfl,by simp,fun k hk hb=>setRow_other w g k _ (fun e=>hb (by rw[pG,e]))⟩ (fun b hb=>.inl (by rw[pG];rw[aet] at hb;exact hb)) (fun k hk=>?_) (fun b k u hb hk hc=>?_)
     (fun b es c hb _ hh=>?_) (qe _) (fun x kD=>by cases kD) (fun x kD=>by cases kD) (fun b d hb hh=>?_) (fun he=>jV.2 ⟨bN,xs++news,?_,fun i el hi=>⟨WZ _ (alF hi),?_⟩⟩)
    ·exact zJ hk
    ·rw[pG] at hb;obtain rfl:=alw hb;have rE:k<els.length*d.size:=zI hk;rw[cell_of_row w g k cur e _ hg] at hc;rw[cell_of_row _ g k _ e _ Jv];have ak:k<cur.size:=(alY.1 hc).1;rw[<-amO] at hc;simp only[ana];rw[alU,alH (by simp;omega),alO,if_pos rE];exact hc
    ·rw[pG] at hb;obtain rfl:=alw hb;rw[hg] at hh;cases hh
    ·rw[pG] at hb;obtain rfl:=alw hb;rw[hg] at hh;cases hh
    ·have Lb:(xs++news).length=(els.length+aD.length)*d.size:=by rw[alz,cy.1,hn.len,amu]
     rw[alz];refine⟨Lb,.inr ⟨g,cap,_,rfl,h0,⟨hi,amf WY (SP M (amw _ (by omega))),Jv⟩,eU,G5,?_,?_⟩⟩
     ·simp only[anl,alz,amd,amN,amg];have:els.length*d.size<=cur.size:=by omega
      omega
     ·rw[kR,<-Lb];exact anw
    ·exact fun j x hj=>mU cy.1 (fun i e j x hi hj=>let ⟨u,h1,h2,h3⟩:=hold i e j x hi hj;⟨u,h1,h2.ext he.lN.ext,h3⟩) (hn.ext he.lN) i el j x hi hj
   ·have aE:∀(j:Nat) (u:Value),xs[j]?=some u->w.cell? ((⟨g,0,none⟩:Addr).add j)=some u:=by
     intro j u hj;rw[Addr.add_lit,al2,cell_of_row w g j cur e _ hg];rw[<-kR,alO] at hj
     by_cases ak:j<els.length*d.size
     ·rw[if_pos ak] at hj;simpa using hj
     ·rw[if_neg ak] at hj;cases hj
    have pG:ct (.slice (some ⟨g,0,none⟩) els.length cap)=some g:=bp h0;have:=hn.grow Bb ⟨g,0,none⟩ els.length cap xs cy.1 aE (by omega) (by omega) (growslice_fits (by omega) G7);exact⟨_,_,_,this,grown cap (fun b es c hb hh=>by rw[pG] at hb;obtain rfl:=alw hb;rw[hg] at hh;cases hh)
     (fun b d hb hh=>by rw[pG] at hb;obtain rfl:=alw hb;rw[hg] at hh;cases hh) (fun x kD=>by cases kD) (fun x kD=>by cases kD),rfl,Bc _⟩
end
section
variable {G:Type} {Γ:Env G} {s:AS G} {a:Act} {w w':World} {η:List Value} {hp:List af} {F:Nat->Nat->Prop} {P:Program}
def AS.ev (s:AS G):Operand->AV
 | .tmp t=>s.tmps t
 | .const v=>.ae v
 | .global g=>.ae (.pointer (some ⟨g,0,none⟩))
 | .func f=>.aY f []
theorem Rel.ev (h:Rel Γ s a w η) (x:Operand):bm w (bk Γ w η s.hp) η s.hp (s.ev x) (a.eval x):=by
 cases x with
 |tmp t=>exact h.tmps t
 |const v=>exact .ae v
 |global g=>exact .ae _
 |func f=>exact .aY f [] #[] rfl (fun j x v h=>by simp at h)
def AV.dS (hp:List af):AV->AV
 | .own r n=>(match (AV.own r n).gN hp with|some els=>.sl els|none=>.top)
 | .clip els=>.sl els
 | .sl els=>.sl els
 | .ae v=>(match v with | .slice none 0 0=>.sl []|v=>.ae v)
 | .fn v=>.fn v
 | .eG es=>.eG es
 | .aS e o=>.aS e o
 | .aY f caps=>(match caps with | []=>.aY f []|_=>.top)
 |_=>.top
def AV.eI (hp:List af):AV->AV
 | .agg cs=>.agg (cs.map (AV.dS hp))
 |x=>x.dS hp
def AV.bB (hp:List af):AV->AV
 | .aL vs=>.aL (vs.map (AV.eI hp))
 | .aY f caps=>.aY f (caps.map (AV.eI hp))
 |x=>x.eI hp
theorem lR (h:dC w (bk Γ w η hp) η hp) (hm:vB Γ η hp) {x:AV} {v:Value} (hx:bm w (bk Γ w η hp) η hp x v):bm w (bk Γ w η hp) [] [] (x.dS hp) v:=by
 cases x with
 |own r n=>
  simp only[AV.dS];split
  ·rename_i els he;have:=jT h hm hx he
   cases this with
   |lL=>exact .lL _
   |sl size els b o c f hc hm hl aE hr=>exact .sl size els b o c f hc hm hl aE hr
  ·exact .top _
 |clip els=>cases hx.pF with
  |lL=>exact .lL _
  |sl size els b o c f hc hm hl aE hr=>exact .sl size els b o c f hc hm hl aE hr
 |sl els=>cases hx with
  |lL=>exact .lL _
  |sl size els b o c f hc hm hl aE hr=>exact .sl size els b o c f hc hm hl aE hr
 |ae u=>
  simp only[AV.dS];split
  ·cases hx;exact .lL _
  ·cases hx;exact .ae _
 |fn u=>cases hx;exact .fn _ (by assumption)
 |eG es=>cases hx with|eG b es c h1 h2 _ hl=>exact .eG b es c h1 h2 _ hl
 |aS e off=>cases hx with|aS _ _ b o f aE hr=>exact .aS e off b o f aE hr
 |aY f caps=>
  simp only[AV.dS];split
  ·cases hx with|aY _ _ vs hl hr=>exact .aY f [] vs hl fun j y u hy _=>by cases hy
  ·exact .top _
 |_=>exact .top _
theorem lS (h:dC w (bk Γ w η hp) η hp) (hm:vB Γ η hp) {x:AV} {v:Value} (hx:bm w (bk Γ w η hp) η hp x v):bm w (bk Γ w η hp) [] [] (x.eI hp) v:=by
 cases x with
 |agg cs=>
  cases hx with
  |agg _ vs hl h1 hr=>
   refine .agg _ vs (by simpa using hl) h1 fun j y u hy hu=>?_;rw[alM] at hy
   cases hj:cs[j]? with
   |none=>rw[hj] at hy;cases hy
   |some z=>rw[hj] at hy;obtain rfl:=alw hy;exact lR h hm (hr j z u hj hu)
 |_=>exact lR h hm hx
theorem ff (h:dC w (bk Γ w η hp) η hp) (hm:vB Γ η hp) {x:AV} {v:Value} (hx:bm w (bk Γ w η hp) η hp x v):bm w (bk Γ w η hp) [] [] (x.bB hp) v:=by
 cases x with
 |aL cs=>
  cases hx with
  |aL _ vs hl hr=>
   refine .aL _ vs (by simpa using hl) fun j y u hy hu=>?_;rw[alM] at hy
   cases hj:cs[j]? with
   |none=>rw[hj] at hy;cases hy
   |some z=>rw[hj] at hy;obtain rfl:=alw hy;exact lS h hm (hr j z u hj hu)
 |aY f cs=>
  cases hx with
  |aY _ _ vs hl hr=>
   refine .aY f _ vs (by simpa using hl) fun j y u hy hu=>?_;rw[alM] at hy
   cases hj:cs[j]? with
   |none=>rw[hj] at hy;cases hy
   |some z=>rw[hj] at hy;obtain rfl:=alw hy;exact lS h hm (hr j z u hj hu)
 |_=>exact lS h hm hx
def fieldsOf (tab:Nat->Option TD) (T:Nat):List (Nat×Nat×Bool):=
 match tab T with
 |some d=>(match d.kind with | .cr fs=>fs|_=>[])
 |none=>[]
def AV.isAgg:AV->Bool
 | .agg _=>true
 |_=>false
def eV (agg:Bool) (size:Nat) (cs:List AV) (o:Nat):Option AV:=
 if agg then(if o+size<=cs.length then some (.agg ((cs.drop o).take size)) else none) else cs[o]?
def wJ (agg:Bool) (size:Nat) (e:AV) (o:Nat):Option AV:=
 if o=0/\e.cells.length=size/\e.isAgg=agg then some e else eV agg size e.cells o
def Bd (op:BinOp) (k:IntKind) (a b:Int):Option (Prop×AV):=
 match op with
 | .add=>some (True,.ae (.int k (k.wrap (a+b))))
 | .sub=>some (True,.ae (.int k (k.wrap (a-b))))
 | .mul=>some (True,.ae (.int k (k.wrap (a*b))))
 | .eql=>some (True,.ae (.bool (a==b)))
 | .neq=>some (True,.ae (.bool (a != b)))
 | .lss=>some (True,.ae (.bool (decide (a<b))))
 | .leq=>some (True,.ae (.bool (decide (a<=b))))
 | .gtr=>some (True,.ae (.bool (decide (a>b))))
 | .geq=>some (True,.ae (.bool (decide (a>=b))))
 |_=>none
def jW (tab:Nat->Option TD) (T:Nat) (op:BinOp) (x y:AV):Option (Prop×AV):=
 match x,y with
 | .ae (.int k a),.ae (.int k' b)=>if k=k' then Bd op k a b else none
 | .ae (.bool a),.ae (.bool b)=>
  (match tab T with
   |some d=>(match d.kind,op with
    | .bool,.eql=>some (True,.ae (.bool (a==b)))
    | .bool,.neq=>some (True,.ae (.bool (!(a==b))))
    |_,_=>none)
   |none=>none)
 | .agg [.ae (.int .i64 a1),.ae (.int .i64 a2)],.agg [.ae (.int .i64 b1),.ae (.int .i64 b2)]=>
  (match tab T with
   |some d=>if d.flat then(match op with
    | .eql=>some (True,.ae (.bool (a1==b1&&a2==b2)))
    | .neq=>some (True,.ae (.bool (!(a1==b1&&a2==b2))))
    |_=>none) else none
   |none=>none)
 |_,_=>none
def Jw:List Prop->Prop
 | []=>True
 |p::l=>p/\Jw l
def Nb (op:BinOp) (k:IntKind) (a b:Int):Option Int:=
 match op with
 | .and=>some (k.wrap (BitVec.ofInt k.bits a &&& BitVec.ofInt k.bits b).toNat)
 | .or=>some (k.wrap (BitVec.ofInt k.bits a ||| BitVec.ofInt k.bits b).toNat)
 | .xor=>some (k.wrap (BitVec.ofInt k.bits a ^^^ BitVec.ofInt k.bits b).toNat)
 | .andNot=>some (k.wrap (BitVec.ofInt k.bits a &&& ~~~ (BitVec.ofInt k.bits b)).toNat)
 |_=>none
def Dr (a b:ByteArray):Bool:=a.toList==b.toList
def strLt (a b:ByteArray):Bool:=Op.bytesLess a.toList b.toList
def Be:AV->Option Bool
 | .ptr _ _=>some false
 | .aS _ _=>some false
 | .ae (.pointer p)=>some p.isNone
 |_=>none
def Lc (tab:Nat->Option TD) (T:Nat) (op:BinOp) (x y:AV):Option (List Prop×AV):=
 match y with
 | .ae (.int k' b)=>(match x with
  | .ae (.int k a)=>if k=k' then(match op with
    | .quo=>some ([¬b=0],.ae (.int k (k.wrap (a.tdiv b))))
    | .rem=>some ([¬b=0],.ae (.int k (a.tmod b)))
    |op=>(Nb op k a b).map fun n=>([],.ae (.int k n))) else none
  |_=>none)
 | .ae (.string b)=>(match x with
  | .ae (.string a)=>(match op with
    | .add=>some ([a.size+b.size<=9223372036854775807],.ae (.string (a++b)))
    | .eql=>some ([],.ae (.bool (Dr a b)))
    | .neq=>some ([],.ae (.bool (!(Dr a b))))
    | .lss=>some ([],.ae (.bool (strLt a b)))
    | .leq=>some ([],.ae (.bool (strLt a b||Dr a b)))
    | .gtr=>some ([],.ae (.bool (!(strLt a b||Dr a b))))
    | .geq=>some ([],.ae (.bool (!(strLt a b))))
    |_=>none)
  |_=>none)
 | .ae (.pointer none)=>(match Be x with
  |some b=>(match tab T with
   |some d=>(match d.kind with
    | .ptr _=>(match op with
     | .eql=>some ([],.ae (.bool b))
     | .neq=>some ([],.ae (.bool (!b)))
     |_=>none)
    |_=>none)
   |none=>none)
  |none=>none)
 |_=>none
theorem G9 {tab:Nat->Option TD} {T:Nat} {op:BinOp} {x y:AV} {p:List Prop×AV} (h:Lc tab T op x y=some p):jW tab T op x y=none:=by
 unfold Lc at h;split at h
 ·split at h
  ·split at h
   ·rename_i hk;subst hk
    cases op<;>simp[Nb] at h<;>simp[jW,Bd]
   ·cases h
  ·cases h
 ·split at h
  ·simp[jW]
  ·cases h
 ·unfold jW
  split<;>first|rfl|(rename_i e;cases e)
 ·cases h
def X5:Operand->Bool
 | .const .nilIface=>true
 |_=>false
theorem SQ {y:Operand} (h:X5 y=true):y=.const .nilIface:=by
 unfold X5 at h;split at h
 ·rfl
 ·cases h
def SR (tab:Nat->Option TD) (T:Nat) (op:BinOp) (x:AV) (y:Operand):Option AV:=
 match X5 y with
 |true=>(match tab T,x with
  |some d,.ae .nilIface=>(match d.kind with
   | .ifc=>(match op with
    | .eql=>some (.ae (.bool true))
    | .neq=>some (.ae (.bool false))
    |_=>none)
   |_=>none)
  |_,_=>none)
 |false=>none
def Bf (tab:Nat->Option TD) (T:Nat) (op:BinOp) (x y:AV):Option (Prop×AV):=
 match jW tab T op x y with
 |some r=>some r
 |none=>(Lc tab T op x y).map fun p=>(Jw p.1,p.2)
def Bg (tab:Nat->Option TD) (S D:Nat) (x:AV):Option AV:=
 match tab S,tab D,x with
 |some _,some d,.ae (.int _ n)=>(match d.kind with
  | .int k=>some (.ae (.int k (k.wrap n)))
  |_=>none)
 |some _,some d,.ae (.string s)=>(match d.kind with
  | .str=>some (.ae (.string s))
  |_=>none)
 |_,_,_=>none
def Ds (b:ByteArray) (n:Int):Int:=(((b.data[n.toNat]?).map UInt8.toNat).getD 0:Nat)
def aM {κ:Type} [DecidableEq κ]:List (κ×Value)->κ->Option Value
 | [],_=>none
 |(k,v)::r,a=>if a=k then some v else aM r a
def AV.zK (hp:List af):AV->Option ME
 | .eG es=>some es
 | .mp r=>(match hp[r]? with|some (.aJ es)=>some es|_=>none)
 |_=>none
def iL {κ:Type} [DecidableEq κ] (es:List (κ×Value)) (z:Value) (a:κ) (ok:Bool):AV:=
 if ok=true then .aL [.ae ((aM es a).getD z),.ae (.bool (aM es a).isSome)] else .ae ((aM es a).getD z)
def tI (hp:List af) (x:AV):Option AV:=
 match x with
 | .ae (.string s)=>some (.ae (.int .i64 s.size))
 |x=>(x.gN hp).map fun els=>.ae (.int .i64 els.length)
def AV.lT:AV->Bool
 | .ae v=>v.oneCell'
 | .top | .aL _ | .fa _ _ _ _=>false
 |_=>true
def wK (n:Nat):List (Nat×Nat×Bool):=(List.range n).map fun i=>(i,1,false)
def cV (fs:List (Nat×Nat×Bool)) (cs:List AV):List (Nat×AV)->Option (List AV)
 | []=>some cs
 |(i,x)::rest=>
  match fs[i]? with
  |some p=>if x.cells.length=p.2.1/\p.1+p.2.1<=cs.length/\x.lT=true then cV fs (setCells cs p.1 x.cells) rest else none
  |none=>none
def rI:Nat->List (Nat×Operand)->Bool
 |_,[]=>true
 |k,(i,_)::r=>i==k&&rI (k+1) r
def qJ (size:Nat):List AV->Prop
 | []=>True
 |x::xs=>(x.cells.length=size/\x.lT=true)/\qJ size xs
def bL (ρ:Operand->AV) (d:Int):Option Operand->Option Int
 |none=>some d
 |some x=>(match ρ x with | .ae (.int _ n)=>some n|_=>none)
def tJ (hp:List af):AV->Option (Nat×Nat×Nat×Nat×Nat)
 | .own r m=>(match hp[r]? with
  |some (.aQ e size els)=>some (r,m,e,size,els.length)
  |_=>none)
 |_=>none
def bC (tab:Nat->Option TD) (hp:List af) (ρ:Operand->AV):Op->Option (Prop×AV)
 | .move x=>some (True,ρ x)
 | .assign x=>some (True,ρ x)
 | .nilCheck x=>(match ρ x with
  | .ptr r o=>some (True,.ptr r o)
  | .aS e o=>some (True,.aS e o)
  |_=>none)
 | .pick c x y=>(match ρ c with
  | .ae (.bool t)=>some (True,if t=true then ρ x else ρ y)
  |_=>none)
 | .fieldAddr T x f=>(match (fieldsOf tab T)[f]? with
  |some p=>if p.2.1=0 then none else(match ρ x with
   | .ptr r o=>some (True,.ptr r (o+p.1))
   | .aS e o=>some (True,.aS e (o+p.1))
   | .fa r m i z=>if p.1=0 then some (True,.fa r m i z) else none
   |_=>none)
  |none=>none)
 | .load T x=>(match tab T with
  |some d=>(match ρ x with
   | .ptr r o=>(match hp[r]? with
    |some (.box cs)=>(eV d.kind.agg d.size cs o).map fun v=>(True,v)
    |_=>none)
   | .aS e o=>(wJ d.kind.agg d.size e o).map fun v=>(True,v)
   | .fa r m i z=>(match hp[r]? with
    |some (.aQ _ z' els)=>if z'=z/\d.size=z then some (m=els.length/\i<els.length/\(els.getD i .top).isAgg=d.kind.agg,els.getD i .top) else none
    |_=>none)
   |_=>none)
  |none=>none)
 | .indexAddr T x i=>(match tab T with
  |some d=>(match d.kind with
   | .jS e=>(match tab e,(ρ x).gN hp,ρ i with
    |some d',some els,.ae (.int _ n)=>some (0<=n/\n<els.length/\(els.getD n.toNat .top).cells.length=d'.size,.aS (els.getD n.toNat .top) 0)
    |some d',none,.ae (.int _ n)=>(match tJ hp (ρ x) with
     |some (r,m,e',size,k)=>if e'=e/\size=d'.size then some (0<=n/\n<m/\m=k,.fa r m n.toNat size) else none
     |none=>none)
    |_,_,_=>none)
   | .arr m=>(match ρ x,ρ i with
    | .ptr r 0,.ae (.int _ n)=>some (0<=n/\n<m,.ptr r n.toNat)
    | .aS e 0,.ae (.int _ n)=>some (0<=n/\n<m,.aS e n.toNat)
    |_,_=>none)
   |_=>none)
  |none=>none)
 | .binOp op T x y _=>(match SR tab T op (ρ x) y with
  |some v=>some (True,v)
  |none=>Bf tab T op (ρ x) (ρ y))
 | .convert S D x=>(Bg tab S D (ρ x)).map fun v=>(True,v)
 | .unOp op _ x=>(match op,ρ x with
  | .not,.ae (.bool b)=>some (True,.ae (.bool (!b)))
  | .neg,.ae (.int k n)=>some (True,.ae (.int k (k.wrap (0-n))))
  |_,_=>none)
 | .build T parts=>(match tab T with
  |some d=>(match d.kind with
   | .cr fs=>(cV fs (d.zero.cells.toList.map .ae) (parts.toList.map fun p=>(p.1,ρ p.2))).map fun cs=>(True,.agg cs)
   | .arr n=>(cV (wK n) (d.zero.cells.toList.map .ae) (parts.toList.map fun p=>(p.1,ρ p.2))).map fun cs=>(True,.agg cs)
   |_=>none)
  |none=>none)
 | .buildSlice T n parts=>(match tab T with
  |some d=>(match d.kind with
   | .jS e=>(match tab e with
    |some d'=>if n=parts.toList.length/\rI 0 parts.toList=true/\n<=16777216/\n*d'.size<=16777216 then some (qJ d'.size (parts.toList.map fun p=>(ρ p.2).bB hp),.clip (parts.toList.map fun p=>(ρ p.2).bB hp)) else none
    |none=>none)
   |_=>none)
  |none=>none)
 | .slice T x lo hi mx=>(match tab T with
  |some d=>(match d.kind,ρ x with
   | .str,.ae (.string b)=>(match mx,bL ρ 0 lo,bL ρ b.size hi with
    |none,some l,some h=>some (0<=l/\l<=h/\h<=b.size,.ae (.string (b.extract l.toNat h.toNat)))
    |_,_,_=>none)
   | .jS e,v=>(match v.gN hp,tab e with
    |some els,some d'=>(match bL ρ 0 lo,bL ρ els.length hi,mx.map fun m=>bL ρ 0 (some m) with
     |some l,some h,none=>some (0<=l/\l<=h/\h<=els.length/\(∀y:AV,y∈els->y.cells.length=d'.size),.sl ((els.take h.toNat).drop l.toNat))
     |some l,some h,some (some m)=>if hi.isSome=true then some (0<=l/\l<=h/\h=m/\h<=els.length/\(∀y:AV,y∈els->y.cells.length=d'.size),.clip ((els.take h.toNat).drop l.toNat)) else none
     |_,_,_=>none)
    |_,_=>none)
   |_,_=>none)
  |none=>none)
 | .field T x f=>(match (fieldsOf tab T)[f]?,ρ x with
  |some p,.agg cs=>if p.2.2=true\/p.2.1=1 then(eV p.2.2 p.2.1 cs p.1).map fun v=>(True,v) else none
  |_,_=>none)
 | .lookup T m k ok=>(match tab T,(ρ m).zK hp,ρ k with
  |some d,some (.i es),.ae (.int .i64 a)=>(match d.kind with
   | .oh kt et=>(match tab kt,tab et with
    |some dk,some de=>(match dk.kind with
     | .int _=>some (True,iL es de.zero a ok)
     |_=>none)
    |_,_=>none)
   |_=>none)
  |some d,some (.s es),.ae (.string a)=>(match d.kind with
   | .oh kt et=>(match tab kt,tab et with
    |some dk,some de=>(match dk.kind with
     | .str=>some (True,iL es de.zero a ok)
     |_=>none)
    |_,_=>none)
   |_=>none)
  |_,_,_=>none)
 | .index T x i=>(match tab T,ρ x,ρ i with
  |some d,.ae (.string b),.ae (.int _ n)=>(match d.kind with
   | .str=>some (0<=n/\n<b.size,.ae (.int .u8 (Ds b n)))
   |_=>none)
  |_,_,_=>none)
 | .extract x i=>(match ρ x with
  | .aL vs=>(vs[i]?).map fun v=>(True,v)
  |_=>none)
 | .makeFunc (.func f) first caps=>if first.size=0 then some (True,.aY f (caps.toList.map ρ)) else if caps.size=0 then some (True,.dm f (first.toList.map ρ)) else none
 | .call c=>(match c.callee,c.args.toList with
  | .builtin .len,[x]=>(match (c.argTypes[0]?).bind tab with
   |some d=>(match d.kind,ρ x with
    | .jS _,.ae (.string _)=>none
    | .jS _,v=>(match tI hp v with
     |some u=>some (True,u)
     |none=>(match tJ hp v with
      |some (_,m,_,_,k)=>some (m=k,.ae (.int .i64 (m:Nat)))
      |none=>none))
    | .str,.ae (.string b)=>some (True,.ae (.int .i64 b.size))
    |_,_=>none)
   |none=>none)
  | .builtin .min,[x,y]=>(match ρ x,ρ y with
   | .ae (.int k m),.ae (.int _ n)=>some (True,.ae (.int k (if n<m then n else m)))
   |_,_=>none)
  | .builtin .max,[x,y]=>(match ρ x,ρ y with
   | .ae (.int k m),.ae (.int _ n)=>some (True,.ae (.int k (if n>m then n else m)))
   |_,_=>none)
  |_,_=>none)
 |_=>none
def fb (Γ:Env G) (o:Oper) (s:AS G) (r:AV):Prop:=
 ∀a w η,Rel Γ s a w η->∃v w',(execOp a.eval o).run Γ.P w=.ok (.value v) w'/\bI w w'/\bm w' (bk Γ w' η s.hp) η s.hp r v
theorem aX {o:Oper} {r:AV} (h:∀a w η,Rel Γ s a w η->∃v,(execOp a.eval o).run Γ.P w=.ok (.value v) w/\bm w (bk Γ w η s.hp) η s.hp r v):fb Γ o s r:=
 fun a w η hr=>let ⟨v,h1,h2⟩:=h a w η hr;⟨v,w,h1,bI.refl w,h2⟩
theorem bm.ay {u v:Value} (h:bm w F η hp (.ae u) v):v=u:=by cases h;rfl
theorem eB {agg:Bool} {size:Nat} {cs:List AV} {o:Nat} {r:AV} (bN:agg=false->size=1) {vs:List Value} (hl:vs.length=cs.length) (hr:∀(j:Nat) (x:AV) (u:Value),cs[j]?=some x->vs[j]?=some u->bm w F η hp x u/\u.oneCell'=true)
  (h:eV agg size cs o=some r):o+size<=vs.length/\bm w F η hp r (if agg then .agg ((vs.drop o).take size).toArray else((vs.drop o).take size).headD undef):=by
 unfold eV at h
 cases agg with
 |true=>
  simp only[if_true] at h ⊢;split at h
  ·rename_i hle;obtain rfl:=alw h;refine⟨by omega,.agg _ _ (by simp;omega) (fun v hv=>?_) fun j x v hx hv=>?_⟩
   ·have Jp:v∈(vs.drop o).take size:=by simpa using hv
    obtain⟨k,hk⟩:=amC Jp;rw[alO] at hk;split at hk
    ·rw[amx] at hk;have ak:o+k<vs.length:=(alu.1 hk).1;exact(hr (o+k) (cs[o+k]'(by omega)) v (by simp) hk).2
    ·cases hk
   ·have Jp:((vs.drop o).take size)[j]?=some v:=by simpa using hv
    rw[alO] at hx Jp;split at hx
    ·rename_i hj;rw[if_pos hj,amx] at Jp;rw[amx] at hx;exact(hr (o+j) x v hx Jp).1
    ·cases hx
  ·cases h
 |false=>
  simp only[alQ,if_false] at h ⊢;have ak:o<cs.length:=(alu.1 h).1;have h1:=bN rfl;subst h1;refine⟨by omega,?_⟩;have hv:vs[o]?=some (vs[o]'(by omega)):=by simp
  have:((vs.drop o).take 1).headD undef=vs[o]'(by omega):=by
   rw[List.headD_eq_head?_getD,List.head?_eq_getElem?,alO,if_pos (by omega),amx];simp only[amy];rw[hv];rfl
  rw[this];exact(hr o r _ h hv).1
theorem jX {T:TypeId} {d:TD} (ht:fN P T d) {b o:Nat} {vs:List Value} (hc:∀(j:Nat) (u:Value),vs[j]?=some u->w.cell? ⟨b,j,none⟩=some u) (hle:o+d.size<=vs.length):
  (loadVar T ⟨b,o,none⟩).run P w=.ok (if d.kind.agg then .agg ((vs.drop o).take d.size).toArray else((vs.drop o).take d.size).headD undef) w:=by
 refine ht.run_load (vs:=(vs.drop o).take d.size) (by simp;omega) fun j u hj=>?_;rw[alO] at hj;split at hj
 ·rw[amx] at hj;exact hc _ _ hj
 ·cases hj
theorem tK {b:Nat} {vs:Array Value} {T:TypeId} (hg:w.heap[b]?=some (.cells vs T (0,0))) (j:Nat) (u:Value) (hj:vs.toList[j]?=some u):w.cell? ⟨b,j,none⟩=some u:=by
 rw[cell_of_row w b j vs T (0,0) hg];simpa using hj
theorem aZ.sz {tab:Nat->Option TD} (aj:aZ P tab) {T:Nat} {d:TD} (h:tab T=some d):d.kind.agg=false->d.size=1:=fun h1=>((aj T d h).WX h1).1
theorem zL {tab:Nat->Option TD} (aj:aZ Γ.P tab) {o:Oper} {T:Nat} {x:Operand} (ho:o.op=.load T x) {d:TD} (hd:tab T=some d) {r:AV}
  (h:(∃n off cs,s.ev x=.ptr n off/\s.hp[n]?=some (.box cs)/\eV d.kind.agg d.size cs off=some r)\/(∃e off,s.ev x=.aS e off/\wJ d.kind.agg d.size e off=some r)):fb Γ o s r:=by
 refine aX fun a w η hr=>?_;have hx:=hr.ev x;have gO:=aj T d hd;rcases h with⟨n,off,cs,he,hn,ZP⟩|⟨e,off,he,ZP⟩
 ·rw[he] at hx
  cases wL:a.eval x<;>rw[wL] at hx<;>cases hx
  rename_i b dR;obtain⟨b',vs,T',hb,hg,bN,hc⟩:=hr.heap.obj n _ _ hn dR;simp only[Value.pointer.injEq,als,Addr.mk.injEq,and_true] at hb;subst hb;obtain⟨h1,h2⟩:=eB (w:=w) (F:=bk Γ w η s.hp) (η:=η) (hp:=s.hp) (aj.sz hd) (vs:=vs.toList) (by simpa using bN) (fun j x u hx hu=>hc j x u hx (by simpa using hu)) ZP;refine⟨_,?_,h2⟩;simp only[execOp,ho,wL,Instr.loadAt,Instr.sureAddr,Sem.run_bind,Sem.run_pure,Result.andThen_ok];rw[jX gO (tK hg) h1];rfl
 ·rw[he] at hx
  cases wL:a.eval x<;>rw[wL] at hx<;>cases hx
  rename_i b o f aE cX;have dx:∀(j:Nat) (x:AV) (u:Value),e.cells[j]?=some x->((List.range e.cells.length).map f)[j]?=some u->bm w (bk Γ w η s.hp) η s.hp x u/\u.oneCell'=true:=by
   intro j x u hx hu;have ak:=(alu.1 hx).1;rw[alM,anx ak] at hu;obtain rfl:=alw hu;exact⟨(cX j x hx).lift,(aE j x hx).2.2⟩
  have fO:∀(j:Nat) (u:Value),((List.range e.cells.length).map f)[j]?=some u->w.cell? ⟨b,o+j,none⟩=some u:=by
   intro j u hj;rw[alM] at hj
   by_cases ak:j<e.cells.length
   ·rw[anx ak] at hj;obtain rfl:=alw hj;exact(aE j _ (alu.2 ⟨ak,rfl⟩)).1
   ·rw[al0 (by simp;omega)] at hj;cases hj
  have key:off+d.size<=e.cells.length/\bm w (bk Γ w η s.hp) η s.hp r (if d.kind.agg then .agg ((((List.range e.cells.length).map f).drop off).take d.size).toArray else((((List.range e.cells.length).map f).drop off).take d.size).headD undef):=by
   unfold wJ at ZP;split at ZP
   ·rename_i hc;obtain⟨rfl,hlen,bw⟩:=hc;obtain rfl:=alw ZP;refine⟨by omega,?_⟩
    cases hk:d.kind.agg with
    |true=>
     rw[hk] at bw
     cases e<;>simp only[AV.isAgg] at bw<;>try (cases bw;done)
     rename_i cs;have rJ:cs.length=d.size:=hlen;have:=(eB (w:=w) (F:=bk Γ w η s.hp) (η:=η) (hp:=s.hp) (agg:=true) (size:=d.size) (cs:=cs) (o:=0) (r:=.agg cs) (fun h=>by cases h) (vs:=(List.range cs.length).map f) (by simp) dx (by simp[eV,<-rJ])).2;simpa [AV.cells] using this
    |false=>
     have h1:=aj.sz hd hk;have Ha:e.cells=[e]:=by
      rw[hk] at bw
      cases e<;>first|rfl|(simp[AV.isAgg] at bw)
     have:=(eB (w:=w) (F:=bk Γ w η s.hp) (η:=η) (hp:=s.hp) (agg:=false) (size:=d.size) (cs:=e.cells) (o:=0) (r:=e) (fun _=>h1) (vs:=(List.range e.cells.length).map f) (by simp) dx (by rw[Ha];rfl)).2;simpa using this
   ·have:=eB (w:=w) (F:=bk Γ w η s.hp) (η:=η) (hp:=s.hp) (aj.sz hd) (vs:=(List.range e.cells.length).map f) (by simp) dx ZP;simpa using this
  refine⟨_,?_,key.2⟩;simp only[execOp,ho,wL,Instr.loadAt,Instr.sureAddr,Sem.run_bind,Sem.run_pure,Result.andThen_ok];rw[gO.run_load (vs:=(((List.range e.cells.length).map f).drop off).take d.size) (by simp;omega) (fun j u hj=>by
   rw[alO] at hj;split at hj
   ·rw[amx] at hj;have:=fO _ _ hj;rw[anp];exact this
   ·cases hj)]
  rfl
end
section
variable {G:Type} {Γ:Env G} {s:AS G} {a:Act} {w w':World} {η:List Value} {hp:List af} {F:Nat->Nat->Prop} {P:Program}
theorem mW {tab:Nat->Option TD} {T:Nat} {f:Nat} {p:Nat×Nat×Bool} (h:(fieldsOf tab T)[f]?=some p):∃d fs,tab T=some d/\d.kind=.cr fs/\fs[f]?=some p:=by
 unfold fieldsOf at h;split at h
 ·rename_i d hd;split at h
  ·rename_i fs hk;exact⟨d,fs,hd,hk,h⟩
  ·simp at h
 ·simp at h
theorem fN.field {T:Nat} {d:TD} (h:fN P T d) {fs:List (Nat×Nat×Bool)} (hk:d.kind=.cr fs) {f:Nat} {p:Nat×Nat×Bool} (hf:fs[f]?=some p):
  ∃fields fd i u,P.underlying T=some (.struct fields)/\fields[f]?=some fd/\fd.offset=p.1/\P.info? fd.type=some i/\i.size=p.2.1/\P.underlying fd.type=some u/\M9 u=p.2.2:=by
 obtain⟨u,h1,h2⟩:=h.kC;rw[hk] at h2;obtain⟨fields,rfl,h3⟩:=h2;have h4:=congrArg (·[f]?) h3;simp only[alM,hf,al7,amO] at h4
 cases hfd:fields[f]? with
 |none=>rw[hfd] at h4;cases h4
 |some fd=>
  rw[hfd] at h4;simp only[al7,als,alx] at h4;obtain⟨e1,e2,e3⟩:=h4
  cases hi:P.info? fd.type with
  |none=>rw[hi] at e2;cases e2
  |some i=>
   cases hu:P.underlying fd.type with
   |none=>rw[hu] at e3;cases e3
   |some u=>
    rw[hi] at e2;rw[hu] at e3;exact⟨fields,fd,i,u,h1,hfd,e1,hi,by simpa using e2,hu,by simpa using e3⟩
theorem oy {tab:Nat->Option TD} (aj:aZ Γ.P tab) {o:Oper} {T f:Nat} {x:Operand} (ho:o.op=.fieldAddr T x f) {p:Nat×Nat×Bool} (hp:(fieldsOf tab T)[f]?=some p) (h0:p.2.1≠0) {r:AV}
  (h:(∃n off,s.ev x=.ptr n off/\r=.ptr n (off+p.1))\/(∃e off,s.ev x=.aS e off/\r=.aS e (off+p.1))):fb Γ o s r:=by
 refine aX fun a w η hr=>?_;have hx:=hr.ev x;obtain⟨d,fs,hd,hk,hf⟩:=mW hp;obtain⟨fields,fd,i,u,h1,h2,h3,h4,h5,_⟩:=(aj T d hd).field hk hf;have h6:¬i.size=0:=by rw[h5];exact h0
 rcases h with⟨n,off,he,rfl⟩|⟨e,off,he,rfl⟩<;>rw[he] at hx
 ·cases wL:a.eval x<;>rw[wL] at hx<;>cases hx
  rename_i b dR;exact⟨.pointer (some ⟨b,off+p.1,none⟩),by simp[execOp,ho,wL,Instr.fieldAt,run_underlying h1,h2,Instr.sureAddr,fieldPlace,sizeOf,typeInfo,h4,h6,h3,Addr.add_lit],.ptr n _ b dR⟩
 ·cases wL:a.eval x<;>rw[wL] at hx<;>cases hx
  rename_i b o f' aE cX;refine⟨.pointer (some ⟨b,o+off+p.1,none⟩),by simp[execOp,ho,wL,Instr.fieldAt,run_underlying h1,h2,Instr.sureAddr,fieldPlace,sizeOf,typeInfo,h4,h6,h3,Addr.add_lit],?_⟩;rw[anp];exact .aS e _ b o f' aE cX
theorem vD {tab:Nat->Option TD} (aj:aZ Γ.P tab) {o:Oper} {T f:Nat} {x:Operand} (ho:o.op=.fieldAddr T x f) {p:Nat×Nat×Bool} (hp:(fieldsOf tab T)[f]?=some p) (h0:p.2.1≠0) {r m i z:Nat}
  (he:s.ev x=.fa r m i z) (hz:p.1=0):fb Γ o s (.fa r m i z):=by
 refine aX fun a w η hr=>?_;have hx:=hr.ev x;obtain⟨d,fs,hd,hk,hf⟩:=mW hp;obtain⟨fields,fd,i',u,h1,h2,h3,h4,h5,_⟩:=(aj T d hd).field hk hf;have h6:¬i'.size=0:=by rw[h5];exact h0
 rw[he] at hx
 cases wL:a.eval x<;>rw[wL] at hx<;>cases hx
 rename_i b o' c k tL;exact⟨.pointer (some ⟨b,o'+i*z,none⟩),by simp[execOp,ho,wL,Instr.fieldAt,run_underlying h1,h2,Instr.sureAddr,fieldPlace,sizeOf,typeInfo,h4,h6,h3,Addr.add_lit,hz],.fa r m i z b o' c k tL⟩
theorem Hb {tab:Nat->Option TD} (aj:aZ Γ.P tab) {o:Oper} {T:Nat} {x:Operand} (ho:o.op=.load T x) {d:TD} (hd:tab T=some d) {r m i z e:Nat} {els:List AV} (he:s.ev x=.fa r m i z) (qi:s.hp[r]?=some (.aQ e z els))
  (hm:m=els.length) (Dt:d.size=z) (hi:i<els.length) (bw:els[i].isAgg=d.kind.agg):fb Γ o s els[i]:=by
 refine aX fun a w η hr=>?_;have hx:=hr.ev x;have gO:=aj T d hd;rw[he] at hx
 cases wL:a.eval x<;>rw[wL] at hx<;>cases hx
 rename_i b o' c k tL;have wM:=tL;unfold aT at wM;rw[qi] at wM;have dR:=wM.2 hm;obtain⟨MQ,xs,cy,cS⟩:=hr.heap.obj r _ _ qi dR;rcases cy.2 with⟨h0,_⟩|⟨g,cap,cur,hve,h0,⟨y3,y5,hg⟩,Dp,G5,fO,kR⟩
 ·omega
 simp only[Value.slice.injEq,als,Addr.mk.injEq,and_true] at hve;obtain⟨⟨rfl,rfl⟩,hnm,rfl⟩:=hve;have Dq:=cS i els[i] (aly hi);have aE:(i+1)*z<=els.length*z:=amw _ hi;rw[amu,anz] at aE;have Sw:((xs.drop (i*z)).take z).length=z:=by rw[amd,amN,cy.1];omega
 have cq:∀(j:Nat) (u:Value),((xs.drop (i*z)).take z)[j]?=some u->j<z/\xs[i*z+j]?=some u:=by
  intro j u hj;rw[alO] at hj;split at hj
  ·rename_i ak;rw[amx] at hj;exact⟨ak,hj⟩
  ·cases hj
 have dx:∀(j:Nat) (y:AV) (u:Value),els[i].cells[j]?=some y->((xs.drop (i*z)).take z)[j]?=some u->bm w (bk Γ w η s.hp) η s.hp y u/\u.oneCell'=true:=by
  intro j y u hy hu;obtain⟨_,h2⟩:=cq j u hu;obtain⟨u',q1,q2,q3⟩:=Dq.2 j y hy;rw[h2] at q1;obtain rfl:=alw q1;exact⟨q2.lift,q3⟩
 have aev:∀(j:Nat) (u:Value),((xs.drop (i*z)).take z)[j]?=some u->w.cell? ⟨b,0+i*z+j,none⟩=some u:=by
  intro j u hj;obtain⟨h1,h2⟩:=cq j u hj;rw[<-kR,alO] at h2;split at h2
  ·rw[cell_of_row w b (0+i*z+j) cur e (0,y3) hg,al2];simpa using h2
  ·cases h2
 have key:bm w (bk Γ w η s.hp) η s.hp els[i] (if d.kind.agg then .agg ((xs.drop (i*z)).take z).toArray else((xs.drop (i*z)).take z).headD undef):=by
  have hlen:=Dq.1;generalize els[i]=el at bw hlen dx
  cases hk:d.kind.agg with
  |true=>
   rw[hk] at bw
   cases el<;>simp only[AV.isAgg] at bw<;>try (cases bw;done)
   rename_i cs;have rJ:cs.length=z:=hlen;have:=(eB (w:=w) (F:=bk Γ w η s.hp) (η:=η) (hp:=s.hp) (agg:=true) (size:=z) (cs:=cs) (o:=0) (r:=.agg cs) (fun h=>by cases h) (vs:=(xs.drop (i*z)).take z) (by rw[Sw,rJ]) dx (by simp[eV,<-rJ])).2;simpa [List.take_take] using this
  |false=>
   have h1:=aj.sz hd hk;have Ha:el.cells=[el]:=by
    rw[hk] at bw
    cases el<;>first|rfl|(simp[AV.isAgg] at bw)
   have:=(eB (w:=w) (F:=bk Γ w η s.hp) (η:=η) (hp:=s.hp) (agg:=false) (size:=z) (cs:=el.cells) (o:=0) (r:=el) (fun _=>by rw[<-Dt];exact h1) (vs:=(xs.drop (i*z)).take z) (by rw[Sw,hlen]) dx (by rw[Ha];rfl)).2;simpa [<-Dt,h1,List.take_take] using this
 refine⟨_,?_,key⟩;simp only[execOp,ho,wL,Instr.loadAt,Instr.sureAddr,Sem.run_bind,Sem.run_pure,Result.andThen_ok];rw[gO.run_load (vs:=(xs.drop (i*z)).take z) (by rw[Sw,Dt]) aev];rfl
theorem wO {tab:Nat->Option TD} (aj:aZ Γ.P tab) {o:Oper} {T e:Nat} {x i:Operand} (ho:o.op=.indexAddr T x i) {d d':TD} (hd:tab T=some d) (hk:d.kind=.jS e) (dv:tab e=some d') {els:List AV} (cS:(s.ev x).gN s.hp=some els)
  {k:IntKind} {n:Int} (hi:s.ev i=.ae (.int k n)) (h0:0<=n) (h1:n<els.length) (bN:(els.getD n.toNat .top).cells.length=d'.size):fb Γ o s (.aS (els.getD n.toNat .top) 0):=by
 refine aX fun a w η hr=>?_;have hx:=jT hr.heap hr.bM (hr.ev x) cS;have Hc:=hr.ev i;rw[hi] at Hc;have SS:=Hc.ay;have hu:Γ.P.underlying T=some (.slice e):=by
  obtain⟨u,h2,h3⟩:=(aj T d hd).kC;rw[hk] at h3;rw[h2];exact congrArg some h3
 have ak:n.toNat<els.length:=by omega
 have cq:els[n.toNat]?=some (els.getD n.toNat .top):=by simp[List.getD,ak]
 generalize tC:a.eval x=vx at hx
 cases hx with
 |lL=>simp at ak
 |sl size els b off c f hc hm hl aE cX=>
  have hs:size=d'.size:=by rw[<-hl _ _ cq];exact bN
  subst hs;obtain⟨i0,y3,ox,_⟩:=(aj e d' dv).info;refine⟨.pointer (some ⟨b,off+n.toNat*d'.size,none⟩),?_,.aS _ 0 b (off+n.toNat*d'.size) (f n.toNat) (fun j x hj=>aE _ _ _ _ cq hj) (fun j x hj=>cX _ _ _ _ cq hj)⟩;have hb:0<=n/\n<(els.length:Int):=⟨h0,h1⟩;simp[execOp,ho,tC,SS,Instr.indexAt,asIntOf,run_underlying hu,hb,sizeOf,typeInfo,y3,ox,Addr.add_lit]
theorem vE {tab:Nat->Option TD} (aj:aZ Γ.P tab) {o:Oper} {T m:Nat} {x i:Operand} (ho:o.op=.indexAddr T x i) {d:TD} (hd:tab T=some d) (hk:d.kind=.arr m) {r:Nat} (hx:s.ev x=.ptr r 0)
  {k:IntKind} {n:Int} (hi:s.ev i=.ae (.int k n)) (h0:0<=n) (h1:n<m):fb Γ o s (.ptr r n.toNat):=by
 refine aX fun a w η hr=>?_;have dO:=hr.ev x;rw[hx] at dO;have Hc:=hr.ev i;rw[hi] at Hc;have SS:=Hc.ay;obtain⟨u,h2,h3⟩:=(aj T d hd).kC;rw[hk] at h3;obtain⟨e,i0,rfl,y3,ox⟩:=h3;generalize tC:a.eval x=vx at dO
 cases dO with
 |ptr _ _ b dR=>
  refine⟨.pointer (some ⟨b,n.toNat,none⟩),?_,.ptr _ _ b dR⟩;have hb:0<=n/\n<(m:Int):=⟨h0,h1⟩;simp[execOp,ho,tC,SS,Instr.indexAt,asIntOf,run_underlying h2,hb,sizeOf,typeInfo,y3,ox,Addr.add_lit,Instr.sureAddr]
theorem vF {tab:Nat->Option TD} (aj:aZ Γ.P tab) {o:Oper} {T m:Nat} {x i:Operand} (ho:o.op=.indexAddr T x i) {d:TD} (hd:tab T=some d) (hk:d.kind=.arr m) {e:AV} (hx:s.ev x=.aS e 0)
  {k:IntKind} {n:Int} (hi:s.ev i=.ae (.int k n)) (h0:0<=n) (h1:n<m):fb Γ o s (.aS e n.toNat):=by
 refine aX fun a w η hr=>?_;have dO:=hr.ev x;rw[hx] at dO;have Hc:=hr.ev i;rw[hi] at Hc;have SS:=Hc.ay;obtain⟨u,h2,h3⟩:=(aj T d hd).kC;rw[hk] at h3;obtain⟨e',i0,rfl,y3,ox⟩:=h3;generalize tC:a.eval x=vx at dO
 cases dO with
 |aS _ _ b q f aE Sx=>
  refine⟨.pointer (some ⟨b,q+n.toNat,none⟩),?_,.aS _ _ b q f aE Sx⟩;have hb:0<=n/\n<(m:Int):=⟨h0,h1⟩;simp[execOp,ho,tC,SS,Instr.indexAt,asIntOf,run_underlying h2,hb,sizeOf,typeInfo,y3,ox,Addr.add_lit,Instr.sureAddr]
theorem pH {hp:List af} {x:AV} {r m e size k:Nat} (h:tJ hp x=some (r,m,e,size,k)):x=.own r m/\∃els,hp[r]?=some (.aQ e size els)/\k=els.length:=by
 unfold tJ at h;split at h
 ·split at h
  ·rename_i hr;simp only[als,alx] at h;obtain⟨rfl,rfl,rfl,rfl,rfl⟩:=h;exact⟨rfl,_,hr,rfl⟩
  ·cases h
 ·cases h
theorem vG {tab:Nat->Option TD} (aj:aZ Γ.P tab) {o:Oper} {T e:Nat} {x i:Operand} (ho:o.op=.indexAddr T x i) {d d':TD} (hd:tab T=some d) (hk:d.kind=.jS e) (dv:tab e=some d') {r m:Nat} {els:List AV} (hx:s.ev x=.own r m) (qi:s.hp[r]?=some (.aQ e d'.size els)) (hm:m=els.length)
  {k:IntKind} {n:Int} (hi:s.ev i=.ae (.int k n)) (h0:0<=n) (h1:n<m):fb Γ o s (.fa r m n.toNat d'.size):=by
 refine aX fun a w η hr=>?_;have dO:=hr.ev x;rw[hx] at dO;have Hc:=hr.ev i;rw[hi] at Hc;have SS:=Hc.ay;have hu:Γ.P.underlying T=some (.slice e):=by
  obtain⟨u,h2,h3⟩:=(aj T d hd).kC;rw[hk] at h3;rw[h2];exact congrArg some h3
 generalize tC:a.eval x=vx at dO
 cases dO with
 |own _ _ _ wP tL=>
  have wM:=tL;unfold aT at wM;rw[qi] at wM;have dR:=wM.2 hm;obtain⟨MR,xs,cy,_⟩:=hr.heap.obj r _ _ qi dR;rcases cy.2 with⟨hz,_⟩|⟨g,cap,cur,rfl,_⟩
  ·omega
  ·rw[<-hm] at tL tC;obtain⟨i0,y3,ox,_⟩:=(aj e d' dv).info;refine⟨.pointer (some ⟨g,0+n.toNat*d'.size,none⟩),?_,.fa r m n.toNat d'.size g 0 cap m tL⟩;have hb:0<=n/\n<(m:Int):=⟨h0,h1⟩;simp[execOp,ho,tC,SS,Instr.indexAt,asIntOf,run_underlying hu,hb,sizeOf,typeInfo,y3,ox,Addr.add_lit]
theorem Hd {tab:Nat->Option TD} (aj:aZ Γ.P tab) {o:Oper} {T T':Nat} {op:BinOp} {x y:Operand} (ho:o.op=.binOp op T x y T') {c:Prop} {r:AV} (h:jW tab T op (s.ev x) (s.ev y)=some (c,r)) (_hc:c):fb Γ o s r:=by
 refine aX fun a w η hr=>?_;have hx:=hr.ev x;have hy:=hr.ev y;unfold jW at h;split at h
 ·rename_i k m k' n e1 e2;rw[e1] at hx;rw[e2] at hy;have kD:=hx.ay;have GY:=hy.ay;split at h
  ·rename_i hkk;subst hkk;unfold Bd at h
   split at h<;>first
    |cases h;done
    |(simp only[als,alx] at h;obtain⟨_,rfl⟩:=h;exact⟨_,by simp[execOp,ho,kD,GY,eqGuard,binOp,Op.intArith,Op.intCmp];try rfl,.ae _⟩)
  ·cases h
 ·rename_i b1 b2 e1 e2;rw[e1] at hx;rw[e2] at hy;have kD:=hx.ay;have GY:=hy.ay;split at h
  ·rename_i d hd;obtain⟨u,h2,h3⟩:=(aj T d hd).kC;split at h
   ·rename_i hk;rw[hk] at h3;have hu:Γ.P.underlying T=some .bool:=by rw[h2];exact congrArg some h3
    simp only[als,alx] at h;obtain⟨_,rfl⟩:=h;have he:(Op.equal T (.bool b1) (.bool b2)).run Γ.P w=.ok (b1==b2) w:=run_equalIn_bool' w 9999 T b1 b2 hu;refine⟨_,?_,.ae _⟩;simp only[execOp,ho,kD,GY,eqGuard,binOp,Sem.run_bind,amX,alQ,if_false,he,Result.andThen_ok,Sem.run_pure]
   ·rename_i hk;rw[hk] at h3;have hu:Γ.P.underlying T=some .bool:=by rw[h2];exact congrArg some h3
    simp only[als,alx] at h;obtain⟨_,rfl⟩:=h;have he:(Op.equal T (.bool b1) (.bool b2)).run Γ.P w=.ok (b1==b2) w:=run_equalIn_bool' w 9999 T b1 b2 hu;refine⟨_,?_,.ae _⟩;simp only[execOp,ho,kD,GY,eqGuard,binOp,Sem.run_bind,amX,alQ,if_false,he,Result.andThen_ok,Sem.run_pure]
   ·cases h
  ·cases h
 ·rename_i a1 a2 b1 b2 e1 e2;rw[e1] at hx;rw[e2] at hy;have aaa:∀{m1 m2:Int} {v:Value},bm w (bk Γ w η s.hp) η s.hp (.agg [.ae (.int .i64 m1),.ae (.int .i64 m2)]) v->v=.agg #[.int .i64 m1,.int .i64 m2]:=by
   intro m1 m2 v hv
   cases hv with
   |agg cs vs hl h1 hr=>
    obtain⟨vs⟩:=vs
    match vs,hl with
    | [u1,u2],_=>
     have q1:=(hr 0 _ u1 rfl rfl).ay;have q2:=(hr 1 _ u2 rfl rfl).ay;rw[q1,q2]
  have kD:=aaa hx;have GY:=aaa hy;split at h
  ·rename_i d hd;split at h
   ·rename_i hfl;obtain⟨g1,g2⟩:=(aj T d hd).feq hfl;split at h
    ·simp only[als,alx] at h;obtain⟨_,rfl⟩:=h;refine⟨.bool (a1==b1&&a2==b2),?_,.ae _⟩;have:=run_eql_struct (P:=Γ.P) w T #[.int .i64 a1,.int .i64 a2] #[.int .i64 b1,.int .i64 b2];rw[g2] at this;simp only[Result.andThen_ok] at this;simp only[execOp,ho,kD,GY,Sem.run_bind,run_eqGuard_agg (P:=Γ.P) w _ T x y _ _ g1,Result.andThen_ok,this];rfl
    ·simp only[als,alx] at h;obtain⟨_,rfl⟩:=h;refine⟨.bool (!(a1==b1&&a2==b2)),?_,.ae _⟩;have:=run_neq_struct (P:=Γ.P) w T #[.int .i64 a1,.int .i64 a2] #[.int .i64 b1,.int .i64 b2];rw[g2] at this;simp only[Result.andThen_ok] at this;simp only[execOp,ho,kD,GY,Sem.run_bind,run_eqGuard_agg (P:=Γ.P) w _ T x y _ _ g1,Result.andThen_ok,this];rfl
    ·cases h
   ·cases h
  ·cases h
 ·cases h
theorem gk (h:Rel Γ s a w η):∀l:List Operand,bZ w (bk Γ w η s.hp) η s.hp (l.map s.ev) (l.map a.eval)
 | []=>True.intro
 |x::l=>⟨h.ev x,gk h l⟩
theorem y8 {o:Oper} {f:Nat} {first caps:Array Operand} (ho:o.op=.makeFunc (.func f) first caps) (h0:first.size=0):fb Γ o s (.aY f (caps.toList.map s.ev)):=by
 refine aX fun a w η hr=>⟨.func (.func f) #[] (caps.map a.eval),?_,.aY f _ _ (by simp) fun j x v hx hv=>?_⟩
 ·have:first=#[]:=anb h0
  subst this;simp[execOp,ho,Instr.makeFunc]
 ·exact(gk hr caps.toList).get j x v hx (by simpa using hv)
theorem vH {o:Oper} {f:Nat} {first caps:Array Operand} (ho:o.op=.makeFunc (.func f) first caps) (h0:caps.size=0):fb Γ o s (.dm f (first.toList.map s.ev)):=by
 refine aX fun a w η hr=>⟨.func (.func f) (first.map a.eval) #[],?_,.dm f _ _ (by simp) fun j x v hx hv=>?_⟩
 ·have:caps=#[]:=anb h0;subst this;simp[execOp,ho,Instr.makeFunc]
 ·exact(gk hr first.toList).get j x v hx (by simpa using hv)
theorem Ld {o:Oper} {c x y:Operand} {t:Bool} (ho:o.op=.pick c x y) (hc:s.ev c=.ae (.bool t)):fb Γ o s (if t=true then s.ev x else s.ev y):=by
 refine aX fun a w η hr=>?_;have h:=hr.ev c;rw[hc] at h;have hv:=h.ay
 cases t with
 |true=>exact⟨a.eval x,by simp[execOp,ho,hv,asBool],by simpa using hr.ev x⟩
 |false=>exact⟨a.eval y,by simp[execOp,ho,hv,asBool],by simpa using hr.ev y⟩
theorem pJ {w:World} {η:List Value} {hp:List af} {F:Nat->Nat->Prop} {x:AV} {b:Bool} (h:Be x=some b) {v:Value} (hx:bm w F η hp x v):∃p,v=.pointer p/\p.isNone=b:=by
 unfold Be at h;split at h
 ·cases hx;exact⟨_,rfl,by simpa using h⟩
 ·cases hx;exact⟨_,rfl,by simpa using h⟩
 ·cases hx;exact⟨_,rfl,by simpa using h⟩
 ·cases h
theorem Le {tab:Nat->Option TD} (aj:aZ Γ.P tab) {o:Oper} {T T':Nat} {op:BinOp} {x y:Operand} (ho:o.op=.binOp op T x y T') {cs:List Prop} {r:AV} (h:Lc tab T op (s.ev x) (s.ev y)=some (cs,r)) (hc:Jw cs):fb Γ o s r:=by
 unfold Lc at h;split at h
 ·rename_i k' b hy;split at h
  ·rename_i k a hx;split at h
   ·rename_i hk;subst hk;refine aX fun ac w η hr=>?_;have h1:=hr.ev x;have h2:=hr.ev y;rw[hx] at h1;rw[hy] at h2;have h1:=h1.ay;have h2:=h2.ay;split at h
    ·simp only[als,alx] at h;obtain⟨rfl,rfl⟩:=h;exact⟨_,by simp[execOp,ho,h1,h2,eqGuard,binOp,Op.intDiv,hc.1],.ae _⟩
    ·simp only[als,alx] at h;obtain⟨rfl,rfl⟩:=h;exact⟨_,by simp[execOp,ho,h1,h2,eqGuard,binOp,Op.intDiv,hc.1],.ae _⟩
    ·obtain⟨n,hn,he⟩:=amv.1 h;simp only[alx] at he;obtain⟨rfl,rfl⟩:=he;refine⟨_,?_,.ae _⟩;unfold Nb at hn
     split at hn<;>first|cases hn;done|(obtain rfl:=alw hn;simp[execOp,ho,h1,h2,eqGuard,binOp,Op.intBits])
   ·cases h
  ·cases h
 ·rename_i b hy;split at h
  ·rename_i a hx;refine aX fun ac w η hr=>?_;have h1:=hr.ev x;have h2:=hr.ev y;rw[hx] at h1;rw[hy] at h2;have h1:=h1.ay;have h2:=h2.ay;split at h
   all_goals first|(cases h;done)|skip
   all_goals simp only[als,alx] at h
   all_goals obtain⟨rfl,rfl⟩:=h
   ·have GZ:a.size+b.size<=9223372036854775807:=hc.1;refine⟨_,?_,.ae _⟩;simp[execOp,ho,h1,h2,eqGuard,binOp,Op.stringOp,show IntKind.i64.max=9223372036854775807 from rfl];omega
   all_goals exact⟨_,by simp[execOp,ho,h1,h2,eqGuard,binOp,Op.stringOp,Dr,strLt],.ae _⟩
  ·cases h
 ·rename_i hy;split at h
  ·rename_i b hb;split at h
   ·rename_i d hd;split at h
    ·rename_i e hk;have hu:Γ.P.underlying T=some (.pointer (Γ.P.pointee T)):=by
      obtain⟨u,q2,q3⟩:=(aj T d hd).kC;rw[hk] at q3;have:Γ.P.underlying T=some (.pointer e):=by rw[q2];exact congrArg some q3
      rw[this,Program.pointee,this]
     split at h
     ·simp only[als,alx] at h;obtain⟨rfl,rfl⟩:=h;refine aX fun a w η hr=>?_;obtain⟨p,hp,SU⟩:=pJ hb (hr.ev x);have h2:=hr.ev y;rw[hy] at h2;have h2:=h2.ay;refine⟨.bool b,?_,.ae _⟩;simp only[execOp,ho,hp,h2,eqGuard,amX,alQ,if_false,Sem.run_bind,Sem.run_pure,Result.andThen_ok,run_eql_pointer_nil w T p hu,SU]
     ·simp only[als,alx] at h;obtain⟨rfl,rfl⟩:=h;refine aX fun a w η hr=>?_;obtain⟨p,hp,SU⟩:=pJ hb (hr.ev x);have h2:=hr.ev y;rw[hy] at h2;have h2:=h2.ay;refine⟨.bool (!b),?_,.ae _⟩;simp only[execOp,ho,hp,h2,eqGuard,amX,alQ,if_false,Sem.run_bind,Sem.run_pure,Result.andThen_ok,run_neq_pointer_nil w T p hu,SU]
     ·cases h
    ·cases h
   ·cases h
  ·cases h
 ·cases h
theorem Bh {P:Program} (w:World) (k:Nat) (T:TypeId) {ms:Array (String×TypeId)} (hu:P.underlying T=some (.interface ms)):(Op.equalIn (k+1) T .nilIface .nilIface).run P w=.ok true w:=by
 simp[Op.equalIn,run_underlying hu]
theorem lU {P:Program} (w:World) (T:TypeId) {ms:Array (String×TypeId)} (hu:P.underlying T=some (.interface ms)):(Op.equal T .nilIface .nilIface).run P w=.ok true w:=Bh w 9999 T hu
theorem Nc {tab:Nat->Option TD} (aj:aZ Γ.P tab) {o:Oper} {T T':Nat} {op:BinOp} {x y:Operand} (ho:o.op=.binOp op T x y T') {r:AV} (h:SR tab T op (s.ev x) y=some r):fb Γ o s r:=by
 unfold SR at h;split at h
 ·rename_i hy;split at h
  ·rename_i d hd hx;split at h
   ·rename_i hk;obtain⟨u,q2,q3⟩:=(aj T d hd).kC;rw[hk] at q3;obtain⟨ms,rfl⟩:=q3;obtain rfl:=SQ hy;split at h
    ·obtain rfl:=alw h;refine aX fun a w η hr=>?_;have h1:=hr.ev x;rw[hx] at h1;have h1:=h1.ay;have he:a.eval (.const .nilIface)=.nilIface:=rfl;refine⟨.bool true,?_,.ae _⟩;simp only[execOp,ho,h1,he,eqGuard_nil_constR,Sem.run_bind,Sem.run_pure,Result.andThen_ok,binOp,lU w T q2]
    ·obtain rfl:=alw h;refine aX fun a w η hr=>?_;have h1:=hr.ev x;rw[hx] at h1;have h1:=h1.ay;have he:a.eval (.const .nilIface)=.nilIface:=rfl;refine⟨.bool false,?_,.ae _⟩;simp only[execOp,ho,h1,he,eqGuard_nil_constR,Sem.run_bind,Sem.run_pure,Result.andThen_ok,binOp,lU w T q2];rfl
    ·cases h
   ·cases h
  ·cases h
 ·cases h
theorem Du {tab:Nat->Option TD} (aj:aZ Γ.P tab) {o:Oper} {T T':Nat} {op:BinOp} {x y:Operand} (ho:o.op=.binOp op T x y T') {c:Prop} {r:AV} (h:Bf tab T op (s.ev x) (s.ev y)=some (c,r)) (hc:c):fb Γ o s r:=by
 unfold Bf at h;split at h
 ·rename_i r' hr;obtain rfl:=alw h;exact Hd aj ho hr hc
 ·obtain⟨⟨cs,r'⟩,h1,h2⟩:=amv.1 h;simp only[alx] at h2;obtain⟨rfl,rfl⟩:=h2;exact Le aj ho h1 hc
theorem Nd {tab:Nat->Option TD} (aj:aZ Γ.P tab) {o:Oper} {S D:Nat} {x:Operand} (ho:o.op=.convert S D x) {r:AV} (h:Bg tab S D (s.ev x)=some r):fb Γ o s r:=by
 unfold Bg at h;split at h
 ·rename_i d1 d k n hS hD hx;split at h
  ·rename_i k2 hk;obtain rfl:=alw h;refine aX fun a w η hr=>?_;have h1:=hr.ev x;rw[hx] at h1;have h1:=h1.ay;obtain⟨u1,q1,_⟩:=(aj S d1 hS).kC;have hu:Γ.P.underlying D=some (.int k2):=by
    obtain⟨u,q2,q3⟩:=(aj D d hD).kC;rw[hk] at q3;rw[q2];exact congrArg some q3
   refine⟨.int k2 (k2.wrap n),?_,.ae _⟩;simp only[execOp,ho,h1,convert,Sem.run_bind,run_underlying q1,run_underlying hu,Result.andThen_ok];rfl
  ·cases h
 ·rename_i d1 d t hS hD hx;split at h
  ·rename_i hk;obtain rfl:=alw h;refine aX fun a w η hr=>?_;have h1:=hr.ev x;rw[hx] at h1;have h1:=h1.ay;obtain⟨u1,q1,_⟩:=(aj S d1 hS).kC;have hu:Γ.P.underlying D=some .string:=by
    obtain⟨u,q2,q3⟩:=(aj D d hD).kC;rw[hk] at q3;rw[q2];exact congrArg some q3
   refine⟨.string t,?_,.ae _⟩;simp[execOp,ho,h1,convert,run_underlying hu,run_underlying q1]
  ·cases h
 ·cases h
theorem zM {o:Oper} {op:UnOp} {T:Nat} {x:Operand} (ho:o.op=.unOp op T x) {r:AV} (h:(∃b,op=.not/\s.ev x=.ae (.bool b)/\r=.ae (.bool (!b)))\/(∃k n,op=.neg/\s.ev x=.ae (.int k n)/\r=.ae (.int k (k.wrap (0-n))))):fb Γ o s r:=by
 refine aX fun a w η hr=>?_;have hx:=hr.ev x;rcases h with⟨b,rfl,he,rfl⟩|⟨k,n,rfl,he,rfl⟩<;>rw[he] at hx
 ·exact⟨_,by simp[execOp,ho,hx.ay,Op.unary],.ae _⟩
 ·exact⟨_,by simp[execOp,ho,hx.ay,Op.unary,Op.intArith],.ae _⟩
theorem Bi {o:Oper} {x:Operand} {i:Nat} (ho:o.op=.extract x i) {vs:List AV} {r:AV} (he:s.ev x=.aL vs) (hi:vs[i]?=some r):fb Γ o s r:=by
 refine aX fun a w η hr=>?_;have hx:=hr.ev x;rw[he] at hx;generalize hv:a.eval x=v at hx
 cases hx with
 |aL cs us hl cX=>
  have ak:i<us.size:=by rw[hl];exact(alu.1 hi).1
  have hu:us[i]?=some us[i]:=by simp[ak]
  exact⟨us[i],by simp[execOp,ho,hv,Instr.extract,hu],cX i r _ hi hu⟩
theorem He {tab:Nat->Option TD} (aj:aZ Γ.P tab) {o:Oper} {T f:Nat} {x:Operand} (ho:o.op=.field T x f) {p:Nat×Nat×Bool} (hp:(fieldsOf tab T)[f]?=some p) {cs:List AV} (hx:s.ev x=.agg cs) {r:AV}
  (h:eV p.2.2 p.2.1 cs p.1=some r) (h1:p.2.2=false->p.2.1=1):fb Γ o s r:=by
 refine aX fun a w η hr=>?_;have dO:=hr.ev x;rw[hx] at dO;obtain⟨d,fs,hd,hk,hf⟩:=mW hp;obtain⟨fields,fd,i,u,e1,e2,e3,e4,e5,e6,e7⟩:=(aj T d hd).field hk hf;generalize hv:a.eval x=v at dO
 cases dO with
 |agg _ vs hl wP cX=>
  obtain⟨g1,g2⟩:=eB (w:=w) (F:=bk Γ w η s.hp) (η:=η) (hp:=s.hp) h1 (vs:=vs.toList) (by simpa using hl) (fun j x u hx hu=>⟨cX j x u hx (by simpa using hu),wP u (by rw[<-amZ];exact alF hu)⟩) h;refine⟨_,?_,g2⟩;have bw:(isAgg fd.type).run Γ.P w=.ok p.2.2 w:=by
   rw[<-e7];simp only[isAgg,Sem.run_bind,run_underlying e6,Result.andThen_ok]
   cases u<;>rfl
  simp only[execOp,ho,hv,Instr.field,Sem.run_bind,run_underlying e1,Result.andThen_ok,e2,asAgg,Sem.run_pure,part,bw]
  cases tM:p.2.2 with
  |true=>
   simp only[if_true,Sem.run_bind,sizeOf,typeInfo,run_program,Result.andThen_ok,e4,Sem.run_pure,e5,e3]
   congr 2
   apply congrArg;apply amT;simp[Array.toList_extract,List.extract_eq_take_drop]
  |false=>
   have hs:=h1 tM;rw[hs] at g1 ⊢;have ak:p.1<vs.size:=by simp at g1;omega
   have hu:vs[p.1]?=some vs[p.1]:=by simp[ak]
   simp only[alQ,if_false,e3,hu,Sem.run_pure,Result.andThen_ok]
   congr 2
   have:(vs.toList.drop p.1).take 1=[vs[p.1]]:=by
    apply ams;intro k;rw[alO]
    cases k with
    |zero=>simp[ak]
    |succ k=>simp
   rw[this];rfl
end
section
variable {G:Type} {Γ:Env G} {s:AS G} {a:Act} {w w':World} {η:List Value} {hp:List af} {F:Nat->Nat->Prop} {P:Program}
theorem bm.Nf {els:List AV} {v:Value} (h:bm w F η hp (.sl els) v):∃a c,v=.slice a els.length c:=by
 cases h with
 |lL a=>exact⟨a,0,rfl⟩
 |sl size els b o c f hc hm hl aE hr=>exact⟨_,c,rfl⟩
theorem jD {o:Oper} {c:Call} {b:Builtin} (ho:o.op=.call c) (hb:c.callee=.builtin b) {l:List Operand} (hl:c.args.toList=l) {r:AV}
  (h:∀a w η,Rel Γ s a w η->∃v w',(builtin b c.argTypes o.type ((c.args.map fun | .const _=>true|_=>false)) (l.map a.eval).toArray).run Γ.P w=.ok (.value v) w'/\bI w w'/\bm w' (bk Γ w' η s.hp) η s.hp r v):fb Γ o s r:=by
 intro a w η hr;obtain⟨v,w',h1,h2,h3⟩:=h a w η hr;refine⟨v,w',?_,h2,h3⟩;have:c.args.map a.eval=(l.map a.eval).toArray:=by rw[<-hl];apply amT;simp
 simp only[execOp,ho,resolve,hb,Sem.run_bind,Sem.run_pure,Result.andThen_ok,invoke,this];exact h1
theorem Dv {tab:Nat->Option TD} (aj:aZ Γ.P tab) {o:Oper} {c:Call} (ho:o.op=.call c) (hb:c.callee=.builtin .len) {x:Operand} (hl:c.args.toList=[x]) {T:Nat} (hT:c.argTypes[0]?=some T) {d:TD} (hd:tab T=some d) {r:AV}
  (h:(∃e els,d.kind=.jS e/\(s.ev x).gN s.hp=some els/\r=.ae (.int .i64 els.length))\/(∃b,d.kind=.str/\s.ev x=.ae (.string b)/\r=.ae (.int .i64 b.size))):fb Γ o s r:=by
 refine jD ho hb hl fun a w η hr=>?_;obtain⟨u,h2,h3⟩:=(aj T d hd).kC;rcases h with⟨e,els,hk,cS,rfl⟩|⟨b,hk,he,rfl⟩<;>rw[hk] at h3
 ·have hu:Γ.P.underlying T=some (.slice e):=by rw[h2];exact congrArg some h3
  obtain⟨a0,c0,hv⟩:=(jT hr.heap hr.bM (hr.ev x) cS).Nf;exact⟨_,w,by simp[builtin,Builtin.len_,hT,hv,run_underlying hu,goInt],bI.refl w,.ae _⟩
 ·have hu:Γ.P.underlying T=some .string:=by rw[h2];exact congrArg some h3
  have hx:=hr.ev x;rw[he] at hx;exact⟨_,w,by simp[builtin,Builtin.len_,hT,hx.ay,run_underlying hu,goInt],bI.refl w,.ae _⟩
theorem Lf {tab:Nat->Option TD} (aj:aZ Γ.P tab) {o:Oper} {c:Call} (ho:o.op=.call c) (hb:c.callee=.builtin .len) {x:Operand} (hl:c.args.toList=[x]) {T:Nat} (hT:c.argTypes[0]?=some T) {d:TD} (hd:tab T=some d) {e r m e' z:Nat} {els:List AV}
  (hk:d.kind=.jS e) (he:s.ev x=.own r m) (qi:s.hp[r]?=some (.aQ e' z els)) (hm:m=els.length):fb Γ o s (.ae (.int .i64 (m:Nat))):=by
 refine jD ho hb hl fun a w η hr=>?_;obtain⟨u,h2,h3⟩:=(aj T d hd).kC;rw[hk] at h3;have hu:Γ.P.underlying T=some (.slice e):=by rw[h2];exact congrArg some h3
 have hx:=hr.ev x;rw[he] at hx;generalize hv:a.eval x=v at hx
 cases hx with
 |own _ _ _ h1 tL=>
  unfold aT at tL;rw[qi] at tL;obtain⟨MQ,xs,cy,_⟩:=hr.heap.obj r _ _ qi (tL.2 hm);obtain⟨a0,c0,rfl⟩:∃a0 c0,v=.slice a0 m c0:=by
   rcases cy.2 with⟨h0,rfl|⟨ad,rfl⟩⟩|⟨g,cap,cur,rfl,_⟩
   ·exact⟨_,_,by rw[hm,h0]⟩
   ·exact⟨_,_,by rw[hm,h0]⟩
   ·exact⟨_,_,by rw[hm]⟩
  exact⟨_,w,by simp[builtin,Builtin.len_,hT,hv,run_underlying hu,goInt],bI.refl w,.ae _⟩
theorem Ng {o:Oper} {c:Call} (ho:o.op=.call c) (hb:c.callee=.builtin .min) {x y:Operand} (hl:c.args.toList=[x,y]) {k k':IntKind} {m n:Int} (hx:s.ev x=.ae (.int k m)) (hy:s.ev y=.ae (.int k' n)):fb Γ o s (.ae (.int k (if n<m then n else m))):=by
 refine jD ho hb hl fun a w η hr=>?_;have h1:=hr.ev x;have h2:=hr.ev y;rw[hx] at h1;rw[hy] at h2;exact⟨_,w,by simp[builtin,Builtin.min_,h1.ay,h2.ay,Builtin.min2],bI.refl w,.ae _⟩
theorem Nh {o:Oper} {c:Call} (ho:o.op=.call c) (hb:c.callee=.builtin .max) {x y:Operand} (hl:c.args.toList=[x,y]) {k k':IntKind} {m n:Int} (hx:s.ev x=.ae (.int k m)) (hy:s.ev y=.ae (.int k' n)):fb Γ o s (.ae (.int k (if n>m then n else m))):=by
 refine jD ho hb hl fun a w η hr=>?_;have h1:=hr.ev x;have h2:=hr.ev y;rw[hx] at h1;rw[hy] at h2;exact⟨_,w,by simp[builtin,Builtin.max_,h1.ay,h2.ay,Builtin.max2],bI.refl w,.ae _⟩
def eW (cs:List Value) (off:Nat):List Value->List Value
 | []=>cs
 |x::xs=>eW (cs.set off x) (off+1) xs
theorem gP (xs:List Value):∀(cs:List Value) (off:Nat),(eW cs off xs).length=cs.length:=by
 induction xs with
 |nil=>intro cs off;rfl
 |cons x xs ih=>intro cs off;simp[eW,ih]
def qK (w:World) (F:Nat->Nat->Prop) (η:List Value) (hp:List af) (cs:List AV) (vs:List Value):Prop:=
 vs.length=cs.length/\∀(j:Nat) (x:AV) (u:Value),cs[j]?=some x->vs[j]?=some u->bm w F η hp x u/\u.oneCell'=true
theorem qK.set {cs:List AV} {vs:List Value} (h:qK w F η hp cs vs) (off:Nat) {x:AV} {u:Value} (hx:bm w F η hp x u) (h1:u.oneCell'=true):qK w F η hp (cs.set off x) (vs.set off u):=by
 refine⟨by simp[h.1],fun j y z hy hz=>?_⟩
 by_cases hj:off=j
 ·subst hj;rw[amr] at hy hz;simp only[if_true] at hy hz;split at hy
  ·rename_i h2;rw[h.1,if_pos h2] at hz;obtain rfl:=alw hy;obtain rfl:=alw hz;exact⟨hx,h1⟩
  ·cases hy
 ·rw[getElem?_set_ne hj] at hy hz;exact h.2 j y z hy hz
theorem qK.X6 (xs:List AV):∀{us:List Value} {cs:List AV} {vs:List Value} (off:Nat),qK w F η hp cs vs->qK w F η hp xs us->qK w F η hp (setCells cs off xs) (eW vs off us):=by
 induction xs with
 |nil=>
  intro us cs vs off h hu;have:us=[]:=al1 hu.1;subst this;exact h
 |cons x xs ih=>
  intro us cs vs off h hu
  match us,hu with
  | [],hu=>exact absurd hu.1 (by simp)
  |u::us,hu=>
   have h0:=hu.2 0 x u rfl rfl;exact ih (off+1) (h.set off h0.1 h0.2) ⟨by simpa using hu.1,fun j y z hy hz=>hu.2 (j+1) y z (by simpa using hy) (by simpa using hz)⟩
theorem bm.Dw {x:AV} {v:Value} (h:bm w F η hp x v) (hs:x.lT=true):qK w F η hp x.cells v.cells.toList:=by
 have one:x.isAgg=false->x.M8=true:=by cases x<;>simp_all [AV.lT,AV.isAgg,AV.M8]
 cases h with
 |agg cs vs hl h1 hr=>exact⟨by simpa [AV.cells,Value.cells] using hl,fun j y u hy hu=>⟨hr j y u hy (by simpa [Value.cells] using hu),h1 u (by have:=alF hu;simpa [Value.cells] using this)⟩⟩
 |top v=>simp[AV.lT] at hs
 |aL cs vs hl hr=>simp[AV.lT] at hs
 |ae v=>
  have h1:v.oneCell'=true:=hs;refine⟨by cases v<;>simp_all [AV.cells,Value.cells,Value.oneCell'],fun j y u hy hu=>?_⟩;have hv:v.cells=#[v]:=by cases v<;>simp_all [Value.cells,Value.oneCell']
  rw[hv] at hu
  cases j with
  |zero=>simp[AV.cells] at hy hu;subst hy;subst hu;exact⟨.ae _,h1⟩
  |succ j=>simp[AV.cells] at hy
 |own r n v h1 h2=>
  refine⟨by cases v<;>simp_all [AV.cells,Value.cells,Value.oneCell'],fun j y u hy hu=>?_⟩;have hv:v.cells=#[v]:=by cases v<;>simp_all [Value.cells,Value.oneCell']
  rw[hv] at hu
  cases j with
  |zero=>simp[AV.cells] at hy hu;subst hy;subst hu;exact⟨.own r n _ h1 h2,h1⟩
  |succ j=>simp[AV.cells] at hy
 |fn v h1=>
  refine⟨by cases v<;>simp_all [AV.cells,Value.cells,Value.oneCell'],fun j y u hy hu=>?_⟩;have hv:v.cells=#[v]:=by cases v<;>simp_all [Value.cells,Value.oneCell']
  rw[hv] at hu
  cases j with
  |zero=>simp[AV.cells] at hy hu;subst hy;subst hu;exact⟨.fn _ h1,h1⟩
  |succ j=>simp[AV.cells] at hy
 |lL a=>exact⟨rfl,fun j y u hy hu=>by cases j<;>simp[AV.cells,Value.cells] at hy hu;subst hy;subst hu;exact⟨.lL a,rfl⟩⟩
 |jv a=>exact⟨rfl,fun j y u hy hu=>by cases j<;>simp[AV.cells,Value.cells] at hy hu;subst hy;subst hu;exact⟨.jv a,rfl⟩⟩
 |sl size els b o c f hc hm hl aE hr=>exact⟨rfl,fun j y u hy hu=>by cases j<;>simp[AV.cells,Value.cells] at hy hu;subst hy;subst hu;exact⟨.sl size els b o c f hc hm hl aE hr,rfl⟩⟩
 |clip size els b o f hm hl aE hr=>exact⟨rfl,fun j y u hy hu=>by cases j<;>simp[AV.cells,Value.cells] at hy hu;subst hy;subst hu;exact⟨.clip size els b o f hm hl aE hr,rfl⟩⟩
 |ptr r off b h=>exact⟨rfl,fun j y u hy hu=>by cases j<;>simp[AV.cells,Value.cells] at hy hu;subst hy;subst hu;exact⟨.ptr r off b h,rfl⟩⟩
 |aS e off b o f aE hr=>exact⟨rfl,fun j y u hy hu=>by cases j<;>simp[AV.cells,Value.cells] at hy hu;subst hy;subst hu;exact⟨.aS e off b o f aE hr,rfl⟩⟩
 |aY fn cs vs hl hr=>exact⟨rfl,fun j y u hy hu=>by cases j<;>simp[AV.cells,Value.cells] at hy hu;subst hy;subst hu;exact⟨.aY fn cs vs hl hr,rfl⟩⟩
 |mp r b h=>exact⟨rfl,fun j y u hy hu=>by cases j<;>simp[AV.cells,Value.cells] at hy hu;subst hy;subst hu;exact⟨.mp r b h,rfl⟩⟩
 |fa r n i size b o c k h=>simp[AV.lT] at hs
 |dm fn cs vs hl hr=>exact⟨rfl,fun j y u hy hu=>by cases j<;>simp[AV.cells,Value.cells] at hy hu;subst hy;subst hu;exact⟨.dm fn cs vs hl hr,rfl⟩⟩
 |eG b es c h hF l hl=>exact⟨rfl,fun j y u hy hu=>by cases j<;>simp[AV.cells,Value.cells] at hy hu;subst hy;subst hu;exact⟨.eG b es c h hF l hl,rfl⟩⟩
theorem wQ (v:List Value):∀(cs:Array Value) (off k:Nat),((v.zipIdx k).foldl (fun cs (c,j)=>cs.setIfInBounds (off+j) c) cs).toList=eW cs.toList (off+k) v:=by
 induction v with
 |nil=>intro cs off k;rfl
 |cons x v ih=>
  intro cs off k;simp only[List.zipIdx_cons,amU];rw[ih];simp[eW,Array.toList_setIfInBounds,anp]
theorem Jx {fs:List (Nat×Nat×Bool)} {places:Nat->Option (Nat×Nat)} (Jy:∀(i:Nat) (p:Nat×Nat×Bool),fs[i]?=some p->places i=some (p.1,p.2.1)):
  ∀(parts:List (Nat×AV)) (lz:List (Nat×Value)) (cs:List AV) (vs:Array Value) (r:List AV),cV fs cs parts=some r->qK w F η hp cs vs.toList->lz.map (·.1)=parts.map (·.1)->
   (∀(j:Nat) (p:Nat×AV) (q:Nat×Value),parts[j]?=some p->lz[j]?=some q->bm w F η hp p.2 q.2)->∃vr,Instr.fill places vs lz=some vr/\qK w F η hp r vr.toList:=by
 intro parts
 induction parts with
 |nil=>
  intro lz cs vs r h hc hm _;have:lz=[]:=by cases lz<;>simp_all
  subst this;simp only[cV,als] at h;subst h;exact⟨vs,rfl,hc⟩
 |cons p parts ih=>
  intro lz cs vs r h hc hm hr
  cases lz with
  |nil=>simp at hm
  |cons q lz=>
   obtain⟨i,x⟩:=p;obtain⟨i',v⟩:=q;simp only[al3,List.cons.injEq] at hm;obtain⟨rfl,Sy⟩:=hm;have h0:=hr 0 _ _ rfl rfl;simp only at h0;simp only[cV] at h;split at h
   ·rename_i p hp;split at h
    ·rename_i lV;have Dx:=h0.Dw lV.2.2;have bN:v.cells.size=p.2.1:=by rw[<-lV.1,<-Dx.1];simp
     have aew:=Jy _ p hp;have hle:p.1+p.2.1<=vs.size:=by have:=hc.1;simp at this;omega
     have wR:=wQ v.cells.toList vs p.1 0;rw[amy] at wR;obtain⟨vr,e1,e2⟩:=ih lz (setCells cs p.1 x.cells) ((v.cells.zipIdx).foldl (fun cs (c,j)=>cs.setIfInBounds (p.1+j) c) vs) r h (by
      have e:((v.cells.zipIdx).foldl (fun cs (c,j)=>cs.setIfInBounds (p.1+j) c) vs).toList=eW vs.toList p.1 v.cells.toList:=by
       rw[<-wR,<-Array.foldl_toList];simp
      rw[e]
      exact qK.X6 x.cells p.1 hc Dx) Sy (fun j p' q' h1 h2=>hr (j+1) p' q' (by simpa using h1) (by simpa using h2))
     refine⟨vr,?_,e2⟩;simp only[Instr.fill,aew,bN];rw[if_neg (by simp;omega)];exact e1
    ·cases h
   ·cases h
end
section
variable {G:Type} {Γ:Env G} {s:AS G} {a:Act} {w w':World} {η:List Value} {hp:List af} {F:Nat->Nat->Prop} {P:Program}
theorem fN.Bj {T:Nat} {d:TD} (h:fN P T d):qK w F η hp (d.zero.cells.toList.map .ae) d.zero.cells.toList:=by
 refine⟨by simp,fun j x u hx hu=>?_⟩;rw[alM,hu] at hx;obtain rfl:=alw hx;exact⟨.ae _,h.aep u (by have:=alF hu;simpa using this)⟩
theorem wS (fields:List Field) (w:World) (h:∀f:Field,f∈fields->∃i,P.info? f.type=some i):
  (fields.mapM fun f=>do pure (f.offset,<-sizeOf f.type):Sem (List (Nat×Nat))).run P w=.ok (fields.map fun f=>(f.offset,((P.info? f.type).map (·.size)).getD 0)) w:=by
 induction fields with
 |nil=>rfl
 |cons f fs ih=>
  obtain⟨i,hi⟩:=h f alS;have ih':=ih fun g hg=>h g (alR _ hg);simp only[List.mapM_cons,Sem.run_bind,sizeOf,typeInfo,run_program,Result.andThen_ok,hi,Sem.run_pure,al3,al7,amt];simp only[sizeOf,typeInfo] at ih';rw[ih'];rfl
theorem Hf {tab:Nat->Option TD} (aj:aZ Γ.P tab) {o:Oper} {T:Nat} {parts:Array (Nat×Operand)} (ho:o.op=.build T parts) {d:TD} (hd:tab T=some d) {fs:List (Nat×Nat×Bool)} (hk:d.kind=.cr fs) {r:List AV}
  (h:cV fs (d.zero.cells.toList.map .ae) (parts.toList.map fun p=>(p.1,s.ev p.2))=some r):fb Γ o s (.agg r):=by
 refine aX fun a w η hr=>?_;have gO:=aj T d hd;obtain⟨u,h2,h3⟩:=gO.kC;rw[hk] at h3;obtain⟨fields,rfl,h3⟩:=h3;have aab:∀f:Field,f∈fields.toList->∃i,Γ.P.info? f.type=some i:=by
  intro f hf;obtain⟨k,rE⟩:=amC hf;have h4:=congrArg (·[k]?) h3;simp only[alM,rE,al7] at h4
  cases SV:fs[k]? with
  |none=>rw[SV] at h4;cases h4
  |some p=>
   rw[SV] at h4;simp only[al7,als,alx] at h4
   cases hi:Γ.P.info? f.type with
   |none=>rw[hi] at h4;cases h4.2.1
   |some i=>exact⟨i,rfl⟩
 have Jy:∀(i:Nat) (p:Nat×Nat×Bool),fs[i]?=some p->((fields.toList.map fun f=>(f.offset,((Γ.P.info? f.type).map (·.size)).getD 0)).toArray)[i]?=some (p.1,p.2.1):=by
  intro i p hp;have h4:=congrArg (·[i]?) h3;simp only[alM,hp,al7] at h4
  cases hf:fields.toList[i]? with
  |none=>rw[hf] at h4;cases h4
  |some f=>
   rw[hf] at h4;simp only[al7,als,alx] at h4;simp only[ana,alM,hf,al7,h4.1,h4.2.1,amt]
 obtain⟨vr,e1,e2⟩:=Jx (w:=w) (F:=bk Γ w η s.hp) (η:=η) (hp:=s.hp) Jy (parts.toList.map fun p=>(p.1,s.ev p.2)) (parts.toList.map fun p=>(p.1,a.eval p.2)) _ d.zero.cells r h gO.Bj (by simp) (fun j p q h1 h2=>by
  simp only[alM] at h1 h2
  cases hj:parts.toList[j]? with
  |none=>rw[hj] at h1;cases h1
  |some x=>
   rw[hj] at h1 h2;obtain rfl:=alw h1;obtain rfl:=alw h2
   exact hr.ev x.2)
 refine⟨.agg vr,?_,.agg r vr (by have:=e2.1;simpa using this) (fun v hv=>?_) fun j x v hx hv=>(e2.2 j x v hx (by simpa using hv)).1⟩
 ·have hm:=wS (P:=Γ.P) fields.toList w aab;simp only[execOp,ho,Instr.build,Sem.run_bind,gO.gM,Result.andThen_ok,run_underlying h2,Array.mapM_eq_mapM_toList,Sem.run_map,hm,anr,e1,Sem.run_pure]
 ·obtain⟨k,rE⟩:=amC (amZ.2 hv);have ak:k<r.length:=by rw[<-e2.1];exact(alu.1 rE).1
  exact(e2.2 k r[k] v (by simp[ak]) rE).2
theorem Dy {tab:Nat->Option TD} (aj:aZ Γ.P tab) {o:Oper} {T:Nat} {parts:Array (Nat×Operand)} (ho:o.op=.build T parts) {d:TD} (hd:tab T=some d) {n:Nat} (hk:d.kind=.arr n) {r:List AV}
  (h:cV (wK n) (d.zero.cells.toList.map .ae) (parts.toList.map fun p=>(p.1,s.ev p.2))=some r):fb Γ o s (.agg r):=by
 refine aX fun a w η hr=>?_;have gO:=aj T d hd;obtain⟨u,h2,h3⟩:=gO.kC;rw[hk] at h3;obtain⟨e,i0,rfl,y3,ox⟩:=h3;have Jy:∀(i:Nat) (p:Nat×Nat×Bool),(wK n)[i]?=some p->(fun i=>some (i*1,1):Nat->Option (Nat×Nat)) i=some (p.1,p.2.1):=by
  intro i p hp;simp only[wK,alM] at hp;obtain⟨j,hj,rfl⟩:=amv.1 hp;obtain rfl:j=i:=by
   obtain⟨h5,h6⟩:=alu.1 hj;rw[<-h6];simp
  simp
 obtain⟨vr,e1,e2⟩:=Jx (w:=w) (F:=bk Γ w η s.hp) (η:=η) (hp:=s.hp) Jy (parts.toList.map fun p=>(p.1,s.ev p.2)) (parts.toList.map fun p=>(p.1,a.eval p.2)) _ d.zero.cells r h gO.Bj (by simp) (fun j p q h1 h2=>by
  simp only[alM] at h1 h2
  cases hj:parts.toList[j]? with
  |none=>rw[hj] at h1;cases h1
  |some x=>
   rw[hj] at h1 h2;obtain rfl:=alw h1;obtain rfl:=alw h2
   exact hr.ev x.2)
 refine⟨.agg vr,?_,.agg r vr (by have:=e2.1;simpa using this) (fun v hv=>?_) fun j x v hx hv=>(e2.2 j x v hx (by simpa using hv)).1⟩
 ·simp only[execOp,ho,Instr.build,Sem.run_bind,gO.gM,Result.andThen_ok,run_underlying h2,sizeOf,typeInfo,run_program,y3,Sem.run_pure,ox,anr,e1]
 ·obtain⟨k,rE⟩:=amC (amZ.2 hv);have ak:k<r.length:=by rw[<-e2.1];exact(alu.1 rE).1
  exact(e2.2 k r[k] v (by simp[ak]) rE).2
theorem cN (us:List Value):∀(cs:List Value) (off t:Nat),off+us.length<=cs.length->(eW cs off us)[t]?=if off<=t/\t<off+us.length then us[t-off]? else cs[t]?:=by
 induction us with
 |nil=>
  intro cs off t _;simp only[eW,al4,amy];rw[if_neg (by omega)]
 |cons u us ih=>
  intro cs off t h;simp only[alJ] at h;simp only[eW,alJ];rw[ih (cs.set off u) (off+1) t (by simp;omega)]
  by_cases h1:off+1<=t/\t<off+1+us.length
  ·rw[if_pos h1,if_pos (by omega)];have:t-off=(t-(off+1))+1:=by omega
   rw[this,al5]
  ·rw[if_neg h1]
   by_cases h2:t=off
   ·subst h2;rw[if_pos (by omega),am9,amp,amr];simp;omega
   ·rw[if_neg (by omega),getElem?_set_ne (fun e=>h2 e.symm)]
theorem y9 (v:Array Value) (cs:Array Value) (off:Nat):(v.zipIdx.foldl (fun cs (c,j)=>cs.setIfInBounds (off+j) c) cs).toList=eW cs.toList off v.toList:=by
 have h:=wQ v.toList cs off 0;rw[amy] at h;rw[<-h,<-Array.foldl_toList];simp
theorem wT {size:Nat}:∀(l:List Value) (k:Nat) (parts:List (Nat×Value)) (cs:Array Value),parts.map (·.2)=l->(∀(j:Nat) (p:Nat×Value),parts[j]?=some p->p.1=k+j)->(∀v:Value,v∈l->v.cells.size=size)->cs.size=(k+l.length)*size->
  ∃r,Instr.fill (fun i=>some (i*size,size)) cs parts=some r/\r.size=cs.size/\(∀t,t<k*size->r.toList[t]?=cs.toList[t]?)/\
   ∀(i:Nat) (v:Value) (j:Nat) (u:Value),l[i]?=some v->v.cells.toList[j]?=some u->r.toList[(k+i)*size+j]?=some u:=by
 intro l
 induction l with
 |nil=>
  intro k parts cs hm _ _ _;have:parts=[]:=by cases parts<;>simp_all
  subst this;exact⟨cs,rfl,rfl,fun _ _=>rfl,fun i v j u hi=>by simp at hi⟩
 |cons v l ih=>
  intro k parts cs hm lW bN fO
  cases parts with
  |nil=>simp at hm
  |cons p parts=>
   obtain⟨i0,v0⟩:=p;simp only[al3,List.cons.injEq] at hm;obtain⟨rfl,Sy⟩:=hm;have y3:i0=k:=by have:=lW 0 _ rfl;simpa using this
   subst y3;have rH:=bN v0 alS;simp only[alJ] at fO;have hle:i0*size+size<=cs.size:=by
    rw[fO];have:(i0+(l.length+1))*size=i0*size+size+l.length*size:=by rw[amu,amu];omega
    omega
   have wR:=y9 v0.cells cs (i0*size);obtain⟨r,e1,e2,e3,e4⟩:=ih (i0+1) parts (v0.cells.zipIdx.foldl (fun cs (c,j)=>cs.setIfInBounds (i0*size+j) c) cs) Sy
    (fun j p hj=>by have:=lW (j+1) p (by simpa using hj);omega) (fun v hv=>bN v (alR _ hv))
    (by rw[<-amg,wR,gP,amg,fO];congr 1;omega)
   have hlen:(v0.cells.zipIdx.foldl (fun cs (c,j)=>cs.setIfInBounds (i0*size+j) c) cs).size=cs.size:=by
    rw[<-amg,wR,gP,amg]
   have hmul:(i0+1)*size=i0*size+size:=by rw[amu];omega
   refine⟨r,?_,by rw[e2,hlen],fun t ht=>?_,fun i v j u hi hj=>?_⟩
   ·simp only[Instr.fill,rH];rw[if_neg (by simp;omega)];exact e1
   ·rw[e3 t (by omega),wR,cN _ _ _ _ (by simp;omega),if_neg (by omega)]
   ·cases i with
    |zero=>
     simp only[amp,als] at hi;subst hi;have rB:j<size:=by rw[<-rH,<-amg];exact(alu.1 hj).1
     rw[amy,e3 _ (by omega),wR,cN _ _ _ _ (by simp;omega),if_pos ⟨by omega,by rw[amg,rH];omega⟩];rw[Nat.add_sub_cancel_left];exact hj
    |succ i=>
     have:=e4 i v j u (by simpa using hi) hj;rw[show i0+(i+1)=i0+1+i from by omega];exact this
theorem Hg:∀(l:List (Nat×Operand)) (k:Nat),rI k l=true->∀(j:Nat) (p:Nat×Operand),l[j]?=some p->p.1=k+j:=by
 intro l
 induction l with
 |nil=>intro k _ j p h;simp at h
 |cons q l ih=>
  intro k h j p hj;obtain⟨i,x⟩:=q;simp only[rI,alB,beq_iff_eq] at h
  cases j with
  |zero=>simp only[amp,als] at hj;subst hj;simpa using h.1
  |succ j=>have:=ih (k+1) h.2 j p (by simpa using hj);omega
theorem oz {size:Nat}:∀(l:List AV),qJ size l->∀x:AV,x∈l->x.cells.length=size/\x.lT=true:=by
 intro l
 induction l with
 |nil=>intro _ x h;cases h
 |cons y l ih=>
  intro h x hx;rcases al6.1 hx with rfl|h1
  ·exact h.1
  ·exact ih h.2 x h1
theorem Jz {T:TypeId} {cs:Array Value} (h:Rel Γ s a w η) (k:Nat) (hX:∀b o,Γ.No b o->b<Γ.w0.heap.size):bk Γ (w.alloc (.cells cs T)) η s.hp w.heap.size k:=by
 refine⟨.inr (.inl h.keeps.size),by simp,fun hx=>by have:=hX _ _ hx;have:=h.keeps.size;omega,(aU _ _).2 fun r v hv hb=>?_⟩;have eH:r<s.hp.length:=by rw[<-h.heap.len];exact(alu.1 hv).1
 refine⟨s.hp[r],by simp[eH],?_⟩;have ho:s.hp[r]?=some s.hp[r]:=by simp[eH]
 cases hk:s.hp[r] with
 |dead=>exact True.intro
 |_=>
  rw[hk] at ho;have:=h.heap.block ho True.intro hv hb;omega
theorem nQ (ax:Γ.Ok) {tab:Nat->Option TD} (aj:aZ Γ.P tab) {o:Oper} {T n e:Nat} {parts:Array (Nat×Operand)} (ho:o.op=.buildSlice T n parts) {d d':TD} (hd:tab T=some d) (hk:d.kind=.jS e) (dv:tab e=some d')
  (hn:n=parts.toList.length) (lW:rI 0 parts.toList=true) (SW:n<=16777216) (SX:n*d'.size<=16777216) (hl:qJ d'.size (parts.toList.map fun p=>(s.ev p.2).bB s.hp)) (hr:Rel Γ s a w η):
  ∃r:Array Value,(execOp a.eval o).run Γ.P w=.ok (.value (.slice (some ⟨w.heap.size,0,none⟩) n n)) (w.alloc (.cells r e))/\r.size=n*d'.size/\
   (parts.toList.map fun p=>(s.ev p.2).bB s.hp).length=n/\
   ∀(i:Nat) (el:AV) (j:Nat) (x:AV),(parts.toList.map fun p=>(s.ev p.2).bB s.hp)[i]?=some el->el.cells[j]?=some x->∃u,r[i*d'.size+j]?=some u/\bm w (bk Γ w η s.hp) [] [] x u/\u.oneCell'=true:=by
 have gO:=aj e d' dv;have hu:Γ.P.underlying T=some (.slice e):=by
  obtain⟨u,h2,h3⟩:=(aj T d hd).kC;rw[hk] at h3;rw[h2];exact congrArg some h3
 have Sz:=oz _ hl;have cX:∀(j:Nat) (x:AV) (v:Value),(parts.toList.map fun p=>(s.ev p.2).bB s.hp)[j]?=some x->(parts.toList.map fun p=>a.eval p.2)[j]?=some v->bm w (bk Γ w η s.hp) [] [] x v:=by
  intro j x v h1 h2;simp only[alM] at h1 h2
  cases hj:parts.toList[j]? with
  |none=>rw[hj] at h1;cases h1
  |some p=>
   rw[hj] at h1 h2;obtain rfl:=alw h1;obtain rfl:=alw h2;exact ff hr.heap hr.bM (hr.ev p.2)
 have lX:(parts.toList.map fun p=>(s.ev p.2).bB s.hp).length=n:=by simp[hn]
 have Ni:(parts.toList.map fun p=>a.eval p.2).length=n:=by simp[hn]
 have Dx:∀(j:Nat) (x:AV) (v:Value),(parts.toList.map fun p=>(s.ev p.2).bB s.hp)[j]?=some x->(parts.toList.map fun p=>a.eval p.2)[j]?=some v->qK w (bk Γ w η s.hp) [] [] x.cells v.cells.toList:=
  fun j x v h1 h2=>(cX j x v h1 h2).Dw (Sz x (alF h1)).2
 have aex:∀v:Value,v∈(parts.toList.map fun p=>a.eval p.2)->v.cells.size=d'.size:=by
  intro v hv;obtain⟨j,hj⟩:=amC hv;have ak:j<n:=by rw[<-Ni];exact(alu.1 hj).1
  have hx:(parts.toList.map fun p=>(s.ev p.2).bB s.hp)[j]?=some (parts.toList.map fun p=>(s.ev p.2).bB s.hp)[j]:=by rw[aly (by rw[lX];exact ak)]
  have:=(Dx j _ v hx hj).1;rw[amg] at this;rw[this];exact(Sz _ (alF hx)).1
 have fin:∀cs0:Array Value,cs0.size=n*d'.size->∃r,Instr.fill (fun i=>some (i*d'.size,d'.size)) cs0 (parts.toList.map fun p=>(p.1,a.eval p.2))=some r/\r.size=n*d'.size/\
   ∀(i:Nat) (el:AV) (j:Nat) (x:AV),(parts.toList.map fun p=>(s.ev p.2).bB s.hp)[i]?=some el->el.cells[j]?=some x->∃u,r[i*d'.size+j]?=some u/\bm w (bk Γ w η s.hp) [] [] x u/\u.oneCell'=true:=by
  intro cs0 fO;obtain⟨r,e1,e2,e3,e4⟩:=wT (parts.toList.map fun p=>a.eval p.2) 0 (parts.toList.map fun p=>(p.1,a.eval p.2)) cs0 (by simp[Function.comp_def]) (fun j p hj=>by
   rw[alM] at hj
   cases rB:parts.toList[j]? with
   |none=>rw[rB] at hj;cases hj
   |some q=>
    rw[rB] at hj;obtain rfl:=alw hj
    exact Hg _ _ lW j q rB) aex (by rw[Ni,al2];exact fO)
  refine⟨r,e1,by rw[e2];exact fO,?_⟩;intro i el j x hi hj;have ak:i<n:=by rw[<-lX];exact(alu.1 hi).1
  have hv:(parts.toList.map fun p=>a.eval p.2)[i]?=some (parts.toList.map fun p=>a.eval p.2)[i]:=by rw[aly (by rw[Ni];exact ak)]
  have h1:=Dx i el _ hi hv;have rB:j<(parts.toList.map fun p=>a.eval p.2)[i].cells.toList.length:=by rw[h1.1];exact(alu.1 hj).1
  have hu:(parts.toList.map fun p=>a.eval p.2)[i].cells.toList[j]?=some ((parts.toList.map fun p=>a.eval p.2)[i].cells.toList[j]):=by rw[aly rB]
  have h2:=e4 i _ j _ hv hu;rw[al2] at h2;exact⟨_,by simpa using h2,h1.2 j x _ hj hu⟩
 have hb:¬n*d'.size>2 ^ 24:=by omega
 by_cases hz:n*d'.size=0
 ·obtain⟨r,e1,e2,e3⟩:=fin ((Array.range (n*d'.size)).map ((#[]:Array Value)[· % (#[]:Array Value).size]!)) (by simp);refine⟨r,?_,e2,lX,e3⟩;simp only[execOp,ho,Instr.buildSlice,Sem.run_bind,run_underlying hu,Result.andThen_ok,gO.run_sizeOf,Sem.run_ite,if_neg hb,Sem.run_pure,if_pos hz,anr,e1,newRow,run_newObj];rfl
 ·obtain⟨r,e1,e2,e3⟩:=fin ((Array.range (n*d'.size)).map (d'.zero.cells[· % d'.zero.cells.size]!)) (by simp);refine⟨r,?_,e2,lX,e3⟩;simp only[execOp,ho,Instr.buildSlice,Sem.run_bind,run_underlying hu,Result.andThen_ok,gO.run_sizeOf,Sem.run_ite,if_neg hb,Sem.run_pure,if_neg hz,gO.gM,anr,e1,newRow,run_newObj];rfl
theorem vI (ax:Γ.Ok) {tab:Nat->Option TD} (aj:aZ Γ.P tab) {o:Oper} {T n e:Nat} {parts:Array (Nat×Operand)} (ho:o.op=.buildSlice T n parts) {d d':TD} (hd:tab T=some d) (hk:d.kind=.jS e) (dv:tab e=some d')
  (hn:n=parts.toList.length) (lW:rI 0 parts.toList=true) (SW:n<=16777216) (SX:n*d'.size<=16777216) (hl:qJ d'.size (parts.toList.map fun p=>(s.ev p.2).bB s.hp)):fb Γ o s (.clip (parts.toList.map fun p=>(s.ev p.2).bB s.hp)):=by
 intro a w η hr;obtain⟨r,e1,_,lX,cq⟩:=nQ ax aj ho hd hk dv hn lW SW SX hl hr;have Sz:=oz _ hl;have he:=ov (Γ:=Γ) (η:=η) (hp:=s.hp) (bI.alloc w (.cells r e)) (fun _ _=>dZ);refine⟨_,_,e1,bI.alloc w (.cells r e),?_⟩;have hm:(parts.toList.map fun p=>(s.ev p.2).bB s.hp).length<=maxLen:=by
  rw[lX];simp only[maxLen];omega
 have:=bm.clip (w:=w.alloc (.cells r e)) (F:=bk Γ (w.alloc (.cells r e)) η s.hp) (η:=η) (hp:=s.hp) d'.size (parts.toList.map fun p=>(s.ev p.2).bB s.hp) w.heap.size 0 (fun i j=>(r[i*d'.size+j]?).getD undef) hm
  (fun i el hi=>(Sz el (alF hi)).1) (fun i el j x hi hj=>by
   obtain⟨u,h1,_,h3⟩:=cq i el j x hi hj;rw[h1];refine⟨?_,Jz hr _ (fun _ _=>ax.no),h3⟩;rw[al2,World.cell?_alloc_new];exact h1) (fun i el j x hi hj=>by
   obtain⟨u,h1,h2,_⟩:=cq i el j x hi hj
   rw[h1];exact h2.ext he.lN.ext)
 rw[lX] at this;exact this
end
section
variable {G:Type} {Γ:Env G} {s:AS G} {a:Act} {w w':World} {η:List Value} {hp:List af} {F:Nat->Nat->Prop} {P:Program}
theorem gQ (h:Rel Γ s a w η) {d n:Int} {x:Operand} (hb:bL s.ev d (some x)=some n):∃k,a.eval x=.int k n:=by
 unfold bL at hb;simp only at hb;split at hb
 ·rename_i k m he;obtain rfl:=alw hb;have hx:=h.ev x;rw[he] at hx;exact⟨k,hx.ay⟩
 ·cases hb
theorem run_sliceBound (w:World) {v:Value} {k:IntKind} {n:Int} (hv:v=.int k n) {y:Nat} (h0:0<=n) (h1:n<=y) (code:BoundsCode):(Instr.sliceBound v y code).run P w=.ok n.toNat w:=by
 subst hv;have:0<=n/\n<=(y:Int):=⟨h0,h1⟩;simp[Instr.sliceBound,asIntOf,this]
theorem bm.SY {els:List AV} {b o c size:Nat} {x:Value} (bN:∀y:AV,y∈els->y.cells.length=size) (hx:bm w F η hp (.sl els) x) (hv:x=.slice (some ⟨b,o,none⟩) els.length c) {l h m:Nat} (hlh:l<=h) (hh:h<=els.length) (hm:h<=m) (hmc:m<=c):
  bm w F η hp (.sl ((els.take h).drop l)) (.slice (some ⟨b,if m=l then o else o+l*size,none⟩) (h-l) (m-l))/\(h=m->bm w F η hp (.clip ((els.take h).drop l)) (.slice (some ⟨b,if m=l then o else o+l*size,none⟩) (h-l) (h-l))):=by
 have hlen:((els.take h).drop l).length=h-l:=by simp;omega
 cases hx with
 |lL a=>
  simp only[al4,Value.slice.injEq,true_and] at hv;obtain⟨rfl,rfl⟩:=hv;obtain rfl:m=0:=by omega
  obtain rfl:h=0:=by omega
  obtain rfl:l=0:=by omega
  exact⟨.lL _,fun _=>.jv _⟩
 |sl uE _ b' o' c' f hc Sy hl aE cX=>
  simp only[Value.slice.injEq,als,Addr.mk.injEq,and_true,true_and] at hv;obtain⟨⟨rfl,rfl⟩,rfl⟩:=hv;have cq:∀(i:Nat) (e:AV),((els.take h).drop l)[i]?=some e->els[l+i]?=some e/\m≠l/\uE=size:=by
   intro i e hi;have ak:=(alu.1 hi).1;rw[hlen] at ak;rw[amx,alO,if_pos (by omega)] at hi;exact⟨hi,by omega,by rw[<-hl _ _ hi];exact bN e (alF hi)⟩
  have Dz:∀(i j:Nat),m≠l->uE=size->(if m=l then o' else o'+l*size)+i*size+j=o'+(l+i)*uE+j:=by
   intro i j h1 h2;rw[if_neg h1,h2,amu];omega
  have key:∀c2,h-l<=c2->c2<=maxLen->bm w F η hp (.sl ((els.take h).drop l)) (.slice (some ⟨b',if m=l then o' else o'+l*size,none⟩) (h-l) c2)/\(c2=h-l->bm w F η hp (.clip ((els.take h).drop l)) (.slice (some ⟨b',if m=l then o' else o'+l*size,none⟩) (h-l) (h-l))):=by
   intro c2 h1 h2;have p1:∀(i:Nat) (e:AV),((els.take h).drop l)[i]?=some e->e.cells.length=size:=fun i e hi=>bN e (alF (cq i e hi).1);have p2:∀(i:Nat) (e:AV) (j:Nat) (x:AV),((els.take h).drop l)[i]?=some e->e.cells[j]?=some x->
     w.cell? ⟨b',(if m=l then o' else o'+l*size)+i*size+j,none⟩=some (f (l+i) j)/\F b' ((if m=l then o' else o'+l*size)+i*size+j)/\(f (l+i) j).oneCell'=true:=by
    intro i e j x hi hj;obtain⟨g1,g2,g3⟩:=cq i e hi;rw[Dz i j g2 g3];exact aE _ _ _ _ g1 hj
   have p3:∀(i:Nat) (e:AV) (j:Nat) (x:AV),((els.take h).drop l)[i]?=some e->e.cells[j]?=some x->bm w F [] [] x (f (l+i) j):=
    fun i e j x hi hj=>cX _ _ _ _ (cq i e hi).1 hj
   have q1:=bm.sl (η:=η) (hp:=hp) size ((els.take h).drop l) b' (if m=l then o' else o'+l*size) c2 (fun i j=>f (l+i) j) (by rw[hlen];exact h1) h2 p1 p2 p3;rw[hlen] at q1;refine⟨q1,fun _=>?_⟩;have q2:=bm.clip (η:=η) (hp:=hp) size ((els.take h).drop l) b' (if m=l then o' else o'+l*size) (fun i j=>f (l+i) j) (by rw[hlen];omega) p1 p2 p3;rw[hlen] at q2;exact q2
  refine⟨(key (m-l) (by omega) (by omega)).1,fun e=>?_⟩;exact(key (m-l) (by omega) (by omega)).2 (by omega)
theorem wU {tab:Nat->Option TD} (aj:aZ Γ.P tab) {o:Oper} {T e:Nat} {x:Operand} {lo hi mx:Option Operand} (ho:o.op=.slice T x lo hi mx) {d d':TD} (hd:tab T=some d) (hk:d.kind=.jS e) (dv:tab e=some d') {els:List AV} (cS:(s.ev x).gN s.hp=some els)
  {l h:Int} (hl:bL s.ev 0 lo=some l) (hh:bL s.ev els.length hi=some h) (h0:0<=l) (h1:l<=h) (h2:h<=els.length) (bN:∀y:AV,y∈els->y.cells.length=d'.size) {r:AV}
  (hr:(mx=none/\r=.sl ((els.take h.toNat).drop l.toNat))\/(∃y m,mx=some y/\hi.isSome/\bL s.ev 0 (some y)=some m/\h=m/\r=.clip ((els.take h.toNat).drop l.toNat))):fb Γ o s r:=by
 refine aX fun a w η hrel=>?_;have hx:=jT hrel.heap hrel.bM (hrel.ev x) cS;have hu:Γ.P.underlying T=some (.slice e):=by
  obtain⟨u,q2,q3⟩:=(aj T d hd).kC;rw[hk] at q3;rw[q2];exact congrArg some q3
 have wV:lo=none/\l=0\/∃y k,lo=some y/\a.eval y=.int k l:=by
  cases lo with
  |none=>simp[bL] at hl;exact .inl ⟨rfl,hl.symm⟩
  |some y=>obtain⟨k,hk⟩:=gQ hrel hl;exact .inr ⟨y,k,rfl,hk⟩
 have hhv:hi=none/\h=els.length\/∃y k,hi=some y/\a.eval y=.int k h:=by
  cases hi with
  |none=>simp[bL] at hh;exact .inl ⟨rfl,hh.symm⟩
  |some y=>obtain⟨k,hk⟩:=gQ hrel hh;exact .inr ⟨y,k,rfl,hk⟩
 have tG:∃ad c,a.eval x=.slice ad els.length c/\els.length<=c:=by
  generalize a.eval x=v at hx
  cases hx with
  |lL a=>exact⟨a,0,rfl,alA _⟩
  |sl size els b o c f hc hm hl aE hr=>exact⟨_,c,rfl,hc⟩
 obtain⟨ad,c,tC,X7⟩:=tG;have lY:=(aj e d' dv).run_sizeOf w;have hb:∃m:Nat,(Instr.sliceBounds true els.length c (lo.map a.eval) (hi.map a.eval) (mx.map a.eval)).run Γ.P w=.ok (l.toNat,h.toNat,m) w/\h.toNat<=m/\m<=c/\(mx≠none->m=h.toNat):=by
  rcases hr with⟨rfl,_⟩|⟨y,m,rfl,his,hm,rfl,_⟩
  ·refine⟨c,?_,by omega,alA _,fun h=>(h rfl).elim⟩;rcases hhv with⟨rfl,rfl⟩|⟨y,k,rfl,hv⟩
   ·rcases wV with⟨rfl,rfl⟩|⟨y0,k0,rfl,rH⟩
    ·simp[Instr.sliceBounds]
    ·have MR:=run_sliceBound (P:=Γ.P) w rH (y:=els.length) h0 (by omega) .sliceB;simp[Instr.sliceBounds,MR]
   ·have hs:=run_sliceBound (P:=Γ.P) w hv (y:=c) (by omega) (by omega) .sliceAcap;rcases wV with⟨rfl,rfl⟩|⟨y0,k0,rfl,rH⟩
    ·simp[Instr.sliceBounds,hs]
    ·have MR:=run_sliceBound (P:=Γ.P) w rH (y:=h.toNat) h0 (by omega) .sliceB;simp[Instr.sliceBounds,hs,MR]
  ·obtain⟨k2,hv2⟩:=gQ hrel hm;refine⟨h.toNat,?_,alA _,by omega,fun _=>rfl⟩;rcases hhv with⟨rfl,_⟩|⟨y',k,rfl,hv⟩
   ·simp at his
   ·have Hh:=run_sliceBound (P:=Γ.P) w hv2 (y:=c) (by omega) (by omega) .slice3Acap;have hs:=run_sliceBound (P:=Γ.P) w hv (y:=h.toNat) (by omega) (by omega) .slice3B;rcases wV with⟨rfl,rfl⟩|⟨y0,k0,rfl,rH⟩
    ·simp[Instr.sliceBounds,hs,Hh]
    ·have MR:=run_sliceBound (P:=Γ.P) w rH (y:=h.toNat) h0 (by omega) .slice3C;simp[Instr.sliceBounds,hs,Hh,MR]
 obtain⟨m,fz,hm1,Bb,hm3⟩:=hb;have hex:(execOp a.eval o).run Γ.P w=.ok (.value (.slice (if m=l.toNat then ad else ad.map (·.add (l.toNat*d'.size))) (h.toNat-l.toNat) (m-l.toNat))) w:=by
  simp only[execOp,ho,Instr.sliceAt,Sem.run_bind,run_underlying hu,Result.andThen_ok,Instr.slice,tC,fz,lY,Sem.run_pure]
 refine⟨_,hex,?_⟩;have Nj:(els=[]/\c=0)\/∃b o,ad=some ⟨b,o,none⟩:=by
  have kD:=hx;rw[tC] at kD;generalize hv:Value.slice ad els.length c=v at kD
  cases kD with
  |lL a=>simp at hv;exact .inl ⟨rfl,hv.2⟩
  |sl size els b o c f hc hm hl aE hr=>simp at hv;exact .inr ⟨b,o,hv.1⟩
 rw[tC] at hx;rcases Nj with⟨rfl,rfl⟩|⟨b,o',rfl⟩
 ·have e1:l.toNat=0:=by simp at h2;omega
  have e2:h.toNat=0:=by simp at h2;omega
  have e3:m=0:=by omega
  rw[e1,e2,e3];simp only[if_true,am9];rcases hr with⟨_,rfl⟩|⟨_,_,_,_,_,_,rfl⟩
  ·simpa using bm.lL ad
  ·simpa using bm.jv ad
 ·have tC:=tC;obtain⟨q1,q2⟩:=hx.SY bN rfl (l:=l.toNat) (h:=h.toNat) (m:=m) (by omega) (by omega) hm1 Bb;have Bk:(if m=l.toNat then some (⟨b,o',none⟩:Addr) else(some (⟨b,o',none⟩:Addr)).map (·.add (l.toNat*d'.size)))=some ⟨b,if m=l.toNat then o' else o'+l.toNat*d'.size,none⟩:=by
   split<;>simp[Addr.add_lit]
  rw[Bk];rcases hr with⟨_,rfl⟩|⟨y,m',hmx,_,_,_,rfl⟩
  ·exact q1
  ·have:=hm3 (by rw[hmx];simp);subst this;exact q2 rfl
theorem Nk (a b:ByteArray):(a==b)=decide (a=b):=by
 obtain⟨a⟩:=a;obtain⟨b⟩:=b;show (a==b)=_
 by_cases h:a=b
 ·subst h;simp
 ·have:¬(ByteArray.mk a=ByteArray.mk b):=fun e=>h (by injection e);rw[decide_eq_false this];simpa using h
structure Lg {κ:Type} [DecidableEq κ] (td:TypeDesc) (kv:κ->Value) (me:List (κ×Value)->ME):Prop where
 me:∀l,K9 (me l)=l.map fun p=>(kv p.1,p.2)
 same:∀a b,Instr.sameNow td (kv a) (kv b)=some (decide (a=b))
 check:∀(P:Program) (kt:TypeId) (e:Bool) (v:Value) (w:World),P.underlying kt=some td->(Instr.checkKey e 10000 kt v).run P w=.ok () w
 bits:∀a,Instr.sameBits 10000 (kv a) (kv a)=true
theorem Bl {κ:Type} [DecidableEq κ] {td:TypeDesc} {kv:κ->Value} {me:List (κ×Value)->ME} (K:Lg td kv me) {a:κ}:∀(es:List MapEntry) (l:List (κ×Value)) (i:Nat),(es.map fun e=>(e.key,e.val))=l.map (fun p=>(kv p.1,p.2))->
  (∃r,Instr.findNow td (kv a) es i=some r/\r.map (·.2)=aM l a)/\
   (aM l a=none->Instr.findNow td (kv a) es i=some none):=by
 intro es
 induction es with
 |nil=>
  intro l i h
  cases l with
  |nil=>exact⟨⟨none,rfl,rfl⟩,fun _=>rfl⟩
  |cons p l=>simp at h
 |cons e es ih=>
  intro l i h
  cases l with
  |nil=>simp at h
  |cons p l=>
   obtain⟨key,v⟩:=p;simp only[al3,List.cons.injEq,alx] at h;obtain⟨⟨h1,h2⟩,h3⟩:=h;obtain⟨⟨r,g1,g2⟩,g3⟩:=ih l (i+1) h3;simp only[Instr.findNow,h1,K.same,aM]
   by_cases X8:a=key
   ·subst X8;simp[h2]
   ·simp only[if_neg X8,decide_eq_false X8];exact⟨⟨r,g1,g2⟩,g3⟩
theorem rL {kt:TypeId} {k:IntKind} (hk:P.underlying kt=some (.int k)) (e:Bool) (n:Nat) (v:Value) (w:World):(Instr.checkKey e (n+1) kt v).run P w=.ok () w:=by
 unfold Instr.checkKey;simp only[Sem.run_bind,run_underlying hk,Result.andThen]
 cases v<;>rfl
theorem aac (k:IntKind):Lg (.int k) (fun a:Int=>.int .i64 a) .i:=
 ⟨fun _=>rfl,fun a b=>by simp[Instr.sameNow];rfl,fun P kt e v w hk=>rL hk e 9999 v w,fun a=>by simp[Instr.sameBits]⟩
theorem aad:Lg .string (fun a:ByteArray=>.string a) .s:=
 ⟨fun _=>rfl,fun a b=>by simp only[Instr.sameNow,Nk],fun P kt e v w hk=>by
  unfold Instr.checkKey;simp only[Sem.run_bind,run_underlying hk,Result.andThen]
  cases v<;>rfl,fun a=>by simp[Instr.sameBits,Nk]⟩
theorem uF {κ:Type} [DecidableEq κ] {td:TypeDesc} {kv:κ->Value} {me:List (κ×Value)->ME} (K:Lg td kv me) {tab:Nat->Option TD} (aj:aZ Γ.P tab) {o:Oper} {T kt et:Nat} {m key:Operand} {ok:Bool} (ho:o.op=.lookup T m key ok) {d dk de:TD} (hd:tab T=some d) (hk:d.kind=.oh kt et) (nR:tab kt=some dk) (vX:∀u,dk.kind.fits Γ.P u->u=td) (DA:tab et=some de)
  {es:List (κ×Value)} (hm:(s.ev m).zK s.hp=some (me es)) {a:κ} (aeA:s.ev key=.ae (kv a)):fb Γ o s (iL es de.zero a ok):=by
 refine aX fun act w η hr=>?_;have hu:Γ.P.underlying T=some (.map kt et):=by
  obtain⟨u,q2,q3⟩:=(aj T d hd).kC;rw[hk] at q3;rw[q2];exact congrArg some q3
 have SZ:Γ.P.underlying kt=some td:=by
  obtain⟨u,q2,q3⟩:=(aj kt dk nR).kC;rw[q2];exact congrArg some (vX u q3)
 have JA:=hr.ev key;rw[aeA] at JA;have X9:=JA.ay;have S2:=hr.ev m;have X4:∃b en c,act.eval m=.map (some b)/\w.heap[b]?=some (.map en c)/\lM en=K9 (me es):=by
  generalize s.ev m=x at hm S2
  cases x with
  |eG l=>
   simp only[AV.zK,als] at hm;subst hm;generalize act.eval m=v at S2
   cases S2 with
   |eG b en c h1 h2 _ hl=>exact⟨b,en,c,rfl,h1,hl⟩
  |mp r=>
   simp only[AV.zK] at hm;split at hm
   ·rename_i es' S4;obtain rfl:=alw hm;generalize act.eval m=v at S2
    cases S2 with
    |mp _ b dR=>
     obtain⟨b',en,c,e1,e2,e3⟩:=hr.heap.obj r _ _ S4 dR;simp only[Value.map.injEq,als] at e1;subst e1;exact⟨b,en,c,rfl,e2,e3⟩
   ·cases hm
  |_=>simp[AV.zK] at hm
 obtain⟨b,en,c,MS,jw,wW⟩:=X4;obtain⟨⟨r,g1,g2⟩,g3⟩:=Bl K (a:=a) en.toList es 0 (wW.trans (K.me es));have cq:(getObj b).run Γ.P w=.ok (.map en c) w:=by simp[getObj,Sem.run,jw]
 have oA:(Instr.findKey kt (kv a) en.toList).run Γ.P w=.ok r w:=by
  simp only[Instr.findKey,Sem.run_bind,run_underlying SZ,Result.andThen_ok,g1,Sem.run_pure]
 have hz:=(aj et de DA).gM w
 cases r with
 |none=>
  have hg:aM es a=none:=g2.symm
  cases ok with
  |true=>
   refine⟨.tuple #[de.zero,.bool false],?_,?_⟩
   ·simp only[execOp,ho,MS,X9,Instr.lookup,Sem.run_bind,run_underlying hu,Result.andThen_ok,cq,Sem.run_pure,K.check _ _ _ _ _ SZ,oA,hz,if_true]
   ·simp only[iL,hg,if_true,Option.getD_none,Option.isSome_none];exact .aL _ _ rfl fun j x v hx hv=>by
     match j with
     |0=>simp at hx hv;subst hx;subst hv;exact .ae _
     |1=>simp at hx hv;subst hx;subst hv;exact .ae _
     |j+2=>simp at hx
  |false=>
   refine⟨de.zero,?_,?_⟩
   ·simp only[execOp,ho,MS,X9,Instr.lookup,Sem.run_bind,run_underlying hu,Result.andThen_ok,cq,Sem.run_pure,K.check _ _ _ _ _ SZ,oA,hz,alQ,if_false]
   ·simp only[iL,hg,alQ,if_false,Option.getD_none];exact .ae _
 |some q=>
  obtain⟨i,v⟩:=q;have hg:aM es a=some v:=g2.symm
  cases ok with
  |true=>
   refine⟨.tuple #[v,.bool true],?_,?_⟩
   ·simp only[execOp,ho,MS,X9,Instr.lookup,Sem.run_bind,run_underlying hu,Result.andThen_ok,cq,Sem.run_pure,K.check _ _ _ _ _ SZ,oA,if_true]
   ·simp only[iL,hg,if_true,amt,Option.isSome_some];exact .aL _ _ rfl fun j x v hx hv=>by
     match j with
     |0=>simp at hx hv;subst hx;subst hv;exact .ae _
     |1=>simp at hx hv;subst hx;subst hv;exact .ae _
     |j+2=>simp at hx
  |false=>
   refine⟨v,?_,?_⟩
   ·simp only[execOp,ho,MS,X9,Instr.lookup,Sem.run_bind,run_underlying hu,Result.andThen_ok,cq,Sem.run_pure,K.check _ _ _ _ _ SZ,oA,alQ,if_false]
   ·simp only[iL,hg,alQ,if_false,amt];exact .ae _
end
section
variable {G:Type} {Γ:Env G} {s:AS G} {a:Act} {w w':World} {η:List Value} {hp:List af} {F:Nat->Nat->Prop} {P:Program}
theorem za {tab:Nat->Option TD} (aj:aZ Γ.P tab) {o:Oper} {T:Nat} {x:Operand} {lo hi:Option Operand} (ho:o.op=.slice T x lo hi none) {d:TD} (hd:tab T=some d) (hk:d.kind=.str) {b:ByteArray} (hx:s.ev x=.ae (.string b))
  {l h:Int} (hl:bL s.ev 0 lo=some l) (hh:bL s.ev b.size hi=some h) (h0:0<=l) (h1:l<=h) (h2:h<=b.size):fb Γ o s (.ae (.string (b.extract l.toNat h.toNat))):=by
 refine aX fun a w η hrel=>⟨_,?_,.ae _⟩;have dO:=hrel.ev x;rw[hx] at dO;have tC:=dO.ay;have hu:Γ.P.underlying T=some .string:=by
  obtain⟨u,q2,q3⟩:=(aj T d hd).kC;rw[hk] at q3;rw[q2];exact congrArg some q3
 have wV:lo=none/\l=0\/∃y k,lo=some y/\a.eval y=.int k l:=by
  cases lo with
  |none=>simp[bL] at hl;exact .inl ⟨rfl,hl.symm⟩
  |some y=>obtain⟨k,hk⟩:=gQ hrel hl;exact .inr ⟨y,k,rfl,hk⟩
 have hhv:hi=none/\h=b.size\/∃y k,hi=some y/\a.eval y=.int k h:=by
  cases hi with
  |none=>simp[bL] at hh;exact .inl ⟨rfl,hh.symm⟩
  |some y=>obtain⟨k,hk⟩:=gQ hrel hh;exact .inr ⟨y,k,rfl,hk⟩
 rcases hhv with⟨rfl,rfl⟩|⟨y,k,rfl,hv⟩
 ·rcases wV with⟨rfl,rfl⟩|⟨y0,k0,rfl,rH⟩
  ·simp[execOp,ho,Instr.sliceAt,run_underlying hu,Instr.slice,tC,Instr.sliceBounds]
  ·have MR:=run_sliceBound (P:=Γ.P) w rH (y:=b.size) h0 (by omega) .sliceB;simp[execOp,ho,Instr.sliceAt,run_underlying hu,Instr.slice,tC,Instr.sliceBounds,MR]
 ·have hs:=run_sliceBound (P:=Γ.P) w hv (y:=b.size) (by omega) (by omega) .sliceAlen;rcases wV with⟨rfl,rfl⟩|⟨y0,k0,rfl,rH⟩
  ·simp[execOp,ho,Instr.sliceAt,run_underlying hu,Instr.slice,tC,Instr.sliceBounds,hs]
  ·have MR:=run_sliceBound (P:=Γ.P) w rH (y:=h.toNat) h0 (by omega) .sliceB;simp[execOp,ho,Instr.sliceAt,run_underlying hu,Instr.slice,tC,Instr.sliceBounds,hs,MR]
theorem qL (ax:Γ.Ok) {tab:Nat->Option TD} (aj:aZ Γ.P tab) {o:Oper} {c:Prop} {r:AV} (h:bC tab s.hp s.ev o.op=some (c,r)) (hc:c):fb Γ o s r:=by
 generalize ho:o.op=op at h
 cases op with
 |move x=>
  simp only[bC,als,alx] at h;obtain⟨_,rfl⟩:=h;exact aX fun a w η hr=>⟨a.eval x,by simp[execOp,ho],hr.ev x⟩
 |assign x=>
  simp only[bC,als,alx] at h;obtain⟨_,rfl⟩:=h;exact aX fun a w η hr=>⟨a.eval x,by simp[execOp,ho],hr.ev x⟩
 |nilCheck x=>
  simp only[bC] at h;split at h
  ·rename_i r0 o0 hx;simp only[als,alx] at h;obtain⟨_,rfl⟩:=h;refine aX fun a w η hr=>?_;have hp:=hr.ev x;rw[hx] at hp;obtain⟨b,hb⟩:∃b,a.eval x=.pointer (some b):=by
    generalize a.eval x=v at hp;cases hp;exact⟨_,rfl⟩
   exact⟨a.eval x,by simp[execOp,ho,hb],hp⟩
  ·rename_i r0 o0 hx;simp only[als,alx] at h;obtain⟨_,rfl⟩:=h;refine aX fun a w η hr=>?_;have hp:=hr.ev x;rw[hx] at hp;obtain⟨b,hb⟩:∃b,a.eval x=.pointer (some b):=by
    generalize a.eval x=v at hp;cases hp;exact⟨_,rfl⟩
   exact⟨a.eval x,by simp[execOp,ho,hb],hp⟩
  ·cases h
 |pick cc x y=>
  simp only[bC] at h;split at h
  ·rename_i t ht;simp only[als,alx] at h;obtain⟨_,rfl⟩:=h;exact Ld ho ht
  ·cases h
 |fieldAddr T x f=>
  simp only[bC] at h;split at h
  ·rename_i p hp;split at h
   ·cases h
   ·rename_i h0;split at h
    ·rename_i n off he;simp only[als,alx] at h;exact oy aj ho hp h0 (.inl ⟨n,off,he,h.2.symm⟩)
    ·rename_i e off he;simp only[als,alx] at h;exact oy aj ho hp h0 (.inr ⟨e,off,he,h.2.symm⟩)
    ·rename_i r0 m0 i0 z0 he;split at h
     ·rename_i hz;simp only[als,alx] at h;obtain⟨_,rfl⟩:=h;exact vD aj ho hp h0 he hz
     ·cases h
    ·cases h
  ·cases h
 |load T x=>
  simp only[bC] at h;split at h
  ·rename_i d hd;split at h
   ·rename_i n off he;split at h
    ·rename_i cs fO
     cases hl:eV d.kind.agg d.size cs off with
     |none=>rw[hl] at h;cases h
     |some v=>
      rw[hl] at h;simp only[al7,als,alx] at h;obtain⟨_,rfl⟩:=h;exact zL aj ho hd (.inl ⟨n,off,cs,he,fO,hl⟩)
    ·cases h
   ·rename_i e off he
    cases hl:wJ d.kind.agg d.size e off with
    |none=>rw[hl] at h;cases h
    |some v=>
     rw[hl] at h;simp only[al7,als,alx] at h;obtain⟨_,rfl⟩:=h;exact zL aj ho hd (.inr ⟨e,off,he,hl⟩)
   ·rename_i r0 m0 i0 z0 he;split at h
    ·rename_i e0 z' els qi;split at h
     ·rename_i qj;obtain⟨rfl,Dt⟩:=qj;simp only[als,alx] at h;obtain⟨rfl,rfl⟩:=h;have hg:els.getD i0 .top=els[i0]'hc.2.1:=by simp[List.getD,hc.2.1]
      rw[hg] at hc ⊢;exact Hb aj ho hd he qi hc.1 Dt hc.2.1 hc.2.2
     ·cases h
    ·cases h
   ·cases h
  ·cases h
 |indexAddr T x i=>
  simp only[bC] at h;split at h
  ·rename_i d hd;split at h
   ·rename_i e hk;split at h
    ·rename_i d' els k n dv cS hi;simp only[als,alx] at h;obtain⟨rfl,rfl⟩:=h;exact wO aj ho hd hk dv cS hi hc.1 hc.2.1 hc.2.2
    ·rename_i d' k n dv cS hi;split at h
     ·rename_i r m e' size k' hm;split at h
      ·rename_i qj;simp only[als,alx] at h;obtain⟨rfl,rfl⟩:=h;obtain⟨hx,els,qi,rfl⟩:=pH hm;obtain⟨rfl,rfl⟩:=qj;exact vG aj ho hd hk dv hx qi hc.2.2 hi hc.1 hc.2.1
      ·cases h
     ·cases h
    ·cases h
   ·rename_i m hk;split at h
    ·rename_i r k n hx hi;simp only[als,alx] at h;obtain⟨rfl,rfl⟩:=h;exact vE aj ho hd hk hx hi hc.1 hc.2
    ·rename_i e k n hx hi;simp only[als,alx] at h;obtain⟨rfl,rfl⟩:=h;exact vF aj ho hd hk hx hi hc.1 hc.2
    ·cases h
   ·cases h
  ·cases h
 |binOp op T x y T'=>
  simp only[bC] at h;split at h
  ·rename_i v hv;simp only[als,alx] at h;obtain⟨_,rfl⟩:=h;exact Nc aj ho hv
  ·exact Du aj ho h hc
 |convert S D x=>
  simp only[bC] at h;obtain⟨r',h1,h2⟩:=amv.1 h;simp only[alx] at h2;rw[<-h2.2];exact Nd aj ho h1
 |unOp op T x=>
  simp only[bC] at h;split at h
  ·rename_i b he;simp only[als,alx] at h;exact zM ho (.inl ⟨b,rfl,he,h.2.symm⟩)
  ·rename_i k n he;simp only[als,alx] at h;exact zM ho (.inr ⟨k,n,rfl,he,h.2.symm⟩)
  ·cases h
 |build T parts=>
  simp only[bC] at h;split at h
  ·rename_i d hd;split at h
   ·rename_i fs hk
    cases hl:cV fs (d.zero.cells.toList.map .ae) (parts.toList.map fun p=>(p.1,s.ev p.2)) with
    |none=>rw[hl] at h;cases h
    |some cs=>
     rw[hl] at h;simp only[al7,als,alx] at h;obtain⟨_,rfl⟩:=h;exact Hf aj ho hd hk hl
   ·rename_i n hk
    cases hl:cV (wK n) (d.zero.cells.toList.map .ae) (parts.toList.map fun p=>(p.1,s.ev p.2)) with
    |none=>rw[hl] at h;cases h
    |some cs=>
     rw[hl] at h;simp only[al7,als,alx] at h;obtain⟨_,rfl⟩:=h;exact Dy aj ho hd hk hl
   ·cases h
  ·cases h
 |buildSlice T n parts=>
  simp only[bC] at h;split at h
  ·rename_i d hd;split at h
   ·rename_i e hk;split at h
    ·rename_i d' dv;split at h
     ·rename_i lV;simp only[als,alx] at h;obtain⟨rfl,rfl⟩:=h;exact vI ax aj ho hd hk dv lV.1 lV.2.1 lV.2.2.1 lV.2.2.2 hc
     ·cases h
    ·cases h
   ·cases h
  ·cases h
 |field T x f=>
  simp only[bC] at h;split at h
  ·rename_i p cs hp hx;split at h
   ·rename_i lV
    cases hl:eV p.2.2 p.2.1 cs p.1 with
    |none=>rw[hl] at h;cases h
    |some v=>
     rw[hl] at h;simp only[al7,als,alx] at h;obtain⟨_,rfl⟩:=h;exact He aj ho hp hx hl fun hf=>by
      rcases lV with h1|h1
      ·rw[h1] at hf;cases hf
      ·exact h1
   ·cases h
  ·cases h
 |lookup T m k ok=>
  simp only[bC] at h;split at h
  ·rename_i d es a hd hm hk;split at h
   ·rename_i kt et lZ;split at h
    ·rename_i dk de nR DA;split at h
     ·rename_i ik vX;simp only[als,alx] at h;obtain⟨_,rfl⟩:=h;exact uF (aac ik) aj ho hd lZ nR (fun u hu=>by rw[vX] at hu;exact hu) DA hm hk
     ·cases h
    ·cases h
   ·cases h
  ·rename_i d es a hd hm hk;split at h
   ·rename_i kt et lZ;split at h
    ·rename_i dk de nR DA;split at h
     ·rename_i vX;simp only[als,alx] at h;obtain⟨_,rfl⟩:=h;exact uF aad aj ho hd lZ nR (fun u hu=>by rw[vX] at hu;exact hu) DA hm hk
     ·cases h
    ·cases h
   ·cases h
  ·cases h
 |index T x i=>
  simp only[bC] at h;split at h
  ·rename_i d b k n hd hx hi;split at h
   ·rename_i hk;simp only[als,alx] at h;obtain⟨rfl,rfl⟩:=h;refine aX fun a w η hr=>?_;have h1:=hr.ev x;rw[hx] at h1;have h1:=h1.ay;have h2:=hr.ev i;rw[hi] at h2;have h2:=h2.ay;have hu:Γ.P.underlying T=some .string:=by
     obtain⟨u,q2,q3⟩:=(aj T d hd).kC;rw[hk] at q3;rw[q2];exact congrArg some q3
    obtain⟨h3,h4⟩:=hc;have ak:n.toNat<b.size:=by omega
    refine⟨.int .u8 (Ds b n),?_,.ae _⟩;have e:b[n.toNat]?=some b[n.toNat]:=getElem?_pos b n.toNat ak;have e2:Ds b n=(b[n.toNat].toNat:Int):=by
     unfold Ds;have:b.data[n.toNat]?=some b[n.toNat]:=by
      rw[alX (by exact ak)];rfl
     rw[this];rfl
    simp only[execOp,ho,h1,h2,Instr.index,asIntOf,Sem.run_bind,Sem.run_pure,Result.andThen_ok,run_underlying hu,if_pos h3,e,e2]
   ·cases h
  ·cases h
 |extract x i=>
  simp only[bC] at h;split at h
  ·rename_i vs he
   cases hl:vs[i]? with
   |none=>rw[hl] at h;cases h
   |some v=>
    rw[hl] at h;simp only[al7,als,alx] at h;obtain⟨_,rfl⟩:=h;exact Bi ho he hl
  ·cases h
 |makeFunc fn first caps=>
  cases fn with
  |func f=>
   simp only[bC] at h;split at h
   ·rename_i h0;simp only[als,alx] at h;obtain⟨_,rfl⟩:=h;exact y8 ho h0
   ·split at h
    ·rename_i h0;simp only[als,alx] at h;obtain⟨_,rfl⟩:=h;exact vH ho h0
    ·cases h
  |_=>simp[bC] at h
 |slice T x lo hi mx=>
  simp only[bC] at h;split at h
  ·rename_i d hd;split at h
   ·rename_i b hk hx;split at h
    ·rename_i l h' hl hh;simp only[als,alx] at h;obtain⟨rfl,rfl⟩:=h;exact za aj ho hd hk hx hl hh hc.1 hc.2.1 hc.2.2
    ·cases h
   ·rename_i e hk;split at h
    ·rename_i els d' cS dv;split at h
     ·rename_i l h' hl hh hm;simp only[als,alx] at h;obtain⟨rfl,rfl⟩:=h;have hmx:mx=none:=by cases mx<;>simp_all
      exact wU aj ho hd hk dv cS hl hh hc.1 hc.2.1 hc.2.2.1 hc.2.2.2 (.inl ⟨hmx,rfl⟩)
     ·rename_i l h' m hl hh hm;split at h
      ·rename_i his;simp only[als,alx] at h;obtain⟨rfl,rfl⟩:=h
       cases mx with
       |none=>simp at hm
       |some y=>
        simp only[al7,als] at hm;exact wU aj ho hd hk dv cS hl hh hc.1 hc.2.1 hc.2.2.2.1 hc.2.2.2.2 (.inr ⟨y,m,rfl,his,hm,hc.2.2.1,rfl⟩)
      ·cases h
     ·cases h
    ·cases h
   ·cases h
  ·cases h
 |call cl=>
  simp only[bC] at h;split at h
  ·rename_i x hb hl;split at h
   ·rename_i d hd;have hT:∃T,cl.argTypes[0]?=some T/\tab T=some d:=by
     cases hT:cl.argTypes[0]? with
     |none=>rw[hT] at hd;cases hd
     |some T=>rw[hT] at hd;exact⟨T,rfl,hd⟩
    obtain⟨T,hT,hd⟩:=hT;split at h
    ·cases h
    ·rename_i e hk hns;split at h
     case h_2=>
      split at h
      ·rename_i r0 m0 e0 z0 k0 hm;simp only[als,alx] at h;obtain⟨rfl,rfl⟩:=h;obtain⟨hx,els,qi,rfl⟩:=pH hm;exact Lf aj ho hb hl hT hd hk hx qi hc
      ·cases h
     rename_i u hu;simp only[als,alx] at h;obtain⟨_,rfl⟩:=h;have h:(tI s.hp (s.ev x))=some u:=hu;have wV:∃els,(s.ev x).gN s.hp=some els/\u=.ae (.int .i64 els.length):=by
      unfold tI at h;split at h
      ·rename_i sb he;exact(hns sb he).elim
      ·cases cS:(s.ev x).gN s.hp with
       |none=>rw[cS] at h;cases h
       |some els=>
        rw[cS] at h;exact⟨els,rfl,(alw h).symm⟩
     obtain⟨els,h1,h2⟩:=wV;exact Dv aj ho hb hl hT hd (.inl ⟨e,els,hk,h1,h2⟩)
    ·rename_i b hk hx;simp only[als,alx] at h;exact Dv aj ho hb hl hT hd (.inr ⟨b,hk,hx,h.2.symm⟩)
    ·cases h
   ·cases h
  ·rename_i x y hb hl;split at h
   ·rename_i k m k' n hx hy;simp only[als,alx] at h;obtain⟨_,rfl⟩:=h;exact Ng ho hb hl hx hy
   ·cases h
  ·rename_i x y hb hl;split at h
   ·rename_i k m k' n hx hy;simp only[als,alx] at h;obtain⟨_,rfl⟩:=h;exact Nh ho hb hl hx hy
   ·cases h
  ·cases h
 |_=>simp[bC] at h
end
section
variable {G:Type} {Γ:Env G} {s:AS G} {a:Act} {w w':World} {η:List Value} {hp:List af} {F:Nat->Nat->Prop} {P:Program}
def fA (Γ:Env G) (o:Oper) (s:AS G) (r:AV) (hp':List af):Prop:=
 ∀a w η,Rel Γ s a w η->∃v w' aN,((execOp a.eval o).run Γ.P w=.ok (.value v) w'\/(execOp a.eval o).run Γ.P w=.ok .skip w'/\v=undef)/\
  Rel Γ { s with hp:=hp' } a w' aN/\bm w' (bk Γ w' aN hp') aN hp' r v
def bd (d:TD) (n:Nat) (els aD:List AV):Prop:=
 (∀x:AV,x∈els->x.cells.length=d.size)/\(∀x:AV,x∈aD->x.cells.length=d.size)/\n<=maxLen/\n*d.bytes<=140737488355328
def bU {κ:Type} [DecidableEq κ]:List (κ×Value)->κ->Value->List (κ×Value)
 | [],a,v=>[(a,v)]
 |(k,u)::r,a,v=>if a=k then(k,v)::r else(k,u)::bU r a v
def vY:Operand->Operand->Bool
 | .tmp a,.tmp b=>Nat.beq a b
 |_,_=>false
theorem Hi {l c:Operand} (h:vY l c=true):l=c:=by
 unfold vY at h;split at h
 ·rw[alT h]
 ·cases h
def DB (d:TD):Option Value:=
 match Nat.beq d.size 1,d.zero.cells.toList with
 |true,[z]=>if z.oneCell'=true then some z else none
 |_,_=>none
theorem Nl {d:TD} {z:Value} (h:DB d=some z):d.size=1/\d.zero.cells=#[z]/\z.oneCell'=true:=by
 unfold DB at h;split at h
 ·rename_i z' h1 h2;split at h
  ·rename_i h3;obtain rfl:=alw h;exact⟨alT h1,by apply amT;simpa using h2,h3⟩
  ·cases h
 ·cases h
def dy (tab:Nat->Option TD) (hp:List af) (ρ:Operand->AV):Op->Option (Prop×AV×List af)
 | .alloc T=>(match tab T with
  |some d=>some (True,.ptr hp.length 0,hp++[.box (d.zero.cells.toList.map .ae)])
  |none=>none)
 | .box _ x=>if(ρ x).lT=true then some (True,.ptr hp.length 0,hp++[.box (ρ x).cells]) else none
 | .store T p x=>(match tab T,ρ p with
  |some d,.ptr r o=>(match hp[r]? with
   |some (.box cs)=>if(ρ x).lT=true then some ((ρ x).cells.length=d.size/\o+d.size<=cs.length,.top,hp.set r (.box (setCells cs o (ρ x).cells))) else none
   |_=>none)
  |some d,.fa r m i z=>(match hp[r]? with
   |some (.aQ e size els)=>if((ρ x).eI hp).lT=true/\size=z then(if d.size=z then some (((ρ x).eI hp).cells.length=d.size/\m=els.length/\i<els.length,.top,hp.set r (.aQ e size (els.set i ((ρ x).eI hp))))
     else some (((ρ x).eI hp).cells.length=d.size/\d.size<=z/\m=els.length/\i<els.length,.top,hp.set r (.aQ e size (els.set i (.agg (setCells (els.getD i .top).cells 0 ((ρ x).eI hp).cells)))))) else none
   |_=>none)
  |_,_=>none)
 | .makeSlice T l c=>(match tab T with
  |some d=>(match d.kind with
   | .jS e=>(match vY l c with
    |true=>(match tab e,ρ c with
     |some d',.ae (.int _ n)=>(match DB d' with
      |some z=>some (0<=n/\n<=9223372036854775807/\(d'.bytes:Int)*n<=281474976710656,.own hp.length (List.replicate n.toNat (AV.ae z)).length,hp++[.aQ e 1 (List.replicate n.toNat (.ae z))])
      |none=>none)
     |_,_=>none)
    |false=>(match tab e,ρ l,ρ c with
     |some d',.ae (.int _ 0),.ae (.int _ n)=>some (0<=n/\n<=9223372036854775807/\(d'.bytes:Int)*n<=281474976710656/\0<d'.size,.own hp.length 0,hp++[.row e d'.size []])
     |_,_,_=>none))
   |_=>none)
  |none=>none)
 | .makeMap T none=>(match tab T with
  |some d=>(match d.kind with
   | .oh kt _=>(match tab kt with
    |some dk=>(match dk.kind with
     | .str=>some (True,.mp hp.length,hp++[.aJ (.s [])])
     |_=>some (True,.mp hp.length,hp++[.aJ (.i [])]))
    |none=>none)
   |_=>none)
  |none=>none)
 | .mapUpdate T m k x=>(match tab T,ρ m,ρ k,ρ x with
  |some d,.mp r,.ae (.int .i64 a),.ae v=>(match d.kind,hp[r]? with
   | .oh kt _,some (.aJ (.i es))=>(match tab kt with
    |some dk=>(match dk.kind with
     | .int _=>some (True,.top,hp.set r (.aJ (.i (bU es a v))))
     |_=>none)
    |none=>none)
   |_,_=>none)
  |some d,.mp r,.ae (.string a),.ae v=>(match d.kind,hp[r]? with
   | .oh kt _,some (.aJ (.s es))=>(match tab kt with
    |some dk=>(match dk.kind with
     | .str=>some (True,.top,hp.set r (.aJ (.s (bU es a v))))
     |_=>none)
    |none=>none)
   |_,_=>none)
  |_,_,_,_=>none)
 | .call c=>(match c.callee,c.args.toList,c.argTypes.toList with
  | .builtin .append,[b,x],[T,T']=>if T=T' then(match tab T with
   |some d=>(match d.kind with
    | .jS e=>(match tab e,(ρ x).gN hp with
     |some d',some aD=>(match ρ b with
      | .ae (.slice none 0 0)=>some (0<d'.size/\bd d' aD.length [] aD,.own hp.length aD.length,hp++[.row e d'.size aD])
      | .clip els=>some (0<d'.size/\(aD=[]->els=[])/\bd d' (els.length+aD.length) els aD,.own hp.length (els.length+aD.length),hp++[.row e d'.size (els++aD)])
      | .own r n=>(match hp[r]? with
       |some (.row e' size els)=>if e'=e/\size=d'.size/\n=els.length then some (bd d' (els.length+aD.length) [] aD,.own r (els.length+aD.length),hp.set r (.row e size (els++aD))) else none
       |some (.aQ e' size els)=>if e'=e/\size=d'.size/\n=els.length then some (bd d' (els.length+aD.length) [] aD,.own r (els.length+aD.length),hp.set r (.aQ e size (els++aD))) else none
       |_=>none)
      |_=>none)
     |_,_=>none)
    |_=>none)
   |none=>none) else none
  |_,_,_=>none)
 |_=>none
theorem Nn (ax:Γ.Ok) {o:Oper} {T:Nat} {x:Operand} (ho:o.op=.box T x) (hs:(s.ev x).lT=true):fA Γ o s (.ptr s.hp.length 0) (s.hp++[.box (s.ev x).cells]):=by
 intro a w η hr;have Dx:=(hr.ev x).Dw hs;have kS:=bI.alloc w (.cells (a.eval x).cells T);have he:=rD (Γ:=Γ) (o:=.box (s.ev x).cells) (v:=.pointer (some ⟨w.heap.size,0,none⟩)) hr.heap.len kS (fun b hb=>by simp only[ct,als] at hb;omega);refine⟨.pointer (some ⟨w.heap.size,0,none⟩),_,η++[.pointer (some ⟨w.heap.size,0,none⟩)],.inl (by simp[execOp,ho,Instr.box,newVar,newRow];rfl),?_,?_⟩
 ·exact hr.add ax kS (fun b hb=>by simp only[ct,als] at hb;omega) ⟨w.heap.size,(a.eval x).cells,T,rfl,heap_alloc_new w _,by simpa using Dx.1,fun j y u hy hu=>by
   have:=Dx.2 j y u hy (by simpa using hu)
   exact⟨this.1.ext he,this.2⟩⟩
 ·exact .ptr _ 0 w.heap.size (by rw[<-hr.heap.len];simp)
theorem Hj (ax:Γ.Ok) {tab:Nat->Option TD} (aj:aZ Γ.P tab) {o:Oper} {T:Nat} (ho:o.op=.alloc T) {d:TD} (hd:tab T=some d):fA Γ o s (.ptr s.hp.length 0) (s.hp++[.box (d.zero.cells.toList.map .ae)]):=by
 intro a w η hr;have gO:=aj T d hd;have kS:=bI.alloc w (.cells d.zero.cells T);refine⟨.pointer (some ⟨w.heap.size,0,none⟩),_,η++[.pointer (some ⟨w.heap.size,0,none⟩)],.inl (by simp[execOp,ho,Instr.alloc,gO.gM,newVar,newRow];rfl),?_,?_⟩
 ·refine hr.add ax kS (fun b hb=>by simp only[ct,als] at hb;omega) ⟨w.heap.size,d.zero.cells,T,rfl,heap_alloc_new w _,by simp,fun j y u hy hu=>?_⟩;exact(gO.Bj (w:=_) (F:=_) (η:=_) (hp:=_)).2 j y u hy (by simpa using hu)
 ·exact .ptr _ 0 w.heap.size (by rw[<-hr.heap.len];simp)
theorem DC (ax:Γ.Ok) {b r:Nat}:∀(us:List Value) (xs:List AV) (k off:Nat) (cs:List AV) (s:AS G) (w:World),Rel Γ s a w η->s.hp[r]?=some (.box cs)->η[r]?=some (.pointer (some ⟨b,0,none⟩))->
  qK w (bk Γ w η s.hp) η s.hp xs us->off+k+xs.length<=cs.length->
  ∃w',(storeCells ⟨b,off,none⟩ us k).run Γ.P w=.ok () w'/\Rel Γ { s with hp:=s.hp.set r (.box (setCells cs (off+k) xs)) } a w' η:=by
 intro us
 induction us with
 |nil=>
  intro xs k off cs s w hr hb dR Dx hle;have:xs=[]:=al1 (by have:=Dx.1;simpa using this.symm);subst this;refine⟨w,rfl,?_⟩;have:s.hp.set r (.box (setCells cs (off+k) []))=s.hp:=by
   apply ams;intro i
   by_cases hi:r=i
   ·subst hi;rw[au hb,hb];rfl
   ·rw[getElem?_set_ne hi]
  rw[this];exact hr
 |cons u us ih=>
  intro xs k off cs s w hr hb dR Dx hle
  cases xs with
  |nil=>have:=Dx.1;simp at this
  |cons x xs=>
   have h0:=Dx.2 0 x u rfl rfl;simp only[alJ] at hle;obtain⟨h1,h2,u',h3⟩:=hr.write ax (off:=off+k) hb dR (by omega) h0.2 h0.1;have cA:qK (w.setCell ⟨b,off+k,none⟩ u) (bk Γ (w.setCell ⟨b,off+k,none⟩ u) η (s.hp.set r (.box (cs.set (off+k) x)))) η (s.hp.set r (.box (cs.set (off+k) x))) xs us:=by
    refine⟨by simpa using Dx.1,fun j y z hy hz=>?_⟩;have h4:=Dx.2 (j+1) y z (by simpa using hy) (by simpa using hz);refine⟨?_,h4.2⟩;refine h4.1.ext ?_;refine⟨fun b' o v hf hc=>?_,fun b' es c hf hc=>?_,fun b' o hf=>?_,fun _ _ h=>h,fun _ _ h=>h,fun r' n v ho=>?_⟩
    ·have bu:b'≠b:=by
      intro e;subst e;obtain⟨o1,q1,q2⟩:=(aU b' o).1 hf.2.2.2 r _ dR rfl;rw[hb] at q1;obtain rfl:=alw q1;exact q2
     rw[World.cell?_of_block (am8 w _ b' u (by simpa using bu))];exact hc
    ·have bu:b'≠b:=by
      intro e;subst e;obtain⟨o1,q1,q2⟩:=(aU b' 0).1 hf.2.2.2 r _ dR rfl;rw[hb] at q1;obtain rfl:=alw q1;exact q2
     rw[am8 w _ b' u (by simpa using bu)];exact hc
    ·refine⟨hf.1,by simpa using hf.2.1,hf.2.2.1,(aU b' o).2 fun r' v hv oB=>?_⟩;obtain⟨o1,q1,q2⟩:=(aU b' o).1 hf.2.2.2 r' v hv oB
     by_cases Lh:r=r'
     ·subst Lh;rw[hb] at q1;obtain rfl:=alw q1;exact q2.elim
     ·exact⟨o1,by rw[getElem?_set_ne Lh];exact q1,q2⟩
    ·unfold aT at ho ⊢
     by_cases Lh:r=r'
     ·subst Lh;rw[hb] at ho;exact ho.elim
     ·rw[getElem?_set_ne Lh];exact ho
   obtain⟨w',e1,e2⟩:=ih xs (k+1) off (cs.set (off+k) x) { s with hp:=s.hp.set r (.box (cs.set (off+k) x)) } (w.setCell ⟨b,off+k,none⟩ u) h1 (au hb) dR cA (by simp;omega);refine⟨w',?_,?_⟩
   ·simp only[storeCells,Sem.run_bind,Addr.add_lit];rw[run_store _ _ _ _ _ h0.2,h3];simp only[h2,alQ,if_false,Result.andThen_ok];exact e1
   ·have:(s.hp.set r (.box (cs.set (off+k) x))).set r (.box (setCells (cs.set (off+k) x) (off+(k+1)) xs))=s.hp.set r (.box (setCells cs (off+k) (x::xs))):=by
     rw[List.set_set];rfl
    simp only[this] at e2;exact e2
theorem Hk (ax:Γ.Ok) {tab:Nat->Option TD} (aj:aZ Γ.P tab) {o:Oper} {T r off:Nat} {p x:Operand} (ho:o.op=.store T p x) {d:TD} (hd:tab T=some d) (hp:s.ev p=.ptr r off) {cs:List AV} (hb:s.hp[r]?=some (.box cs))
  (hs:(s.ev x).lT=true) (hl:(s.ev x).cells.length=d.size) (hle:off+d.size<=cs.length):fA Γ o s .top (s.hp.set r (.box (setCells cs off (s.ev x).cells))):=by
 intro a w η hr;have qk:=hr.ev p;rw[hp] at qk;have dO:=(hr.ev x).Dw hs;generalize hv:a.eval p=v at qk
 cases qk with
 |ptr _ _ b dR=>
  obtain⟨w',e1,e2⟩:=DC ax (a.eval x).cells.toList (s.ev x).cells 0 off cs s w hr hb dR dO (by omega);refine⟨undef,w',η,.inr ⟨?_,rfl⟩,by simpa using e2,.top _⟩;have bN:(a.eval x).cells.size=d.size:=by rw[<-hl,<-dO.1];simp
  simp only[execOp,ho,hv,Instr.storeAt,Instr.sureAddr,Sem.run_bind,Sem.run_pure,Result.andThen_ok,storeVar,(aj T d hd).run_sizeOf,bN,ne_eq,not_true_eq_false,if_false,e1]
theorem zN {b off:Nat} {T:TypeId}:∀(us:List Value) (k:Nat) (cs:Array Value) (w:World),w.heap[b]?=some (.cells cs T (0,0))->off+k+us.length<=cs.size->(∀u∈us,u.oneCell'=true)->
  ∃w' cs',(storeCells ⟨b,off,none⟩ us k).run P w=.ok () w'/\w'.heap[b]?=some (.cells cs' T (0,0))/\cs'.toList=eW cs.toList (off+k) us/\bE (fun x=>x=b) w w'
 | [],k,cs,w,hb,_,_=>⟨w,cs,rfl,hb,rfl,bE.refl _ _⟩
 |u::us,k,cs,w,hb,hle,h1=>by
  simp only[alJ] at hle;have qf:(w.setCell ⟨b,off+k,none⟩ u).heap[b]?=some (.cells (cs.setIfInBounds (off+k) u) T (0,0)):=Go.heap_setCell_same w b (off+k) cs T u hb;obtain⟨w',cs',e1,e2,e3,e4⟩:=zN (off:=off) us (k+1) _ _ qf (by simp;omega) fun v hv=>h1 v (alR _ hv);refine⟨w',cs',?_,e2,?_,?_⟩
  ·have hc:w.cell? ⟨b,off+k,none⟩=some (cs[off+k]'(by omega)):=by
    rw[cell_of_row w b (off+k) cs T (0,0) hb];simp
   have hf:=frozen_of_row w b (off+k) cs T hb;simp only[storeCells,Sem.run_bind,Addr.add_lit];rw[run_store _ _ _ _ _ (h1 u alS),hc];simp only[hf,alQ,if_false,Result.andThen_ok];exact e1
  ·rw[e3];simp[eW,anp]
  ·exact(show bE (fun x=>x=b) w (w.setCell ⟨b,off+k,none⟩ u) from⟨rfl,rfl,rfl,by simp[World.setCell],fun i _ hi=>am8 w _ i u hi⟩).trans e4 fun _ _ h=>h
theorem uG (ax:Γ.Ok) {tab:Nat->Option TD} (aj:aZ Γ.P tab) {o:Oper} {T r m i z e:Nat} {p x:Operand} (ho:o.op=.store T p x) {d:TD} (hd:tab T=some d) (hp:s.ev p=.fa r m i z) {els:List AV} (hb:s.hp[r]?=some (.aQ e z els))
  (hs:((s.ev x).eI s.hp).lT=true) (hl:((s.ev x).eI s.hp).cells.length=d.size) (hm:m=els.length) (Dt:d.size<=z) (hi:i<els.length) {el':AV} (hle:els[i].cells.length=z->el'.cells.length=z)
  (l5:els[i].cells.length=z->∀(j:Nat) (y:AV),el'.cells[j]?=some y->(j<d.size->((s.ev x).eI s.hp).cells[j]?=some y)/\(d.size<=j->els[i].cells[j]?=some y)):fA Γ o s .top (s.hp.set r (.aQ e z (els.set i el'))):=by
 intro a w η hr;have qk:=hr.ev p;rw[hp] at qk;have dO:=(lS hr.heap hr.bM (hr.ev x)).Dw hs;generalize (s.ev x).eI s.hp=el at hs hl dO l5;generalize hv:a.eval p=v at qk
 cases qk with
 |fa _ _ _ _ b o' c k tL=>
  have wM:=tL;unfold aT at wM;rw[hb] at wM;have dR:=wM.2 hm;obtain⟨MQ,xs,cy,cS⟩:=hr.heap.obj r _ _ hb dR;rcases cy.2 with⟨h0,_⟩|⟨g,cap,cur,he,h0,⟨y3,y5,hg⟩,Dp,G5,fO,kR⟩
  ·omega
  obtain rfl:y3=0:=Nat.le_zero.1 y5
  ·simp only[Value.slice.injEq,als,Addr.mk.injEq,and_true] at he;obtain⟨⟨rfl,rfl⟩,rfl,rfl⟩:=he;generalize ZQ:(a.eval x).cells.toList=us at dO;have S5:us.length=d.size:=by rw[dO.1,hl]
   have hold:=cS i els[i] (aly hi);have l5:=l5 hold.1;have hle:=hle hold.1;have aE:(i+1)*z<=els.length*z:=amw _ hi;have tG:els.length*z<=c*z:=amw _ Dp;rw[amu,anz] at aE;obtain⟨w',cs',e1,e2,e3,e4⟩:=zN (P:=Γ.P) (off:=0+i*z) us 0 cur w hg (by omega) fun u hu=>by
    obtain⟨j,hj⟩:=amC hu;have ak:j<el.cells.length:=by rw[<-dO.1];exact(alu.1 hj).1
    exact(dO.2 j _ u (aly ak) hj).2
   have bN:(a.eval x).cells.size=d.size:=by rw[<-hl,<-dO.1,<-ZQ];simp
   have pG:ct (.slice (some ⟨b,0,none⟩) els.length c)=some b:=bp h0;have S6:η.set r (.slice (some ⟨b,0,none⟩) els.length c)=η:=by
    apply ams;intro k
    by_cases hk:r=k
    ·subst hk;rw[au dR,dR]
    ·rw[getElem?_set_ne hk]
   have:=Rel.change (w':=w') (o':=.aQ e z (els.set i el')) (v':=.slice (some ⟨b,0,none⟩) els.length c) ax hr hb True.intro dR
    ⟨e4.os,e4.tape,e4.output,e4.size,fun k hk hkb=>e4.block k hk fun h=>hkb (by rw[pG,h])⟩
    (fun c hc=>.inl hc) (fun k hk=>hk.elim) (fun _ _ _ _ hk=>hk.elim) (fun _ _ _ _ hk=>hk.elim)
    (fun n u ho=>by
     unfold aT at ho ⊢;rw[hb] at ho;rw[au hb,S6]
     exact⟨by rw[amJ];exact ho.1,fun h=>ho.2 (by rw[amJ] at h;exact h)⟩)
    (fun _ _=>rfl) (fun _ hx=>by cases hx)
    (fun b' d' eF dv=>by rw[pG] at eF;obtain rfl:=alw eF;rw[hg] at dv;cases dv)
    (fun he=>⟨MQ,eW xs (i*z) us,⟨by rw[gP,amJ];exact cy.1,.inr ⟨b,c,cs',by rw[amJ],h0,⟨0,alA _,e2⟩,by rw[amJ];exact Dp,G5,by
      have:cs'.toList.length=cur.toList.length:=by rw[e3,gP]
      simp only[amg] at this;rw[this,fO],by
      rw[amJ];apply ams;intro k;have hlen:i*z+us.length<=cur.toList.length:=by simp only[amg];omega
      have DE:i*z+us.length<=xs.length:=by rw[cy.1];omega
      rw[alO,cN us xs _ _ DE,e3,amy,al2,cN us _ _ _ hlen]
      by_cases hk:k<els.length*z
      ·rw[if_pos hk]
       by_cases l5:i*z<=k/\k<i*z+us.length
       ·rw[if_pos l5,if_pos l5]
       ·rw[if_neg l5,if_neg l5,<-kR,alO,if_pos hk]
      ·rw[if_neg hk,if_neg (by omega),al0 (by rw[cy.1];omega)]⟩⟩,fun i' el2 qu=>by
      have DE:i*z+us.length<=xs.length:=by rw[cy.1];omega
      by_cases Hc:i=i'
      ·subst Hc;rw[List.getElem?_set_self hi] at qu;obtain rfl:=alw qu;refine⟨hle,fun j x hj=>?_⟩
       by_cases hjd:j<d.size
       ·have hj:=(l5 j x hj).1 hjd;have qm:j<us.length:=by omega
        refine⟨us[j],?_,((dO.2 j x _ hj (aly qm)).1).ext he.lN.ext,(dO.2 j x _ hj (aly qm)).2⟩;rw[cN us xs _ _ DE,if_pos (by omega),show i*z+j-i*z=j from by omega,aly qm]
       ·obtain⟨u,q1,q2,q3⟩:=hold.2 j x ((l5 j x hj).2 (by omega));refine⟨u,?_,q2.ext he.lN.ext,q3⟩;rw[cN us xs _ _ DE,if_neg (by omega)];exact q1
      ·rw[getElem?_set_ne Hc] at qu;refine⟨(cS i' el2 qu).1,fun j x hj=>?_⟩;obtain⟨u,q1,q2,q3⟩:=(cS i' el2 qu).2 j x hj;refine⟨u,?_,q2.ext he.lN.ext,q3⟩;have hjz:j<z:=by rw[<-(cS i' el2 qu).1];exact(alu.1 hj).1
       rw[cN us xs _ _ DE,if_neg ?_]
       ·exact q1
       ·rw[S5];rcases Nat.lt_or_gt_of_ne Hc with h|h
        ·have:=amw z (show i+1<=i' from h);rw[amu,anz] at this;omega
        ·have:=amw z (show i'+1<=i from h)
         rw[amu,anz] at this;omega⟩)
   rw[S6] at this;refine⟨undef,w',η,.inr ⟨?_,rfl⟩,this,.top _⟩;simp only[execOp,ho,hv,Instr.storeAt,Instr.sureAddr,Sem.run_bind,Sem.run_pure,Result.andThen_ok,storeVar,(aj T d hd).run_sizeOf,bN,ne_eq,not_true_eq_false,if_false,ZQ,e1]
theorem DF (ax:Γ.Ok) {tab:Nat->Option TD} (aj:aZ Γ.P tab) {o:Oper} {T r m i z e:Nat} {p x:Operand} (ho:o.op=.store T p x) {d:TD} (hd:tab T=some d) (hp:s.ev p=.fa r m i z) {els:List AV} (hb:s.hp[r]?=some (.aQ e z els))
  (hs:((s.ev x).eI s.hp).lT=true) (hl:((s.ev x).eI s.hp).cells.length=d.size) (hm:m=els.length) (Dt:d.size=z) (hi:i<els.length):fA Γ o s .top (s.hp.set r (.aQ e z (els.set i ((s.ev x).eI s.hp)))):=
 uG ax aj ho hd hp hb hs hl hm (Nat.le_of_eq Dt) hi (fun _=>by rw[hl,Dt]) fun _ j y hy=>⟨fun _=>hy,fun h=>by have:=(alu.1 hy).1;omega⟩
theorem kU:∀(xs cs:List AV) (k j:Nat),k+xs.length<=cs.length->(setCells cs k xs)[j]?=if k<=j/\j<k+xs.length then xs[j-k]? else cs[j]?
 | [],cs,k,j,_=>by rw[setCells,if_neg (by simp only[al4];omega)]
 |x::xs,cs,k,j,h=>by
  simp only[alJ] at h;rw[setCells,kU xs _ _ _ (by rw[amJ];omega)]
  by_cases e:k=j
  ·subst e;rw[if_neg (by omega),if_pos (by simp only[alJ];omega),am9,amp,List.getElem?_set_self (by omega)]
  ·rw[getElem?_set_ne e]
   by_cases h2:k+1<=j/\j<k+1+xs.length
   ·rw[if_pos h2,if_pos (by simp only[alJ];omega),show j-k=j-(k+1)+1 from by omega,al5]
   ·rw[if_neg h2,if_neg (by simp only[alJ];omega)]
theorem DG (ax:Γ.Ok) {tab:Nat->Option TD} (aj:aZ Γ.P tab) {o:Oper} {T r m i z e:Nat} {p x:Operand} (ho:o.op=.store T p x) {d:TD} (hd:tab T=some d) (hp:s.ev p=.fa r m i z) {els:List AV} (hb:s.hp[r]?=some (.aQ e z els))
  (hs:((s.ev x).eI s.hp).lT=true) (hl:((s.ev x).eI s.hp).cells.length=d.size) (hm:m=els.length) (Dt:d.size<=z) (hi:i<els.length):fA Γ o s .top (s.hp.set r (.aQ e z (els.set i (.agg (setCells (els.getD i .top).cells 0 ((s.ev x).eI s.hp).cells))))):=by
 have hg:els.getD i .top=els[i]:=by simp[List.getD,hi]
 rw[hg];refine uG ax aj ho hd hp hb hs hl hm Dt hi (fun h=>by show (setCells _ 0 _).length=z;rw[vC,h]) fun h j y hy=>?_;have GY:(setCells els[i].cells 0 ((s.ev x).eI s.hp).cells)[j]?=some y:=hy;rw[kU _ _ _ _ (by rw[hl,h];omega),hl] at GY;refine⟨fun hj=>?_,fun hj=>?_⟩
 ·rw[if_pos (by omega)] at GY;exact GY
 ·rw[if_neg (by omega)] at GY;exact GY
theorem wX (ax:Γ.Ok) {tab:Nat->Option TD} (aj:aZ Γ.P tab) {o:Oper} {T e:Nat} {l c:Operand} (ho:o.op=.makeSlice T l c) {d d':TD} (hd:tab T=some d) (hk:d.kind=.jS e) (dv:tab e=some d')
  {k k':IntKind} {n:Int} (hl:s.ev l=.ae (.int k 0)) (hc:s.ev c=.ae (.int k' n)) (h0:0<=n) (Ba:n<=9223372036854775807) (Z8:(d'.bytes:Int)*n<=281474976710656) (bN:0<d'.size):
  fA Γ o s (.own s.hp.length 0) (s.hp++[.row e d'.size []]):=by
 intro a w η hr;have G6:=hr.ev l;have GZ:=hr.ev c;rw[hl] at G6;rw[hc] at GZ;have gO:=aj e d' dv;obtain⟨i,ox,rC,Df,Jr⟩:=gO.info;have hu:Γ.P.underlying T=some (.slice e):=by
  obtain⟨u,q2,q3⟩:=(aj T d hd).kC;rw[hk] at q3;rw[q2];exact congrArg some q3
 have hw:IntKind.i64.wrap n=n:=by
  simp only[IntKind.wrap,IntKind.bits,IntKind.signed];simp;omega
 have hw0:IntKind.i64.wrap 0=0:=by decide
 have MT:((decide (n<0)||decide ((d'.bytes:Int)*n>2 ^ 48))||decide ((0:Int)<0)||decide ((0:Int)>n))=false:=by
  simp;omega
 have fz:∃arr:Array Value,arr.size=n.toNat*d'.size/\(execOp a.eval o).run Γ.P w=.ok (.value (.slice (some ⟨w.heap.size,0,none⟩) 0 n.toNat)) (w.alloc (.cells arr e)):=by
  by_cases hz:n.toNat*d'.size=0
  ·refine⟨(Array.range (n.toNat*d'.size)).map ((#[]:Array Value)[· % (#[]:Array Value).size]!),by simp,?_⟩;simp only[execOp,ho,Instr.makeSlice,Sem.run_bind,run_underlying hu,Result.andThen_ok,asInt,G6.ay,GZ.ay,asIntOf,Sem.run_pure,typeInfo,run_program,ox,Df,hw,hw0,MT,alQ,if_false,run_askRoom,sizeOf,rC,if_pos hz,newRow,run_newObj];rfl
  ·refine⟨(Array.range (n.toNat*d'.size)).map (d'.zero.cells[· % d'.zero.cells.size]!),by simp,?_⟩;simp only[execOp,ho,Instr.makeSlice,Sem.run_bind,run_underlying hu,Result.andThen_ok,asInt,G6.ay,GZ.ay,asIntOf,Sem.run_pure,typeInfo,run_program,ox,Df,hw,hw0,MT,alQ,if_false,run_askRoom,sizeOf,rC,if_neg hz,gO.gM,newRow,run_newObj];rfl
 obtain⟨arr,lY,fz⟩:=fz;have kS:=bI.alloc w (.cells arr e);refine⟨_,_,η++[.slice (some ⟨w.heap.size,0,none⟩) 0 n.toNat],.inl fz,?_,?_⟩
 ·refine hr.add ax kS (fun b hb=>?_) ⟨bN,[],⟨by simp,?_⟩,fun i el hi=>by simp at hi⟩
  ·simp only[ct] at hb;split at hb
   ·cases hb
   ·obtain rfl:=alw hb;exact alA _
  ·by_cases hn:n.toNat=0
   ·exact .inl ⟨rfl,.inr ⟨_,by rw[hn]⟩⟩
   ·exact .inr ⟨w.heap.size,n.toNat,arr,rfl,by omega,⟨0,alE _,heap_alloc_new w _⟩,alE _,by simp only[maxLen];omega,lY,by simp⟩
 ·refine .own _ 0 _ rfl ?_;unfold aT;have:(s.hp++[af.row e d'.size []])[s.hp.length]?=some (.row e d'.size []):=by simp
  rw[this];exact⟨alA _,fun _=>by rw[<-hr.heap.len];simp⟩
theorem Hl (ax:Γ.Ok) {tab:Nat->Option TD} (aj:aZ Γ.P tab) {o:Oper} {T e:Nat} {l c:Operand} (ho:o.op=.makeSlice T l c) {d d':TD} (hd:tab T=some d) (hk:d.kind=.jS e) (dv:tab e=some d')
  {k k':IntKind} {n:Int} (hl:s.ev l=.ae (.int k n)) (hc:s.ev c=.ae (.int k' n)) (h0:0<=n) (Ba:n<=9223372036854775807) (Z8:(d'.bytes:Int)*n<=281474976710656) {z:Value} (hz:DB d'=some z):
  fA Γ o s (.own s.hp.length (List.replicate n.toNat (AV.ae z)).length) (s.hp++[.aQ e 1 (List.replicate n.toNat (.ae z))]):=by
 intro a w η hr;have G6:=hr.ev l;have GZ:=hr.ev c;rw[hl] at G6;rw[hc] at GZ;have gO:=aj e d' dv;obtain⟨i,ox,rC,Df,Jr⟩:=gO.info;obtain⟨ZR,hzc,wP⟩:=Nl hz;have hu:Γ.P.underlying T=some (.slice e):=by
  obtain⟨u,q2,q3⟩:=(aj T d hd).kC;rw[hk] at q3;rw[q2];exact congrArg some q3
 have hw:IntKind.i64.wrap n=n:=by
  simp only[IntKind.wrap,IntKind.bits,IntKind.signed];simp;omega
 have MT:((decide (n<0)||decide ((d'.bytes:Int)*n>2 ^ 48))||decide (n<0)||decide (n>n))=false:=by
  simp;omega
 have fz:∃arr:Array Value,arr.toList=List.replicate n.toNat z/\(execOp a.eval o).run Γ.P w=.ok (.value (.slice (some ⟨w.heap.size,0,none⟩) n.toNat n.toNat)) (w.alloc (.cells arr e)):=by
  by_cases hz:n.toNat*d'.size=0
  ·have l8:n.toNat=0:=by rw[ZR] at hz;omega
   refine⟨(Array.range (n.toNat*d'.size)).map ((#[]:Array Value)[· % (#[]:Array Value).size]!),by rw[hz,l8];simp,?_⟩;simp only[execOp,ho,Instr.makeSlice,Sem.run_bind,run_underlying hu,Result.andThen_ok,asInt,G6.ay,GZ.ay,asIntOf,Sem.run_pure,typeInfo,run_program,ox,Df,hw,MT,alQ,if_false,run_askRoom,sizeOf,rC,if_pos hz,newRow,run_newObj];rfl
  ·refine⟨(Array.range (n.toNat*d'.size)).map (d'.zero.cells[· % d'.zero.cells.size]!),?_,?_⟩
   ·rw[ZR,hzc,amI];refine List.ext_getElem (by simp) fun j h1 h2=>?_;simp[Nat.mod_one]
   simp only[execOp,ho,Instr.makeSlice,Sem.run_bind,run_underlying hu,Result.andThen_ok,asInt,G6.ay,GZ.ay,asIntOf,Sem.run_pure,typeInfo,run_program,ox,Df,hw,MT,alQ,if_false,run_askRoom,sizeOf,rC,if_neg hz,gO.gM,newRow,run_newObj];rfl
 obtain⟨arr,gG,fz⟩:=fz;have lY:arr.size=n.toNat:=by rw[<-amg,gG,List.length_replicate]
 have kS:=bI.alloc w (.cells arr e);have hle:=List.length_replicate (n:=n.toNat) (a:=AV.ae z);refine⟨_,_,η++[.slice (some ⟨w.heap.size,0,none⟩) n.toNat n.toNat],.inl fz,?_,?_⟩
 ·refine hr.add ax kS (fun b hb=>?_) ⟨Nat.one_pos,List.replicate n.toNat z,⟨by simp,?_⟩,fun i el hi=>?_⟩
  ·simp only[ct] at hb;split at hb
   ·cases hb
   ·obtain rfl:=alw hb;exact alA _
  ·rw[hle]
   by_cases hn:n.toNat=0
   ·exact .inl ⟨hn,.inr ⟨_,by rw[hn]⟩⟩
   ·exact .inr ⟨w.heap.size,n.toNat,arr,rfl,by omega,⟨0,alA _,heap_alloc_new w _⟩,alA _,by simp only[maxLen];omega,by omega,by rw[gG,alI (by simp)]⟩
  ·obtain⟨ak,rfl⟩:i<n.toNat/\el=.ae z:=by
    rw[List.getElem?_replicate] at hi;split at hi
    ·rename_i ak;exact⟨ak,(alw hi).symm⟩
    ·cases hi
   refine⟨rfl,fun j x hj=>?_⟩;have rB:[AV.ae z][j]?=some x:=hj
   cases j with
   |zero=>
    obtain rfl:=alw rB;exact⟨z,by rw[List.getElem?_replicate,if_pos (by omega)],.ae z,wP⟩
   |succ j=>simp at rB
 ·refine .own _ _ _ rfl ?_;unfold aT;have:(s.hp++[af.aQ e 1 (List.replicate n.toNat (.ae z))])[s.hp.length]?=some (.aQ e 1 (List.replicate n.toNat (.ae z))):=by simp
  rw[this];refine⟨alA _,fun _=>?_⟩;have hlen:η.length=s.hp.length:=hr.heap.len;rw[<-hlen];simp
theorem kV (ax:Γ.Ok) {tab:Nat->Option TD} (aj:aZ Γ.P tab) {o:Oper} {c:Call} (ho:o.op=.call c) (hb:c.callee=.builtin .append) {b x:Operand} (hl:c.args.toList=[b,x]) {T e:Nat} (hT:c.argTypes.toList=[T,T]) {d d':TD} (hd:tab T=some d)
  (hk:d.kind=.jS e) (dv:tab e=some d') {aD:List AV} (hx:(s.ev x).gN s.hp=some aD) {r:AV} {hp':List af}
  (h:(∃els,(s.ev b=.ae (.slice none 0 0)/\els=[]\/s.ev b=.clip els)/\0<d'.size/\(aD=[]->els=[])/\bd d' (els.length+aD.length) els aD/\r=.own s.hp.length (els.length+aD.length)/\hp'=s.hp++[.row e d'.size (els++aD)])\/
   (∃M n els,s.ev b=.own n els.length/\s.hp[n]?=some (ea M e d'.size els)/\bd d' (els.length+aD.length) [] aD/\r=.own n (els.length+aD.length)/\hp'=s.hp.set n (ea M e d'.size (els++aD)))):fA Γ o s r hp':=by
 intro a w η hr;have hu:Γ.P.underlying T=some (.slice e):=by
  obtain⟨u,q2,q3⟩:=(aj T d hd).kC;rw[hk] at q3;rw[q2];exact congrArg some q3
 have dO:=jT hr.heap hr.bM (hr.ev x) hx;have JB:=hr.ev b;have oC:c.argTypes=#[T,T]:=by rw[<-ami (xs:=c.argTypes),hT]
 have aF:c.args=#[b,x]:=by rw[<-ami (xs:=c.args),hl]
 have nT:∀v w',(Builtin.append_ #[T,T] o.type #[a.eval b,a.eval x]).run Γ.P w=.ok v w'->(execOp a.eval o).run Γ.P w=.ok (.value v) w':=by
  intro v w' fz;simp only[execOp,ho,resolve,hb,Sem.run_bind,Sem.run_pure,Result.andThen_ok,invoke,builtin,oC,aF,am2,al3,aml,fz]
 rcases h with⟨els,oB,bN,bu,rM,rfl,rfl⟩|⟨M,n,els,oB,cy,rM,rfl,rfl⟩
 ·have Dz:a.eval b=.slice none 0 0/\els=[]\/bm w (bk Γ w η s.hp) η s.hp (.clip els) (a.eval b):=by
   rcases oB with⟨h1,h2⟩|h1
   ·rw[h1] at JB;exact .inl ⟨JB.ay,h2⟩
   ·rw[h1] at JB;exact .inr JB
  obtain⟨v',w',h1,h2,h3⟩:=wG ax hr (ty:=o.type) hu (aj e d' dv) bN Dz dO rM.1 rM.2.1 bu rM.2.2.1 rM.2.2.2 (ob:=.row e d'.size (els++aD)) (.inl rfl);refine⟨v',w',η++[v'],.inl (nT _ _ h1),h2,.own _ _ _ h3 ?_⟩;unfold aT;have:(s.hp++[af.row e d'.size (els++aD)])[s.hp.length]?=some (.row e d'.size (els++aD)):=by simp
  rw[this];exact⟨by simp,fun _=>by rw[<-hr.heap.len];simp⟩
 ·rw[oB] at JB;have qe:aT η s.hp n els.length (a.eval b):=by cases JB;assumption
  have rH:η[n]?=some (a.eval b):=((iU cy).1 qe).2 rfl;obtain⟨news,hn⟩:=rF (ty:=o.type) hu (aj e d' dv) (jV.1 (hr.heap.obj n _ _ cy rH)).1 dO rM.2.1;obtain⟨v',w',aN,h1,h2,h3,h4⟩:=wI ax hr (aj e d' dv) cy qe hn rM.2.1 rM.2.2.1 rM.2.2.2;exact⟨v',w',aN,.inl (nT _ _ h1),h2,.own _ _ _ h3 ((iU (au cy)).2 ⟨by simp,fun _=>h4⟩)⟩
theorem Bm (ax:Γ.Ok) {tab:Nat->Option TD} (aj:aZ Γ.P tab) {o:Oper} {c:Call} (ho:o.op=.call c) (hb:c.callee=.builtin .append) {b x:Operand} (hl:c.args.toList=[b,x]) {T e:Nat} (hT:c.argTypes.toList=[T,T]) {d d':TD} (hd:tab T=some d)
  (hk:d.kind=.jS e) (dv:tab e=some d') {aD:List AV} (hx:(s.ev x).gN s.hp=some aD) {els:List AV} (oB:s.ev b=.ae (.slice none 0 0)/\els=[]\/s.ev b=.clip els) (bN:0<d'.size) (bu:aD=[]->els=[]) (rM:bd d' (els.length+aD.length) els aD):
  fA Γ o s (.own s.hp.length (els++aD).length) (s.hp++[.aQ e d'.size (els++aD)]):=by
 intro a w η hr;have hu:Γ.P.underlying T=some (.slice e):=by
  obtain⟨u,q2,q3⟩:=(aj T d hd).kC;rw[hk] at q3;rw[q2];exact congrArg some q3
 have dO:=jT hr.heap hr.bM (hr.ev x) hx;have JB:=hr.ev b;have oC:c.argTypes=#[T,T]:=by rw[<-ami (xs:=c.argTypes),hT]
 have aF:c.args=#[b,x]:=by rw[<-ami (xs:=c.args),hl]
 have nT:∀v w',(Builtin.append_ #[T,T] o.type #[a.eval b,a.eval x]).run Γ.P w=.ok v w'->(execOp a.eval o).run Γ.P w=.ok (.value v) w':=by
  intro v w' fz;simp only[execOp,ho,resolve,hb,Sem.run_bind,Sem.run_pure,Result.andThen_ok,invoke,builtin,oC,aF,am2,al3,aml,fz]
 have Dz:a.eval b=.slice none 0 0/\els=[]\/bm w (bk Γ w η s.hp) η s.hp (.clip els) (a.eval b):=by
  rcases oB with⟨h1,h2⟩|h1
  ·rw[h1] at JB;exact .inl ⟨JB.ay,h2⟩
  ·rw[h1] at JB;exact .inr JB
 obtain⟨v',w',h1,h2,h3⟩:=wG ax hr (ty:=o.type) hu (aj e d' dv) bN Dz dO rM.1 rM.2.1 bu rM.2.2.1 rM.2.2.2 (ob:=.aQ e d'.size (els++aD)) (.inr rfl);refine⟨v',w',η++[v'],.inl (nT _ _ h1),h2,.own _ _ _ h3 ?_⟩;unfold aT;have:(s.hp++[af.aQ e d'.size (els++aD)])[s.hp.length]?=some (.aQ e d'.size (els++aD)):=by simp
 rw[this];exact⟨alA _,fun _=>by rw[<-hr.heap.len];simp⟩
theorem rN (ax:Γ.Ok) {o:Oper} {T:Nat} (ho:o.op=.makeMap T none) {me:ME} (hme:K9 me=[]):fA Γ o s (.mp s.hp.length) (s.hp++[.aJ me]):=by
 intro a w η hr;have kS:=bI.alloc w (.map #[] 0);refine⟨.map (some w.heap.size),_,η++[.map (some w.heap.size)],.inl (by simp[execOp,ho,Instr.makeMap];rfl),?_,?_⟩
 ·exact hr.add ax kS (fun b hb=>by simp only[ct,als] at hb;omega) ⟨w.heap.size,#[],0,rfl,World.alloc_heap_new w _,hme.symm⟩
 ·exact .mp _ w.heap.size (by rw[<-hr.heap.len];simp)
theorem Np {κ:Type} [DecidableEq κ] {td:TypeDesc} {kv:κ->Value} {me:List (κ×Value)->ME} (K:Lg td kv me) {a:κ} {v:Value}:∀(es:List MapEntry) (l:List (κ×Value)) (i:Nat),(es.map fun e=>(e.key,e.val))=l.map (fun p=>(kv p.1,p.2))->
  (∃j u,Instr.findNow td (kv a) es i=some (some (i+j,u))/\(es[j]?).map (·.key)=some (kv a)/\((es.modify j fun e=>{ e with key:=kv a,val:=v }).map fun e=>(e.key,e.val))=(bU l a v).map (fun p=>(kv p.1,p.2)))\/
   (Instr.findNow td (kv a) es i=some none/\(bU l a v).map (fun p=>(kv p.1,p.2))=(es.map fun e=>(e.key,e.val))++[(kv a,v)]):=by
 intro es
 induction es with
 |nil=>
  intro l i h
  cases l with
  |nil=>exact .inr ⟨rfl,rfl⟩
  |cons p l=>simp at h
 |cons e es ih=>
  intro l i h
  cases l with
  |nil=>simp at h
  |cons p l=>
   obtain⟨key,u⟩:=p;simp only[al3,List.cons.injEq,alx] at h;obtain⟨⟨h1,h2⟩,h3⟩:=h;simp only[Instr.findNow,h1,K.same,bU]
   by_cases X8:a=key
   ·subst X8;simp only[decide_true,if_true];refine .inl ⟨0,e.val,rfl,by simp[h1],?_⟩;simp only[List.modify_zero_cons,al3];rw[h3]
   ·simp only[if_neg X8,decide_eq_false X8];rcases ih l (i+1) h3 with⟨j,u',g1,g2,g3⟩|⟨g1,g2⟩
    ·refine .inl ⟨j+1,u',by rw[g1];congr 3;omega,by simpa using g2,?_⟩;simp only[List.modify_succ_cons,al3,h1,h2];rw[g3]
    ·refine .inr ⟨g1,?_⟩;simp only[al3,amh,h1,h2] at g2 ⊢;rw[g2]
theorem oD {κ:Type} [DecidableEq κ] {td:TypeDesc} {kv:κ->Value} {me:List (κ×Value)->ME} (K:Lg td kv me) (ax:Γ.Ok) {tab:Nat->Option TD} (aj:aZ Γ.P tab) {o:Oper} {T kt et r:Nat} {m k x:Operand} (ho:o.op=.mapUpdate T m k x) {d dk:TD} (hd:tab T=some d) (lZ:d.kind=.oh kt et) (nR:tab kt=some dk) (vX:∀u,dk.kind.fits Γ.P u->u=td)
  (hm:s.ev m=.mp r) {es:List (κ×Value)} (S4:s.hp[r]?=some (.aJ (me es))) {a:κ} (hk:s.ev k=.ae (kv a)) {v:Value} (hx:s.ev x=.ae v):fA Γ o s .top (s.hp.set r (.aJ (me (bU es a v)))):=by
 intro act w η hr;have hu:Γ.P.underlying T=some (.map kt et):=by
  obtain⟨u,q2,q3⟩:=(aj T d hd).kC;rw[lZ] at q3;rw[q2];exact congrArg some q3
 have SZ:Γ.P.underlying kt=some td:=by
  obtain⟨u,q2,q3⟩:=(aj kt dk nR).kC;rw[q2];exact congrArg some (vX u q3)
 have JA:=hr.ev k;rw[hk] at JA;have X9:=JA.ay;have dO:=hr.ev x;rw[hx] at dO;have tC:=dO.ay;have S2:=hr.ev m;rw[hm] at S2;generalize MS:act.eval m=mv at S2
 cases S2 with
 |mp _ b dR=>
  obtain⟨b',en,c,e1,jw,wW⟩:=hr.heap.obj r _ _ S4 dR;simp only[Value.map.injEq,als] at e1;subst e1;have ak:=bo jw;have cq:(getObj b).run Γ.P w=.ok (.map en c) w:=by simp[getObj,Sem.run,jw]
  have qf:∀o',(setObj b o').run Γ.P w=.ok () (w.putObj b o'):=fun o'=>by simp[setObj,Sem.run,jw,World.putObj]
  have key:∀en' c',lM en'=K9 (me (bU es a v))->Rel Γ { s with hp:=s.hp.set r (.aJ (me (bU es a v))) } act (w.putObj b (.map en' c')) η:=by
   intro en' c' hp';have S6:η.set r (.map (some b))=η:=by
    apply ams;intro i
    by_cases hi:r=i
    ·subst hi;rw[au dR,dR]
    ·rw[getElem?_set_ne hi]
   have:=Rel.change (w':=w.putObj b (.map en' c')) (o':=.aJ (me (bU es a v))) (v':=.map (some b)) ax hr S4 True.intro dR
    ⟨rfl,rfl,rfl,by simp,fun q hq hb=>World.putObj_heap_other (fun e=>hb (by rw[e];rfl))⟩
    (fun q hq=>.inl hq) (fun q hq=>hq.elim) (fun _ _ _ _ hq=>hq.elim) (fun _ _ _ _ hq=>hq.elim)
    (fun n u wF=>by simp[aT,S4] at wF) (fun _ hq=>by cases hq) (fun _ _=>rfl)
    (fun q dd hb hdd=>by simp only[ct,als] at hb;subst hb;rw[jw] at hdd;cases hdd)
    (fun _=>⟨b,en',c',rfl,World.putObj_heap_same ak,hp'⟩)
   rw[S6] at this;exact this
  have hfk:∀q,Instr.findNow td (kv a) en.toList 0=some q->(Instr.findKey kt (kv a) en.toList).run Γ.P w=.ok q w:=fun q hq=>by
   simp only[Instr.findKey,Sem.run_bind,run_underlying SZ,Result.andThen_ok,hq,Sem.run_pure]
  rcases Np K (a:=a) (v:=v) en.toList es 0 (wW.trans (K.me es)) with⟨j,u,g1,g2,g3⟩|⟨g1,g2⟩
  ·rw[al2] at g1;have hj:(en[j]?).map (·.key)=some (kv a):=by simpa using g2
   have aeD:(Instr.keyThatStays (((en[j]?).map (·.key)).getD (kv a)) (kv a)).run Γ.P w=.ok (kv a) w:=by
    rw[hj];simp[Instr.keyThatStays,K.bits]
   refine⟨undef,_,η,.inr ⟨?_,rfl⟩,key (en.modify j fun e=>{ e with key:=kv a,val:=v }) c ?_,.top _⟩
   ·simp only[execOp,ho,MS,X9,tC,Instr.mapUpdate,Sem.run_bind,run_underlying hu,Result.andThen_ok,cq,K.check _ _ _ _ _ SZ,hfk _ g1,aeD,qf,Sem.run_pure]
   ·unfold lM;rw[Array.toList_modify,K.me];exact g3
  ·refine⟨undef,_,η,.inr ⟨?_,rfl⟩,key (en.push { key:=kv a,val:=v,born:=c }) (c+1) ?_,.top _⟩
   ·simp only[execOp,ho,MS,X9,tC,Instr.mapUpdate,Sem.run_bind,run_underlying hu,Result.andThen_ok,cq,K.check _ _ _ _ _ SZ,hfk _ g1,qf,Sem.run_pure]
   ·unfold lM;rw[K.me,g2];simp
theorem iB (ax:Γ.Ok) {tab:Nat->Option TD} (aj:aZ Γ.P tab) {o:Oper} {c:Prop} {r:AV} {hp':List af} (h:dy tab s.hp s.ev o.op=some (c,r,hp')) (hc:c):fA Γ o s r hp':=by
 generalize ho:o.op=op at h
 cases op with
 |alloc T=>
  simp only[dy] at h;split at h
  ·rename_i d hd;simp only[als,alx] at h;obtain⟨_,rfl,rfl⟩:=h;exact Hj ax aj ho hd
  ·cases h
 |box T x=>
  simp only[dy] at h;split at h
  ·rename_i hs;simp only[als,alx] at h;obtain⟨_,rfl,rfl⟩:=h;exact Nn ax ho hs
  ·cases h
 |store T p x=>
  simp only[dy] at h;split at h
  ·rename_i d r' off hd hp;split at h
   ·rename_i cs fO;split at h
    ·rename_i hs;simp only[als,alx] at h;obtain⟨rfl,rfl,rfl⟩:=h;exact Hk ax aj ho hd hp fO hs hc.1 hc.2
    ·cases h
   ·cases h
  ·rename_i d r' m i z hd hp;split at h
   ·rename_i e size els fO;split at h
    ·rename_i hs;obtain⟨hs,rfl⟩:=hs;split at h
     ·rename_i Dt;simp only[als,alx] at h;obtain⟨rfl,rfl,rfl⟩:=h;exact DF ax aj ho hd hp fO hs hc.1 hc.2.1 Dt hc.2.2
     ·simp only[als,alx] at h;obtain⟨rfl,rfl,rfl⟩:=h;exact DG ax aj ho hd hp fO hs hc.1 hc.2.2.1 hc.2.1 hc.2.2.2
    ·cases h
   ·cases h
  ·cases h
 |makeSlice T l c'=>
  simp only[dy] at h;split at h
  ·rename_i d hd;split at h
   ·rename_i e hk;split at h
    ·rename_i X7;obtain rfl:=Hi X7;split at h
     ·rename_i d' k n dv DH;split at h
      ·rename_i z hz;simp only[als,alx] at h;obtain⟨rfl,rfl,rfl⟩:=h;exact Hl ax aj ho hd hk dv DH DH hc.1 hc.2.1 hc.2.2 hz
      ·cases h
     ·cases h
    split at h
    ·rename_i d' k k' n dv hl DH;simp only[als,alx] at h;obtain⟨rfl,rfl,rfl⟩:=h;exact wX ax aj ho hd hk dv hl DH hc.1 hc.2.1 hc.2.2.1 hc.2.2.2
    ·cases h
   ·cases h
  ·cases h
 |makeMap T r'=>
  cases r' with
  |some r'=>simp[dy] at h
  |none=>
   simp only[dy] at h;split at h
   ·split at h
    ·split at h
     ·split at h
      ·simp only[als,alx] at h;obtain⟨_,rfl,rfl⟩:=h;exact rN ax ho rfl
      ·simp only[als,alx] at h;obtain⟨_,rfl,rfl⟩:=h;exact rN ax ho rfl
     ·cases h
    ·cases h
   ·cases h
 |mapUpdate T m k x=>
  simp only[dy] at h;split at h
  ·rename_i d r' a v hd hm hk hx;split at h
   ·rename_i kt et es lZ S4;split at h
    ·rename_i dk nR;split at h
     ·rename_i ik vX;simp only[als,alx] at h;obtain⟨_,rfl,rfl⟩:=h;exact oD (aac ik) ax aj ho hd lZ nR (fun u hu=>by rw[vX] at hu;exact hu) hm S4 hk hx
     ·cases h
    ·cases h
   ·cases h
  ·rename_i d r' a v hd hm hk hx;split at h
   ·rename_i kt et es lZ S4;split at h
    ·rename_i dk nR;split at h
     ·rename_i vX;simp only[als,alx] at h;obtain⟨_,rfl,rfl⟩:=h;exact oD aad ax aj ho hd lZ nR (fun u hu=>by rw[vX] at hu;exact hu) hm S4 hk hx
     ·cases h
    ·cases h
   ·cases h
  ·cases h
 |call cl=>
  simp only[dy] at h;split at h
  ·rename_i b x T T' hb hl hT;split at h
   ·rename_i ZS;subst ZS;split at h
    ·rename_i d hd;split at h
     ·rename_i e hk;split at h
      ·rename_i d' aD dv hx;split at h
       ·rename_i oB;simp only[als,alx] at h;obtain⟨rfl,rfl,rfl⟩:=h;exact kV ax aj ho hb hl hT hd hk dv hx (.inl ⟨[],.inl ⟨oB,rfl⟩,hc.1,fun _=>rfl,by simpa using hc.2,by simp,by simp⟩)
       ·rename_i els oB;simp only[als,alx] at h;obtain⟨rfl,rfl,rfl⟩:=h;exact kV ax aj ho hb hl hT hd hk dv hx (.inl ⟨els,.inr oB,hc.1,hc.2.1,hc.2.2,rfl,rfl⟩)
       ·rename_i n m oB;split at h
        ·rename_i e' size els cy;split at h
         ·rename_i lV;obtain⟨rfl,rfl,rfl⟩:=lV;simp only[als,alx] at h;obtain⟨rfl,rfl,rfl⟩:=h;exact kV ax aj ho hb hl hT hd hk dv hx (.inr ⟨false,n,els,oB,cy,hc,rfl,rfl⟩)
         ·cases h
        ·rename_i e' size els cy;split at h
         ·rename_i lV;obtain⟨rfl,rfl,rfl⟩:=lV;simp only[als,alx] at h;obtain⟨rfl,rfl,rfl⟩:=h;exact kV ax aj ho hb hl hT hd hk dv hx (.inr ⟨true,n,els,oB,cy,hc,rfl,rfl⟩)
         ·cases h
        ·cases h
       ·cases h
      ·cases h
     ·cases h
    ·cases h
   ·cases h
  ·cases h
 |_=>simp[dy] at h
end
end Go.Proofs.YtdcikhleahfknaaGreatDoor
