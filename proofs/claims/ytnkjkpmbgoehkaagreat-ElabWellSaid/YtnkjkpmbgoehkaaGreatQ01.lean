/- Lemmas. -/
import Derived.WalkKit
import Derived.CallsIn
import Derived.RangeFuncRecord
import Derived.Laws.AppendOwn
import Derived.Lib.AppendStr
import Derived.ArgAppend
namespace Go.Proofs.YtnkjkpmbgoehkaaGreat
open Go
open _root_.True renaming intro->ai
open Go.Result renaming andThen_ok->al
open Go.Sem renaming run_bind->ao,run_pure->aq
theorem aqq:type_of% @Option.some.injEq:=@Option.some.injEq
theorem aqr:type_of% @List.getElem?_eq_some_iff:=@List.getElem?_eq_some_iff
theorem aqs:type_of% @Option.some.inj:=@Option.some.inj
theorem aqt:type_of% @Prod.mk.injEq:=@Prod.mk.injEq
theorem aqu:type_of% @List.length_map:=@List.length_map
theorem aqv:type_of% @Bool.and_eq_true:=@Bool.and_eq_true
theorem aqw:type_of% @Nat.le_refl:=@Nat.le_refl
theorem aqx:type_of% @List.getElem?_eq_getElem:=@List.getElem?_eq_getElem
theorem aqy:type_of% @List.length_cons:=@List.length_cons
theorem aqz:type_of% @List.length_append:=@List.length_append
theorem aqA:type_of% @List.mem_of_getElem?:=@List.mem_of_getElem?
theorem aqB:type_of% @List.drop_eq_getElem_cons:=@List.drop_eq_getElem_cons
theorem aqC:type_of% @Nat.zero_le:=@Nat.zero_le
theorem aqD:type_of% @List.getElem?_append_left:=@List.getElem?_append_left
theorem aqE:type_of% @List.getElem?_map:=@List.getElem?_map
theorem aqF:type_of% @List.all_eq_true:=@List.all_eq_true
theorem aqG:type_of% @List.mem_cons_self:=@List.mem_cons_self
theorem aqH:type_of% @Bool.false_eq_true:=@Bool.false_eq_true
theorem aqI:type_of% @List.mem_cons_of_mem:=@List.mem_cons_of_mem
theorem aqJ:type_of% @List.mem_singleton:=@List.mem_singleton
theorem aqK:type_of% @List.drop_eq_nil_of_le:=@List.drop_eq_nil_of_le
theorem aqL:type_of% @List.getElem_mem:=@List.getElem_mem
theorem aqM:type_of% @List.getElem?_take:=@List.getElem?_take
theorem aqN:type_of% @Nat.eq_of_beq_eq_true:=@Nat.eq_of_beq_eq_true
theorem aqO:type_of% @Array.getElem?_eq_some_iff:=@Array.getElem?_eq_some_iff
theorem aqP:type_of% @List.take_of_length_le:=@List.take_of_length_le
theorem aqQ:type_of% @Nat.le_of_ble_eq_true:=@Nat.le_of_ble_eq_true
theorem aqR:type_of% @List.append_nil:=@List.append_nil
theorem aqS:type_of% @List.map_cons:=@List.map_cons
theorem aqT:type_of% @List.append_assoc:=@List.append_assoc
theorem aqU:type_of% @Nat.le_trans:=@Nat.le_trans
theorem aqV:type_of% @Nat.zero_add:=@Nat.zero_add
theorem aqW:type_of% @List.length_nil:=@List.length_nil
theorem aqX:type_of% @Nat.lt_of_lt_of_le:=@Nat.lt_of_lt_of_le
theorem aqY:type_of% @List.length_drop:=@List.length_drop
theorem aqZ:type_of% @List.mem_cons:=@List.mem_cons
theorem aq0:type_of% @Nat.le_add_right:=@Nat.le_add_right
theorem aq1:type_of% @Option.map_some:=@Option.map_some
theorem aq2:type_of% @List.getElem?_cons_succ:=@List.getElem?_cons_succ
theorem aq3:type_of% @Array.getD_eq_getD_getElem?:=@Array.getD_eq_getD_getElem?
theorem aq4:type_of% @List.eq_nil_of_length_eq_zero:=@List.eq_nil_of_length_eq_zero
theorem aq5:type_of% @List.getElem?_append_right:=@List.getElem?_append_right
theorem aq6:type_of% @List.getElem?_eq_none:=@List.getElem?_eq_none
theorem aq7:type_of% @List.mem_append:=@List.mem_append
theorem aq8:type_of% @Array.toArray_toList:=@Array.toArray_toList
theorem aq9:type_of% @Option.getD_some:=@Option.getD_some
theorem ara:type_of% @Array.length_toList:=@Array.length_toList
theorem arb:type_of% @Bool.true_and:=@Bool.true_and
theorem arc:type_of% @Bool.not_eq_true':=@Bool.not_eq_true'
theorem ard:type_of% @Nat.mul_le_mul_right:=@Nat.mul_le_mul_right
theorem arf:type_of% @Array.getElem?_eq_getElem:=@Array.getElem?_eq_getElem
theorem arh:type_of% @Bool.or_eq_true:=@Bool.or_eq_true
theorem ari:type_of% @List.getElem?_cons_zero:=@List.getElem?_cons_zero
theorem arj:type_of% @Option.bind_eq_some_iff:=@Option.bind_eq_some_iff
theorem ark:type_of% @List.ext_getElem?:=@List.ext_getElem?
theorem arl:type_of% @List.map_nil:=@List.map_nil
theorem arn:type_of% @Bool.false_and:=@Bool.false_and
theorem aro:type_of% @Option.map_eq_some_iff:=@Option.map_eq_some_iff
theorem arp:type_of% @List.length_take:=@List.length_take
theorem arq:type_of% @List.map_append:=@List.map_append
theorem ars:type_of% @List.take_append_drop:=@List.take_append_drop
theorem art:type_of% @List.length_singleton:=@List.length_singleton
theorem aru:type_of% @List.getD_eq_getElem?_getD:=@List.getD_eq_getElem?_getD
theorem arv:type_of% @Int.toNat_natCast:=@Int.toNat_natCast
theorem arw:type_of% @Nat.add_zero:=@Nat.add_zero
theorem arx:type_of% @List.mem_map:=@List.mem_map
theorem ary:type_of% @List.take_succ_eq_append_getElem:=@List.take_succ_eq_append_getElem
theorem arz:type_of% @Nat.add_mul:=@Nat.add_mul
theorem arA:type_of% @List.forall_mem_cons:=@List.forall_mem_cons
theorem arB:type_of% @List.getElem?_drop:=@List.getElem?_drop
theorem arC:type_of% @Bool.not_true:=@Bool.not_true
theorem arD:type_of% @List.map_congr_left:=@List.map_congr_left
theorem arE:type_of% @Array.setIfInBounds_comm:=@Array.setIfInBounds_comm
theorem arF:type_of% @List.nil_append:=@List.nil_append
theorem arG:type_of% @Nat.mul_one:=@Nat.mul_one
theorem arH:type_of% @List.getElem?_set:=@List.getElem?_set
theorem arI:type_of% @Bool.false_or:=@Bool.false_or
theorem arJ:type_of% @Nat.le_succ_of_le:=@Nat.le_succ_of_le
theorem arK:type_of% @List.cons_append:=@List.cons_append
theorem arL:type_of% @Array.ext':=@Array.ext'
theorem arM:type_of% @List.getElem?_of_mem:=@List.getElem?_of_mem
theorem arN:type_of% @List.length_set:=@List.length_set
theorem arO:type_of% @Nat.sub_self:=@Nat.sub_self
theorem arP:type_of% @List.eq_nil_iff_forall_not_mem:=@List.eq_nil_iff_forall_not_mem
theorem arQ:type_of% @List.all_cons:=@List.all_cons
theorem arR:type_of% @Nat.lt_succ_self:=@Nat.lt_succ_self
theorem arS:type_of% @List.mem_range:=@List.mem_range
theorem arT:type_of% @Nat.mul_le_mul:=@Nat.mul_le_mul
theorem arU:type_of% @Array.getElem?_setIfInBounds:=@Array.getElem?_setIfInBounds
theorem arV:type_of% @Array.mem_toList_iff:=@Array.mem_toList_iff
theorem arX:type_of% @List.drop_zero:=@List.drop_zero
theorem arY:type_of% @List.map_toArray:=@List.map_toArray
theorem arZ:type_of% @Array.mem_append:=@Array.mem_append
theorem ar0:type_of% @List.drop_length:=@List.drop_length
theorem ar1:type_of% @Ne.symm:=@Ne.symm
theorem ar2:type_of% @Bool.eq_iff_iff:=@Bool.eq_iff_iff
theorem ar3:type_of% @ByteArray.size_extract:=@ByteArray.size_extract
theorem ar4:type_of% @Decidable.not_not:=@Decidable.not_not
theorem ar5:type_of% @Go.heap_setCell_other:=@Go.heap_setCell_other
theorem ar6:type_of% @List.getElem?_toArray:=@List.getElem?_toArray
theorem ar7:type_of% @List.mem_append_left:=@List.mem_append_left
theorem ar8:type_of% @List.reverse_reverse:=@List.reverse_reverse
theorem ar9:type_of% @Classical.byContradiction:=@Classical.byContradiction
theorem asa:type_of% @Decidable.byContradiction:=@Decidable.byContradiction
theorem asb:type_of% @List.flatten_cons:=@List.flatten_cons
theorem asc:type_of% @List.reverse_cons:=@List.reverse_cons
theorem asd:type_of% @Nat.add_assoc:=@Nat.add_assoc
theorem ase:type_of% @Iff.rfl:=@Iff.rfl
theorem asf:type_of% @Array.toList_map:=@Array.toList_map
theorem ash:type_of% @List.flatten_nil:=@List.flatten_nil
theorem asi:type_of% @Nat.le_of_eq:=@Nat.le_of_eq
theorem asj:type_of% @Nat.not_lt_zero:=@Nat.not_lt_zero
theorem asl:type_of% @Nat.sub_zero:=@Nat.sub_zero
theorem asm:type_of% @List.contains_iff_mem:=@List.contains_iff_mem
theorem asn:type_of% @List.singleton_append:=@List.singleton_append
theorem aso:type_of% @List.take_left:=@List.take_left
theorem asp:type_of% @List.getElem?_range:=@List.getElem?_range
theorem asq:type_of% @List.takeWhile_cons:=@List.takeWhile_cons
set_option linter.unusedSimpArgs false
set_option linter.unusedVariables false
section
inductive ME where
 |i (l:List (Int×Value))
 |s (l:List (ByteArray×Value))
def BE:TypeId:=0
inductive AV where
 |top
 |ax (v:Value)
 |fn (v:Value)
 |sl (els:List AV)
 |clip (els:List AV)
 |own (r n:Nat)
 |ptr (r off:Nat)
 |aW (e:AV) (off:Nat)
 |agg (cs:List AV)
 |aK (vs:List AV)
 |bz (f:Nat) (caps:List AV)
 |mp (r:Nat)
 |fL (es:ME)
 |fV (r n i size:Nat)
 |dm (f:Nat) (first:List AV)
instance:Inhabited AV:=⟨.top⟩
def AV.cells:AV->List AV
 | .agg cs=>cs
 |v=>[v]
inductive aw where
 |dead
 |box (cs:List AV)
 |row (e size:Nat) (els:List AV)
 |cE (es:ME)
 |jy (r n:Nat)
 |bj (e size:Nat) (els:List AV)
 |fz (e m:Nat) (ns:List Int)
def aw.live:aw->Prop
 | .dead=>False
 |_=>True
def dO:Value->Option Nat
 | .pointer (some a)=>some a.block
 | .slice (some a) _ c=>if c=0 then none else some a.block
 | .map (some b)=>some b
 |_=>none
def bl (η:List Value) (hp:List aw) (r n:Nat) (v:Value):Prop:=
 match hp[r]? with
 |some (.row _ _ els)=>n<=els.length/\(n=els.length->η[r]?=some v)
 |some (.bj _ _ els)=>n<=els.length/\(n=els.length->η[r]?=some v)
 |some (.fz _ m _)=>n<=m/\(n=m->η[r]?=some v)
 |some .dead=>True
 |_=>False
def nJ (es:Array MapEntry):List (Value×Value):=es.toList.map fun e=>(e.key,e.val)
def OJ:ME->List (Value×Value)
 | .i l=>l.map fun p=>(.int .i64 p.1,p.2)
 | .s l=>l.map fun p=>(.string p.1,p.2)
inductive bB (w:World) (F:Nat->Nat->Prop):List Value->List aw->AV->Value->Prop
 |top {η:List Value} {hp:List aw} (v:Value):bB w F η hp .top v
 |ax {η:List Value} {hp:List aw} (v:Value):bB w F η hp (.ax v) v
 |fn {η:List Value} {hp:List aw} (v:Value) (h1:v.oneCell'=true):bB w F η hp (.fn v) v
 |qq {η:List Value} {hp:List aw} (a:Option Addr):bB w F η hp (.sl []) (.slice a 0 0)
 |kW {η:List Value} {hp:List aw} (a:Option Addr):bB w F η hp (.clip []) (.slice a 0 0)
 |sl {η:List Value} {hp:List aw} (size:Nat) (els:List AV) (b o c:Nat) (f:Nat->Nat->Value) (hc:els.length<=c) (hm:c<=maxLen)
   (hl:∀(i:Nat) (e:AV),els[i]?=some e->e.cells.length=size)
   (aR:∀(i:Nat) (e:AV) (j:Nat) (x:AV),els[i]?=some e->e.cells[j]?=some x->w.cell? ⟨b,o+i*size+j,none⟩=some (f i j)/\F b (o+i*size+j)/\(f i j).oneCell'=true)
   (hr:∀(i:Nat) (e:AV) (j:Nat) (x:AV),els[i]?=some e->e.cells[j]?=some x->bB w F [] [] x (f i j)):
   bB w F η hp (.sl els) (.slice (some ⟨b,o,none⟩) els.length c)
 |clip {η:List Value} {hp:List aw} (size:Nat) (els:List AV) (b o:Nat) (f:Nat->Nat->Value) (hm:els.length<=maxLen)
   (hl:∀(i:Nat) (e:AV),els[i]?=some e->e.cells.length=size)
   (aR:∀(i:Nat) (e:AV) (j:Nat) (x:AV),els[i]?=some e->e.cells[j]?=some x->w.cell? ⟨b,o+i*size+j,none⟩=some (f i j)/\F b (o+i*size+j)/\(f i j).oneCell'=true)
   (hr:∀(i:Nat) (e:AV) (j:Nat) (x:AV),els[i]?=some e->e.cells[j]?=some x->bB w F [] [] x (f i j)):
   bB w F η hp (.clip els) (.slice (some ⟨b,o,none⟩) els.length els.length)
 |own {η:List Value} {hp:List aw} (r n:Nat) (v:Value) (h1:v.oneCell'=true) (h:bl η hp r n v):bB w F η hp (.own r n) v
 |ptr {η:List Value} {hp:List aw} (r off b:Nat) (h:η[r]?=some (.pointer (some ⟨b,0,none⟩))):bB w F η hp (.ptr r off) (.pointer (some ⟨b,off,none⟩))
 |aW {η:List Value} {hp:List aw} (e:AV) (off b o:Nat) (f:Nat->Value)
   (aR:∀(j:Nat) (x:AV),e.cells[j]?=some x->w.cell? ⟨b,o+j,none⟩=some (f j)/\F b (o+j)/\(f j).oneCell'=true)
   (hr:∀(j:Nat) (x:AV),e.cells[j]?=some x->bB w F [] [] x (f j)):
   bB w F η hp (.aW e off) (.pointer (some ⟨b,o+off,none⟩))
 |agg {η:List Value} {hp:List aw} (cs:List AV) (vs:Array Value) (hl:vs.size=cs.length) (h1:∀v:Value,v∈vs->v.oneCell'=true)
   (hr:∀(j:Nat) (x:AV) (v:Value),cs[j]?=some x->vs[j]?=some v->bB w F η hp x v):bB w F η hp (.agg cs) (.agg vs)
 |aK {η:List Value} {hp:List aw} (cs:List AV) (vs:Array Value) (hl:vs.size=cs.length)
   (hr:∀(j:Nat) (x:AV) (v:Value),cs[j]?=some x->vs[j]?=some v->bB w F η hp x v):bB w F η hp (.aK cs) (.tuple vs)
 |bz {η:List Value} {hp:List aw} (fn:Nat) (cs:List AV) (vs:Array Value) (hl:vs.size=cs.length)
   (hr:∀(j:Nat) (x:AV) (v:Value),cs[j]?=some x->vs[j]?=some v->bB w F η hp x v):bB w F η hp (.bz fn cs) (.func (.func fn) #[] vs)
 |mp {η:List Value} {hp:List aw} (r b:Nat) (h:η[r]?=some (.map (some b))):bB w F η hp (.mp r) (.map (some b))
 |fL {η:List Value} {hp:List aw} (b:Nat) (es:Array MapEntry) (c:Nat) (h:w.heap[b]?=some (.map es c)) (hF:F b 0) (l:ME) (hl:nJ es=OJ l):bB w F η hp (.fL l) (.map (some b))
 |fV {η:List Value} {hp:List aw} (r n i size b o c k:Nat) (h:bl η hp r n (.slice (some ⟨b,o,none⟩) k c)):bB w F η hp (.fV r n i size) (.pointer (some ⟨b,o+i*size,none⟩))
 |dm {η:List Value} {hp:List aw} (fn:Nat) (cs:List AV) (vs:Array Value) (hl:vs.size=cs.length)
   (hr:∀(j:Nat) (x:AV) (v:Value),cs[j]?=some x->vs[j]?=some v->bB w F η hp x v):bB w F η hp (.dm fn cs) (.func (.func fn) vs #[])
structure QQ (w:World) (F:Nat->Nat->Prop) (w':World) (F':Nat->Nat->Prop):Prop where
 cell:∀b o v,F b o->w.cell? ⟨b,o,none⟩=some v->w'.cell? ⟨b,o,none⟩=some v
 kM:∀b es c,F b 0->w.heap[b]?=some (.map es c)->w'.heap[b]?=some (.map es c)
 bI:∀b o,F b o->F' b o
structure Ext (w:World) (F:Nat->Nat->Prop) (η:List Value) (hp:List aw) (w':World) (F':Nat->Nat->Prop) (bf:List Value) (hp':List aw):Prop where
 cell:∀b o v,F b o->w.cell? ⟨b,o,none⟩=some v->w'.cell? ⟨b,o,none⟩=some v
 kM:∀b es c,F b 0->w.heap[b]?=some (.map es c)->w'.heap[b]?=some (.map es c)
 bI:∀b o,F b o->F' b o
 ptr:∀(r:Nat) a,η[r]?=some (.pointer a)->bf[r]?=some (.pointer a)
 mp:∀(r:Nat) a,η[r]?=some (.map a)->bf[r]?=some (.map a)
 own:∀r n v,bl η hp r n v->bl bf hp' r n v
variable {w w':World} {F F':Nat->Nat->Prop} {η bf:List Value} {hp hp':List aw}
theorem QQ.ext (h:QQ w F w' F'):Ext w F [] [] w' F' [] []:=
 ⟨h.cell,h.kM,h.bI,fun _ _ h=>h,fun _ _ h=>h,fun _ _ _ h=>h⟩
theorem Ext.qu (h:Ext w F η hp w' F' bf hp'):QQ w F w' F':=⟨h.cell,h.kM,h.bI⟩
theorem bB.ext (h:Ext w F η hp w' F' bf hp') {x:AV} {v:Value} (hx:bB w F η hp x v):bB w' F' bf hp' x v:=by
 induction hx generalizing bf hp' with
 |top v=>exact .top v
 |ax v=>exact .ax v
 |fn v h1=>exact .fn v h1
 |qq a=>exact .qq a
 |kW a=>exact .kW a
 |sl size els b o c f hc hm hl aR _ ih=>
  exact .sl size els b o c f hc hm hl (fun i e j x hi hj=>let ⟨h1,h2,h3⟩:=aR i e j x hi hj;⟨h.cell _ _ _ h2 h1,h.bI _ _ h2,h3⟩) fun i e j x hi hj=>ih i e j x hi hj h.qu.ext
 |clip size els b o f hm hl aR _ ih=>
  exact .clip size els b o f hm hl (fun i e j x hi hj=>let ⟨h1,h2,h3⟩:=aR i e j x hi hj;⟨h.cell _ _ _ h2 h1,h.bI _ _ h2,h3⟩) fun i e j x hi hj=>ih i e j x hi hj h.qu.ext
 |own r n v h1 h2=>exact .own r n v h1 (h.own _ _ _ h2)
 |ptr r off b h1=>exact .ptr r off b (h.ptr _ _ h1)
 |aW e off b o f aR _ ih=>
  exact .aW e off b o f (fun j x hj=>let ⟨h1,h2,h3⟩:=aR j x hj;⟨h.cell _ _ _ h2 h1,h.bI _ _ h2,h3⟩) fun j x hj=>ih j x hj h.qu.ext
 |agg cs vs hl h1 _ ih=>exact .agg cs vs hl h1 fun j x v h1 h2=>ih j x v h1 h2 h
 |aK cs vs hl _ ih=>exact .aK cs vs hl fun j x v h1 h2=>ih j x v h1 h2 h
 |bz fn cs vs hl _ ih=>exact .bz fn cs vs hl fun j x v h1 h2=>ih j x v h1 h2 h
 |mp r b h1=>exact .mp r b (h.mp _ _ h1)
 |fL b es c h1 h2 l hl=>exact .fL b es c (h.kM _ _ _ h2 h1) (h.bI _ _ h2) l hl
 |fV r n i size b o c k h1=>exact .fV r n i size b o c k (h.own _ _ _ h1)
 |dm fn cs vs hl _ ih=>exact .dm fn cs vs hl fun j x v h1 h2=>ih j x v h1 h2 h
theorem bB.lift {x:AV} {v:Value} (hx:bB w F [] [] x v):bB w F η hp x v:=
 hx.ext ⟨fun _ _ _ _ h=>h,fun _ _ _ _ h=>h,fun _ _ h=>h,fun _ _ h=>by simp at h,fun _ _ h=>by simp at h,fun _ _ _ h=>by simp[bl] at h⟩
theorem Ext.trans {w1 w2 w3:World} {F1 F2 F3:Nat->Nat->Prop} {oR FE QB:List Value} {h1 h2 h3:List aw} (h:Ext w1 F1 oR h1 w2 F2 FE h2) (k:Ext w2 F2 FE h2 w3 F3 QB h3):Ext w1 F1 oR h1 w3 F3 QB h3:=
 ⟨fun b o v hf hc=>k.cell b o v (h.bI _ _ hf) (h.cell b o v hf hc),fun b es c hf hc=>k.kM b es c (h.bI _ _ hf) (h.kM b es c hf hc),fun b o hf=>k.bI _ _ (h.bI _ _ hf),
  fun r a hr=>k.ptr r a (h.ptr r a hr),fun r a hr=>k.mp r a (h.mp r a hr),fun r n v ho=>k.own r n v (h.own r n v ho)⟩
def AV.QR:AV->Bool
 | .ax v=>v.oneCell'
 | .top | .agg _ | .aK _=>false
 |_=>true
def cu (w:World) (F:Nat->Nat->Prop) (η:List Value) (hp:List aw):List AV->List Value->Prop
 | [],[]=>True
 |x::xs,v::vs=>bB w F η hp x v/\cu w F η hp xs vs
 |_,_=>False
theorem cu.length {xs:List AV} {vs:List Value} (h:cu w F η hp xs vs):vs.length=xs.length:=by
 induction xs generalizing vs with
 |nil=>cases vs<;>simp_all [cu]
 |cons x xs ih=>cases vs with
  |nil=>simp[cu] at h
  |cons v vs=>simp only[aqy];rw[ih h.2]
theorem cu.get {xs:List AV} {vs:List Value} (h:cu w F η hp xs vs):∀(j:Nat) (x:AV) (v:Value),xs[j]?=some x->vs[j]?=some v->bB w F η hp x v:=by
 induction xs generalizing vs with
 |nil=>intro j x v hx;simp at hx
 |cons x xs ih=>cases vs with
  |nil=>simp[cu] at h
  |cons v vs=>
   intro j y u hy hu
   cases j with
   |zero=>simp at hy hu;subst hy;subst hu;exact h.1
   |succ j=>exact ih h.2 j y u (by simpa using hy) (by simpa using hu)
theorem dL {xs:List AV} {vs:List Value} (hl:vs.length=xs.length) (h:∀(j:Nat) (x:AV) (v:Value),xs[j]?=some x->vs[j]?=some v->bB w F η hp x v):cu w F η hp xs vs:=by
 induction xs generalizing vs with
 |nil=>cases vs with
  |nil=>exact ai
  |cons v vs=>simp at hl
 |cons x xs ih=>cases vs with
  |nil=>simp at hl
  |cons v vs=>
   exact⟨h 0 x v rfl rfl,ih (by simpa using hl) fun j y u hy hu=>h (j+1) y u (by simpa using hy) (by simpa using hu)⟩
theorem cu.ext (h:Ext w F η hp w' F' bf hp') {xs:List AV} {vs:List Value} (hx:cu w F η hp xs vs):cu w' F' bf hp' xs vs:=
 dL hx.length fun j x v h1 h2=>(hx.get j x v h1 h2).ext h
def aas:List (Nat×List Value):=[]
def oS (b:Nat):Prop:=∃p,p∈aas/\p.1=b
def sn (w:World):Prop:=∀p,p∈aas->∃T,w.heap[p.1]?=some (.cells p.2.toArray T (0,0))
structure bV (w w':World):Prop where
 os:w'.os=w.os
 tape:w'.tape=w.tape
 output:w'.output=w.output
 size:w.heap.size<=w'.heap.size
 block:∀k,k<w.heap.size->w'.heap[k]?=w.heap[k]?
structure cG (X:Nat->Prop) (w w':World):Prop where
 os:w'.os=w.os
 tape:w'.tape=w.tape
 output:w'.output=w.output
 size:w.heap.size<=w'.heap.size
 block:∀k,k<w.heap.size->¬X k->w'.heap[k]?=w.heap[k]?
theorem bB.oT {els:List AV} {v:Value} (h:bB w F η hp (.clip els) v):bB w F η hp (.sl els) v:=by
 cases h with
 |kW a=>exact .qq a
 |clip size els b o f hm hl aR hr=>exact .sl size els b o _ f (aqw _) hm hl aR hr
def mT (w:World) (e:TypeId) (size:Nat) (v:Value) (n:Nat) (xs:List Value) (k:Nat):Prop:=
 xs.length=n*size/\((n=0/\(v=.slice none 0 0\/∃ad:Addr,v=.slice (some ad) 0 0))\/
  ∃g cap cur,v=.slice (some ⟨g,0,none⟩) n cap/\0<cap/\(∃hi,hi<=k/\w.heap[g]?=some (.cells cur e (0,hi)))/\n<=cap/\cap<=maxLen/\cur.size=cap*size/\cur.toList.take (n*size)=xs)
theorem cF {a:Addr} {n c:Nat} (h:0<c):dO (.slice (some a) n c)=some a.block:=by simp[dO];omega
theorem mT.lt {w:World} {e size n k:Nat} {v:Value} {xs:List Value} (h:mT w e size v n xs k) {b:Nat} (hb:dO v=some b):∃cz:Array Value×Nat,w.heap[b]?=some (.cells cz.1 e (0,cz.2)):=by
 rcases h.2 with⟨_,rfl|⟨ad,rfl⟩⟩|⟨g,cap,cur,rfl,h0,⟨hi,_,h1⟩,_⟩
 ·simp[dO] at hb
 ·simp[dO] at hb
 ·rw[cF h0] at hb;obtain rfl:=aqs hb;exact⟨(cur,hi),h1⟩
theorem mT.Xe {w w':World} {e size n k:Nat} {v:Value} {xs:List Value} (h:mT w e size v n xs k) (hb:∀b,dO v=some b->b<w.heap.size->w'.heap[b]?=w.heap[b]?):mT w' e size v n xs k:=by
 refine⟨h.1,?_⟩;rcases h.2 with h1|⟨g,cap,cur,rfl,h0,⟨hi,hk,h1⟩,h2⟩
 ·exact .inl h1
 ·exact .inr ⟨g,cap,cur,rfl,h0,⟨hi,hk,by rw[hb g (cF h0) (aqO.1 h1).1];exact h1⟩,h2⟩
theorem mT.more {w:World} {e size n k k':Nat} {v:Value} {xs:List Value} (h:mT w e size v n xs k) (hk:k<=k'):mT w e size v n xs k':=
 ⟨h.1,h.2.imp id fun⟨g,cap,cur,h1,h2,⟨hi,h3,h4⟩,h5⟩=>⟨g,cap,cur,h1,h2,⟨hi,aqU h3 hk,h4⟩,h5⟩⟩
def gv (w:World) (e:TypeId) (v:Value) (ns:List Int):Prop:=
 (ns=[]/\∃ad,v=.slice ad 0 0)\/
  ∃g o cap cur,v=.slice (some ⟨g,o,none⟩) ns.length cap/\0<cap/\w.heap[g]?=some (.cells cur e (0,0))/\ns.length<=cap/\cap<=maxLen/\o+cap<=cur.size/\
   ∀(i:Nat) (n:Int),ns[i]?=some n->cur[o+i]?=some (.int .i64 n)
theorem gv.lt {w:World} {e:Nat} {v:Value} {ns:List Int} (h:gv w e v ns) {b:Nat} (hb:dO v=some b):∃cur,w.heap[b]?=some (.cells cur e (0,0)):=by
 rcases h with⟨_,ad,rfl⟩|⟨g,o,cap,cur,rfl,h0,h1,_⟩
 ·cases ad<;>simp[dO] at hb
 ·rw[cF h0] at hb;obtain rfl:=aqs hb;exact⟨cur,h1⟩
theorem gv.Xe {w w':World} {e:Nat} {v:Value} {ns:List Int} (h:gv w e v ns) (hb:∀b,dO v=some b->b<w.heap.size->w'.heap[b]?=w.heap[b]?):gv w' e v ns:=by
 rcases h with h1|⟨g,o,cap,cur,rfl,h0,h1,h2⟩
 ·exact .inl h1
 ·exact .inr ⟨g,o,cap,cur,rfl,h0,by rw[hb g (cF h0) (aqO.1 h1).1];exact h1,h2⟩
theorem bV.refl (w:World):bV w w:=⟨rfl,rfl,rfl,aqw _,fun _ _=>rfl⟩
theorem bV.trans {a b c:World} (h:bV a b) (k:bV b c):bV a c:=
 ⟨k.os.trans h.os,k.tape.trans h.tape,k.output.trans h.output,aqU h.size k.size,fun i hi=>(k.block i (aqX hi h.size)).trans (h.block i hi)⟩
theorem bV.alloc (w:World) (o:Obj):bV w (w.alloc o):=⟨rfl,rfl,rfl,by simp,fun k hk=>heap_alloc_old w o hk⟩
theorem bV.drew (w:World):bV w w.drew:=⟨rfl,rfl,rfl,aqw _,fun _ _=>rfl⟩
theorem bV.keeps {w w':World} (X:Nat->Prop) (h:bV w w'):cG X w w':=⟨h.os,h.tape,h.output,h.size,fun k hk _=>h.block k hk⟩
theorem cG.same {w w':World} {X:Nat->Prop} (h:cG X w w') (hX:∀b,b<w.heap.size->¬X b):bV w w':=⟨h.os,h.tape,h.output,h.size,fun k hk=>h.block k hk (hX k hk)⟩
theorem cG.refl (X:Nat->Prop) (w:World):cG X w w:=⟨rfl,rfl,rfl,aqw _,fun _ _ _=>rfl⟩
theorem cG.trans {X Z:Nat->Prop} {a b c:World} (h:cG X a b) (k:cG Z b c) (hZ:∀i,i<a.heap.size->Z i->X i):cG X a c:=
 ⟨k.os.trans h.os,k.tape.trans h.tape,k.output.trans h.output,aqU h.size k.size,
  fun i hi hx=>(k.block i (aqX hi h.size) (fun hz=>hx (hZ i hi hz))).trans (h.block i hi hx)⟩
theorem cG.cell {X:Nat->Prop} {w w':World} (h:cG X w w') {b o:Nat} (hb:b<w.heap.size) (hx:¬X b):w'.cell? ⟨b,o,none⟩=w.cell? ⟨b,o,none⟩:=by
 simp[World.cell?,h.block b hb hx]
theorem sn.lt {w:World} (h:sn w) {b:Nat} (hb:oS b):b<w.heap.size:=by
 obtain⟨p,hp,rfl⟩:=hb;obtain⟨T,h1⟩:=h p hp;exact(aqO.1 h1).1
theorem sn.keeps {X:Nat->Prop} {w w':World} (h:sn w) (k:cG X w w') (hx:∀b,oS b->¬X b):sn w':=fun p hp=>by
 obtain⟨T,h1⟩:=h p hp;exact⟨T,by rw[k.block p.1 (h.lt ⟨p,hp,rfl⟩) (hx p.1 ⟨p,hp,rfl⟩)];exact h1⟩
theorem sn.same {w w':World} (h:sn w) (k:bV w w'):sn w':=h.keeps (k.keeps fun _=>False) fun _ _=>not_false
theorem bX {w:World} {b:Nat} {o:Obj} (h:w.heap[b]?=some o):b<w.heap.size:=(aqO.1 h).1
end
section
structure Env (G:Type) where
 P:Program
 w0:World
 F0:Nat->Nat->Prop
 X:Nat->Prop
 Y:Nat->Prop
 Inv:G->World->Prop
 nt:Nat
 Dw:Option Nat
 m0:Nat->Prop
 Z:Nat->Nat->Prop
 BF:List Value
 mU:List aw
def Env.No {G:Type} (Γ:Env G) (b o:Nat):Prop:=Γ.X b\/Γ.Z b o
structure Env.Ok {G:Type} (Γ:Env G):Prop where
 l0:Γ.BF.length=Γ.mU.length
 x:∀b,Γ.X b->b<Γ.w0.heap.size
 y:∀b,Γ.Y b->b<Γ.w0.heap.size
 qv:∀g w w',(∀b,Γ.X b->w'.heap[b]?=w.heap[b]?)->w.heap.size<=w'.heap.size->Γ.Inv g w->Γ.Inv g w'
 z:∀b o,Γ.Z b o->b<Γ.w0.heap.size
 kN:sn Γ.w0
 gx:∀b,oS b->¬(Γ.X b\/Γ.Y b)
def Env.JF {G:Type} (Γ:Env G):Prop:=Γ.Dw=none/\∀r,Γ.w0.heap.size<=r->Γ.m0 r
theorem Env.Ok.no {G:Type} {Γ:Env G} (h:Γ.Ok) {b o:Nat} (hb:Γ.No b o):b<Γ.w0.heap.size:=hb.elim (h.x b) (h.z b o)
structure AS (G:Type) where
 tmps:Nat->AV
 hp:List aw
 g:G
def lS (η:List Value) (hp:List aw) (b o:Nat):Prop:=
 ∀(r:Nat) (v:Value),η[r]?=some v->dO v=some b->
  match hp[r]? with
  |some (.row _ size els)=>o<els.length*size
  |some .dead=>True
  |_=>False
def bt {G:Type} (Γ:Env G) (w:World) (η:List Value) (hp:List aw) (b o:Nat):Prop:=
 (Γ.F0 b o\/Γ.w0.heap.size<=b\/Γ.Y b)/\b<w.heap.size/\¬Γ.No b o/\lS η hp b o
def lT (w:World) (F:Nat->Nat->Prop) (η:List Value) (hp:List aw):aw->Value->Prop
 | .dead,_=>True
 | .box cs,v=>∃(b:Nat) (vs:Array Value) (T:TypeId),v=.pointer (some ⟨b,0,none⟩)/\w.heap[b]?=some (.cells vs T (0,0))/\vs.size=cs.length/\
   ∀(j:Nat) (x:AV) (u:Value),cs[j]?=some x->vs[j]?=some u->bB w F η hp x u/\u.oneCell'=true
 | .row e size els,v=>0<size/\∃xs:List Value,mT w e size v els.length xs (els.length*size)/\
   ∀(i:Nat) (el:AV),els[i]?=some el->el.cells.length=size/\
    ∀(j:Nat) (x:AV),el.cells[j]?=some x->∃u,xs[i*size+j]?=some u/\bB w F [] [] x u/\u.oneCell'=true
 | .jy r n,v=>∃(b:Nat) (vs:Array Value),v=.pointer (some ⟨b,0,none⟩)/\w.heap[b]?=some (.cells vs BE (0,0))/\(vs.size=2/\(n=0->vs[1]?=some (.slice none 0 0)))/\(vs[0]?=some (.pointer none)\/vs[0]?=some v)/\∃u,vs[1]?=some u/\bB w F η hp (.own r n) u
 | .cE es,v=>∃(b:Nat) (en:Array MapEntry) (c:Nat),v=.map (some b)/\w.heap[b]?=some (.map en c)/\nJ en=OJ es
 | .bj e size els,v=>0<size/\∃xs:List Value,mT w e size v els.length xs 0/\
   ∀(i:Nat) (el:AV),els[i]?=some el->el.cells.length=size/\
    ∀(j:Nat) (x:AV),el.cells[j]?=some x->∃u,xs[i*size+j]?=some u/\bB w F [] [] x u/\u.oneCell'=true
 | .fz e _ ns,v=>gv w e v ns
structure eu (w:World) (F:Nat->Nat->Prop) (η:List Value) (hp:List aw):Prop where
 len:η.length=hp.length
 obj:∀(r:Nat) (o:aw) (v:Value),hp[r]?=some o->η[r]?=some v->lT w F η hp o v
 sep:∀(r r':Nat) (o o':aw) (v v':Value) (b:Nat),r≠r'->hp[r]?=some o->hp[r']?=some o'->o.live->o'.live->
  η[r]?=some v->η[r']?=some v'->dO v=some b->dO v'≠some b
def xL {G:Type} (Γ:Env G) (η:List Value) (hp:List aw):Prop:=
 ∀(r:Nat) (o:aw) (v:Value) (b:Nat),hp[r]?=some o->o.live->η[r]?=some v->dO v=some b->(Γ.w0.heap.size<=b\/Γ.Y b)/\∀o,¬Γ.No b o
structure Marks (N:Nat->Prop) (ds:List Deferred) (w:World):Prop where
 all:∀d,d∈ds->∃r,d.target=.collected r/\w.heap[r]?=some (.deferred (some []))/\N r
 apart:ds.Pairwise fun d d'=>d.target≠d'.target
structure Rel {G:Type} (Γ:Env G) (s:AS G) (a:Act) (w:World) (η:List Value):Prop where
 nt:a.tmps.size=Γ.nt
 tmps:∀t,bB w (bt Γ w η s.hp) η s.hp (s.tmps t) (a.tmps.getD t undef)
 heap:eu w (bt Γ w η s.hp) η s.hp
 cq:xL Γ η s.hp
 keeps:cG (fun b=>Γ.X b\/Γ.Y b) Γ.w0 w
 inv:Γ.Inv s.g w
 marks:Marks Γ.m0 a.defers w
 ext:Ext Γ.w0 Γ.F0 Γ.BF Γ.mU w (bt Γ w η s.hp) η s.hp
def Bz (f:Nat->AV) (t:Nat) (x:AV):Nat->AV:=fun u=>if u=t then x else f u
theorem gV (f:Nat->AV) (t:Nat) (x:AV) (u:Nat):Bz f t x u=if u=t then x else f u:=rfl
def AS.put {G:Type} (s:AS G) (d:Option Nat) (x:AV):AS G:=
 match d with
 |some d=>{ s with tmps:=Bz s.tmps d x }
 |none=>s
variable {G:Type} {Γ:Env G} {s:AS G} {a:Act} {w w':World} {η bf:List Value} {hp:List aw}
theorem cG.marks {X:Nat->Prop} {N:Nat->Prop} {ds:List Deferred} (h:Marks N ds w) (k:cG X w w') (hX:∀b,X b->¬N b\/∀d,w.heap[b]?≠some (.deferred d)):Marks N ds w':=by
 refine⟨fun d hd=>?_,h.apart⟩;obtain⟨r,h1,h2,h3⟩:=h.all d hd;refine⟨r,h1,?_,h3⟩;rw[k.block r (bX h2)]
 ·exact h2
 ·intro hx;rcases hX r hx with h4|h4
  ·exact h4 h3
  ·exact h4 _ h2
theorem qw (hs:bV w w') (hF:∀b o,bt Γ w η hp b o->b<w.heap.size):Ext w (bt Γ w η hp) η hp w' (bt Γ w' η hp) η hp where
 cell b o v hf hc:=by rw[World.cell?_of_block (hs.block b (hF b o hf))];exact hc
 kM b es c hf hc:=by rw[hs.block b (hF b 0 hf)];exact hc
 bI b o hf:=⟨hf.1,aqX hf.2.1 hs.size,hf.2.2⟩
 ptr _ _ h:=h
 mp _ _ h:=h
 own _ _ _ h:=h
theorem fh {b o:Nat} (h:bt Γ w η hp b o):b<w.heap.size:=h.2.1
theorem lT.ext {F F':Nat->Nat->Prop} {hp':List aw} {o:aw} {v:Value} (h:lT w F η hp o v) (he:Ext w F η hp w' F' bf hp') (cx:w.heap.size<=w'.heap.size)
  (hb:∀b,dO v=some b->b<w.heap.size->w'.heap[b]?=w.heap[b]?):lT w' F' bf hp' o v:=by
 cases o with
 |dead=>exact ai
 |box cs=>
  obtain⟨b,vs,T,rfl,h1,h2,h3⟩:=h;exact⟨b,vs,T,rfl,by rw[hb b rfl (bX h1)];exact h1,h2,fun j x u hx hu=>⟨(h3 j x u hx hu).1.ext he,(h3 j x u hx hu).2⟩⟩
 |row e size els=>
  obtain⟨h0,xs,h1,h2⟩:=h;refine⟨h0,xs,h1.Xe hb,fun i el hi=>⟨(h2 i el hi).1,fun j x hj=>?_⟩⟩
  ·obtain⟨u,h3,h4,h5⟩:=(h2 i el hi).2 j x hj;exact⟨u,h3,h4.ext he.qu.ext,h5⟩
 |jy q k=>
  obtain⟨b,vs,rfl,h1,h2,h3,u,h4,h5⟩:=h;exact⟨b,vs,rfl,by rw[hb b rfl (bX h1)];exact h1,h2,h3,u,h4,h5.ext he⟩
 |cE es=>
  obtain⟨b,en,c,rfl,h1,h2⟩:=h;exact⟨b,en,c,rfl,by rw[hb b rfl (bX h1)];exact h1,h2⟩
 |bj e size els=>
  obtain⟨h0,xs,h1,h2⟩:=h;refine⟨h0,xs,h1.Xe hb,fun i el hi=>⟨(h2 i el hi).1,fun j x hj=>?_⟩⟩
  ·obtain⟨u,h3,h4,h5⟩:=(h2 i el hi).2 j x hj;exact⟨u,h3,h4.ext he.qu.ext,h5⟩
 |fz e m ns=>exact gv.Xe h hb
theorem eu.same (h:eu w (bt Γ w η hp) η hp) (hs:bV w w'):eu w' (bt Γ w' η hp) η hp:=
 ⟨h.len,fun r o v h1 h2=>(h.obj r o v h1 h2).ext (qw hs fun _ _=>fh) hs.size fun b _ aH=>hs.block b aH,h.sep⟩
theorem cG.Dx {X:Nat->Prop} {w0:World} (h:cG X w0 w) (hs:bV w w'):cG X w0 w':=
 h.trans (hs.keeps fun _=>False) fun _ _ hf=>hf.elim
theorem Rel.same (aE:Γ.Ok) (h:Rel Γ s a w η) (hs:bV w w'):Rel Γ s a w' η where
 nt:=h.nt
 tmps t:=(h.tmps t).ext (qw hs fun _ _=>fh)
 heap:=h.heap.same hs
 cq:=h.cq
 keeps:=h.keeps.Dx hs
 inv:=aE.qv _ _ _ (fun b hb=>hs.block b (aqX (aE.x b hb) h.keeps.size)) hs.size h.inv
 marks:=(hs.keeps fun _=>False).marks h.marks fun _ hf=>hf.elim
 ext:=h.ext.trans (qw hs fun _ _=>fh)
theorem Rel.kN (aE:Γ.Ok) (h:Rel Γ s a w η):sn w:=aE.kN.keeps h.keeps aE.gx
theorem Rel.put (h:Rel Γ s a w η) {d:Option Nat} {x:AV} {v:Value} (hd:∀t,d=some t->t<Γ.nt) (hr:bB w (bt Γ w η s.hp) η s.hp x v):Rel Γ (s.put d x) (a.put d v) w η:=by
 cases d with
 |none=>exact h
 |some d=>
  refine⟨by simpa [Act.put] using h.nt,fun t=>?_,h.heap,h.cq,h.keeps,h.inv,h.marks,h.ext⟩;show bB w _ η s.hp (Bz s.tmps d x t) ((a.tmps.setIfInBounds d v).getD t undef)
  by_cases htd:t=d
  ·subst htd;have aH:t<a.tmps.size:=by rw[h.nt];exact hd t rfl
   have e:(a.tmps.setIfInBounds t v).getD t undef=v:=by simp[aH]
   rw[gV,if_pos rfl,e];exact hr
  ·have e:(a.tmps.setIfInBounds d v).getD t undef=a.tmps.getD t undef:=by
    simp only[aq3];rw[Array.getElem?_setIfInBounds_ne (ar1 htd)]
   rw[gV,if_neg htd,e];exact h.tmps t
def AS.add (s:AS G) (o:aw):AS G:={ s with hp:=s.hp++[o] }
theorem cQ {α:Type} {l:List α} {x y:α} {r:Nat} (h:l[r]?=some y):(l++[x])[r]?=some y:=by
 rw[aqD (aqr.1 h).1];exact h
theorem ea {α:Type} {l:List α} {x y:α} {r:Nat} (h:(l++[x])[r]?=some y):l[r]?=some y\/(r=l.length/\y=x):=by
 rcases Nat.lt_trichotomy r l.length with h1|h1|h1
 ·rw[aqD h1] at h;exact .inl h
 ·subst h1;simp at h;exact .inr ⟨rfl,h.symm⟩
 ·rw[aq5 (by omega)] at h;have:r-l.length≠0:=by omega
  cases hk:r-l.length with
  |zero=>omega
  |succ k=>rw[hk] at h;simp at h
theorem lS.snoc {o:aw} {v:Value} {b k:Nat} (hl:η.length=hp.length) (h:lS η hp b k) (hv:dO v=some b->False):lS (η++[v]) (hp++[o]) b k:=by
 intro r u hu hb;rcases ea hu with h1|⟨rfl,rfl⟩
 ·have:=h r u h1 hb;have hr:r<hp.length:=by rw[<-hl];exact(aqr.1 h1).1
  rw[aqD hr];exact this
 ·exact(hv hb).elim
theorem bl.snoc {o:aw} {v u:Value} {r n:Nat} (h:bl η hp r n u):bl (η++[v]) (hp++[o]) r n u:=by
 unfold bl at h ⊢
 cases hr:hp[r]? with
 |none=>simp[hr] at h
 |some x=>
  rw[cQ hr];rw[hr] at h
  cases x with
  |row e size els=>exact⟨h.1,fun hn=>cQ (h.2 hn)⟩
  |dead=>exact ai
  |box cs=>exact h
  |cE es=>exact h
  |jy q k=>exact h
  |bj e size els=>exact⟨h.1,fun hn=>cQ (h.2 hn)⟩
  |fz e m ns=>exact⟨h.1,fun hn=>cQ (h.2 hn)⟩
theorem tQ {o:aw} {v:Value} (hl:η.length=hp.length) (hs:bV w w') (hv:∀b,dO v=some b->w.heap.size<=b):
  Ext w (bt Γ w η hp) η hp w' (bt Γ w' (η++[v]) (hp++[o])) (η++[v]) (hp++[o]) where
 cell b k u hf hc:=by rw[World.cell?_of_block (hs.block b (fh hf))];exact hc
 kM b es c hf hc:=by rw[hs.block b (fh hf)];exact hc
 bI b k hf:=⟨hf.1,aqX hf.2.1 hs.size,hf.2.2.1,hf.2.2.2.snoc hl fun hb=>by have:=hv b hb;have:=fh hf;omega⟩
 ptr _ _ h:=cQ h
 mp _ _ h:=cQ h
 own _ _ _ h:=h.snoc
theorem Rel.add (aE:Γ.Ok) (h:Rel Γ s a w η) {o:aw} {v:Value} (hs:bV w w') (hv:∀b,dO v=some b->w.heap.size<=b)
  (ho:lT w' (bt Γ w' (η++[v]) (s.hp++[o])) (η++[v]) (s.hp++[o]) o v):Rel Γ (s.add o) a w' (η++[v]):=by
 have he:=tQ (Γ:=Γ) (o:=o) (v:=v) h.heap.len hs hv;have cx:=h.keeps.size;have mM:∀(r:Nat) (u:Value) (b:Nat),η[r]?=some u->dO u=some b->b<w.heap.size\/¬∃o:aw,s.hp[r]?=some o/\o.live:=by
  intro r u b hu hb
  by_cases aH:b<w.heap.size
  ·exact .inl aH
  ·refine .inr fun⟨o',BH,hli⟩=>aH ?_;have eX:=h.heap.obj r o' u BH hu
   cases o' with
   |dead=>exact hli.elim
   |box cs=>obtain⟨b',vs,T,rfl,h1,_⟩:=eX;simp only[dO,aqq] at hb;subst hb;exact bX h1
   |row e size els=>
    obtain⟨_,xs,h1,_⟩:=eX;obtain⟨cur,h5⟩:=h1.lt hb;exact bX h5
   |cE es=>obtain⟨b',en,c,rfl,h1,_⟩:=eX;simp only[dO,aqq] at hb;subst hb;exact bX h1
   |jy q k=>obtain⟨b',vs,rfl,h1,_⟩:=eX;simp only[dO,aqq] at hb;subst hb;exact bX h1
   |bj e size els=>
    obtain⟨_,xs,h1,_⟩:=eX;obtain⟨cur,h5⟩:=h1.lt hb;exact bX h5
   |fz e m ns=>obtain⟨cur,h5⟩:=gv.lt eX hb;exact bX h5
 refine⟨h.nt,fun t=>(h.tmps t).ext he,⟨by simp[AS.add,h.heap.len],?_,?_⟩,?_,h.keeps.Dx hs,
  aE.qv _ _ _ (fun b hb=>hs.block b (aqX (aE.x b hb) h.keeps.size)) hs.size h.inv,(hs.keeps fun _=>False).marks h.marks fun _ hf=>hf.elim,h.ext.trans he⟩
 ·intro r o' u h1 h2;rcases ea h1 with h3|⟨rfl,rfl⟩
  ·rcases ea h2 with h4|⟨rfl,rfl⟩
   ·exact(h.heap.obj r o' u h3 h4).ext he hs.size fun b _ aH=>hs.block b aH
   ·have:=(aqr.1 h3).1;have:=h.heap.len;omega
  ·have:(η++[v])[s.hp.length]?=some v:=by rw[<-h.heap.len];simp
   rw[this] at h2;obtain rfl:=aqs h2;exact ho
 ·intro r r' o1 o2 v1 v2 b cg h1 h2 l1 l2 e1 e2 hb;rcases ea h1 with h3|⟨rfl,rfl⟩<;>rcases ea h2 with h4|⟨rfl,rfl⟩
  ·have hr:r<η.length:=by rw[h.heap.len];exact(aqr.1 h3).1
   have gy:r' < η.length:=by rw[h.heap.len];exact(aqr.1 h4).1
   rw[aqD hr] at e1;rw[aqD gy] at e2;exact h.heap.sep r r' o1 o2 v1 v2 b cg h3 h4 l1 l2 e1 e2 hb
  ·have hr:r<η.length:=by rw[h.heap.len];exact(aqr.1 h3).1
   rw[aqD hr] at e1;have:(η++[v])[s.hp.length]?=some v:=by rw[<-h.heap.len];simp
   rw[this] at e2;obtain rfl:=aqs e2;intro gz;have:=hv b gz;rcases mM r v1 b e1 hb with h5|h5
   ·omega
   ·exact h5 ⟨o1,h3,l1⟩
  ·have gy:r' < η.length:=by rw[h.heap.len];exact(aqr.1 h4).1
   rw[aqD gy] at e2;have:(η++[v])[s.hp.length]?=some v:=by rw[<-h.heap.len];simp
   rw[this] at e1;obtain rfl:=aqs e1;intro gz;have:=hv b hb;rcases mM r' v2 b e2 gz with h5|h5
   ·omega
   ·exact h5 ⟨o2,h4,l2⟩
  ·exact(cg rfl).elim
 ·intro r o' u b h1 hli h2 hb;rcases ea h1 with h3|⟨rfl,rfl⟩
  ·have hr:r<η.length:=by rw[h.heap.len];exact(aqr.1 h3).1
   rw[aqD hr] at h2;exact h.cq r o' u b h3 hli h2 hb
  ·have:(η++[v])[s.hp.length]?=some v:=by rw[<-h.heap.len];simp
   rw[this] at h2;obtain rfl:=aqs h2;have h5:=hv b hb;exact⟨.inl (aqU cx h5),fun o hx=>by have:=aE.no hx;omega⟩
end
section
variable {G:Type} {Γ:Env G} {s:AS G} {a:Act} {w w':World} {η bf:List Value} {hp:List aw}
theorem getElem?_set_ne {α:Type} {l:List α} {r r':Nat} {x:α} (h:r≠r'):(l.set r x)[r']?=l[r']?:=by
 rw[arH];simp[h]
theorem aB {α:Type} {l:List α} {r:Nat} {x y:α} (h:l[r]?=some y):(l.set r x)[r]?=some x:=by
 rw[arH];simp[(aqr.1 h).1]
def aw.bI (k:Nat):aw->Prop
 | .row _ size els=>k<els.length*size
 | .dead=>True
 |_=>False
theorem bm (b k:Nat):lS η hp b k↔∀(r:Nat) (v:Value),η[r]?=some v->dO v=some b->∃o,hp[r]?=some o/\o.bI k:=by
 constructor
 ·intro h r v h1 h2;have:=h r v h1 h2
  cases hr:hp[r]? with
  |none=>simp[hr] at this
  |some o=>rw[hr] at this;refine⟨o,rfl,?_⟩;cases o<;>exact this
 ·intro h r v h1 h2;obtain⟨o,h3,h4⟩:=h r v h1 h2;rw[h3]
  cases o<;>exact h4
theorem eu.block (h:eu w (bt Γ w η hp) η hp) {r:Nat} {o:aw} {u:Value} {b:Nat} (ho:hp[r]?=some o) (hl:o.live) (hu:η[r]?=some u) (hb:dO u=some b):b<w.heap.size:=by
 have eX:=h.obj r o u ho hu
 cases o with
 |dead=>exact hl.elim
 |box cs=>obtain⟨b',vs,T,rfl,h1,_⟩:=eX;simp only[dO,aqq] at hb;subst hb;exact bX h1
 |row e size els=>
  obtain⟨_,xs,h1,_⟩:=eX;obtain⟨cur,h5⟩:=h1.lt hb;exact bX h5
 |cE es=>obtain⟨b',en,c,rfl,h1,_⟩:=eX;simp only[dO,aqq] at hb;subst hb;exact bX h1
 |jy q k=>obtain⟨b',vs,rfl,h1,_⟩:=eX;simp only[dO,aqq] at hb;subst hb;exact bX h1
 |bj e size els=>
  obtain⟨_,xs,h1,_⟩:=eX;obtain⟨cur,h5⟩:=h1.lt hb;exact bX h5
 |fz e m ns=>obtain⟨cur,h5⟩:=gv.lt eX hb;exact bX h5
theorem Rel.change (aE:Γ.Ok) (h:Rel Γ s a w η) {r:Nat} {o o':aw} {v v':Value} (hr:s.hp[r]?=some o) (fB:o.live) (hv:η[r]?=some v)
  (hk:cG (fun k=>dO v=some k) w w') (QC:∀b,dO v'=some b->dO v=some b\/w.heap.size<=b)
  (kp:∀k,o.bI k->o'.bI k)
  (aR:∀b k u,dO v=some b->o.bI k->w.cell? ⟨b,k,none⟩=some u->w'.cell? ⟨b,k,none⟩=some u)
  (adS:∀b es c,dO v=some b->o.bI 0->w.heap[b]?=some (.map es c)->False)
  (vF:∀n u,bl η s.hp r n u->bl (η.set r v') (s.hp.set r o') r n u)
  (ajm:∀x,v=.pointer x->v'=v) (hmp:∀x,v=.map x->v'=v)
  (aby:∀b d,dO v=some b->w.heap[b]?=some (.deferred d)->False)
  (BH:Ext w (bt Γ w η s.hp) η s.hp w' (bt Γ w' (η.set r v') (s.hp.set r o')) (η.set r v') (s.hp.set r o')->lT w' (bt Γ w' (η.set r v') (s.hp.set r o')) (η.set r v') (s.hp.set r o') o' v'):
  Rel Γ { s with hp:=s.hp.set r o' } a w' (η.set r v'):=by
 have eX:∀b k,bt Γ w η s.hp b k->dO v=some b->o.bI k:=fun b k hf hb=>by
  obtain⟨o1,h1,h2⟩:=(bm b k).1 hf.2.2.2 r v hv hb;rw[hr] at h1;obtain rfl:=aqs h1;exact h2
 have he:Ext w (bt Γ w η s.hp) η s.hp w' (bt Γ w' (η.set r v') (s.hp.set r o')) (η.set r v') (s.hp.set r o'):=by
  refine⟨fun b k u hf hc=>?_,fun b es c hf hc=>?_,fun b k hf=>?_,fun r1 x h1=>?_,fun r1 x h1=>?_,fun r1 n u h1=>?_⟩
  ·by_cases hb:dO v=some b
   ·exact aR b k u hb (eX b k hf hb) hc
   ·rw[hk.cell (fh hf) hb];exact hc
  ·by_cases hb:dO v=some b
   ·exact(adS b es c hb (eX b 0 hf hb) hc).elim
   ·rw[hk.block b (fh hf) hb];exact hc
  ·refine⟨hf.1,aqX hf.2.1 hk.size,hf.2.2.1,(bm b k).2 fun r1 u h1 hb=>?_⟩
   by_cases cg:r=r1
   ·subst cg;rw[aB hv] at h1;obtain rfl:=aqs h1;refine⟨o',aB hr,?_⟩;rcases QC b hb with h2|h2
    ·exact kp k (eX b k hf h2)
    ·have:=fh hf;omega
   ·rw[getElem?_set_ne cg] at h1 ⊢;exact(bm b k).1 hf.2.2.2 r1 u h1 hb
  ·by_cases cg:r=r1
   ·subst cg;rw[hv] at h1;obtain rfl:=aqs h1;rw[aB hv,ajm _ rfl]
   ·rw[getElem?_set_ne cg];exact h1
  ·by_cases cg:r=r1
   ·subst cg;rw[hv] at h1;obtain rfl:=aqs h1;rw[aB hv,hmp _ rfl]
   ·rw[getElem?_set_ne cg];exact h1
  ·by_cases cg:r=r1
   ·subst cg;exact vF n u h1
   ·unfold bl at h1 ⊢;rw[getElem?_set_ne cg,getElem?_set_ne cg];exact h1
 refine⟨h.nt,fun t=>(h.tmps t).ext he,⟨by simp[h.heap.len],fun r1 o1 u h1 h2=>?_,fun r1 r2 o1 o2 v1 v2 b cg h1 h2 l1 l2 e1 e2 hb=>?_⟩,fun r1 o1 u b h1 hl h2 hb=>?_,?_,?_,?_,h.ext.trans he⟩
 ·simp only at h1
  by_cases cg:r=r1
  ·subst cg;rw[aB hr] at h1;rw[aB hv] at h2;obtain rfl:=aqs h1;obtain rfl:=aqs h2;exact BH he
  ·rw[getElem?_set_ne cg] at h1 h2
   by_cases QD:o1.live
   ·exact(h.heap.obj r1 o1 u h1 h2).ext he hk.size fun b hb aH=>hk.block b aH fun gz=>h.heap.sep r1 r o1 o u v b (ar1 cg) h1 hr QD fB h2 hv hb gz
   ·cases o1<;>first|exact ai|exact(QD ai).elim
 ·simp only at h1 h2
  by_cases n1:r=r1
  ·subst n1;rw[aB hv] at e1;obtain rfl:=aqs e1;rw[getElem?_set_ne cg] at h2 e2;intro gz;rcases QC b hb with h3|h3
   ·exact h.heap.sep r r2 o o2 v v2 b cg hr h2 fB l2 hv e2 h3 gz
   ·have:=h.heap.block h2 l2 e2 gz;omega
  ·rw[getElem?_set_ne n1] at h1 e1
   by_cases n2:r=r2
   ·subst n2;rw[aB hv] at e2;obtain rfl:=aqs e2;intro gz;rcases QC b gz with h3|h3
    ·exact h.heap.sep r r1 o o1 v v1 b (fun e=>n1 e) hr h1 fB l1 hv e1 h3 hb
    ·have:=h.heap.block h1 l1 e1 hb;omega
   ·rw[getElem?_set_ne n2] at h2 e2;exact h.heap.sep r1 r2 o1 o2 v1 v2 b cg h1 h2 l1 l2 e1 e2 hb
 ·simp only at h1
  by_cases cg:r=r1
  ·subst cg;rw[aB hv] at h2;obtain rfl:=aqs h2;rcases QC b hb with h3|h3
   ·exact h.cq r o v b hr fB hv h3
   ·exact⟨.inl (aqU h.keeps.size h3),fun o hx=>by have:=aE.no hx;have:=h.keeps.size;omega⟩
  ·rw[getElem?_set_ne cg] at h1 h2;exact h.cq r1 o1 u b h1 hl h2 hb
 ·refine h.keeps.trans hk fun b hb wH=>?_;rcases (h.cq r o v b hr fB hv wH).1 with h1|h1
  ·omega
  ·exact .inr h1
 ·refine aE.qv _ _ _ (fun b hb=>hk.block b (aqX (aE.x b hb) h.keeps.size) fun wH=>?_) hk.size h.inv;exact(h.cq r o v b hr fB hv wH).2 0 (.inl hb)
 ·exact hk.marks h.marks fun b wH=>.inr fun d hd=>aby b d wH hd
def setCells (cs:List AV) (off:Nat):List AV->List AV
 | []=>cs
 |x::xs=>setCells (cs.set off x) (off+1) xs
theorem xM (xs:List AV):∀(cs:List AV) (off:Nat),(setCells cs off xs).length=cs.length:=by
 induction xs with
 |nil=>intro cs off;rfl
 |cons x xs ih=>intro cs off;simp[setCells,ih]
theorem Rel.write (aE:Γ.Ok) (h:Rel Γ s a w η) {r off b:Nat} {cs:List AV} {x:AV} {v:Value} (hr:s.hp[r]?=some (.box cs)) (hv:η[r]?=some (.pointer (some ⟨b,0,none⟩)))
  (Xf:off<cs.length) (h1:v.oneCell'=true) (hx:bB w (bt Γ w η s.hp) η s.hp x v):
  Rel Γ { s with hp:=s.hp.set r (.box (cs.set off x)) } a (w.setCell ⟨b,off,none⟩ v) η/\w.frozen? ⟨b,off,none⟩=false/\∃u,w.cell? ⟨b,off,none⟩=some u:=by
 have eX:=h.heap.obj r _ _ hr hv;obtain⟨b',vs,T,he,hg,cx,hc⟩:=eX;simp only[Value.pointer.injEq,aqq,Addr.mk.injEq,and_true] at he;subst he;have xN:(w.setCell ⟨b,off,none⟩ v).heap[b]?=some (.cells (vs.setIfInBounds off v) T (0,0)):=Go.heap_setCell_same w b off vs T v hg;have fF:η.set r (.pointer (some ⟨b,0,none⟩))=η:=by
  apply ark;intro i
  by_cases hi:r=i
  ·subst hi;rw[aB hv,hv]
  ·rw[getElem?_set_ne hi]
 refine⟨?_,frozen_of_row w b off vs T hg,?_⟩
 ·have:=Rel.change (w':=w.setCell ⟨b,off,none⟩ v) (o':=.box (cs.set off x)) (v':=.pointer (some ⟨b,0,none⟩)) aE h hr ai hv
   ⟨rfl,rfl,rfl,by simp[World.setCell],fun k hk hb=>ar5 w _ k v (by intro e;exact hb (by rw[e];rfl))⟩
   (fun c hc=>.inl hc) (fun k hk=>hk.elim) (fun _ _ _ _ hk=>hk.elim) (fun _ _ _ _ hk=>hk.elim)
   (fun n u ho=>by simp[bl,hr] at ho)
   (fun _ _=>rfl) (fun _ hx=>by cases hx)
   (fun c d hb hd=>by simp only[dO,aqq] at hb;subst hb;rw[hg] at hd;cases hd)
   (fun he=>⟨b,vs.setIfInBounds off v,T,rfl,xN,by simp[cx],fun j y u hy hu=>by
    by_cases hj:off=j
    ·subst hj;have aH:off<vs.size:=by rw[cx];exact Xf
     have e1:(cs.set off x)[off]?=some x:=by rw[arH];simp[Xf]
     have e2:(vs.setIfInBounds off v)[off]?=some v:=by rw[arU];simp[aH]
     rw[e1] at hy;rw[e2] at hu;obtain rfl:=aqs hy;obtain rfl:=aqs hu;exact⟨hx.ext he,h1⟩
    ·rw[getElem?_set_ne hj] at hy;have e2:(vs.setIfInBounds off v)[j]?=vs[j]?:=by rw[arU];simp[hj]
     rw[e2] at hu
     exact⟨(hc j y u hy hu).1.ext he,(hc j y u hy hu).2⟩⟩)
  rw[fF] at this;exact this
 ·rw[cell_of_row w b off vs T (0,0) hg];exact⟨vs[off]'(by rw[cx];exact Xf),by simp[cx,Xf]⟩
end
section
inductive TK where
 |other
 |int (k:IntKind)
 |str
 |bool
 |bH (fields:List (Nat×Nat×Bool))
 |lU (e:Nat)
 |qo (k e:Nat)
 |ptr (e:Nat)
 |arr (n:Nat)
 |ifc
structure TD where
 flat:Bool:=false
 four:Bool:=false
 kind:TK
 size:Nat
 bytes:Nat
 zero:Value
def TK.agg:TK->Bool
 | .bH _=>true
 | .arr _=>true
 |_=>false
def QS:TypeDesc->Bool
 | .struct _ | .array _ _=>true
 |_=>false
def TK.fits (P:Program) (u:TypeDesc):TK->Prop
 | .other=>(match u with | .struct _ | .array _ _=>False|_=>True)
 | .int k=>u=.int k
 | .str=>u=.string
 | .bool=>u=.bool
 | .bH fs=>∃fields,u=.struct fields/\fields.toList.map (fun f=>(f.offset,(P.info? f.type).map (·.size),(P.underlying f.type).map QS))=fs.map fun p=>(p.1,some p.2.1,some p.2.2)
 | .lU e=>u=.slice e
 | .qo k e=>u=.map k e
 | .ptr e=>u=.pointer e
 | .ifc=>∃ms,u=.interface ms
 | .arr n=>∃e i,u=.array n e/\P.info? e=some i/\i.size=1
structure fM (P:Program) (T:TypeId) (d:TD):Prop where
 info:∃i,P.info? T=some i/\i.size=d.size/\i.bytes=d.bytes/\i.zero=some d.zero
 mK:∃u,P.underlying T=some u/\d.kind.fits P u
 LR:d.zero.cells.size=d.size
 ajn:∀v:Value,v∈d.zero.cells->v.oneCell'=true
 anW:d.kind.agg=true->∃cs,d.zero=.agg cs
 aat:d.kind.agg=false->d.size=1/\d.zero.oneCell'=true
 feq:d.flat=true->P.eqGuardType P.depth T=false/\∀(w:World) (a1 a2 b1 b2:Int),(Op.equalIn 10000 T (.agg #[.int .i64 a1,.int .i64 a2]) (.agg #[.int .i64 b1,.int .i64 b2])).run P w=.ok (a1==b1&&a2==b2) w
 ajo:d.four=true->P.eqGuardType P.depth T=false/\∀(w:World) (a0 a1 a2 b0 b1 b2:Int) (s t:ByteArray),(Op.equalIn 10000 T (.agg #[.int .i64 a0,.int .i64 a1,.int .i64 a2,.string s]) (.agg #[.int .i64 b0,.int .i64 b1,.int .i64 b2,.string t])).run P w=.ok (a0==b0&&((a1==b1&&a2==b2)&&s.toList==t.toList)) w
def bc (P:Program) (tab:Nat->Option TD):Prop:=∀T d,tab T=some d->fM P T d
variable {G:Type} {Γ:Env G} {s:AS G} {a:Act} {w w':World} {η:List Value} {hp:List aw} {F:Nat->Nat->Prop} {P:Program}
theorem fM.OK {T:TypeId} {d:TD} (h:fM P T d) (w:World):(isAgg T).run P w=.ok d.kind.agg w:=by
 obtain⟨u,h1,h2⟩:=h.mK;simp only[isAgg,ao,run_underlying h1,al];revert h2
 cases hk:d.kind<;>intro h2<;>simp only[TK.fits] at h2
 ·cases u<;>first|rfl|exact h2.elim
 ·subst h2;rfl
 ·subst h2;rfl
 ·subst h2;rfl
 ·obtain⟨f,rfl,_⟩:=h2;rfl
 ·subst h2;rfl
 ·subst h2;rfl
 ·subst h2;rfl
 ·obtain⟨e,i,rfl,_⟩:=h2;rfl
 ·obtain⟨m,rfl⟩:=h2;rfl
theorem fM.run_sizeOf {T:TypeId} {d:TD} (h:fM P T d) (w:World):(sizeOf T).run P w=.ok d.size w:=by
 obtain⟨i,h1,h2,_⟩:=h.info;simp[sizeOf,typeInfo,h1,h2]
theorem fM.kq {T:TypeId} {d:TD} (h:fM P T d) (w:World):(zeroValue T).run P w=.ok d.zero w:=by
 obtain⟨i,h1,_,_,h4⟩:=h.info;simp[zeroValue,typeInfo,h1,h4]
theorem fM.run_load {T:TypeId} {d:TD} (h:fM P T d) {b o:Nat} {vs:List Value} (hl:vs.length=d.size) (hc:∀(j:Nat) (v:Value),vs[j]?=some v->w.cell? ⟨b,o+j,none⟩=some v):
  (loadVar T ⟨b,o,none⟩).run P w=.ok (if d.kind.agg then .agg vs.toArray else vs.headD undef) w:=by
 simp only[loadVar,ao,h.OK,al]
 cases hk:d.kind.agg with
 |true=>
  simp only[if_true,ao,h.run_sizeOf,al];rw[<-hl,run_loadCells_list (P:=P) w ⟨b,o,none⟩ vs (fun j v hj=>by rw[Addr.add_lit];exact hc j v hj)];rfl
 |false=>
  have h1:=(h.aat hk).1;rw[h1] at hl
  match vs,hl with
  | [v],_=>
   have:=hc 0 v rfl;simp only[arw] at this;simp[run_load,this]
def AV.iU (hp:List aw):AV->Option (List AV)
 | .sl els=>some els
 | .clip els=>some els
 | .ax (.slice none 0 0)=>some []
 | .own r n=>match hp[r]? with
  |some (.row _ _ els)=>if n=els.length then some els else none
  |_=>none
 |_=>none
theorem Rel.abz {r:Nat} {e size:Nat} {els:List AV} {v:Value} (hF:∀b k,(∃u,η[r]?=some u/\dO u=some b)->k<els.length*size->F b k)
  (eX:lT w F η hp (.row e size els) v) (hv:η[r]?=some v):bB w F η hp (.sl els) v:=by
 obtain⟨h0,xs,eQ,fN⟩:=eX;rcases eQ.2 with⟨hn,rfl|⟨ad,rfl⟩⟩|⟨g,cap,cur,rfl,Xg,⟨hi,_,hg⟩,Jx,Jy,iV,qa⟩
 ·have:els=[]:=aq4 hn;subst this;exact .qq _
 ·have:els=[]:=aq4 hn;subst this;exact .qq _
 ·have aR:∀(i:Nat) (el:AV) (j:Nat) (x:AV),els[i]?=some el->el.cells[j]?=some x->∃u,w.cell? ⟨g,0+i*size+j,none⟩=some u/\xs.getD (i*size+j) undef=u/\F g (0+i*size+j)/\u.oneCell'=true/\bB w F [] [] x u:=by
   intro i el j x hi hj;obtain⟨hlen,hx⟩:=fN i el hi;obtain⟨u,hu,eR,h1⟩:=hx j x hj;have tR:i<els.length:=(aqr.1 hi).1;have vC:j<size:=by rw[<-hlen];exact(aqr.1 hj).1
   have aH:i*size+j<els.length*size:=by
    have:=ard size (show i+1<=els.length from tR);rw[arz] at this;omega
   refine⟨u,?_,by simp[List.getD,hu],hF _ _ ⟨_,hv,cF Xg⟩ (by omega),h1,eR⟩;rw[aqV,cell_of_row w g _ cur e _ hg];rw[<-qa,aqM,if_pos aH] at hu;simpa using hu
  refine .sl size els g 0 cap (fun i j=>xs.getD (i*size+j) undef) Jx Jy (fun i el hi=>(fN i el hi).1) (fun i el j x hi hj=>?_) (fun i el j x hi hj=>?_)
  ·obtain⟨u,h1,h2,h3,h4,_⟩:=aR i el j x hi hj;exact⟨by rw[h2];exact h1,h3,by rw[h2];exact h4⟩
  ·obtain⟨u,h1,h2,h3,h4,h5⟩:=aR i el j x hi hj;rw[h2];exact h5
theorem Xh (h:eu w (bt Γ w η hp) η hp) (hm:xL Γ η hp) {r e size:Nat} {els:List AV} {v:Value} (hr:hp[r]?=some (.row e size els)) (hv:η[r]?=some v)
  {b k:Nat} (hb:dO v=some b) (yP:k<els.length*size):bt Γ w η hp b k:=by
 have h1:=hm r _ v b hr ai hv hb;refine⟨.inr h1.1,h.block hr ai hv hb,h1.2 _,(bm b k).2 fun r' u hu gz=>?_⟩
 ·by_cases cg:r=r'
  ·subst cg;exact⟨_,hr,yP⟩
  ·have gy:r' < hp.length:=by rw[<-h.len];exact(aqr.1 hu).1
   refine⟨hp[r'],by simp[gy],?_⟩
   cases ho:hp[r'] with
   |dead=>exact ai
   |box cs=>exact(h.sep r r' _ (.box cs) v u b cg hr (by rw[<-ho];simp[gy]) ai ai hv hu hb gz).elim
   |row e' s' qx=>exact(h.sep r r' _ (.row e' s' qx) v u b cg hr (by rw[<-ho];simp[gy]) ai ai hv hu hb gz).elim
   |cE es=>exact(h.sep r r' _ (.cE es) v u b cg hr (by rw[<-ho];simp[gy]) ai ai hv hu hb gz).elim
   |jy q k=>exact(h.sep r r' _ (.jy q k) v u b cg hr (by rw[<-ho];simp[gy]) ai ai hv hu hb gz).elim
   |bj e' s' qx=>exact(h.sep r r' _ (.bj e' s' qx) v u b cg hr (by rw[<-ho];simp[gy]) ai ai hv hu hb gz).elim
   |fz e' m' ns'=>exact(h.sep r r' _ (.fz e' m' ns') v u b cg hr (by rw[<-ho];simp[gy]) ai ai hv hu hb gz).elim
end
section
variable {G:Type} {Γ:Env G} {s:AS G} {a:Act} {w w':World} {η:List Value} {hp:List aw} {F:Nat->Nat->Prop} {P:Program}
theorem Xi (h:eu w (bt Γ w η hp) η hp) (hm:xL Γ η hp) {r n e size:Nat} {els:List AV} {v:Value} (hr:hp[r]?=some (.row e size els)) (ho:bl η hp r n v) (hn:n=els.length):
  bB w (bt Γ w η hp) η hp (.sl els) v:=by
 have hv:η[r]?=some v:=by
  unfold bl at ho;rw[hr] at ho;exact ho.2 hn
 exact Rel.abz (fun b k ⟨u,h1,h2⟩ hk=>Xh h hm hr h1 h2 hk) (h.obj r _ v hr hv) hv
theorem lV (h:eu w (bt Γ w η hp) η hp) (hm:xL Γ η hp) {x:AV} {els:List AV} {v:Value} (hx:bB w (bt Γ w η hp) η hp x v) (he:x.iU hp=some els):
  bB w (bt Γ w η hp) η hp (.sl els) v:=by
 cases x with
 |sl l=>simp only[AV.iU,aqq] at he;subst he;exact hx
 |clip l=>simp only[AV.iU,aqq] at he;subst he;exact hx.oT
 |ax u=>
  have:u=v:=by cases hx;rfl
  subst this;unfold AV.iU at he
  split at he<;>try (simp at he;done)
  ·rename_i h1;cases h1
  ·rename_i h1;cases h1
  ·rename_i h1;simp only[AV.ax.injEq] at h1;subst h1;obtain rfl:=aqs he;exact .qq _
  ·rename_i h1;cases h1
 |own r n=>
  have ho:bl η hp r n v:=by cases hx;assumption
  simp only[AV.iU] at he
  cases hr:hp[r]? with
  |none=>simp[hr] at he
  |some o=>
   cases o with
   |row e size l=>
    simp only[hr] at he;split at he
    ·rename_i hn;obtain rfl:=aqs he;exact Xi h hm hr ho hn
    ·cases he
   |_=>simp[hr] at he
 |_=>simp[AV.iU] at he
structure Dy (w:World) (F:Nat->Nat->Prop) (size:Nat) (els:List AV) (v:Value) (news:List Value):Prop where
 shape:(∃ad:Option Addr,v=.slice ad 0 0/\els=[])\/∃b o c,v=.slice (some ⟨b,o,none⟩) els.length c/\els.length<=c/\c<=maxLen/\∀(k:Nat) (u:Value),news[k]?=some u->w.cell? ⟨b,o+k,none⟩=some u
 len:news.length=els.length*size
 one:∀u:Value,u∈news->u.oneCell'=true
 rep:∀(i:Nat) (e:AV) (j:Nat) (x:AV),els[i]?=some e->e.cells[j]?=some x->∃u,news[i*size+j]?=some u/\bB w F [] [] x u/\u.oneCell'=true
theorem bB.yh {size:Nat} {els:List AV} {v:Value} (h:bB w F η hp (.sl els) v) (cx:0<size) (hl:∀e:AV,e∈els->e.cells.length=size):∃news,Dy w F size els v news:=by
 cases h with
 |qq a=>exact⟨[],.inl ⟨a,rfl,rfl⟩,by simp,(fun u hu=>by cases hu),fun i e j x hi=>by simp at hi⟩
 |sl wI els b o c f hc hm WZ aR hr=>
  have ajp:∀k,k<els.length*size->k / size<els.length/\k % size<size/\k=k / size*size+k % size:=fun k hk=>
   ⟨Nat.div_lt_of_lt_mul (by rw[Nat.mul_comm];exact hk),Nat.mod_lt _ cx,by rw[Nat.mul_comm];exact(Nat.div_add_mod k size).symm⟩
  have eg:∀k,k<els.length*size->w.cell? ⟨b,o+k,none⟩=some (f (k / size) (k % size))/\(f (k / size) (k % size)).oneCell'=true:=fun k hk=>by
   obtain⟨h1,h2,h3⟩:=ajp k hk;have he:els[k / size]?=some els[k / size]:=by simp[h1]
   have hlen:=hl _ (aqL h1);have hj:els[k / size].cells[k % size]?=some (els[k / size].cells[k % size]'(by rw[hlen];exact h2)):=by simp[hlen,h2]
   have hs':wI=size:=by rw[<-WZ _ _ he];exact hlen
   have:=aR _ _ _ _ he hj;rw[hs',asd,<-h3] at this;exact⟨this.1,this.2.2⟩
  refine⟨(List.range (els.length*size)).map fun k=>f (k / size) (k % size),.inr ⟨b,o,c,rfl,hc,hm,fun k u hk=>?_⟩,by simp,fun u hu=>?_,fun i e j x hi hj=>?_⟩
  ·rw[aqE] at hk
   by_cases aH:k<els.length*size
   ·rw[asp aH] at hk;obtain rfl:=aqs hk;exact(eg k aH).1
   ·rw[aq6 (by simp;omega)] at hk;cases hk
  ·obtain⟨k,hk,rfl⟩:=arx.1 hu;exact(eg k (arS.1 hk)).2
  ·have hlen:=hl e (aqA hi);have tR:i<els.length:=(aqr.1 hi).1;have vC:j<size:=by rw[<-hlen];exact(aqr.1 hj).1
   have aH:i*size+j<els.length*size:=by
    have:=ard size (show i+1<=els.length from tR);rw[arz] at this;omega
   have e1:(i*size+j) / size=i:=by rw[Nat.mul_comm,Nat.mul_add_div cx,Nat.div_eq_of_lt vC,arw]
   have e2:(i*size+j) % size=j:=by rw[Nat.mul_comm,Nat.mul_add_mod,Nat.mod_eq_of_lt vC]
   refine⟨f i j,?_,hr i e j x hi hj,(aR i e j x hi hj).2.2⟩;rw[aqE,asp aH];simp[e1,e2]
theorem Dy.ext {w':World} {F':Nat->Nat->Prop} {size:Nat} {els:List AV} {v:Value} {news:List Value} (h:Dy w F size els v news) (he:QQ w F w' F'):
  ∀(i:Nat) (e:AV) (j:Nat) (x:AV),els[i]?=some e->e.cells[j]?=some x->∃u,news[i*size+j]?=some u/\bB w' F' [] [] x u/\u.oneCell'=true:=
 fun i e j x hi hj=>let ⟨u,h1,h2,h3⟩:=h.rep i e j x hi hj;⟨u,h1,h2.ext he.ext,h3⟩
theorem oU {R:AV->Value->Prop} {size:Nat} {l1 l2:List AV} {x1 x2:List Value} (hx1:x1.length=l1.length*size)
  (h1:∀(i:Nat) (e:AV) (j:Nat) (x:AV),l1[i]?=some e->e.cells[j]?=some x->∃u,x1[i*size+j]?=some u/\R x u/\u.oneCell'=true)
  (h2:∀(i:Nat) (e:AV) (j:Nat) (x:AV),l2[i]?=some e->e.cells[j]?=some x->∃u,x2[i*size+j]?=some u/\R x u/\u.oneCell'=true):
  ∀(i:Nat) (e:AV) (j:Nat) (x:AV),(l1++l2)[i]?=some e->e.cells[j]?=some x->∃u,(x1++x2)[i*size+j]?=some u/\R x u/\u.oneCell'=true:=by
 intro i e j x hi hj
 by_cases aH:i<l1.length
 ·rw[aqD aH] at hi;obtain⟨u,h3,h4⟩:=h1 i e j x hi hj;exact⟨u,by rw[aqD (aqr.1 h3).1];exact h3,h4⟩
 ·rw[aq5 (by omega)] at hi;obtain⟨u,h3,h4⟩:=h2 _ e j x hi hj;refine⟨u,?_,h4⟩;have:x1.length<=i*size+j:=by
   rw[hx1];have:=ard size (show l1.length<=i by omega);omega
  rw[aq5 this,hx1,<-h3]
  congr 1
  rw[Nat.sub_mul];have:=ard size (show l1.length<=i by omega);omega
theorem kO {t ty e:TypeId} {ed:TD} (ht:P.underlying t=some (.slice e)) (he:fM P e ed) (b:Option Addr) (n c:Nat) (hn:n<=c) (x:Value) (hx:x=.slice none 0 0\/∃ad k,x=.slice (some ad) 0 k):
  (Builtin.append_ #[t,t] ty #[.slice b n c,x]).run P w=.ok (.slice b n c) w:=by
 obtain⟨i,h1,h2,_⟩:=he.info;rcases hx with rfl|⟨ad,k,rfl⟩<;>cases b <;>
  simp[Builtin.append_,run_underlying ht,sizeOf,typeInfo,h1,Builtin.lenOf,hn,Builtin.firstCells,storeCells,loadCells,loadCellsFrom]
theorem vG {e size:Nat} {n m:Nat} {z:Array Value} (nq news:List Value) (ho:nq.length=n*size) (hnw:news.length=m*size) (hz:z.size=size) (sC:Nat) (hm:0<m) (Dz:n+m<=maxLen):
  mT (w.drew.alloc (.cells (nq.toArray++news.toArray++Builtin.zeroCells z (grownCap w (n+m) sC e-(n+m))) e)) e size
   (.slice (some ⟨w.heap.size,0,none⟩) (n+m) (grownCap w (n+m) sC e)) (n+m) (nq++news) 0:=by
 have jM:=grownCap_ge w (n+m) sC e;have Jy:grownCap w (n+m) sC e<=maxLen:=grownCap_le_maxLen w (n+m) sC e Dz;have hlen:(nq++news).length=(n+m)*size:=by rw[aqz,ho,hnw,arz]
 refine⟨hlen,.inr ⟨w.heap.size,_,_,rfl,by omega,⟨0,aqw _,heap_alloc_new w.drew _⟩,jM,Jy,?_,?_⟩⟩
 ·simp only[Array.size_append,List.size_toArray,size_zeroCells,hz,ho,hnw,<-arz]
  congr 1
  omega
 ·simp only[Array.toList_append,aqT];rw[<-aqT,<-hlen];exact aso
end
section
variable {G:Type} {Γ:Env G} {s:AS G} {a:Act} {w w':World} {η:List Value} {hp:List aw} {F:Nat->Nat->Prop} {P:Program}
theorem yQ (aE:Γ.Ok) (h:Rel Γ s a w η) {t ty e:TypeId} {d:TD} (ht:Γ.P.underlying t=some (.slice e)) (dJ:fM Γ.P e d) (cx:0<d.size) {els aJ:List AV} {v0 v2:Value}
  (hb:v0=.slice none 0 0/\els=[]\/bB w (bt Γ w η s.hp) η s.hp (.clip els) v0) (hx:bB w (bt Γ w η s.hp) η s.hp (.sl aJ) v2)
  (hl:∀x:AV,x∈els->x.cells.length=d.size) (BA:∀x:AV,x∈aJ->x.cells.length=d.size) (cg:aJ=[]->els=[])
  (hm:els.length+aJ.length<=maxLen) (JG:(els.length+aJ.length)*d.bytes<=140737488355328) {ob:aw} (eX:ob=.row e d.size (els++aJ)\/ob=.bj e d.size (els++aJ)):
  ∃v' w',(Builtin.append_ #[t,t] ty #[v0,v2]).run Γ.P w=.ok v' w'/\Rel Γ (s.add ob) a w' (η++[v'])/\v'.oneCell'=true:=by
 have qy:∀{w:World} {F:Nat->Nat->Prop} {η:List Value} {hp:List aw} {v:Value},lT w F η hp (.bj e d.size (els++aJ)) v->lT w F η hp ob v:=by
  rcases eX with rfl|rfl
  ·exact fun⟨h1,xs,h2,h3⟩=>⟨h1,xs,h2.more (aqC _),h3⟩
  ·exact id
 obtain⟨i,jN,sD,Fw,LS⟩:=dJ.info;have hbs:bB w (bt Γ w η s.hp) η s.hp (.sl els) v0:=by
  rcases hb with⟨rfl,rfl⟩|hb
  ·exact .qq _
  ·exact hb.oT
 obtain⟨nq,ho⟩:=hbs.yh cx hl;obtain⟨news,hn⟩:=hx.yh cx BA;have JH:(∃ad:Option Addr,v0=.slice ad 0 0/\els=[])\/∃b o,v0=.slice (some ⟨b,o,none⟩) els.length els.length/\∀(k:Nat) (u:Value),nq[k]?=some u->w.cell? ⟨b,o+k,none⟩=some u:=by
  rcases ho.shape with h1|⟨b,o,c,rfl,_,_,hc⟩
  ·exact .inl h1
  ·rcases hb with⟨hb,_⟩|hb
   ·cases hb
   ·cases hb with
    |kW=>exact .inl ⟨_,rfl,rfl⟩
    |clip size els b o f hm WZ aR hr=>exact .inr ⟨_,_,rfl,hc⟩
 by_cases hz:aJ=[]
 ·have W0:=cg hz;subst hz;subst W0;have hv2:v2=.slice none 0 0\/∃ad k,v2=.slice (some ad) 0 k:=by
   rcases hn.shape with⟨ad,rfl,_⟩|⟨b,o,c,rfl,_⟩
   ·cases ad with
    |none=>exact .inl rfl
    |some ad=>exact .inr ⟨_,_,rfl⟩
   ·exact .inr ⟨_,_,rfl⟩
  rcases JH with⟨ad,rfl,_⟩|⟨b,o,rfl,_⟩
  ·refine⟨_,w,kO ht dJ ad 0 0 (aqw _) v2 hv2,?_,rfl⟩;exact h.add aE (bV.refl w) (fun b hb=>by cases ad<;>simp[dO] at hb) (qy ⟨cx,[],⟨by simp,.inl ⟨rfl,by cases ad with|none=>exact .inl rfl|some ad=>exact .inr ⟨ad,rfl⟩⟩⟩,fun i el hi=>by simp at hi⟩)
  ·refine⟨_,w,kO ht dJ (some ⟨b,o,none⟩) 0 0 (aqw _) v2 hv2,?_,rfl⟩;exact h.add aE (bV.refl w) (fun b hb=>by simp[dO] at hb) (qy ⟨cx,[],⟨by simp,.inl ⟨rfl,.inr ⟨_,rfl⟩⟩⟩,fun i el hi=>by simp at hi⟩)
 ·have sq:0<aJ.length:=List.length_pos_iff.2 hz;rcases hn.shape with⟨_,_,h1⟩|⟨b2,o2,c2,rfl,_,_,QE⟩
  ·exact(hz h1).elim
  have yR:∀(j:Nat) (u:Value),news[j]?=some u->w.cell? ((⟨b2,o2,none⟩:Addr).add j)=some u:=fun j u hj=>by rw[Addr.add_lit];exact QE j u hj
  have Dz:els.length+aJ.length<=9223372036854775807:=by simp only[maxLen] at hm;omega
  have fin:∀(sC:Nat),Rel Γ (s.add ob) a
    (w.drew.alloc (.cells (nq.toArray++news.toArray++Builtin.zeroCells d.zero.cells (grownCap w (els.length+aJ.length) sC e-(els.length+aJ.length))) e))
    (η++[.slice (some ⟨w.heap.size,0,none⟩) (els.length+aJ.length) (grownCap w (els.length+aJ.length) sC e)]):=by
   intro sC;have hs:bV w (w.drew.alloc (.cells (nq.toArray++news.toArray++Builtin.zeroCells d.zero.cells (grownCap w (els.length+aJ.length) sC e-(els.length+aJ.length))) e)):=
    (bV.drew w).trans (bV.alloc _ _)
   have mM:∀b,dO (.slice (some ⟨w.heap.size,0,none⟩) (els.length+aJ.length) (grownCap w (els.length+aJ.length) sC e))=some b->w.heap.size<=b:=by
    intro b hb;rw[cF (by have:=grownCap_ge w (els.length+aJ.length) sC e;omega)] at hb;obtain rfl:=aqs hb;exact aqw _
   have he:=tQ (Γ:=Γ) (o:=ob) h.heap.len hs mM;refine h.add aE hs mM (qy ⟨cx,nq++news,?_,fun i el hi=>⟨?_,?_⟩⟩)
   ·rw[aqz];exact vG nq news ho.len hn.len dJ.LR sC sq hm
   ·rcases aq7.1 (aqA hi) with h1|h1
    ·exact hl _ h1
    ·exact BA _ h1
   ·exact fun j x hj=>oU ho.len (ho.ext he.qu) (hn.ext he.qu) i el j x hi hj
  rcases JH with⟨ad,rfl,rfl⟩|⟨b,o,rfl,hc⟩
  ·have:nq=[]:=aq4 (by simpa using ho.len);subst this
   cases ad with
   |some ad=>
    have:=run_append_grow (P:=Γ.P) w t ty e i d.zero ht jN LS ad 0 0 [] (by simp) (fun j u hj=>by simp at hj) ⟨b2,o2,none⟩ aJ.length c2 news (by rw[sD];exact hn.len) yR (by omega)
     (by simp only[aqW,aqV] at Dz ⊢;omega) (growslice_fits (by omega) (by rw[Fw];simpa only[aqW] using JG))
    refine⟨_,_,this,?_,rfl⟩;have f0:=fin 0;simpa only[aqW,aqV,arF] using f0
   |none=>
   have:=run_append_nil (P:=Γ.P) w t ty e i d.zero ht jN LS ⟨b2,o2,none⟩ aJ.length c2 news (by rw[sD];exact hn.len) yR sq (by simp only[aqW,aqV] at Dz;omega) (by rw[Fw];simp only[aqW,aqV] at JG;omega);refine⟨_,_,this,?_,rfl⟩;have f0:=fin 0;simpa only[aqW,aqV,arF,Array.empty_append] using f0
  ·have holds:∀(j:Nat) (u:Value),nq[j]?=some u->w.cell? ((⟨b,o,none⟩:Addr).add j)=some u:=fun j u hj=>by rw[Addr.add_lit];exact hc j u hj
   have:=run_append_grow (P:=Γ.P) w t ty e i d.zero ht jN LS ⟨b,o,none⟩ els.length els.length nq (by rw[sD];exact ho.len) holds ⟨b2,o2,none⟩ aJ.length c2 news (by rw[sD];exact hn.len) yR (by omega)
    (by omega) (growslice_fits (by omega) (by rw[Fw];exact JG))
   exact⟨_,_,this,fin els.length,rfl⟩
theorem oV {g e z:Nat}:∀(us:List Value) (o:Nat) (cur:Array Value) (w:World),w.heap[g]?=some (.cells cur e (0,z))->o+us.length<=cur.size->
  w.setCells g o us=w.setRow g (cur.toList.take o++us++cur.toList.drop (o+us.length)).toArray:=by
 intro us
 induction us with
 |nil=>
  intro o cur w hg _;simp only[World.setCells,aqR,aqW,arw,ars];have aH:g<w.heap.size:=(aqO.1 hg).1;have hv:w.heap[g]=.cells cur e (0,z):=(aqO.1 hg).2;unfold World.setRow
  cases w with
  |mk heap tape drawn os output=>
   congr 1
   apply Array.ext
   ·simp
   ·intro k h1 h2;simp only[Array.getElem_modify];split
    ·rename_i hk;subst hk;simp at hv;simp[hv]
    ·rfl
 |cons u us ih=>
  intro o cur w hg hl;rw[aqy] at hl;rw[World.setCells,setCell_eq_setRow w g o cur e _ u hg,ih (o+1) _ _ (setRow_heap w g cur _ e _ hg) (by simp;omega),setRow_setRow]
  congr 2
  apply ark;intro k;have e1:(cur.setIfInBounds o u).toList=cur.toList.set o u:=by simp
  rw[e1];have hlen:cur.toList.length=cur.size:=by simp
  rcases Nat.lt_trichotomy k o with h|h|h
  ·rw[aqT,aqT,aqD (by simp;omega),aqD (by simp;omega),aqM,aqM,if_pos (by omega),if_pos h,List.getElem?_set_ne (by omega)]
  ·subst h;have hk:(cur.toList.take k).length=k:=by rw[arp];omega
   rw[aqT,aqT,aqD (by simp;omega),aq5 (by omega),hk,arO,aqM,if_pos (by omega),List.getElem?_set_self (by omega)];rfl
  ·have e2:(cur.toList.take o++(u::us)++cur.toList.drop (o+(us.length+1)))[k]?=(us++cur.toList.drop (o+(us.length+1)))[k-(o+1)]?:=by
    rw[aqT,aq5 (by simp;omega),arK];have:k-(List.take o cur.toList).length=(k-(o+1))+1:=by rw[arp];omega
    rw[this,aq2]
   rw[aqy,e2,aqT,aq5 (by simp;omega)];have:k-(List.take (o+1) (cur.toList.set o u)).length=k-(o+1):=by rw[arp,arN];omega
   rw[this,List.drop_set_of_lt (by omega),show o+1+us.length=o+(us.length+1) by omega]
theorem lW {w:World} {g e z o:Nat} {cur:Array Value} {us:List Value} (hg:w.heap[g]?=some (.cells cur e (0,z))) (hz:z<=o) (hf:o+us.length<=cur.size):
  (∀j,j<us.length->(w.cell? ⟨g,o+j,none⟩).isSome=true)/\∀j,j<us.length->w.frozen? ⟨g,o+j,none⟩=false:=by
 refine⟨fun j hj=>?_,fun j hj=>?_⟩
 ·rw[cell_of_row w g _ cur e _ hg,arf (by omega)];rfl
 ·simp only[World.frozen?,hg];have:¬(o+j<z):=by omega
  simp[this]
structure yS (P:Program) (w:World) (F:Nat->Nat->Prop) (t u ty e:TypeId) (d:TD) (aJ:List AV) (v2:Value) (news:List Value):Prop where
 len:news.length=aJ.length*d.size
 one:∀u∈news,u.oneCell'=true
 rep:∀(i:Nat) (e:AV) (j:Nat) (x:AV),aJ[i]?=some e->e.cells[j]?=some x->∃u,news[i*d.size+j]?=some u/\bB w F [] [] x u/\u.oneCell'=true
 nothing:aJ=[]->∀b n c,n<=c->(Builtin.append_ #[t,u] ty #[.slice b n c,v2]).run P w=.ok (.slice b n c) w
 nil:0<aJ.length->(aJ.length:Int)<=9223372036854775807->aJ.length*d.bytes<=281474976710656->(Builtin.append_ #[t,u] ty #[.slice none 0 0,v2]).run P w=
  .ok (.slice (some ⟨w.heap.size,0,none⟩) aJ.length (grownCap w aJ.length 0 e)) (w.drew.alloc (.cells (news.toArray++Builtin.zeroCells d.zero.cells (grownCap w aJ.length 0 e-aJ.length)) e))
 grow:0<aJ.length->∀(b:Addr) (kr sr:Nat) (nq:List Value),nq.length=kr*d.size->(∀j v,nq[j]?=some v->w.cell? (b.add j)=some v)->sr<kr+aJ.length->((kr+aJ.length:Nat):Int)<=9223372036854775807->
  Builtin.nextslicecap (kr+aJ.length) sr*d.bytes<=281474976710656->(Builtin.append_ #[t,u] ty #[.slice (some b) kr sr,v2]).run P w=
   .ok (.slice (some ⟨w.heap.size,0,none⟩) (kr+aJ.length) (grownCap w (kr+aJ.length) sr e)) (w.drew.alloc (.cells (nq.toArray++news.toArray++Builtin.zeroCells d.zero.cells (grownCap w (kr+aJ.length) sr e-(kr+aJ.length))) e))
 room:0<aJ.length->∀(g kr sr:Nat) (cur:Array Value) (hi:Nat),hi<=kr*d.size->w.heap[g]?=some (.cells cur e (0,hi))->kr+aJ.length<=sr->kr*d.size+news.length<=cur.size->(Builtin.append_ #[t,u] ty #[.slice (some ⟨g,0,none⟩) kr sr,v2]).run P w=
   .ok (.slice (some ⟨g,0,none⟩) (kr+aJ.length) sr) (w.setRow g (cur.toList.take (kr*d.size)++news++cur.toList.drop (kr*d.size+news.length)).toArray)
theorem yS.ext {P:Program} {F F':Nat->Nat->Prop} {t u ty e:TypeId} {d:TD} {aJ:List AV} {v2:Value} {news:List Value} (h:yS P w F t u ty e d aJ v2 news) (he:QQ w F w' F'):
  ∀(i:Nat) (e:AV) (j:Nat) (x:AV),aJ[i]?=some e->e.cells[j]?=some x->∃u,news[i*d.size+j]?=some u/\bB w' F' [] [] x u/\u.oneCell'=true:=
 fun i e j x hi hj=>let ⟨u,h1,h2,h3⟩:=h.rep i e j x hi hj;⟨u,h1,h2.ext he.ext,h3⟩
theorem tS {P:Program} {F:Nat->Nat->Prop} {t ty e:TypeId} {d:TD} (ht:P.underlying t=some (.slice e)) (dJ:fM P e d) (cx:0<d.size) {aJ:List AV} {v2:Value} (hx:bB w F η hp (.sl aJ) v2)
  (BA:∀x:AV,x∈aJ->x.cells.length=d.size):∃news,yS P w F t t ty e d aJ v2 news:=by
 obtain⟨i,jN,sD,Fw,LS⟩:=dJ.info;obtain⟨news,hn⟩:=hx.yh cx BA;have pos:0<aJ.length->∃b2 o2 c2,v2=.slice (some ⟨b2,o2,none⟩) aJ.length c2/\∀(j:Nat) (u:Value),news[j]?=some u->w.cell? ((⟨b2,o2,none⟩:Addr).add j)=some u:=fun h0=>by
  rcases hn.shape with⟨_,_,h1⟩|⟨b2,o2,c2,rfl,_,_,QE⟩
  ·rw[h1] at h0;simp at h0
  ·exact⟨b2,o2,c2,rfl,fun j u hj=>by rw[Addr.add_lit];exact QE j u hj⟩
 refine⟨news,hn.len,hn.one,hn.rep,fun h0 b n c Jx=>?_,fun h0 Dz h48=>?_,fun h0 b kr sr nq gW ho hg Dz tT=>?_,fun h0 g kr sr cur hi hhi hg fi tT=>?_⟩
 ·refine kO ht dJ b n c Jx v2 ?_;subst h0;rcases hn.shape with⟨ad,rfl,_⟩|⟨b,o,c,rfl,_⟩
  ·cases ad with
   |none=>exact .inl rfl
   |some ad=>exact .inr ⟨_,_,rfl⟩
  ·exact .inr ⟨_,_,rfl⟩
 ·obtain⟨b2,o2,c2,rfl,hc⟩:=pos h0;exact run_append_nil (P:=P) w t ty e i d.zero ht jN LS ⟨b2,o2,none⟩ aJ.length c2 news (by rw[sD];exact hn.len) hc h0 Dz (by rw[Fw];exact h48)
 ·obtain⟨b2,o2,c2,rfl,hc⟩:=pos h0;exact run_append_grow (P:=P) w t ty e i d.zero ht jN LS b kr sr nq (by rw[sD];exact gW) ho ⟨b2,o2,none⟩ aJ.length c2 news (by rw[sD];exact hn.len) hc hg Dz (by rw[Fw];exact tT)
 ·obtain⟨b2,o2,c2,rfl,hc⟩:=pos h0;have:=run_append_room_cells (P:=P) w t ty e i ht jN g 0 kr sr ⟨b2,o2,none⟩ aJ.length c2 news (by rw[sD];exact hn.len) hc hn.one fi (by rw[sD,aqV];exact(lW hg hhi tT).1) (by rw[sD,aqV];exact(lW hg hhi tT).2);rw[sD,aqV,oV news _ cur w hg tT] at this;exact this
def jB (b:ByteArray):List AV:=b.data.toList.map fun c=>.ax (.int .u8 c.toNat)
theorem vH (b:ByteArray):(jB b).length=b.size:=by simp[jB]
theorem JI {P:Program} {F:Nat->Nat->Prop} {t u ty e:TypeId} {d:TD} (ht:P.underlying t=some (.slice e)) (hu:P.underlying u=some .string) (dJ:fM P e d) (h1:d.size=1) (hz:d.zero=.int .u8 0) (b:ByteArray):
  yS P w F t u ty e d (jB b) (.string b) (Lib.strCells b):=by
 obtain⟨i,jN,sD,Fw,LS⟩:=dJ.info;have hl:=vH b;have e1:(b.data.map fun b=>Value.int .u8 b.toNat)=(Lib.strCells b).toArray:=by
  apply arL;simp[Lib.strCells]
 refine⟨by rw[Lib.strCells_length,hl,h1,arG],Lib.strCells_oneCell b,fun i el j x hi hj=>?_,fun h0 a n c Jx=>?_,fun h0 Dz h48=>?_,fun h0 a kr sr nq gW ho hg Dz tT=>?_,fun h0 g kr sr cur hi hhi hg fi tT=>?_⟩
 ·simp only[jB,aqE,aro] at hi;obtain⟨c,hc,rfl⟩:=hi
  cases j with
  |succ j=>simp[AV.cells] at hj
  |zero=>
   simp only[AV.cells,ari,aqq] at hj;subst hj;exact⟨_,by rw[h1,arG,arw,Lib.strCells,aqE,hc];rfl,.ax _,rfl⟩
 ·have hb:b.size=0:=by rw[<-hl,h0];rfl
  have hf:=Lib.run_firstCells_string (P:=P) w i.size b;rw[hb] at hf;have Xg:Lib.strCells b=[]:=aq4 (by rw[Lib.strCells_length];exact hb)
  cases a<;>simp[Builtin.append_,run_underlying ht,run_underlying hu,sizeOf,typeInfo,jN,Builtin.lenOf,hb,Jx,hf,Xg,storeCells]
 ·rw[hl] at *;have:=run_append_nil_string (P:=P) w t u ty e i d.zero ht hu jN LS b h0 Dz (by rw[Fw];exact h48);rw[e1] at this;exact this
 ·rw[hl] at *;exact Lib.run_append_grow_string (P:=P) w t u ty e i d.zero ht hu jN LS a kr sr nq (by rw[sD];exact gW) ho b hg Dz (by rw[Fw];exact tT)
 ·rw[hl] at *;rw[h1,arG,Lib.strCells_length] at *;have Xj:kr+(Lib.strCells b).length<=cur.size:=by rw[Lib.strCells_length];exact tT
  have hf:=Lib.run_firstCells_string (P:=P) w 1 b;have sS:=run_storeCells_cells (P:=P) g kr (Lib.strCells b) 0 w (lW hg hhi Xj).1 (lW hg hhi Xj).2 (Lib.strCells_oneCell b);rw[arw,oV _ _ cur w hg Xj,Lib.strCells_length] at sS;simp[Builtin.append_,run_underlying ht,run_underlying hu,sizeOf,typeInfo,jN,show i.size=1 by rw[sD],Builtin.lenOf,fi,hf,Addr.add_lit,sS]
def gK (M:Bool) (e size:Nat) (els:List AV):aw:=match M with|false=>.row e size els|true=>.bj e size els
def kB (M:Bool) (n:Nat):Nat:=match M with|false=>n|true=>0
theorem adW (M:Bool) (n:Nat):kB M n<=n:=by cases M<;>simp[kB]
theorem Xk (M:Bool) {n m:Nat} (h:n<=m):kB M n<=kB M m:=by cases M<;>simp[kB,h]
theorem nK {F:Nat->Nat->Prop} {M:Bool} {e size:Nat} {els:List AV} {v:Value}:lT w F η hp (gK M e size els) v↔(0<size/\∃xs:List Value,mT w e size v els.length xs (kB M (els.length*size))/\
   ∀(i:Nat) (el:AV),els[i]?=some el->el.cells.length=size/\
    ∀(j:Nat) (x:AV),el.cells[j]?=some x->∃u,xs[i*size+j]?=some u/\bB w F [] [] x u/\u.oneCell'=true):=by cases M<;>exact ase
theorem lX {M:Bool} {e size r n:Nat} {els:List AV} {v:Value} (h:hp[r]?=some (gK M e size els)):bl η hp r n v↔n<=els.length/\(n=els.length->η[r]?=some v):=by
 unfold bl;rw[h]
 cases M<;>exact ase
theorem Ck {M:Bool} {e size k:Nat} {els:List AV} (h:(gK M e size els).bI k):k<els.length*size:=by cases M<;>first|exact h|exact h.elim
theorem Cm {M:Bool} {e size k:Nat} {els aJ:List AV} (h:(gK M e size els).bI k):(gK M e size (els++aJ)).bI k:=by
 have h':=Ck h
 cases M with
 |false=>show k<(els++aJ).length*size;rw[aqz,arz];omega
 |true=>exact h.elim
theorem vI (M:Bool) (e size:Nat) (els:List AV):(gK M e size els).live:=by cases M<;>exact ai
theorem yT (aE:Γ.Ok) (h:Rel Γ s a w η) {t u ty e:TypeId} {d:TD} (dJ:fM Γ.P e d) {M:Bool} {r:Nat} {els aJ:List AV} {v0 v2:Value}
  (hr:s.hp[r]?=some (gK M e d.size els)) (hv:bl η s.hp r els.length v0) {news:List Value} (hn:yS Γ.P w (bt Γ w η s.hp) t u ty e d aJ v2 news)
  (BA:∀x:AV,x∈aJ->x.cells.length=d.size)
  (hm:els.length+aJ.length<=maxLen) (JG:(els.length+aJ.length)*d.bytes<=140737488355328):
  ∃v' w' bf,(Builtin.append_ #[t,u] ty #[v0,v2]).run Γ.P w=.ok v' w'/\Rel Γ { s with hp:=s.hp.set r (gK M e d.size (els++aJ)) } a w' bf/\v'.oneCell'=true/\bf[r]?=some v':=by
 have vJ:η[r]?=some v0:=((lX hr).1 hv).2 rfl;obtain⟨cx,xs,eQ,fN⟩:=nK.1 (h.heap.obj r _ v0 hr vJ);have hold:∀(i:Nat) (e:AV) (j:Nat) (x:AV),els[i]?=some e->e.cells[j]?=some x->∃u,xs[i*d.size+j]?=some u/\bB w (bt Γ w η s.hp) [] [] x u/\u.oneCell'=true:=
  fun i el j x hi hj=>(fN i el hi).2 j x hj
 by_cases hz:aJ=[]
 ·subst hz;have ku:s.hp.set r (gK M e d.size (els++[]))=s.hp:=by
   apply ark;intro k
   by_cases hk:r=k
   ·subst hk;rw[aB hr,aqR,hr]
   ·rw[getElem?_set_ne hk]
  have QT:∀b n c,v0=.slice b n c->n<=c->∃v' w' bf,(Builtin.append_ #[t,u] ty #[v0,v2]).run Γ.P w=.ok v' w'/\Rel Γ { s with hp:=s.hp.set r (gK M e d.size (els++[])) } a w' bf/\v'.oneCell'=true/\bf[r]?=some v':=by
   intro b n c e1 e2;subst e1;exact⟨_,w,η,hn.nothing rfl b n c e2,by rw[ku];exact h,rfl,vJ⟩
  rcases eQ.2 with⟨h0,rfl|⟨ad,rfl⟩⟩|⟨g,cap,cur,rfl,h0,_,Jx,_⟩
  ·exact QT none 0 0 rfl (aqw _)
  ·exact QT _ 0 0 rfl (aqw _)
  ·exact QT _ _ _ rfl Jx
 ·have sq:0<aJ.length:=List.length_pos_iff.2 hz;have Dz:els.length+aJ.length<=9223372036854775807:=by simp only[maxLen] at hm;omega
  have vF:∀v' n u,bl η s.hp r n u->bl (η.set r v') (s.hp.set r (gK M e d.size (els++aJ))) r n u:=by
   intro v' n u ho;replace ho:=(lX hr).1 ho;refine(lX (aB hr)).2 ⟨by rw[aqz];have:=ho.1;omega,fun Xl=>?_⟩;rw[aqz] at Xl;have:=ho.1;omega
  have aav:∀(x:AV),x∈els++aJ->x.cells.length=d.size:=by
   intro x nL;rcases aq7.1 nL with h1|h1
   ·obtain⟨k,hk⟩:=arM h1;exact(fN k x hk).1
   ·exact BA _ h1
  have grown:∀(sC:Nat),(∀b es c,dO v0=some b->w.heap[b]?=some (.map es c)->False)->(∀b d,dO v0=some b->w.heap[b]?=some (.deferred d)->False)->(∀x,v0 ≠ .pointer x)->(∀x,v0 ≠ .map x)->
    Rel Γ { s with hp:=s.hp.set r (gK M e d.size (els++aJ)) } a
    (w.drew.alloc (.cells (xs.toArray++news.toArray++Builtin.zeroCells d.zero.cells (grownCap w (els.length+aJ.length) sC e-(els.length+aJ.length))) e))
    (η.set r (.slice (some ⟨w.heap.size,0,none⟩) (els.length+aJ.length) (grownCap w (els.length+aJ.length) sC e))):=by
   intro sC abB ajq jC BI;have hs:bV w (w.drew.alloc (.cells (xs.toArray++news.toArray++Builtin.zeroCells d.zero.cells (grownCap w (els.length+aJ.length) sC e-(els.length+aJ.length))) e)):=
    (bV.drew w).trans (bV.alloc _ _)
   have mM:∀b,dO (.slice (some ⟨w.heap.size,0,none⟩) (els.length+aJ.length) (grownCap w (els.length+aJ.length) sC e))=some b->w.heap.size<=b:=by
    intro b hb;rw[cF (by have:=grownCap_ge w (els.length+aJ.length) sC e;omega)] at hb;obtain rfl:=aqs hb;exact aqw _
   refine h.change aE (o':=gK M e d.size (els++aJ)) hr (vI _ _ _ _) vJ (hs.keeps _) (fun b hb=>.inr (mM b hb)) (fun k hk=>?_) (fun b k u hb _ hc=>?_) (fun b es c hb _ hh=>abB b es c hb hh) (vF _)
    (fun x nL=>(jC x nL).elim) (fun x nL=>(BI x nL).elim) ajq (fun he=>nK.2 ⟨cx,xs++news,?_,fun i el hi=>⟨aav _ (aqA hi),?_⟩⟩)
   ·exact Cm hk
   ·rw[World.cell?_of_block (hs.block b (h.heap.block hr (vI _ _ _ _) vJ hb))];exact hc
   ·rw[aqz];exact(vG xs news eQ.1 hn.len dJ.LR sC sq hm).more (aqC _)
   ·exact fun j x hj=>oU eQ.1 (fun i e j x hi hj=>let ⟨u,h1,h2,h3⟩:=hold i e j x hi hj;⟨u,h1,h2.ext he.qu.ext,h3⟩) (hn.ext he.qu) i el j x hi hj
  have DA:∀v',(η.set r v')[r]?=some v':=fun v'=>aB vJ;rcases eQ.2 with⟨h0,rfl|⟨ad,rfl⟩⟩|⟨g,cap,cur,rfl,h0,⟨hi,hhi,hg⟩,Jx,Jy,iV,qa⟩
  ·have tU:els=[]:=aq4 h0;have hxs:xs=[]:=aq4 (by rw[eQ.1,h0];simp);have gr:=grown 0 (fun b es c hb=>by simp[dO] at hb) (fun b d hb=>by simp[dO] at hb) (fun x nL=>by cases nL) (fun x nL=>by cases nL);subst tU;subst hxs;have:=hn.nil sq (by simp only[aqW,aqV] at Dz;omega) (by simp only[aqW,aqV] at JG;omega);refine⟨_,_,_,this,?_,rfl,DA _⟩;simpa only[aqW,aqV,arF,Array.empty_append] using gr
  ·have tU:els=[]:=aq4 h0;have hxs:xs=[]:=aq4 (by rw[eQ.1,h0];simp);have gr:=grown 0 (fun b es c hb=>by simp[dO] at hb) (fun b d hb=>by simp[dO] at hb) (fun x nL=>by cases nL) (fun x nL=>by cases nL);subst tU;subst hxs;have:=hn.grow sq ad 0 0 [] (by simp) (fun j u hj=>by simp at hj) (by omega)
    (by simp only[aqW,aqV] at Dz ⊢;omega) (growslice_fits (by omega) (by simpa only[aqW] using JG))
   refine⟨_,_,_,this,?_,rfl,DA _⟩;simpa only[aqW,aqV,arF] using gr
  ·by_cases fi:els.length+aJ.length<=cap
   ·have tT:els.length*d.size+news.length<=cur.size:=by rw[hn.len,iV,<-arz];exact ard _ fi
    have gX:=hn.room sq g els.length cap cur hi (aqU hhi (adW _ _)) hg fi tT;refine⟨_,_,_,gX,?_,rfl,DA _⟩;have wH:dO (.slice (some ⟨g,0,none⟩) els.length cap)=some g:=cF h0;have ajs:dO (.slice (some ⟨g,0,none⟩) (els.length+aJ.length) cap)=some g:=cF h0;have LU:=setRow_heap w g cur (cur.toList.take (els.length*d.size)++news++cur.toList.drop (els.length*d.size+news.length)).toArray e (0,hi) hg;refine h.change aE (o':=gK M e d.size (els++aJ)) hr (vI _ _ _ _) vJ ⟨rfl,rfl,rfl,by simp,fun k hk hb=>setRow_other w g k _ (fun e=>hb (by rw[wH,e]))⟩ (fun b hb=>.inl (by rw[wH];rw[ajs] at hb;exact hb)) (fun k hk=>?_) (fun b k u hb hk hc=>?_)
     (fun b es c hb _ hh=>?_) (vF _) (fun x nL=>by cases nL) (fun x nL=>by cases nL) (fun b d hb hh=>?_) (fun he=>nK.2 ⟨cx,xs++news,?_,fun i el hi=>⟨aav _ (aqA hi),?_⟩⟩)
    ·exact Cm hk
    ·rw[wH] at hb;obtain rfl:=aqs hb;have yP:k<els.length*d.size:=Ck hk;rw[cell_of_row w g k cur e _ hg] at hc;rw[cell_of_row _ g k _ e _ LU];have aH:k<cur.size:=(aqO.1 hc).1;rw[<-Array.getElem?_toList] at hc;simp only[ar6];rw[aqT,aqD (by simp;omega),aqM,if_pos yP];exact hc
    ·rw[wH] at hb;obtain rfl:=aqs hb;rw[hg] at hh;cases hh
    ·rw[wH] at hb;obtain rfl:=aqs hb;rw[hg] at hh;cases hh
    ·have OL:(xs++news).length=(els.length+aJ.length)*d.size:=by rw[aqz,eQ.1,hn.len,arz]
     rw[aqz];refine⟨OL,.inr ⟨g,cap,_,rfl,h0,⟨hi,aqU hhi (Xk M (ard _ (by omega))),LU⟩,fi,Jy,?_,?_⟩⟩
     ·simp only[List.size_toArray,aqz,arp,aqY,ara];have:els.length*d.size<=cur.size:=by omega
      omega
     ·rw[qa,<-OL];exact aso
    ·exact fun j x hj=>oU eQ.1 (fun i e j x hi hj=>let ⟨u,h1,h2,h3⟩:=hold i e j x hi hj;⟨u,h1,h2.ext he.qu.ext,h3⟩) (hn.ext he.qu) i el j x hi hj
   ·have aR:∀(j:Nat) (u:Value),xs[j]?=some u->w.cell? ((⟨g,0,none⟩:Addr).add j)=some u:=by
     intro j u hj;rw[Addr.add_lit,aqV,cell_of_row w g j cur e _ hg];rw[<-qa,aqM] at hj
     by_cases aH:j<els.length*d.size
     ·rw[if_pos aH] at hj;simpa using hj
     ·rw[if_neg aH] at hj;cases hj
    have wH:dO (.slice (some ⟨g,0,none⟩) els.length cap)=some g:=cF h0;have:=hn.grow sq ⟨g,0,none⟩ els.length cap xs eQ.1 aR (by omega) (by omega) (growslice_fits (by omega) JG);exact⟨_,_,_,this,grown cap (fun b es c hb hh=>by rw[wH] at hb;obtain rfl:=aqs hb;rw[hg] at hh;cases hh)
     (fun b d hb hh=>by rw[wH] at hb;obtain rfl:=aqs hb;rw[hg] at hh;cases hh) (fun x nL=>by cases nL) (fun x nL=>by cases nL),rfl,DA _⟩
end
section
variable {G:Type} {Γ:Env G} {s:AS G} {a:Act} {w w':World} {η:List Value} {hp:List aw} {F:Nat->Nat->Prop} {P:Program}
def wJ:Value->AV
 | .agg cs=>(match cs.toList.all Value.oneCell' with
  |true=>.agg (cs.toList.map .ax)
  |false=>.ax (.agg cs))
 |v=>.ax v
theorem nM {w:World} {F:Nat->Nat->Prop} {η:List Value} {hp:List aw} (v:Value):bB w F η hp (wJ v) v:=by
 unfold wJ;split
 ·rename_i cs;split
  ·rename_i h1;refine .agg _ _ (by simp) (fun v hv=>aqF.1 h1 v (by simpa using hv)) fun j x v hx hv=>?_;rw[aqE,Array.getElem?_toList,hv] at hx;obtain rfl:=aqs hx;exact .ax _
  ·exact .ax _
 ·exact .ax _
def AS.ev (s:AS G):Operand->AV
 | .tmp t=>s.tmps t
 | .const v=>wJ v
 | .global g=>.ax (.pointer (some ⟨g,0,none⟩))
 | .func f=>.bz f []
theorem Rel.ev (h:Rel Γ s a w η) (x:Operand):bB w (bt Γ w η s.hp) η s.hp (s.ev x) (a.eval x):=by
 cases x with
 |tmp t=>exact h.tmps t
 |const v=>exact nM v
 |global g=>exact .ax _
 |func f=>exact .bz f [] #[] rfl (fun j x v h=>by simp at h)
def AV.eG (hp:List aw):AV->AV
 | .own r n=>(match (AV.own r n).iU hp with|some els=>.sl els|none=>.top)
 | .clip els=>.sl els
 | .sl els=>.sl els
 | .ax v=>(match v with | .slice none 0 0=>.sl []|v=>.ax v)
 | .fn v=>.fn v
 | .fL es=>.fL es
 | .aW e o=>.aW e o
 | .bz f caps=>(match caps with | []=>.bz f []|_=>.top)
 |_=>.top
def AV.fO (hp:List aw):AV->AV
 | .agg cs=>.agg (cs.map (AV.eG hp))
 |x=>x.eG hp
def AV.bK (hp:List aw):AV->AV
 | .aK vs=>.aK (vs.map (AV.fO hp))
 | .bz f caps=>.bz f (caps.map (AV.fO hp))
 |x=>x.fO hp
theorem lG (h:eu w (bt Γ w η hp) η hp) (hm:xL Γ η hp) {x:AV} {v:Value} (hx:bB w (bt Γ w η hp) η hp x v):bB w (bt Γ w η hp) [] [] (x.eG hp) v:=by
 cases x with
 |own r n=>
  simp only[AV.eG];split
  ·rename_i els he;have:=lV h hm hx he
   cases this with
   |qq=>exact .qq _
   |sl size els b o c f hc hm hl aR hr=>exact .sl size els b o c f hc hm hl aR hr
  ·exact .top _
 |clip els=>cases hx.oT with
  |qq=>exact .qq _
  |sl size els b o c f hc hm hl aR hr=>exact .sl size els b o c f hc hm hl aR hr
 |sl els=>cases hx with
  |qq=>exact .qq _
  |sl size els b o c f hc hm hl aR hr=>exact .sl size els b o c f hc hm hl aR hr
 |ax u=>
  simp only[AV.eG];split
  ·cases hx;exact .qq _
  ·cases hx;exact .ax _
 |fn u=>cases hx;exact .fn _ (by assumption)
 |fL es=>cases hx with|fL b es c h1 h2 _ hl=>exact .fL b es c h1 h2 _ hl
 |aW e off=>cases hx with|aW _ _ b o f aR hr=>exact .aW e off b o f aR hr
 |bz f caps=>
  simp only[AV.eG];split
  ·cases hx with|bz _ _ vs hl hr=>exact .bz f [] vs hl fun j y u hy _=>by cases hy
  ·exact .top _
 |_=>exact .top _
theorem nN (h:eu w (bt Γ w η hp) η hp) (hm:xL Γ η hp) {x:AV} {v:Value} (hx:bB w (bt Γ w η hp) η hp x v):bB w (bt Γ w η hp) [] [] (x.fO hp) v:=by
 cases x with
 |agg cs=>
  cases hx with
  |agg _ vs hl h1 hr=>
   refine .agg _ vs (by simpa using hl) h1 fun j y u hy hu=>?_;rw[aqE] at hy
   cases hj:cs[j]? with
   |none=>rw[hj] at hy;cases hy
   |some z=>rw[hj] at hy;obtain rfl:=aqs hy;exact lG h hm (hr j z u hj hu)
 |_=>exact lG h hm hx
theorem gA (h:eu w (bt Γ w η hp) η hp) (hm:xL Γ η hp) {x:AV} {v:Value} (hx:bB w (bt Γ w η hp) η hp x v):bB w (bt Γ w η hp) [] [] (x.bK hp) v:=by
 cases x with
 |aK cs=>
  cases hx with
  |aK _ vs hl hr=>
   refine .aK _ vs (by simpa using hl) fun j y u hy hu=>?_;rw[aqE] at hy
   cases hj:cs[j]? with
   |none=>rw[hj] at hy;cases hy
   |some z=>rw[hj] at hy;obtain rfl:=aqs hy;exact nN h hm (hr j z u hj hu)
 |bz f cs=>
  cases hx with
  |bz _ _ vs hl hr=>
   refine .bz f _ vs (by simpa using hl) fun j y u hy hu=>?_;rw[aqE] at hy
   cases hj:cs[j]? with
   |none=>rw[hj] at hy;cases hy
   |some z=>rw[hj] at hy;obtain rfl:=aqs hy;exact nN h hm (hr j z u hj hu)
 |_=>exact nN h hm hx
def fieldsOf (tab:Nat->Option TD) (T:Nat):List (Nat×Nat×Bool):=
 match tab T with
 |some d=>(match d.kind with | .bH fs=>fs|_=>[])
 |none=>[]
def AV.isAgg:AV->Bool
 | .agg _=>true
 |_=>false
def gb (agg:Bool) (size:Nat) (cs:List AV) (o:Nat):Option AV:=
 if agg then(if o+size<=cs.length then some (.agg ((cs.drop o).take size)) else none) else cs[o]?
def yU (agg:Bool) (size:Nat) (e:AV) (o:Nat):Option AV:=
 if o=0/\e.cells.length=size/\e.isAgg=agg then some e else gb agg size e.cells o
def DB (op:BinOp) (k:IntKind) (a b:Int):Option (Prop×AV):=
 match op with
 | .add=>some (True,.ax (.int k (k.wrap (a+b))))
 | .sub=>some (True,.ax (.int k (k.wrap (a-b))))
 | .mul=>some (True,.ax (.int k (k.wrap (a*b))))
 | .eql=>some (True,.ax (.bool (a==b)))
 | .neq=>some (True,.ax (.bool (a != b)))
 | .lss=>some (True,.ax (.bool (decide (a<b))))
 | .leq=>some (True,.ax (.bool (decide (a<=b))))
 | .gtr=>some (True,.ax (.bool (decide (a>b))))
 | .geq=>some (True,.ax (.bool (decide (a>=b))))
 |_=>none
def kP (tab:Nat->Option TD) (T:Nat) (op:BinOp) (x y:AV):Option (Prop×AV):=
 match x,y with
 | .ax (.int k a),.ax (.int k' b)=>if k=k' then DB op k a b else none
 | .ax (.bool a),.ax (.bool b)=>
  (match tab T with
   |some d=>(match d.kind,op with
    | .bool,.eql=>some (True,.ax (.bool (a==b)))
    | .bool,.neq=>some (True,.ax (.bool (!(a==b))))
    |_,_=>none)
   |none=>none)
 | .agg [.ax (.int .i64 a1),.ax (.int .i64 a2)],.agg [.ax (.int .i64 b1),.ax (.int .i64 b2)]=>
  (match tab T with
   |some d=>if d.flat then(match op with
    | .eql=>some (True,.ax (.bool (a1==b1&&a2==b2)))
    | .neq=>some (True,.ax (.bool (!(a1==b1&&a2==b2))))
    |_=>none) else none
   |none=>none)
 | .agg [.ax (.int .i64 a0),.ax (.int .i64 a1),.ax (.int .i64 a2),.ax (.string s)],.agg [.ax (.int .i64 b0),.ax (.int .i64 b1),.ax (.int .i64 b2),.ax (.string t)]=>
  (match tab T with
   |some d=>if d.four then(match op with
    | .eql=>some (True,.ax (.bool (a0==b0&&((a1==b1&&a2==b2)&&s.toList==t.toList))))
    | .neq=>some (True,.ax (.bool (!(a0==b0&&((a1==b1&&a2==b2)&&s.toList==t.toList)))))
    |_=>none) else none
   |none=>none)
 |_,_=>none
def LV:List Prop->Prop
 | []=>True
 |p::l=>p/\LV l
def QU (op:BinOp) (k:IntKind) (a b:Int):Option Int:=
 match op with
 | .and=>some (k.wrap (BitVec.ofInt k.bits a &&& BitVec.ofInt k.bits b).toNat)
 | .or=>some (k.wrap (BitVec.ofInt k.bits a ||| BitVec.ofInt k.bits b).toNat)
 | .xor=>some (k.wrap (BitVec.ofInt k.bits a ^^^ BitVec.ofInt k.bits b).toNat)
 | .andNot=>some (k.wrap (BitVec.ofInt k.bits a &&& ~~~ (BitVec.ofInt k.bits b)).toNat)
 |_=>none
def ib (a b:ByteArray):Bool:=a.toList==b.toList
def strLt (a b:ByteArray):Bool:=Op.bytesLess a.toList b.toList
def DC:AV->Option Bool
 | .ptr _ _=>some false
 | .aW _ _=>some false
 | .ax (.pointer p)=>some p.isNone
 |_=>none
def OM (tab:Nat->Option TD) (T:Nat) (op:BinOp) (x y:AV):Option (List Prop×AV):=
 match y with
 | .ax (.int k' b)=>(match x with
  | .ax (.int k a)=>if k=k' then(match op with
    | .quo=>some ([¬b=0],.ax (.int k (k.wrap (a.tdiv b))))
    | .rem=>some ([¬b=0],.ax (.int k (a.tmod b)))
    |op=>(QU op k a b).map fun n=>([],.ax (.int k n))) else none
  |_=>none)
 | .ax (.string b)=>(match x with
  | .ax (.string a)=>(match op with
    | .add=>some ([a.size+b.size<=9223372036854775807],.ax (.string (a++b)))
    | .eql=>some ([],.ax (.bool (ib a b)))
    | .neq=>some ([],.ax (.bool (!(ib a b))))
    | .lss=>some ([],.ax (.bool (strLt a b)))
    | .leq=>some ([],.ax (.bool (strLt a b||ib a b)))
    | .gtr=>some ([],.ax (.bool (!(strLt a b||ib a b))))
    | .geq=>some ([],.ax (.bool (!(strLt a b))))
    |_=>none)
  |_=>none)
 | .ax (.pointer none)=>(match DC x with
  |some b=>(match tab T with
   |some d=>(match d.kind with
    | .ptr _=>(match op with
     | .eql=>some ([],.ax (.bool b))
     | .neq=>some ([],.ax (.bool (!b)))
     |_=>none)
    |_=>none)
   |none=>none)
  |none=>none)
 |_=>none
theorem JJ {tab:Nat->Option TD} {T:Nat} {op:BinOp} {x y:AV} {p:List Prop×AV} (h:OM tab T op x y=some p):kP tab T op x y=none:=by
 unfold OM at h;split at h
 ·split at h
  ·split at h
   ·rename_i hk;subst hk
    cases op<;>simp[QU] at h<;>simp[kP,DB]
   ·cases h
  ·cases h
 ·split at h
  ·simp[kP]
  ·cases h
 ·unfold kP
  split<;>first|rfl|(rename_i e;cases e)
 ·cases h
def abC:Operand->Bool
 | .const .nilIface=>true
 |_=>false
theorem Xm {y:Operand} (h:abC y=true):y=.const .nilIface:=by
 unfold abC at h;split at h
 ·rfl
 ·cases h
def Xn (tab:Nat->Option TD) (T:Nat) (op:BinOp) (x:AV) (y:Operand):Option AV:=
 match abC y with
 |true=>(match tab T,x with
  |some d,.ax .nilIface=>(match d.kind with
   | .ifc=>(match op with
    | .eql=>some (.ax (.bool true))
    | .neq=>some (.ax (.bool false))
    |_=>none)
   |_=>none)
  |_,_=>none)
 |false=>none
def DE (tab:Nat->Option TD) (T:Nat) (op:BinOp) (x y:AV):Option (Prop×AV):=
 match kP tab T op x y with
 |some r=>some r
 |none=>(OM tab T op x y).map fun p=>(LV p.1,p.2)
def DF (tab:Nat->Option TD) (S D:Nat) (x:AV):Option AV:=
 match tab S,tab D,x with
 |some _,some d,.ax (.int _ n)=>(match d.kind with
  | .int k=>some (.ax (.int k (k.wrap n)))
  |_=>none)
 |some _,some d,.ax (.string s)=>(match d.kind with
  | .str=>some (.ax (.string s))
  |_=>none)
 |_,_,_=>none
def dT (b:ByteArray) (n:Int):Int:=(((b.data[n.toNat]?).map UInt8.toNat).getD 0:Nat)
def aL {κ:Type} [DecidableEq κ]:List (κ×Value)->κ->Option Value
 | [],_=>none
 |(k,v)::r,a=>if a=k then some v else aL r a
def AV.Cn (hp:List aw):AV->Option ME
 | .fL es=>some es
 | .mp r=>(match hp[r]? with|some (.cE es)=>some es|_=>none)
 |_=>none
def AV.val?:AV->Option Value
 | .ax v=>some v
 | .agg [.ax a,.ax b,.ax c]=>some (.agg #[a,b,c])
 |_=>none
def iW {κ:Type} [DecidableEq κ] (es:List (κ×Value)) (z:Value) (a:κ) (ok:Bool):AV:=
 if ok=true then .aK [wJ ((aL es a).getD z),.ax (.bool (aL es a).isSome)] else wJ ((aL es a).getD z)
def vK (hp:List aw) (x:AV):Option AV:=
 match x with
 | .ax (.string s)=>some (.ax (.int .i64 s.size))
 |x=>(x.iU hp).map fun els=>.ax (.int .i64 els.length)
def AV.nO:AV->Bool
 | .ax v=>v.oneCell'
 | .top | .aK _ | .fV _ _ _ _=>false
 |_=>true
def yV (n:Nat):List (Nat×Nat×Bool):=(List.range n).map fun i=>(i,1,false)
def dP (fs:List (Nat×Nat×Bool)) (cs:List AV):List (Nat×AV)->Option (List AV)
 | []=>some cs
 |(i,x)::rest=>
  match fs[i]? with
  |some p=>if x.cells.length=p.2.1/\p.1+p.2.1<=cs.length/\x.nO=true then dP fs (setCells cs p.1 x.cells) rest else none
  |none=>none
def tV:Nat->List (Nat×Operand)->Bool
 |_,[]=>true
 |k,(i,_)::r=>i==k&&tV (k+1) r
def sT (size:Nat):List AV->Prop
 | []=>True
 |x::xs=>(x.cells.length=size/\x.nO=true)/\sT size xs
def bZ (ρ:Operand->AV) (d:Int):Option Operand->Option Int
 |none=>some d
 |some x=>(match ρ x with | .ax (.int _ n)=>some n|_=>none)
def vL (hp:List aw):AV->Option (Nat×Nat×Nat×Nat×Nat)
 | .own r m=>(match hp[r]? with
  |some (.bj e size els)=>some (r,m,e,size,els.length)
  |_=>none)
 |_=>none
def bL (tab:Nat->Option TD) (hp:List aw) (ρ:Operand->AV):Op->Option (Prop×AV)
 | .move x=>some (True,ρ x)
 | .assign x=>some (True,ρ x)
 | .nilCheck x=>(match ρ x with
  | .ptr r o=>some (True,.ptr r o)
  | .aW e o=>some (True,.aW e o)
  |_=>none)
 | .pick c x y=>(match ρ c with
  | .ax (.bool t)=>some (True,if t=true then ρ x else ρ y)
  |_=>none)
 | .fieldAddr T x f=>(match (fieldsOf tab T)[f]? with
  |some p=>if p.2.1=0 then none else(match ρ x with
   | .ptr r o=>some (True,.ptr r (o+p.1))
   | .aW e o=>some (True,.aW e (o+p.1))
   | .fV r m i z=>if p.1=0 then some (True,.fV r m i z) else none
   |_=>none)
  |none=>none)
 | .load T x=>(match tab T with
  |some d=>(match ρ x with
   | .ptr r o=>(match hp[r]? with
    |some (.box cs)=>(gb d.kind.agg d.size cs o).map fun v=>(True,v)
    |_=>none)
   | .aW e o=>(yU d.kind.agg d.size e o).map fun v=>(True,v)
   | .fV r m i z=>(match hp[r]? with
    |some (.bj _ z' els)=>if z'=z/\d.size=z then some (m=els.length/\i<els.length/\(els.getD i .top).isAgg=d.kind.agg,els.getD i .top) else none
    |_=>none)
   |_=>none)
  |none=>none)
 | .indexAddr T x i=>(match tab T with
  |some d=>(match d.kind with
   | .lU e=>(match tab e,(ρ x).iU hp,ρ i with
    |some d',some els,.ax (.int _ n)=>some (0<=n/\n<els.length/\(els.getD n.toNat .top).cells.length=d'.size,.aW (els.getD n.toNat .top) 0)
    |some d',none,.ax (.int _ n)=>(match vL hp (ρ x) with
     |some (r,m,e',size,k)=>if e'=e/\size=d'.size then some (0<=n/\n<m/\m=k,.fV r m n.toNat size) else none
     |none=>none)
    |_,_,_=>none)
   | .arr m=>(match ρ x,ρ i with
    | .ptr r 0,.ax (.int _ n)=>some (0<=n/\n<m,.ptr r n.toNat)
    | .aW e 0,.ax (.int _ n)=>some (0<=n/\n<m,.aW e n.toNat)
    |_,_=>none)
   |_=>none)
  |none=>none)
 | .binOp op T x y _=>(match Xn tab T op (ρ x) y with
  |some v=>some (True,v)
  |none=>DE tab T op (ρ x) (ρ y))
 | .convert S D x=>(DF tab S D (ρ x)).map fun v=>(True,v)
 | .unOp op _ x=>(match op,ρ x with
  | .not,.ax (.bool b)=>some (True,.ax (.bool (!b)))
  | .neg,.ax (.int k n)=>some (True,.ax (.int k (k.wrap (0-n))))
  |_,_=>none)
 | .build T parts=>(match tab T with
  |some d=>(match d.kind with
   | .bH fs=>(dP fs (d.zero.cells.toList.map .ax) (parts.toList.map fun p=>(p.1,ρ p.2))).map fun cs=>(True,.agg cs)
   | .arr n=>(dP (yV n) (d.zero.cells.toList.map .ax) (parts.toList.map fun p=>(p.1,ρ p.2))).map fun cs=>(True,.agg cs)
   |_=>none)
  |none=>none)
 | .buildSlice T n parts=>(match tab T with
  |some d=>(match d.kind with
   | .lU e=>(match tab e with
    |some d'=>if n=parts.toList.length/\tV 0 parts.toList=true/\n<=16777216/\n*d'.size<=16777216 then some (sT d'.size (parts.toList.map fun p=>(ρ p.2).bK hp),.clip (parts.toList.map fun p=>(ρ p.2).bK hp)) else none
    |none=>none)
   |_=>none)
  |none=>none)
 | .slice T x lo hi mx=>(match tab T with
  |some d=>(match d.kind,ρ x with
   | .str,.ax (.string b)=>(match mx,bZ ρ 0 lo,bZ ρ b.size hi with
    |none,some l,some h=>some (0<=l/\l<=h/\h<=b.size,.ax (.string (b.extract l.toNat h.toNat)))
    |_,_,_=>none)
   | .lU e,v=>(match v.iU hp,tab e with
    |some els,some d'=>(match bZ ρ 0 lo,bZ ρ els.length hi,mx.map fun m=>bZ ρ 0 (some m) with
     |some l,some h,none=>some (0<=l/\l<=h/\h<=els.length/\(∀y:AV,y∈els->y.cells.length=d'.size),.sl ((els.take h.toNat).drop l.toNat))
     |some l,some h,some (some m)=>if hi.isSome=true then some (0<=l/\l<=h/\h=m/\h<=els.length/\(∀y:AV,y∈els->y.cells.length=d'.size),.clip ((els.take h.toNat).drop l.toNat)) else none
     |_,_,_=>none)
    |_,_=>none)
   |_,_=>none)
  |none=>none)
 | .field T x f=>(match (fieldsOf tab T)[f]?,ρ x with
  |some p,.agg cs=>if p.2.2=true\/p.2.1=1 then(gb p.2.2 p.2.1 cs p.1).map fun v=>(True,v) else none
  |_,_=>none)
 | .lookup T m k ok=>(match tab T,(ρ m).Cn hp,ρ k with
  |some d,some (.i es),.ax (.int .i64 a)=>(match d.kind with
   | .qo kt et=>(match tab kt,tab et with
    |some dk,some de=>(match dk.kind with
     | .int _=>some (True,iW es de.zero a ok)
     |_=>none)
    |_,_=>none)
   |_=>none)
  |some d,some (.s es),.ax (.string a)=>(match d.kind with
   | .qo kt et=>(match tab kt,tab et with
    |some dk,some de=>(match dk.kind with
     | .str=>some (True,iW es de.zero a ok)
     |_=>none)
    |_,_=>none)
   |_=>none)
  |_,_,_=>none)
 | .index T x i=>(match tab T,ρ x,ρ i with
  |some d,.ax (.string b),.ax (.int _ n)=>(match d.kind with
   | .str=>some (0<=n/\n<b.size,.ax (.int .u8 (dT b n)))
   |_=>none)
  |_,_,_=>none)
 | .extract x i=>(match ρ x with
  | .aK vs=>(vs[i]?).map fun v=>(True,v)
  |_=>none)
 | .makeFunc (.func f) first caps=>if first.size=0 then some (True,.bz f (caps.toList.map ρ)) else if caps.size=0 then some (True,.dm f (first.toList.map ρ)) else none
 | .call c=>(match c.callee,c.args.toList with
  | .builtin .len,[x]=>(match (c.argTypes[0]?).bind tab with
   |some d=>(match d.kind,ρ x with
    | .lU _,.ax (.string _)=>none
    | .lU _,v=>(match vK hp v with
     |some u=>some (True,u)
     |none=>(match vL hp v with
      |some (_,m,_,_,k)=>some (m=k,.ax (.int .i64 (m:Nat)))
      |none=>none))
    | .str,.ax (.string b)=>some (True,.ax (.int .i64 b.size))
    |_,_=>none)
   |none=>none)
  | .builtin .min,[x,y]=>(match ρ x,ρ y with
   | .ax (.int k m),.ax (.int _ n)=>some (True,.ax (.int k (if n<m then n else m)))
   |_,_=>none)
  | .builtin .max,[x,y]=>(match ρ x,ρ y with
   | .ax (.int k m),.ax (.int _ n)=>some (True,.ax (.int k (if n>m then n else m)))
   |_,_=>none)
  |_,_=>none)
 |_=>none
def gq (Γ:Env G) (o:Oper) (s:AS G) (r:AV):Prop:=
 ∀a w η,Rel Γ s a w η->∃v w',(execOp a.eval o).run Γ.P w=.ok (.value v) w'/\bV w w'/\bB w' (bt Γ w' η s.hp) η s.hp r v
theorem aZ {o:Oper} {r:AV} (h:∀a w η,Rel Γ s a w η->∃v,(execOp a.eval o).run Γ.P w=.ok (.value v) w/\bB w (bt Γ w η s.hp) η s.hp r v):gq Γ o s r:=
 fun a w η hr=>let ⟨v,h1,h2⟩:=h a w η hr;⟨v,w,h1,bV.refl w,h2⟩
theorem bB.aC {u v:Value} (h:bB w F η hp (.ax u) v):v=u:=by cases h;rfl
theorem bB.Xo {x:AV} {u v:Value} (h:bB w F η hp x v) (hx:x.val?=some u):v=u:=by
 unfold AV.val? at hx;split at hx
 ·obtain rfl:=aqs hx;exact h.aC
 ·obtain rfl:=aqs hx
  cases h with
  |agg cs vs hl h1 hr=>
   obtain⟨l⟩:=vs
   match l,hl with
   | [x,y,z],_=>
    obtain rfl:x=_:=(hr 0 _ x rfl rfl).aC;obtain rfl:y=_:=(hr 1 _ y rfl rfl).aC;obtain rfl:z=_:=(hr 2 _ z rfl rfl).aC;rfl
 ·cases hx
theorem fC {agg:Bool} {size:Nat} {cs:List AV} {o:Nat} {r:AV} (cx:agg=false->size=1) {vs:List Value} (hl:vs.length=cs.length) (hr:∀(j:Nat) (x:AV) (u:Value),cs[j]?=some x->vs[j]?=some u->bB w F η hp x u/\u.oneCell'=true)
  (h:gb agg size cs o=some r):o+size<=vs.length/\bB w F η hp r (if agg then .agg ((vs.drop o).take size).toArray else((vs.drop o).take size).headD undef):=by
 unfold gb at h
 cases agg with
 |true=>
  simp only[if_true] at h ⊢;split at h
  ·rename_i hle;obtain rfl:=aqs h;refine⟨by omega,.agg _ _ (by simp;omega) (fun v hv=>?_) fun j x v hx hv=>?_⟩
   ·have QC:v∈(vs.drop o).take size:=by simpa using hv
    obtain⟨k,hk⟩:=arM QC;rw[aqM] at hk;split at hk
    ·rw[arB] at hk;have aH:o+k<vs.length:=(aqr.1 hk).1;exact(hr (o+k) (cs[o+k]'(by omega)) v (by simp) hk).2
    ·cases hk
   ·have QC:((vs.drop o).take size)[j]?=some v:=by simpa using hv
    rw[aqM] at hx QC;split at hx
    ·rename_i hj;rw[if_pos hj,arB] at QC;rw[arB] at hx;exact(hr (o+j) x v hx QC).1
    ·cases hx
  ·cases h
 |false=>
  simp only[aqH,if_false] at h ⊢;have aH:o<cs.length:=(aqr.1 h).1;have h1:=cx rfl;subst h1;refine⟨by omega,?_⟩;have hv:vs[o]?=some (vs[o]'(by omega)):=by simp
  have:((vs.drop o).take 1).headD undef=vs[o]'(by omega):=by
   rw[List.headD_eq_head?_getD,List.head?_eq_getElem?,aqM,if_pos (by omega),arB];simp only[arw];rw[hv];rfl
  rw[this];exact(hr o r _ h hv).1
theorem lY {T:TypeId} {d:TD} (ht:fM P T d) {b o:Nat} {vs:List Value} (hc:∀(j:Nat) (u:Value),vs[j]?=some u->w.cell? ⟨b,j,none⟩=some u) (hle:o+d.size<=vs.length):
  (loadVar T ⟨b,o,none⟩).run P w=.ok (if d.kind.agg then .agg ((vs.drop o).take d.size).toArray else((vs.drop o).take d.size).headD undef) w:=by
 refine ht.run_load (vs:=(vs.drop o).take d.size) (by simp;omega) fun j u hj=>?_;rw[aqM] at hj;split at hj
 ·rw[arB] at hj;exact hc _ _ hj
 ·cases hj
theorem vM {b:Nat} {vs:Array Value} {T:TypeId} (hg:w.heap[b]?=some (.cells vs T (0,0))) (j:Nat) (u:Value) (hj:vs.toList[j]?=some u):w.cell? ⟨b,j,none⟩=some u:=by
 rw[cell_of_row w b j vs T (0,0) hg];simpa using hj
theorem bc.sz {tab:Nat->Option TD} (aA:bc P tab) {T:Nat} {d:TD} (h:tab T=some d):d.kind.agg=false->d.size=1:=fun h1=>((aA T d h).aat h1).1
theorem Co {tab:Nat->Option TD} (aA:bc Γ.P tab) {o:Oper} {T:Nat} {x:Operand} (ho:o.op=.load T x) {d:TD} (hd:tab T=some d) {r:AV}
  (h:(∃n off cs,s.ev x=.ptr n off/\s.hp[n]?=some (.box cs)/\gb d.kind.agg d.size cs off=some r)\/(∃e off,s.ev x=.aW e off/\yU d.kind.agg d.size e off=some r)):gq Γ o s r:=by
 refine aZ fun a w η hr=>?_;have hx:=hr.ev x;have dJ:=aA T d hd;rcases h with⟨n,off,cs,he,hn,hld⟩|⟨e,off,he,hld⟩
 ·rw[he] at hx
  cases yW:a.eval x<;>rw[yW] at hx<;>cases hx
  rename_i b fF;obtain⟨b',vs,T',hb,hg,cx,hc⟩:=hr.heap.obj n _ _ hn fF;simp only[Value.pointer.injEq,aqq,Addr.mk.injEq,and_true] at hb;subst hb;obtain⟨h1,h2⟩:=fC (w:=w) (F:=bt Γ w η s.hp) (η:=η) (hp:=s.hp) (aA.sz hd) (vs:=vs.toList) (by simpa using cx) (fun j x u hx hu=>hc j x u hx (by simpa using hu)) hld;refine⟨_,?_,h2⟩;simp only[execOp,ho,yW,Instr.loadAt,Instr.sureAddr,ao,aq,al];rw[lY dJ (vM hg) h1];rfl
 ·rw[he] at hx
  cases yW:a.eval x<;>rw[yW] at hx<;>cases hx
  rename_i b o f aR eR;have dK:∀(j:Nat) (x:AV) (u:Value),e.cells[j]?=some x->((List.range e.cells.length).map f)[j]?=some u->bB w (bt Γ w η s.hp) η s.hp x u/\u.oneCell'=true:=by
   intro j x u hx hu;have aH:=(aqr.1 hx).1;rw[aqE,asp aH] at hu;obtain rfl:=aqs hu;exact⟨(eR j x hx).lift,(aR j x hx).2.2⟩
  have iV:∀(j:Nat) (u:Value),((List.range e.cells.length).map f)[j]?=some u->w.cell? ⟨b,o+j,none⟩=some u:=by
   intro j u hj;rw[aqE] at hj
   by_cases aH:j<e.cells.length
   ·rw[asp aH] at hj;obtain rfl:=aqs hj;exact(aR j _ (aqr.2 ⟨aH,rfl⟩)).1
   ·rw[aq6 (by simp;omega)] at hj;cases hj
  have key:off+d.size<=e.cells.length/\bB w (bt Γ w η s.hp) η s.hp r (if d.kind.agg then .agg ((((List.range e.cells.length).map f).drop off).take d.size).toArray else((((List.range e.cells.length).map f).drop off).take d.size).headD undef):=by
   unfold yU at hld;split at hld
   ·rename_i hc;obtain⟨rfl,hlen,cj⟩:=hc;obtain rfl:=aqs hld;refine⟨by omega,?_⟩
    cases hk:d.kind.agg with
    |true=>
     rw[hk] at cj
     cases e<;>simp only[AV.isAgg] at cj<;>try (cases cj;done)
     rename_i cs;have wK:cs.length=d.size:=hlen;have:=(fC (w:=w) (F:=bt Γ w η s.hp) (η:=η) (hp:=s.hp) (agg:=true) (size:=d.size) (cs:=cs) (o:=0) (r:=.agg cs) (fun h=>by cases h) (vs:=(List.range cs.length).map f) (by simp) dK (by simp[gb,<-wK])).2;simpa [AV.cells] using this
    |false=>
     have h1:=aA.sz hd hk;have JK:e.cells=[e]:=by
      rw[hk] at cj
      cases e<;>first|rfl|(simp[AV.isAgg] at cj)
     have:=(fC (w:=w) (F:=bt Γ w η s.hp) (η:=η) (hp:=s.hp) (agg:=false) (size:=d.size) (cs:=e.cells) (o:=0) (r:=e) (fun _=>h1) (vs:=(List.range e.cells.length).map f) (by simp) dK (by rw[JK];rfl)).2;simpa using this
   ·have:=fC (w:=w) (F:=bt Γ w η s.hp) (η:=η) (hp:=s.hp) (aA.sz hd) (vs:=(List.range e.cells.length).map f) (by simp) dK hld;simpa using this
  refine⟨_,?_,key.2⟩;simp only[execOp,ho,yW,Instr.loadAt,Instr.sureAddr,ao,aq,al];rw[dJ.run_load (vs:=(((List.range e.cells.length).map f).drop off).take d.size) (by simp;omega) (fun j u hj=>by
   rw[aqM] at hj;split at hj
   ·rw[arB] at hj;have:=iV _ _ hj;rw[asd];exact this
   ·cases hj)]
  rfl
end
section
variable {G:Type} {Γ:Env G} {s:AS G} {a:Act} {w w':World} {η:List Value} {hp:List aw} {F:Nat->Nat->Prop} {P:Program}
theorem oW {tab:Nat->Option TD} {T:Nat} {f:Nat} {p:Nat×Nat×Bool} (h:(fieldsOf tab T)[f]?=some p):∃d fs,tab T=some d/\d.kind=.bH fs/\fs[f]?=some p:=by
 unfold fieldsOf at h;split at h
 ·rename_i d hd;split at h
  ·rename_i fs hk;exact⟨d,fs,hd,hk,h⟩
  ·simp at h
 ·simp at h
theorem fM.field {T:Nat} {d:TD} (h:fM P T d) {fs:List (Nat×Nat×Bool)} (hk:d.kind=.bH fs) {f:Nat} {p:Nat×Nat×Bool} (hf:fs[f]?=some p):
  ∃fields fd i u,P.underlying T=some (.struct fields)/\fields[f]?=some fd/\fd.offset=p.1/\P.info? fd.type=some i/\i.size=p.2.1/\P.underlying fd.type=some u/\QS u=p.2.2:=by
 obtain⟨u,h1,h2⟩:=h.mK;rw[hk] at h2;obtain⟨fields,rfl,h3⟩:=h2;have h4:=congrArg (·[f]?) h3;simp only[aqE,hf,aq1,Array.getElem?_toList] at h4
 cases hfd:fields[f]? with
 |none=>rw[hfd] at h4;cases h4
 |some fd=>
  rw[hfd] at h4;simp only[aq1,aqq,aqt] at h4;obtain⟨e1,e2,e3⟩:=h4
  cases hi:P.info? fd.type with
  |none=>rw[hi] at e2;cases e2
  |some i=>
   cases hu:P.underlying fd.type with
   |none=>rw[hu] at e3;cases e3
   |some u=>
    rw[hi] at e2;rw[hu] at e3;exact⟨fields,fd,i,u,h1,hfd,e1,hi,by simpa using e2,hu,by simpa using e3⟩
theorem qz {tab:Nat->Option TD} (aA:bc Γ.P tab) {o:Oper} {T f:Nat} {x:Operand} (ho:o.op=.fieldAddr T x f) {p:Nat×Nat×Bool} (hp:(fieldsOf tab T)[f]?=some p) (h0:p.2.1≠0) {r:AV}
  (h:(∃n off,s.ev x=.ptr n off/\r=.ptr n (off+p.1))\/(∃e off,s.ev x=.aW e off/\r=.aW e (off+p.1))):gq Γ o s r:=by
 refine aZ fun a w η hr=>?_;have hx:=hr.ev x;obtain⟨d,fs,hd,hk,hf⟩:=oW hp;obtain⟨fields,fd,i,u,h1,h2,h3,h4,h5,_⟩:=(aA T d hd).field hk hf;have h6:¬i.size=0:=by rw[h5];exact h0
 rcases h with⟨n,off,he,rfl⟩|⟨e,off,he,rfl⟩<;>rw[he] at hx
 ·cases yW:a.eval x<;>rw[yW] at hx<;>cases hx
  rename_i b fF;exact⟨.pointer (some ⟨b,off+p.1,none⟩),by simp[execOp,ho,yW,Instr.fieldAt,run_underlying h1,h2,Instr.sureAddr,fieldPlace,sizeOf,typeInfo,h4,h6,h3,Addr.add_lit],.ptr n _ b fF⟩
 ·cases yW:a.eval x<;>rw[yW] at hx<;>cases hx
  rename_i b o f' aR eR;refine⟨.pointer (some ⟨b,o+off+p.1,none⟩),by simp[execOp,ho,yW,Instr.fieldAt,run_underlying h1,h2,Instr.sureAddr,fieldPlace,sizeOf,typeInfo,h4,h6,h3,Addr.add_lit],?_⟩;rw[asd];exact .aW e _ b o f' aR eR
theorem xO {tab:Nat->Option TD} (aA:bc Γ.P tab) {o:Oper} {T f:Nat} {x:Operand} (ho:o.op=.fieldAddr T x f) {p:Nat×Nat×Bool} (hp:(fieldsOf tab T)[f]?=some p) (h0:p.2.1≠0) {r m i z:Nat}
  (he:s.ev x=.fV r m i z) (hz:p.1=0):gq Γ o s (.fV r m i z):=by
 refine aZ fun a w η hr=>?_;have hx:=hr.ev x;obtain⟨d,fs,hd,hk,hf⟩:=oW hp;obtain⟨fields,fd,i',u,h1,h2,h3,h4,h5,_⟩:=(aA T d hd).field hk hf;have h6:¬i'.size=0:=by rw[h5];exact h0
 rw[he] at hx
 cases yW:a.eval x<;>rw[yW] at hx<;>cases hx
 rename_i b o' c k Fx;exact⟨.pointer (some ⟨b,o'+i*z,none⟩),by simp[execOp,ho,yW,Instr.fieldAt,run_underlying h1,h2,Instr.sureAddr,fieldPlace,sizeOf,typeInfo,h4,h6,h3,Addr.add_lit,hz],.fV r m i z b o' c k Fx⟩
theorem JL {tab:Nat->Option TD} (aA:bc Γ.P tab) {o:Oper} {T:Nat} {x:Operand} (ho:o.op=.load T x) {d:TD} (hd:tab T=some d) {r m i z e:Nat} {els:List AV} (he:s.ev x=.fV r m i z) (ss:s.hp[r]?=some (.bj e z els))
  (hm:m=els.length) (FF:d.size=z) (hi:i<els.length) (cj:els[i].isAgg=d.kind.agg):gq Γ o s els[i]:=by
 refine aZ fun a w η hr=>?_;have hx:=hr.ev x;have dJ:=aA T d hd;rw[he] at hx
 cases yW:a.eval x<;>rw[yW] at hx<;>cases hx
 rename_i b o' c k Fx;have yX:=Fx;unfold bl at yX;rw[ss] at yX;have fF:=yX.2 hm;obtain⟨hz0,xs,eQ,fN⟩:=hr.heap.obj r _ _ ss fF;rcases eQ.2 with⟨h0,_⟩|⟨g,cap,cur,hve,h0,⟨FG,rR,hg⟩,Jx,Jy,iV,qa⟩
 ·omega
 simp only[Value.slice.injEq,aqq,Addr.mk.injEq,and_true] at hve;obtain⟨⟨rfl,rfl⟩,hnm,rfl⟩:=hve;have tU:=fN i els[i] (aqx hi);have aR:(i+1)*z<=els.length*z:=ard _ hi;rw[arz,Nat.one_mul] at aR;have Xp:((xs.drop (i*z)).take z).length=z:=by rw[arp,aqY,eQ.1];omega
 have eg:∀(j:Nat) (u:Value),((xs.drop (i*z)).take z)[j]?=some u->j<z/\xs[i*z+j]?=some u:=by
  intro j u hj;rw[aqM] at hj;split at hj
  ·rename_i aH;rw[arB] at hj;exact⟨aH,hj⟩
  ·cases hj
 have dK:∀(j:Nat) (y:AV) (u:Value),els[i].cells[j]?=some y->((xs.drop (i*z)).take z)[j]?=some u->bB w (bt Γ w η s.hp) η s.hp y u/\u.oneCell'=true:=by
  intro j y u hy hu;obtain⟨_,h2⟩:=eg j u hu;obtain⟨u',q1,q2,q3⟩:=tU.2 j y hy;rw[h2] at q1;obtain rfl:=aqs q1;exact⟨q2.lift,q3⟩
 have aju:∀(j:Nat) (u:Value),((xs.drop (i*z)).take z)[j]?=some u->w.cell? ⟨b,0+i*z+j,none⟩=some u:=by
  intro j u hj;obtain⟨h1,h2⟩:=eg j u hj;rw[<-qa,aqM] at h2;split at h2
  ·rw[cell_of_row w b (0+i*z+j) cur e (0,FG) hg,aqV];simpa using h2
  ·cases h2
 have key:bB w (bt Γ w η s.hp) η s.hp els[i] (if d.kind.agg then .agg ((xs.drop (i*z)).take z).toArray else((xs.drop (i*z)).take z).headD undef):=by
  have hlen:=tU.1;generalize els[i]=el at cj hlen dK
  cases hk:d.kind.agg with
  |true=>
   rw[hk] at cj
   cases el<;>simp only[AV.isAgg] at cj<;>try (cases cj;done)
   rename_i cs;have wK:cs.length=z:=hlen;have:=(fC (w:=w) (F:=bt Γ w η s.hp) (η:=η) (hp:=s.hp) (agg:=true) (size:=z) (cs:=cs) (o:=0) (r:=.agg cs) (fun h=>by cases h) (vs:=(xs.drop (i*z)).take z) (by rw[Xp,wK]) dK (by simp[gb,<-wK])).2;simpa [List.take_take] using this
  |false=>
   have h1:=aA.sz hd hk;have JK:el.cells=[el]:=by
    rw[hk] at cj
    cases el<;>first|rfl|(simp[AV.isAgg] at cj)
   have:=(fC (w:=w) (F:=bt Γ w η s.hp) (η:=η) (hp:=s.hp) (agg:=false) (size:=z) (cs:=el.cells) (o:=0) (r:=el) (fun _=>by rw[<-FF];exact h1) (vs:=(xs.drop (i*z)).take z) (by rw[Xp,hlen]) dK (by rw[JK];rfl)).2;simpa [<-FF,h1,List.take_take] using this
 refine⟨_,?_,key⟩;simp only[execOp,ho,yW,Instr.loadAt,Instr.sureAddr,ao,aq,al];rw[dJ.run_load (vs:=(xs.drop (i*z)).take z) (by rw[Xp,FF]) aju];rfl
theorem yY {tab:Nat->Option TD} (aA:bc Γ.P tab) {o:Oper} {T e:Nat} {x i:Operand} (ho:o.op=.indexAddr T x i) {d d':TD} (hd:tab T=some d) (hk:d.kind=.lU e) (ef:tab e=some d') {els:List AV} (fN:(s.ev x).iU s.hp=some els)
  {k:IntKind} {n:Int} (hi:s.ev i=.ax (.int k n)) (h0:0<=n) (h1:n<els.length) (cx:(els.getD n.toNat .top).cells.length=d'.size):gq Γ o s (.aW (els.getD n.toNat .top) 0):=by
 refine aZ fun a w η hr=>?_;have hx:=lV hr.heap hr.cq (hr.ev x) fN;have JM:=hr.ev i;rw[hi] at JM;have Xq:=JM.aC;have hu:Γ.P.underlying T=some (.slice e):=by
  obtain⟨u,h2,h3⟩:=(aA T d hd).mK;rw[hk] at h3;rw[h2];exact congrArg some h3
 have aH:n.toNat<els.length:=by omega
 have eg:els[n.toNat]?=some (els.getD n.toNat .top):=by simp[List.getD,aH]
 generalize vD:a.eval x=vx at hx
 cases hx with
 |qq=>simp at aH
 |sl size els b off c f hc hm hl aR eR=>
  have hs:size=d'.size:=by rw[<-hl _ _ eg];exact cx
  subst hs;obtain⟨i0,FG,jN,_⟩:=(aA e d' ef).info;refine⟨.pointer (some ⟨b,off+n.toNat*d'.size,none⟩),?_,.aW _ 0 b (off+n.toNat*d'.size) (f n.toNat) (fun j x hj=>aR _ _ _ _ eg hj) (fun j x hj=>eR _ _ _ _ eg hj)⟩;have hb:0<=n/\n<(els.length:Int):=⟨h0,h1⟩;simp[execOp,ho,vD,Xq,Instr.indexAt,asIntOf,run_underlying hu,hb,sizeOf,typeInfo,FG,jN,Addr.add_lit]
theorem xP {tab:Nat->Option TD} (aA:bc Γ.P tab) {o:Oper} {T m:Nat} {x i:Operand} (ho:o.op=.indexAddr T x i) {d:TD} (hd:tab T=some d) (hk:d.kind=.arr m) {r:Nat} (hx:s.ev x=.ptr r 0)
  {k:IntKind} {n:Int} (hi:s.ev i=.ax (.int k n)) (h0:0<=n) (h1:n<m):gq Γ o s (.ptr r n.toNat):=by
 refine aZ fun a w η hr=>?_;have eP:=hr.ev x;rw[hx] at eP;have JM:=hr.ev i;rw[hi] at JM;have Xq:=JM.aC;obtain⟨u,h2,h3⟩:=(aA T d hd).mK;rw[hk] at h3;obtain⟨e,i0,rfl,FG,jN⟩:=h3;generalize vD:a.eval x=vx at eP
 cases eP with
 |ptr _ _ b fF=>
  refine⟨.pointer (some ⟨b,n.toNat,none⟩),?_,.ptr _ _ b fF⟩;have hb:0<=n/\n<(m:Int):=⟨h0,h1⟩;simp[execOp,ho,vD,Xq,Instr.indexAt,asIntOf,run_underlying h2,hb,sizeOf,typeInfo,FG,jN,Addr.add_lit,Instr.sureAddr]
theorem xQ {tab:Nat->Option TD} (aA:bc Γ.P tab) {o:Oper} {T m:Nat} {x i:Operand} (ho:o.op=.indexAddr T x i) {d:TD} (hd:tab T=some d) (hk:d.kind=.arr m) {e:AV} (hx:s.ev x=.aW e 0)
  {k:IntKind} {n:Int} (hi:s.ev i=.ax (.int k n)) (h0:0<=n) (h1:n<m):gq Γ o s (.aW e n.toNat):=by
 refine aZ fun a w η hr=>?_;have eP:=hr.ev x;rw[hx] at eP;have JM:=hr.ev i;rw[hi] at JM;have Xq:=JM.aC;obtain⟨u,h2,h3⟩:=(aA T d hd).mK;rw[hk] at h3;obtain⟨e',i0,rfl,FG,jN⟩:=h3;generalize vD:a.eval x=vx at eP
 cases eP with
 |aW _ _ b q f aR W2=>
  refine⟨.pointer (some ⟨b,q+n.toNat,none⟩),?_,.aW _ _ b q f aR W2⟩;have hb:0<=n/\n<(m:Int):=⟨h0,h1⟩;simp[execOp,ho,vD,Xq,Instr.indexAt,asIntOf,run_underlying h2,hb,sizeOf,typeInfo,FG,jN,Addr.add_lit,Instr.sureAddr]
theorem rS {hp:List aw} {x:AV} {r m e size k:Nat} (h:vL hp x=some (r,m,e,size,k)):x=.own r m/\∃els,hp[r]?=some (.bj e size els)/\k=els.length:=by
 unfold vL at h;split at h
 ·split at h
  ·rename_i hr;simp only[aqq,aqt] at h;obtain⟨rfl,rfl,rfl,rfl,rfl⟩:=h;exact⟨rfl,_,hr,rfl⟩
  ·cases h
 ·cases h
theorem xR {tab:Nat->Option TD} (aA:bc Γ.P tab) {o:Oper} {T e:Nat} {x i:Operand} (ho:o.op=.indexAddr T x i) {d d':TD} (hd:tab T=some d) (hk:d.kind=.lU e) (ef:tab e=some d') {r m:Nat} {els:List AV} (hx:s.ev x=.own r m) (ss:s.hp[r]?=some (.bj e d'.size els)) (hm:m=els.length)
  {k:IntKind} {n:Int} (hi:s.ev i=.ax (.int k n)) (h0:0<=n) (h1:n<m):gq Γ o s (.fV r m n.toNat d'.size):=by
 refine aZ fun a w η hr=>?_;have eP:=hr.ev x;rw[hx] at eP;have JM:=hr.ev i;rw[hi] at JM;have Xq:=JM.aC;have hu:Γ.P.underlying T=some (.slice e):=by
  obtain⟨u,h2,h3⟩:=(aA T d hd).mK;rw[hk] at h3;rw[h2];exact congrArg some h3
 generalize vD:a.eval x=vx at eP
 cases eP with
 |own _ _ _ BJ Fx=>
  have yX:=Fx;unfold bl at yX;rw[ss] at yX;have fF:=yX.2 hm;obtain⟨QF,xs,eQ,_⟩:=hr.heap.obj r _ _ ss fF;rcases eQ.2 with⟨hz,_⟩|⟨g,cap,cur,rfl,_⟩
  ·omega
  ·rw[<-hm] at Fx vD;obtain⟨i0,FG,jN,_⟩:=(aA e d' ef).info;refine⟨.pointer (some ⟨g,0+n.toNat*d'.size,none⟩),?_,.fV r m n.toNat d'.size g 0 cap m Fx⟩;have hb:0<=n/\n<(m:Int):=⟨h0,h1⟩;simp[execOp,ho,vD,Xq,Instr.indexAt,asIntOf,run_underlying hu,hb,sizeOf,typeInfo,FG,jN,Addr.add_lit]
theorem JN {tab:Nat->Option TD} (aA:bc Γ.P tab) {o:Oper} {T T':Nat} {op:BinOp} {x y:Operand} (ho:o.op=.binOp op T x y T') {c:Prop} {r:AV} (h:kP tab T op (s.ev x) (s.ev y)=some (c,r)) (_hc:c):gq Γ o s r:=by
 refine aZ fun a w η hr=>?_;have hx:=hr.ev x;have hy:=hr.ev y;unfold kP at h;split at h
 ·rename_i k m k' n e1 e2;rw[e1] at hx;rw[e2] at hy;have nL:=hx.aC;have DG:=hy.aC;split at h
  ·rename_i hkk;subst hkk;unfold DB at h
   split at h<;>first
    |cases h;done
    |(simp only[aqq,aqt] at h;obtain⟨_,rfl⟩:=h;exact⟨_,by simp[execOp,ho,nL,DG,eqGuard,binOp,Op.intArith,Op.intCmp];try rfl,.ax _⟩)
  ·cases h
 ·rename_i b1 b2 e1 e2;rw[e1] at hx;rw[e2] at hy;have nL:=hx.aC;have DG:=hy.aC;split at h
  ·rename_i d hd;obtain⟨u,h2,h3⟩:=(aA T d hd).mK;split at h
   ·rename_i hk;rw[hk] at h3;have hu:Γ.P.underlying T=some .bool:=by rw[h2];exact congrArg some h3
    simp only[aqq,aqt] at h;obtain⟨_,rfl⟩:=h;have he:(Op.equal T (.bool b1) (.bool b2)).run Γ.P w=.ok (b1==b2) w:=run_equalIn_bool' w 9999 T b1 b2 hu;refine⟨_,?_,.ax _⟩;simp only[execOp,ho,nL,DG,eqGuard,binOp,ao,arC,aqH,if_false,he,al,aq]
   ·rename_i hk;rw[hk] at h3;have hu:Γ.P.underlying T=some .bool:=by rw[h2];exact congrArg some h3
    simp only[aqq,aqt] at h;obtain⟨_,rfl⟩:=h;have he:(Op.equal T (.bool b1) (.bool b2)).run Γ.P w=.ok (b1==b2) w:=run_equalIn_bool' w 9999 T b1 b2 hu;refine⟨_,?_,.ax _⟩;simp only[execOp,ho,nL,DG,eqGuard,binOp,ao,arC,aqH,if_false,he,al,aq]
   ·cases h
  ·cases h
 ·rename_i a1 a2 b1 b2 e1 e2;rw[e1] at hx;rw[e2] at hy;have QV:∀{m1 m2:Int} {v:Value},bB w (bt Γ w η s.hp) η s.hp (.agg [.ax (.int .i64 m1),.ax (.int .i64 m2)]) v->v=.agg #[.int .i64 m1,.int .i64 m2]:=by
   intro m1 m2 v hv
   cases hv with
   |agg cs vs hl h1 hr=>
    obtain⟨vs⟩:=vs
    match vs,hl with
    | [u1,u2],_=>
     have q1:=(hr 0 _ u1 rfl rfl).aC;have q2:=(hr 1 _ u2 rfl rfl).aC;rw[q1,q2]
  have nL:=QV hx;have DG:=QV hy;split at h
  ·rename_i d hd;split at h
   ·rename_i hfl;obtain⟨g1,g2⟩:=(aA T d hd).feq hfl;split at h
    ·simp only[aqq,aqt] at h;obtain⟨_,rfl⟩:=h;refine⟨.bool (a1==b1&&a2==b2),?_,.ax _⟩;have:=run_eql_struct (P:=Γ.P) w T #[.int .i64 a1,.int .i64 a2] #[.int .i64 b1,.int .i64 b2];rw[g2] at this;simp only[al] at this;simp only[execOp,ho,nL,DG,ao,run_eqGuard_agg (P:=Γ.P) w _ T x y _ _ g1,al,this];rfl
    ·simp only[aqq,aqt] at h;obtain⟨_,rfl⟩:=h;refine⟨.bool (!(a1==b1&&a2==b2)),?_,.ax _⟩;have:=run_neq_struct (P:=Γ.P) w T #[.int .i64 a1,.int .i64 a2] #[.int .i64 b1,.int .i64 b2];rw[g2] at this;simp only[al] at this;simp only[execOp,ho,nL,DG,ao,run_eqGuard_agg (P:=Γ.P) w _ T x y _ _ g1,al,this];rfl
    ·cases h
   ·cases h
  ·cases h
 ·rename_i a0 a1 a2 t1 b0 b1 b2 t2 e1 e2;rw[e1] at hx;rw[e2] at hy;have QV:∀{m0 m1 m2:Int} {m3:ByteArray} {v:Value},bB w (bt Γ w η s.hp) η s.hp (.agg [.ax (.int .i64 m0),.ax (.int .i64 m1),.ax (.int .i64 m2),.ax (.string m3)]) v->v=.agg #[.int .i64 m0,.int .i64 m1,.int .i64 m2,.string m3]:=by
   intro m0 m1 m2 m3 v hv
   cases hv with
   |agg cs vs hl h1 hr=>
    obtain⟨vs⟩:=vs
    match vs,hl with
    | [u1,u2,u3,u4],_=>
     have q1:=(hr 0 _ u1 rfl rfl).aC;have q2:=(hr 1 _ u2 rfl rfl).aC;have q3:=(hr 2 _ u3 rfl rfl).aC;have q4:=(hr 3 _ u4 rfl rfl).aC;rw[q1,q2,q3,q4]
  have nL:=QV hx;have DG:=QV hy;split at h
  ·rename_i d hd;split at h
   ·rename_i hfl;obtain⟨g1,g2⟩:=(aA T d hd).ajo hfl;split at h
    ·simp only[aqq,aqt] at h;obtain⟨_,rfl⟩:=h;refine⟨.bool (a0==b0&&((a1==b1&&a2==b2)&&t1.toList==t2.toList)),?_,.ax _⟩;have:=run_eql_struct (P:=Γ.P) w T #[.int .i64 a0,.int .i64 a1,.int .i64 a2,.string t1] #[.int .i64 b0,.int .i64 b1,.int .i64 b2,.string t2];rw[g2] at this;simp only[al] at this;simp only[execOp,ho,nL,DG,ao,run_eqGuard_agg (P:=Γ.P) w _ T x y _ _ g1,al,this];rfl
    ·simp only[aqq,aqt] at h;obtain⟨_,rfl⟩:=h;refine⟨.bool (!(a0==b0&&((a1==b1&&a2==b2)&&t1.toList==t2.toList))),?_,.ax _⟩;have:=run_neq_struct (P:=Γ.P) w T #[.int .i64 a0,.int .i64 a1,.int .i64 a2,.string t1] #[.int .i64 b0,.int .i64 b1,.int .i64 b2,.string t2];rw[g2] at this;simp only[al] at this;simp only[execOp,ho,nL,DG,ao,run_eqGuard_agg (P:=Γ.P) w _ T x y _ _ g1,al,this];rfl
    ·cases h
   ·cases h
  ·cases h
 ·cases h
theorem iA (h:Rel Γ s a w η):∀l:List Operand,cu w (bt Γ w η s.hp) η s.hp (l.map s.ev) (l.map a.eval)
 | []=>ai
 |x::l=>⟨h.ev x,iA h l⟩
theorem BK {o:Oper} {f:Nat} {first caps:Array Operand} (ho:o.op=.makeFunc (.func f) first caps) (h0:first.size=0):gq Γ o s (.bz f (caps.toList.map s.ev)):=by
 refine aZ fun a w η hr=>⟨.func (.func f) #[] (caps.map a.eval),?_,.bz f _ _ (by simp) fun j x v hx hv=>?_⟩
 ·have:first=#[]:=Array.eq_empty_of_size_eq_zero h0
  subst this;simp[execOp,ho,Instr.makeFunc]
 ·exact(iA hr caps.toList).get j x v hx (by simpa using hv)
theorem xS {o:Oper} {f:Nat} {first caps:Array Operand} (ho:o.op=.makeFunc (.func f) first caps) (h0:caps.size=0):gq Γ o s (.dm f (first.toList.map s.ev)):=by
 refine aZ fun a w η hr=>⟨.func (.func f) (first.map a.eval) #[],?_,.dm f _ _ (by simp) fun j x v hx hv=>?_⟩
 ·have:caps=#[]:=Array.eq_empty_of_size_eq_zero h0;subst this;simp[execOp,ho,Instr.makeFunc]
 ·exact(iA hr first.toList).get j x v hx (by simpa using hv)
theorem OO {o:Oper} {c x y:Operand} {t:Bool} (ho:o.op=.pick c x y) (hc:s.ev c=.ax (.bool t)):gq Γ o s (if t=true then s.ev x else s.ev y):=by
 refine aZ fun a w η hr=>?_;have h:=hr.ev c;rw[hc] at h;have hv:=h.aC
 cases t with
 |true=>exact⟨a.eval x,by simp[execOp,ho,hv,asBool],by simpa using hr.ev x⟩
 |false=>exact⟨a.eval y,by simp[execOp,ho,hv,asBool],by simpa using hr.ev y⟩
theorem rT {w:World} {η:List Value} {hp:List aw} {F:Nat->Nat->Prop} {x:AV} {b:Bool} (h:DC x=some b) {v:Value} (hx:bB w F η hp x v):∃p,v=.pointer p/\p.isNone=b:=by
 unfold DC at h;split at h
 ·cases hx;exact⟨_,rfl,by simpa using h⟩
 ·cases hx;exact⟨_,rfl,by simpa using h⟩
 ·cases hx;exact⟨_,rfl,by simpa using h⟩
 ·cases h
theorem OP {tab:Nat->Option TD} (aA:bc Γ.P tab) {o:Oper} {T T':Nat} {op:BinOp} {x y:Operand} (ho:o.op=.binOp op T x y T') {cs:List Prop} {r:AV} (h:OM tab T op (s.ev x) (s.ev y)=some (cs,r)) (hc:LV cs):gq Γ o s r:=by
 unfold OM at h;split at h
 ·rename_i k' b hy;split at h
  ·rename_i k a hx;split at h
   ·rename_i hk;subst hk;refine aZ fun ac w η hr=>?_;have h1:=hr.ev x;have h2:=hr.ev y;rw[hx] at h1;rw[hy] at h2;have h1:=h1.aC;have h2:=h2.aC;split at h
    ·simp only[aqq,aqt] at h;obtain⟨rfl,rfl⟩:=h;exact⟨_,by simp[execOp,ho,h1,h2,eqGuard,binOp,Op.intDiv,hc.1],.ax _⟩
    ·simp only[aqq,aqt] at h;obtain⟨rfl,rfl⟩:=h;exact⟨_,by simp[execOp,ho,h1,h2,eqGuard,binOp,Op.intDiv,hc.1],.ax _⟩
    ·obtain⟨n,hn,he⟩:=aro.1 h;simp only[aqt] at he;obtain⟨rfl,rfl⟩:=he;refine⟨_,?_,.ax _⟩;unfold QU at hn
     split at hn<;>first|cases hn;done|(obtain rfl:=aqs hn;simp[execOp,ho,h1,h2,eqGuard,binOp,Op.intBits])
   ·cases h
  ·cases h
 ·rename_i b hy;split at h
  ·rename_i a hx;refine aZ fun ac w η hr=>?_;have h1:=hr.ev x;have h2:=hr.ev y;rw[hx] at h1;rw[hy] at h2;have h1:=h1.aC;have h2:=h2.aC;split at h
   all_goals first|(cases h;done)|skip
   all_goals simp only[aqq,aqt] at h
   all_goals obtain⟨rfl,rfl⟩:=h
   ·have LW:a.size+b.size<=9223372036854775807:=hc.1;refine⟨_,?_,.ax _⟩;simp[execOp,ho,h1,h2,eqGuard,binOp,Op.stringOp,show IntKind.i64.max=9223372036854775807 from rfl];omega
   all_goals exact⟨_,by simp[execOp,ho,h1,h2,eqGuard,binOp,Op.stringOp,ib,strLt],.ax _⟩
  ·cases h
 ·rename_i hy;split at h
  ·rename_i b hb;split at h
   ·rename_i d hd;split at h
    ·rename_i e hk;have hu:Γ.P.underlying T=some (.pointer (Γ.P.pointee T)):=by
      obtain⟨u,q2,q3⟩:=(aA T d hd).mK;rw[hk] at q3;have:Γ.P.underlying T=some (.pointer e):=by rw[q2];exact congrArg some q3
      rw[this,Program.pointee,this]
     split at h
     ·simp only[aqq,aqt] at h;obtain⟨rfl,rfl⟩:=h;refine aZ fun a w η hr=>?_;obtain⟨p,hp,Xr⟩:=rT hb (hr.ev x);have h2:=hr.ev y;rw[hy] at h2;have h2:=h2.aC;refine⟨.bool b,?_,.ax _⟩;simp only[execOp,ho,hp,h2,eqGuard,arC,aqH,if_false,ao,aq,al,run_eql_pointer_nil w T p hu,Xr]
     ·simp only[aqq,aqt] at h;obtain⟨rfl,rfl⟩:=h;refine aZ fun a w η hr=>?_;obtain⟨p,hp,Xr⟩:=rT hb (hr.ev x);have h2:=hr.ev y;rw[hy] at h2;have h2:=h2.aC;refine⟨.bool (!b),?_,.ax _⟩;simp only[execOp,ho,hp,h2,eqGuard,arC,aqH,if_false,ao,aq,al,run_neq_pointer_nil w T p hu,Xr]
     ·cases h
    ·cases h
   ·cases h
  ·cases h
 ·cases h
theorem DH {P:Program} (w:World) (k:Nat) (T:TypeId) {ms:Array (String×TypeId)} (hu:P.underlying T=some (.interface ms)):(Op.equalIn (k+1) T .nilIface .nilIface).run P w=.ok true w:=by
 simp[Op.equalIn,run_underlying hu]
theorem nP {P:Program} (w:World) (T:TypeId) {ms:Array (String×TypeId)} (hu:P.underlying T=some (.interface ms)):(Op.equal T .nilIface .nilIface).run P w=.ok true w:=DH w 9999 T hu
theorem QW {tab:Nat->Option TD} (aA:bc Γ.P tab) {o:Oper} {T T':Nat} {op:BinOp} {x y:Operand} (ho:o.op=.binOp op T x y T') {r:AV} (h:Xn tab T op (s.ev x) y=some r):gq Γ o s r:=by
 unfold Xn at h;split at h
 ·rename_i hy;split at h
  ·rename_i d hd hx;split at h
   ·rename_i hk;obtain⟨u,q2,q3⟩:=(aA T d hd).mK;rw[hk] at q3;obtain⟨ms,rfl⟩:=q3;obtain rfl:=Xm hy;split at h
    ·obtain rfl:=aqs h;refine aZ fun a w η hr=>?_;have h1:=hr.ev x;rw[hx] at h1;have h1:=h1.aC;have he:a.eval (.const .nilIface)=.nilIface:=rfl;refine⟨.bool true,?_,.ax _⟩;simp only[execOp,ho,h1,he,eqGuard_nil_constR,ao,aq,al,binOp,nP w T q2]
    ·obtain rfl:=aqs h;refine aZ fun a w η hr=>?_;have h1:=hr.ev x;rw[hx] at h1;have h1:=h1.aC;have he:a.eval (.const .nilIface)=.nilIface:=rfl;refine⟨.bool false,?_,.ax _⟩;simp only[execOp,ho,h1,he,eqGuard_nil_constR,ao,aq,al,binOp,nP w T q2];rfl
    ·cases h
   ·cases h
  ·cases h
 ·cases h
theorem FH {tab:Nat->Option TD} (aA:bc Γ.P tab) {o:Oper} {T T':Nat} {op:BinOp} {x y:Operand} (ho:o.op=.binOp op T x y T') {c:Prop} {r:AV} (h:DE tab T op (s.ev x) (s.ev y)=some (c,r)) (hc:c):gq Γ o s r:=by
 unfold DE at h;split at h
 ·rename_i r' hr;obtain rfl:=aqs h;exact JN aA ho hr hc
 ·obtain⟨⟨cs,r'⟩,h1,h2⟩:=aro.1 h;simp only[aqt] at h2;obtain⟨rfl,rfl⟩:=h2;exact OP aA ho h1 hc
theorem QX {tab:Nat->Option TD} (aA:bc Γ.P tab) {o:Oper} {S D:Nat} {x:Operand} (ho:o.op=.convert S D x) {r:AV} (h:DF tab S D (s.ev x)=some r):gq Γ o s r:=by
 unfold DF at h;split at h
 ·rename_i d1 d k n hS hD hx;split at h
  ·rename_i k2 hk;obtain rfl:=aqs h;refine aZ fun a w η hr=>?_;have h1:=hr.ev x;rw[hx] at h1;have h1:=h1.aC;obtain⟨u1,q1,_⟩:=(aA S d1 hS).mK;have hu:Γ.P.underlying D=some (.int k2):=by
    obtain⟨u,q2,q3⟩:=(aA D d hD).mK;rw[hk] at q3;rw[q2];exact congrArg some q3
   refine⟨.int k2 (k2.wrap n),?_,.ax _⟩;simp only[execOp,ho,h1,convert,ao,run_underlying q1,run_underlying hu,al];rfl
  ·cases h
 ·rename_i d1 d t hS hD hx;split at h
  ·rename_i hk;obtain rfl:=aqs h;refine aZ fun a w η hr=>?_;have h1:=hr.ev x;rw[hx] at h1;have h1:=h1.aC;obtain⟨u1,q1,_⟩:=(aA S d1 hS).mK;have hu:Γ.P.underlying D=some .string:=by
    obtain⟨u,q2,q3⟩:=(aA D d hD).mK;rw[hk] at q3;rw[q2];exact congrArg some q3
   refine⟨.string t,?_,.ax _⟩;simp[execOp,ho,h1,convert,run_underlying hu,run_underlying q1]
  ·cases h
 ·cases h
theorem Cp {o:Oper} {op:UnOp} {T:Nat} {x:Operand} (ho:o.op=.unOp op T x) {r:AV} (h:(∃b,op=.not/\s.ev x=.ax (.bool b)/\r=.ax (.bool (!b)))\/(∃k n,op=.neg/\s.ev x=.ax (.int k n)/\r=.ax (.int k (k.wrap (0-n))))):gq Γ o s r:=by
 refine aZ fun a w η hr=>?_;have hx:=hr.ev x;rcases h with⟨b,rfl,he,rfl⟩|⟨k,n,rfl,he,rfl⟩<;>rw[he] at hx
 ·exact⟨_,by simp[execOp,ho,hx.aC,Op.unary],.ax _⟩
 ·exact⟨_,by simp[execOp,ho,hx.aC,Op.unary,Op.intArith],.ax _⟩
theorem DI {o:Oper} {x:Operand} {i:Nat} (ho:o.op=.extract x i) {vs:List AV} {r:AV} (he:s.ev x=.aK vs) (hi:vs[i]?=some r):gq Γ o s r:=by
 refine aZ fun a w η hr=>?_;have hx:=hr.ev x;rw[he] at hx;generalize hv:a.eval x=v at hx
 cases hx with
 |aK cs us hl eR=>
  have aH:i<us.size:=by rw[hl];exact(aqr.1 hi).1
  have hu:us[i]?=some us[i]:=by simp[aH]
  exact⟨us[i],by simp[execOp,ho,hv,Instr.extract,hu],eR i r _ hi hu⟩
theorem JO {tab:Nat->Option TD} (aA:bc Γ.P tab) {o:Oper} {T f:Nat} {x:Operand} (ho:o.op=.field T x f) {p:Nat×Nat×Bool} (hp:(fieldsOf tab T)[f]?=some p) {cs:List AV} (hx:s.ev x=.agg cs) {r:AV}
  (h:gb p.2.2 p.2.1 cs p.1=some r) (h1:p.2.2=false->p.2.1=1):gq Γ o s r:=by
 refine aZ fun a w η hr=>?_;have eP:=hr.ev x;rw[hx] at eP;obtain⟨d,fs,hd,hk,hf⟩:=oW hp;obtain⟨fields,fd,i,u,e1,e2,e3,e4,e5,e6,e7⟩:=(aA T d hd).field hk hf;generalize hv:a.eval x=v at eP
 cases eP with
 |agg _ vs hl BJ eR=>
  obtain⟨g1,g2⟩:=fC (w:=w) (F:=bt Γ w η s.hp) (η:=η) (hp:=s.hp) h1 (vs:=vs.toList) (by simpa using hl) (fun j x u hx hu=>⟨eR j x u hx (by simpa using hu),BJ u (by rw[<-arV];exact aqA hu)⟩) h;refine⟨_,?_,g2⟩;have cj:(isAgg fd.type).run Γ.P w=.ok p.2.2 w:=by
   rw[<-e7];simp only[isAgg,ao,run_underlying e6,al]
   cases u<;>rfl
  simp only[execOp,ho,hv,Instr.field,ao,run_underlying e1,al,e2,asAgg,aq,part,cj]
  cases sE:p.2.2 with
  |true=>
   simp only[if_true,ao,sizeOf,typeInfo,run_program,al,e4,aq,e5,e3]
   congr 2
   apply congrArg;apply arL;simp[Array.toList_extract,List.extract_eq_take_drop]
  |false=>
   have hs:=h1 sE;rw[hs] at g1 ⊢;have aH:p.1<vs.size:=by simp at g1;omega
   have hu:vs[p.1]?=some vs[p.1]:=by simp[aH]
   simp only[aqH,if_false,e3,hu,aq,al]
   congr 2
   have:(vs.toList.drop p.1).take 1=[vs[p.1]]:=by
    apply ark;intro k;rw[aqM]
    cases k with
    |zero=>simp[aH]
    |succ k=>simp
   rw[this];rfl
end
section
variable {G:Type} {Γ:Env G} {s:AS G} {a:Act} {w w':World} {η:List Value} {hp:List aw} {F:Nat->Nat->Prop} {P:Program}
theorem bB.QY {els:List AV} {v:Value} (h:bB w F η hp (.sl els) v):∃a c,v=.slice a els.length c:=by
 cases h with
 |qq a=>exact⟨a,0,rfl⟩
 |sl size els b o c f hc hm hl aR hr=>exact⟨_,c,rfl⟩
theorem ld {o:Oper} {c:Call} {b:Builtin} (ho:o.op=.call c) (hb:c.callee=.builtin b) {l:List Operand} (hl:c.args.toList=l) {r:AV}
  (h:∀a w η,Rel Γ s a w η->∃v w',(builtin b c.argTypes o.type ((c.args.map fun | .const _=>true|_=>false)) (l.map a.eval).toArray).run Γ.P w=.ok (.value v) w'/\bV w w'/\bB w' (bt Γ w' η s.hp) η s.hp r v):gq Γ o s r:=by
 intro a w η hr;obtain⟨v,w',h1,h2,h3⟩:=h a w η hr;refine⟨v,w',?_,h2,h3⟩;have:c.args.map a.eval=(l.map a.eval).toArray:=by rw[<-hl];apply arL;simp
 simp only[execOp,ho,resolve,hb,ao,aq,al,invoke,this];exact h1
theorem FI {tab:Nat->Option TD} (aA:bc Γ.P tab) {o:Oper} {c:Call} (ho:o.op=.call c) (hb:c.callee=.builtin .len) {x:Operand} (hl:c.args.toList=[x]) {T:Nat} (hT:c.argTypes[0]?=some T) {d:TD} (hd:tab T=some d) {r:AV}
  (h:(∃e els,d.kind=.lU e/\(s.ev x).iU s.hp=some els/\r=.ax (.int .i64 els.length))\/(∃b,d.kind=.str/\s.ev x=.ax (.string b)/\r=.ax (.int .i64 b.size))):gq Γ o s r:=by
 refine ld ho hb hl fun a w η hr=>?_;obtain⟨u,h2,h3⟩:=(aA T d hd).mK;rcases h with⟨e,els,hk,fN,rfl⟩|⟨b,hk,he,rfl⟩<;>rw[hk] at h3
 ·have hu:Γ.P.underlying T=some (.slice e):=by rw[h2];exact congrArg some h3
  obtain⟨a0,c0,hv⟩:=(lV hr.heap hr.cq (hr.ev x) fN).QY;exact⟨_,w,by simp[builtin,Builtin.len_,hT,hv,run_underlying hu,goInt],bV.refl w,.ax _⟩
 ·have hu:Γ.P.underlying T=some .string:=by rw[h2];exact congrArg some h3
  have hx:=hr.ev x;rw[he] at hx;exact⟨_,w,by simp[builtin,Builtin.len_,hT,hx.aC,run_underlying hu,goInt],bV.refl w,.ax _⟩
theorem OQ {tab:Nat->Option TD} (aA:bc Γ.P tab) {o:Oper} {c:Call} (ho:o.op=.call c) (hb:c.callee=.builtin .len) {x:Operand} (hl:c.args.toList=[x]) {T:Nat} (hT:c.argTypes[0]?=some T) {d:TD} (hd:tab T=some d) {e r m e' z:Nat} {els:List AV}
  (hk:d.kind=.lU e) (he:s.ev x=.own r m) (ss:s.hp[r]?=some (.bj e' z els)) (hm:m=els.length):gq Γ o s (.ax (.int .i64 (m:Nat))):=by
 refine ld ho hb hl fun a w η hr=>?_;obtain⟨u,h2,h3⟩:=(aA T d hd).mK;rw[hk] at h3;have hu:Γ.P.underlying T=some (.slice e):=by rw[h2];exact congrArg some h3
 have hx:=hr.ev x;rw[he] at hx;generalize hv:a.eval x=v at hx
 cases hx with
 |own _ _ _ h1 Fx=>
  unfold bl at Fx;rw[ss] at Fx;obtain⟨hz0,xs,eQ,_⟩:=hr.heap.obj r _ _ ss (Fx.2 hm);obtain⟨a0,c0,rfl⟩:∃a0 c0,v=.slice a0 m c0:=by
   rcases eQ.2 with⟨h0,rfl|⟨ad,rfl⟩⟩|⟨g,cap,cur,rfl,_⟩
   ·exact⟨_,_,by rw[hm,h0]⟩
   ·exact⟨_,_,by rw[hm,h0]⟩
   ·exact⟨_,_,by rw[hm]⟩
  exact⟨_,w,by simp[builtin,Builtin.len_,hT,hv,run_underlying hu,goInt],bV.refl w,.ax _⟩
theorem QZ {o:Oper} {c:Call} (ho:o.op=.call c) (hb:c.callee=.builtin .min) {x y:Operand} (hl:c.args.toList=[x,y]) {k k':IntKind} {m n:Int} (hx:s.ev x=.ax (.int k m)) (hy:s.ev y=.ax (.int k' n)):gq Γ o s (.ax (.int k (if n<m then n else m))):=by
 refine ld ho hb hl fun a w η hr=>?_;have h1:=hr.ev x;have h2:=hr.ev y;rw[hx] at h1;rw[hy] at h2;exact⟨_,w,by simp[builtin,Builtin.min_,h1.aC,h2.aC,Builtin.min2],bV.refl w,.ax _⟩
theorem Q0 {o:Oper} {c:Call} (ho:o.op=.call c) (hb:c.callee=.builtin .max) {x y:Operand} (hl:c.args.toList=[x,y]) {k k':IntKind} {m n:Int} (hx:s.ev x=.ax (.int k m)) (hy:s.ev y=.ax (.int k' n)):gq Γ o s (.ax (.int k (if n>m then n else m))):=by
 refine ld ho hb hl fun a w η hr=>?_;have h1:=hr.ev x;have h2:=hr.ev y;rw[hx] at h1;rw[hy] at h2;exact⟨_,w,by simp[builtin,Builtin.max_,h1.aC,h2.aC,Builtin.max2],bV.refl w,.ax _⟩
def gd (cs:List Value) (off:Nat):List Value->List Value
 | []=>cs
 |x::xs=>gd (cs.set off x) (off+1) xs
theorem iX (xs:List Value):∀(cs:List Value) (off:Nat),(gd cs off xs).length=cs.length:=by
 induction xs with
 |nil=>intro cs off;rfl
 |cons x xs ih=>intro cs off;simp[gd,ih]
def sU (w:World) (F:Nat->Nat->Prop) (η:List Value) (hp:List aw) (cs:List AV) (vs:List Value):Prop:=
 vs.length=cs.length/\∀(j:Nat) (x:AV) (u:Value),cs[j]?=some x->vs[j]?=some u->bB w F η hp x u/\u.oneCell'=true
theorem sU.set {cs:List AV} {vs:List Value} (h:sU w F η hp cs vs) (off:Nat) {x:AV} {u:Value} (hx:bB w F η hp x u) (h1:u.oneCell'=true):sU w F η hp (cs.set off x) (vs.set off u):=by
 refine⟨by simp[h.1],fun j y z hy hz=>?_⟩
 by_cases hj:off=j
 ·subst hj;rw[arH] at hy hz;simp only[if_true] at hy hz;split at hy
  ·rename_i h2;rw[h.1,if_pos h2] at hz;obtain rfl:=aqs hy;obtain rfl:=aqs hz;exact⟨hx,h1⟩
  ·cases hy
 ·rw[getElem?_set_ne hj] at hy hz;exact h.2 j y z hy hz
theorem sU.abE (xs:List AV):∀{us:List Value} {cs:List AV} {vs:List Value} (off:Nat),sU w F η hp cs vs->sU w F η hp xs us->sU w F η hp (setCells cs off xs) (gd vs off us):=by
 induction xs with
 |nil=>
  intro us cs vs off h hu;have:us=[]:=aq4 hu.1;subst this;exact h
 |cons x xs ih=>
  intro us cs vs off h hu
  match us,hu with
  | [],hu=>exact absurd hu.1 (by simp)
  |u::us,hu=>
   have h0:=hu.2 0 x u rfl rfl;exact ih (off+1) (h.set off h0.1 h0.2) ⟨by simpa using hu.1,fun j y z hy hz=>hu.2 (j+1) y z (by simpa using hy) (by simpa using hz)⟩
theorem bB.FJ {x:AV} {v:Value} (h:bB w F η hp x v) (hs:x.nO=true):sU w F η hp x.cells v.cells.toList:=by
 have one:x.isAgg=false->x.QR=true:=by cases x<;>simp_all [AV.nO,AV.isAgg,AV.QR]
 cases h with
 |agg cs vs hl h1 hr=>exact⟨by simpa [AV.cells,Value.cells] using hl,fun j y u hy hu=>⟨hr j y u hy (by simpa [Value.cells] using hu),h1 u (by have:=aqA hu;simpa [Value.cells] using this)⟩⟩
 |top v=>simp[AV.nO] at hs
 |aK cs vs hl hr=>simp[AV.nO] at hs
 |ax v=>
  have h1:v.oneCell'=true:=hs;refine⟨by cases v<;>simp_all [AV.cells,Value.cells,Value.oneCell'],fun j y u hy hu=>?_⟩;have hv:v.cells=#[v]:=by cases v<;>simp_all [Value.cells,Value.oneCell']
  rw[hv] at hu
  cases j with
  |zero=>simp[AV.cells] at hy hu;subst hy;subst hu;exact⟨.ax _,h1⟩
  |succ j=>simp[AV.cells] at hy
 |own r n v h1 h2=>
  refine⟨by cases v<;>simp_all [AV.cells,Value.cells,Value.oneCell'],fun j y u hy hu=>?_⟩;have hv:v.cells=#[v]:=by cases v<;>simp_all [Value.cells,Value.oneCell']
  rw[hv] at hu
  cases j with
  |zero=>simp[AV.cells] at hy hu;subst hy;subst hu;exact⟨.own r n _ h1 h2,h1⟩
  |succ j=>simp[AV.cells] at hy
 |fn v h1=>
  refine⟨by cases v<;>simp_all [AV.cells,Value.cells,Value.oneCell'],fun j y u hy hu=>?_⟩;have hv:v.cells=#[v]:=by cases v<;>simp_all [Value.cells,Value.oneCell']
  rw[hv] at hu
  cases j with
  |zero=>simp[AV.cells] at hy hu;subst hy;subst hu;exact⟨.fn _ h1,h1⟩
  |succ j=>simp[AV.cells] at hy
 |qq a=>exact⟨rfl,fun j y u hy hu=>by cases j<;>simp[AV.cells,Value.cells] at hy hu;subst hy;subst hu;exact⟨.qq a,rfl⟩⟩
 |kW a=>exact⟨rfl,fun j y u hy hu=>by cases j<;>simp[AV.cells,Value.cells] at hy hu;subst hy;subst hu;exact⟨.kW a,rfl⟩⟩
 |sl size els b o c f hc hm hl aR hr=>exact⟨rfl,fun j y u hy hu=>by cases j<;>simp[AV.cells,Value.cells] at hy hu;subst hy;subst hu;exact⟨.sl size els b o c f hc hm hl aR hr,rfl⟩⟩
 |clip size els b o f hm hl aR hr=>exact⟨rfl,fun j y u hy hu=>by cases j<;>simp[AV.cells,Value.cells] at hy hu;subst hy;subst hu;exact⟨.clip size els b o f hm hl aR hr,rfl⟩⟩
 |ptr r off b h=>exact⟨rfl,fun j y u hy hu=>by cases j<;>simp[AV.cells,Value.cells] at hy hu;subst hy;subst hu;exact⟨.ptr r off b h,rfl⟩⟩
 |aW e off b o f aR hr=>exact⟨rfl,fun j y u hy hu=>by cases j<;>simp[AV.cells,Value.cells] at hy hu;subst hy;subst hu;exact⟨.aW e off b o f aR hr,rfl⟩⟩
 |bz fn cs vs hl hr=>exact⟨rfl,fun j y u hy hu=>by cases j<;>simp[AV.cells,Value.cells] at hy hu;subst hy;subst hu;exact⟨.bz fn cs vs hl hr,rfl⟩⟩
 |mp r b h=>exact⟨rfl,fun j y u hy hu=>by cases j<;>simp[AV.cells,Value.cells] at hy hu;subst hy;subst hu;exact⟨.mp r b h,rfl⟩⟩
 |fV r n i size b o c k h=>simp[AV.nO] at hs
 |dm fn cs vs hl hr=>exact⟨rfl,fun j y u hy hu=>by cases j<;>simp[AV.cells,Value.cells] at hy hu;subst hy;subst hu;exact⟨.dm fn cs vs hl hr,rfl⟩⟩
 |fL b es c h hF l hl=>exact⟨rfl,fun j y u hy hu=>by cases j<;>simp[AV.cells,Value.cells] at hy hu;subst hy;subst hu;exact⟨.fL b es c h hF l hl,rfl⟩⟩
theorem yZ (v:List Value):∀(cs:Array Value) (off k:Nat),((v.zipIdx k).foldl (fun cs (c,j)=>cs.setIfInBounds (off+j) c) cs).toList=gd cs.toList (off+k) v:=by
 induction v with
 |nil=>intro cs off k;rfl
 |cons x v ih=>
  intro cs off k;simp only[List.zipIdx_cons,List.foldl_cons];rw[ih];simp[gd,Array.toList_setIfInBounds,asd]
theorem LX {fs:List (Nat×Nat×Bool)} {places:Nat->Option (Nat×Nat)} (QG:∀(i:Nat) (p:Nat×Nat×Bool),fs[i]?=some p->places i=some (p.1,p.2.1)):
  ∀(parts:List (Nat×AV)) (nr:List (Nat×Value)) (cs:List AV) (vs:Array Value) (r:List AV),dP fs cs parts=some r->sU w F η hp cs vs.toList->nr.map (·.1)=parts.map (·.1)->
   (∀(j:Nat) (p:Nat×AV) (q:Nat×Value),parts[j]?=some p->nr[j]?=some q->bB w F η hp p.2 q.2)->∃vr,Instr.fill places vs nr=some vr/\sU w F η hp r vr.toList:=by
 intro parts
 induction parts with
 |nil=>
  intro nr cs vs r h hc hm _;have:nr=[]:=by cases nr<;>simp_all
  subst this;simp only[dP,aqq] at h;subst h;exact⟨vs,rfl,hc⟩
 |cons p parts ih=>
  intro nr cs vs r h hc hm hr
  cases nr with
  |nil=>simp at hm
  |cons q nr=>
   obtain⟨i,x⟩:=p;obtain⟨i',v⟩:=q;simp only[aqS,List.cons.injEq] at hm;obtain⟨rfl,qA⟩:=hm;have h0:=hr 0 _ _ rfl rfl;simp only at h0;simp only[dP] at h;split at h
   ·rename_i p hp;split at h
    ·rename_i nQ;have FK:=h0.FJ nQ.2.2;have cx:v.cells.size=p.2.1:=by rw[<-nQ.1,<-FK.1];simp
     have ajw:=QG _ p hp;have hle:p.1+p.2.1<=vs.size:=by have:=hc.1;simp at this;omega
     have y5:=yZ v.cells.toList vs p.1 0;rw[arw] at y5;obtain⟨vr,e1,e2⟩:=ih nr (setCells cs p.1 x.cells) ((v.cells.zipIdx).foldl (fun cs (c,j)=>cs.setIfInBounds (p.1+j) c) vs) r h (by
      have e:((v.cells.zipIdx).foldl (fun cs (c,j)=>cs.setIfInBounds (p.1+j) c) vs).toList=gd vs.toList p.1 v.cells.toList:=by
       rw[<-y5,<-Array.foldl_toList];simp
      rw[e]
      exact sU.abE x.cells p.1 hc FK) qA (fun j p' q' h1 h2=>hr (j+1) p' q' (by simpa using h1) (by simpa using h2))
     refine⟨vr,?_,e2⟩;simp only[Instr.fill,ajw,cx];rw[if_neg (by simp;omega)];exact e1
    ·cases h
   ·cases h
end
section
variable {G:Type} {Γ:Env G} {s:AS G} {a:Act} {w w':World} {η:List Value} {hp:List aw} {F:Nat->Nat->Prop} {P:Program}
theorem fM.DJ {T:Nat} {d:TD} (h:fM P T d):sU w F η hp (d.zero.cells.toList.map .ax) d.zero.cells.toList:=by
 refine⟨by simp,fun j x u hx hu=>?_⟩;rw[aqE,hu] at hx;obtain rfl:=aqs hx;exact⟨.ax _,h.ajn u (by have:=aqA hu;simpa using this)⟩
theorem y6 (fields:List Field) (w:World) (h:∀f:Field,f∈fields->∃i,P.info? f.type=some i):
  (fields.mapM fun f=>do pure (f.offset,<-sizeOf f.type):Sem (List (Nat×Nat))).run P w=.ok (fields.map fun f=>(f.offset,((P.info? f.type).map (·.size)).getD 0)) w:=by
 induction fields with
 |nil=>rfl
 |cons f fs ih=>
  obtain⟨i,hi⟩:=h f aqG;have ih':=ih fun g hg=>h g (aqI _ hg);simp only[List.mapM_cons,ao,sizeOf,typeInfo,run_program,al,hi,aq,aqS,aq1,aq9];simp only[sizeOf,typeInfo] at ih';rw[ih'];rfl
theorem JP {tab:Nat->Option TD} (aA:bc Γ.P tab) {o:Oper} {T:Nat} {parts:Array (Nat×Operand)} (ho:o.op=.build T parts) {d:TD} (hd:tab T=some d) {fs:List (Nat×Nat×Bool)} (hk:d.kind=.bH fs) {r:List AV}
  (h:dP fs (d.zero.cells.toList.map .ax) (parts.toList.map fun p=>(p.1,s.ev p.2))=some r):gq Γ o s (.agg r):=by
 refine aZ fun a w η hr=>?_;have dJ:=aA T d hd;obtain⟨u,h2,h3⟩:=dJ.mK;rw[hk] at h3;obtain⟨fields,rfl,h3⟩:=h3;have adX:∀f:Field,f∈fields.toList->∃i,Γ.P.info? f.type=some i:=by
  intro f hf;obtain⟨k,yP⟩:=arM hf;have h4:=congrArg (·[k]?) h3;simp only[aqE,yP,aq1] at h4
  cases wL:fs[k]? with
  |none=>rw[wL] at h4;cases h4
  |some p=>
   rw[wL] at h4;simp only[aq1,aqq,aqt] at h4
   cases hi:Γ.P.info? f.type with
   |none=>rw[hi] at h4;cases h4.2.1
   |some i=>exact⟨i,rfl⟩
 have QG:∀(i:Nat) (p:Nat×Nat×Bool),fs[i]?=some p->((fields.toList.map fun f=>(f.offset,((Γ.P.info? f.type).map (·.size)).getD 0)).toArray)[i]?=some (p.1,p.2.1):=by
  intro i p hp;have h4:=congrArg (·[i]?) h3;simp only[aqE,hp,aq1] at h4
  cases hf:fields.toList[i]? with
  |none=>rw[hf] at h4;cases h4
  |some f=>
   rw[hf] at h4;simp only[aq1,aqq,aqt] at h4;simp only[ar6,aqE,hf,aq1,h4.1,h4.2.1,aq9]
 obtain⟨vr,e1,e2⟩:=LX (w:=w) (F:=bt Γ w η s.hp) (η:=η) (hp:=s.hp) QG (parts.toList.map fun p=>(p.1,s.ev p.2)) (parts.toList.map fun p=>(p.1,a.eval p.2)) _ d.zero.cells r h dJ.DJ (by simp) (fun j p q h1 h2=>by
  simp only[aqE] at h1 h2
  cases hj:parts.toList[j]? with
  |none=>rw[hj] at h1;cases h1
  |some x=>
   rw[hj] at h1 h2;obtain rfl:=aqs h1;obtain rfl:=aqs h2
   exact hr.ev x.2)
 refine⟨.agg vr,?_,.agg r vr (by have:=e2.1;simpa using this) (fun v hv=>?_) fun j x v hx hv=>(e2.2 j x v hx (by simpa using hv)).1⟩
 ·have hm:=y6 (P:=Γ.P) fields.toList w adX;simp only[execOp,ho,Instr.build,ao,dJ.kq,al,run_underlying h2,Array.mapM_eq_mapM_toList,Sem.run_map,hm,asf,e1,aq]
 ·obtain⟨k,yP⟩:=arM (arV.2 hv);have aH:k<r.length:=by rw[<-e2.1];exact(aqr.1 yP).1
  exact(e2.2 k r[k] v (by simp[aH]) yP).2
theorem FL {tab:Nat->Option TD} (aA:bc Γ.P tab) {o:Oper} {T:Nat} {parts:Array (Nat×Operand)} (ho:o.op=.build T parts) {d:TD} (hd:tab T=some d) {n:Nat} (hk:d.kind=.arr n) {r:List AV}
  (h:dP (yV n) (d.zero.cells.toList.map .ax) (parts.toList.map fun p=>(p.1,s.ev p.2))=some r):gq Γ o s (.agg r):=by
 refine aZ fun a w η hr=>?_;have dJ:=aA T d hd;obtain⟨u,h2,h3⟩:=dJ.mK;rw[hk] at h3;obtain⟨e,i0,rfl,FG,jN⟩:=h3;have QG:∀(i:Nat) (p:Nat×Nat×Bool),(yV n)[i]?=some p->(fun i=>some (i*1,1):Nat->Option (Nat×Nat)) i=some (p.1,p.2.1):=by
  intro i p hp;simp only[yV,aqE] at hp;obtain⟨j,hj,rfl⟩:=aro.1 hp;obtain rfl:j=i:=by
   obtain⟨h5,h6⟩:=aqr.1 hj;rw[<-h6];simp
  simp
 obtain⟨vr,e1,e2⟩:=LX (w:=w) (F:=bt Γ w η s.hp) (η:=η) (hp:=s.hp) QG (parts.toList.map fun p=>(p.1,s.ev p.2)) (parts.toList.map fun p=>(p.1,a.eval p.2)) _ d.zero.cells r h dJ.DJ (by simp) (fun j p q h1 h2=>by
  simp only[aqE] at h1 h2
  cases hj:parts.toList[j]? with
  |none=>rw[hj] at h1;cases h1
  |some x=>
   rw[hj] at h1 h2;obtain rfl:=aqs h1;obtain rfl:=aqs h2
   exact hr.ev x.2)
 refine⟨.agg vr,?_,.agg r vr (by have:=e2.1;simpa using this) (fun v hv=>?_) fun j x v hx hv=>(e2.2 j x v hx (by simpa using hv)).1⟩
 ·simp only[execOp,ho,Instr.build,ao,dJ.kq,al,run_underlying h2,sizeOf,typeInfo,run_program,FG,aq,jN,asf,e1]
 ·obtain⟨k,yP⟩:=arM (arV.2 hv);have aH:k<r.length:=by rw[<-e2.1];exact(aqr.1 yP).1
  exact(e2.2 k r[k] v (by simp[aH]) yP).2
theorem dt (us:List Value):∀(cs:List Value) (off t:Nat),off+us.length<=cs.length->(gd cs off us)[t]?=if off<=t/\t<off+us.length then us[t-off]? else cs[t]?:=by
 induction us with
 |nil=>
  intro cs off t _;simp only[gd,aqW,arw];rw[if_neg (by omega)]
 |cons u us ih=>
  intro cs off t h;simp only[aqy] at h;simp only[gd,aqy];rw[ih (cs.set off u) (off+1) t (by simp;omega)]
  by_cases h1:off+1<=t/\t<off+1+us.length
  ·rw[if_pos h1,if_pos (by omega)];have:t-off=(t-(off+1))+1:=by omega
   rw[this,aq2]
  ·rw[if_neg h1]
   by_cases h2:t=off
   ·subst h2;rw[if_pos (by omega),arO,ari,arH];simp;omega
   ·rw[if_neg (by omega),getElem?_set_ne (fun e=>h2 e.symm)]
theorem BL (v:Array Value) (cs:Array Value) (off:Nat):(v.zipIdx.foldl (fun cs (c,j)=>cs.setIfInBounds (off+j) c) cs).toList=gd cs.toList off v.toList:=by
 have h:=yZ v.toList cs off 0;rw[arw] at h;rw[<-h,<-Array.foldl_toList];simp
theorem y7 {size:Nat}:∀(l:List Value) (k:Nat) (parts:List (Nat×Value)) (cs:Array Value),parts.map (·.2)=l->(∀(j:Nat) (p:Nat×Value),parts[j]?=some p->p.1=k+j)->(∀v:Value,v∈l->v.cells.size=size)->cs.size=(k+l.length)*size->
  ∃r,Instr.fill (fun i=>some (i*size,size)) cs parts=some r/\r.size=cs.size/\(∀t,t<k*size->r.toList[t]?=cs.toList[t]?)/\
   ∀(i:Nat) (v:Value) (j:Nat) (u:Value),l[i]?=some v->v.cells.toList[j]?=some u->r.toList[(k+i)*size+j]?=some u:=by
 intro l
 induction l with
 |nil=>
  intro k parts cs hm _ _ _;have:parts=[]:=by cases parts<;>simp_all
  subst this;exact⟨cs,rfl,rfl,fun _ _=>rfl,fun i v j u hi=>by simp at hi⟩
 |cons v l ih=>
  intro k parts cs hm lf cx iV
  cases parts with
  |nil=>simp at hm
  |cons p parts=>
   obtain⟨i0,v0⟩:=p;simp only[aqS,List.cons.injEq] at hm;obtain⟨rfl,qA⟩:=hm;have FG:i0=k:=by have:=lf 0 _ rfl;simpa using this
   subst FG;have vJ:=cx v0 aqG;simp only[aqy] at iV;have hle:i0*size+size<=cs.size:=by
    rw[iV];have:(i0+(l.length+1))*size=i0*size+size+l.length*size:=by rw[arz,arz];omega
    omega
   have y5:=BL v0.cells cs (i0*size);obtain⟨r,e1,e2,e3,e4⟩:=ih (i0+1) parts (v0.cells.zipIdx.foldl (fun cs (c,j)=>cs.setIfInBounds (i0*size+j) c) cs) qA
    (fun j p hj=>by have:=lf (j+1) p (by simpa using hj);omega) (fun v hv=>cx v (aqI _ hv))
    (by rw[<-ara,y5,iX,ara,iV];congr 1;omega)
   have hlen:(v0.cells.zipIdx.foldl (fun cs (c,j)=>cs.setIfInBounds (i0*size+j) c) cs).size=cs.size:=by
    rw[<-ara,y5,iX,ara]
   have hmul:(i0+1)*size=i0*size+size:=by rw[arz];omega
   refine⟨r,?_,by rw[e2,hlen],fun t ht=>?_,fun i v j u hi hj=>?_⟩
   ·simp only[Instr.fill,vJ];rw[if_neg (by simp;omega)];exact e1
   ·rw[e3 t (by omega),y5,dt _ _ _ _ (by simp;omega),if_neg (by omega)]
   ·cases i with
    |zero=>
     simp only[ari,aqq] at hi;subst hi;have vC:j<size:=by rw[<-vJ,<-ara];exact(aqr.1 hj).1
     rw[arw,e3 _ (by omega),y5,dt _ _ _ _ (by simp;omega),if_pos ⟨by omega,by rw[ara,vJ];omega⟩];rw[Nat.add_sub_cancel_left];exact hj
    |succ i=>
     have:=e4 i v j u (by simpa using hi) hj;rw[show i0+(i+1)=i0+1+i from by omega];exact this
theorem JQ:∀(l:List (Nat×Operand)) (k:Nat),tV k l=true->∀(j:Nat) (p:Nat×Operand),l[j]?=some p->p.1=k+j:=by
 intro l
 induction l with
 |nil=>intro k _ j p h;simp at h
 |cons q l ih=>
  intro k h j p hj;obtain⟨i,x⟩:=q;simp only[tV,aqv,beq_iff_eq] at h
  cases j with
  |zero=>simp only[ari,aqq] at hj;subst hj;simpa using h.1
  |succ j=>have:=ih (k+1) h.2 j p (by simpa using hj);omega
theorem qB {size:Nat}:∀(l:List AV),sT size l->∀x:AV,x∈l->x.cells.length=size/\x.nO=true:=by
 intro l
 induction l with
 |nil=>intro _ x h;cases h
 |cons y l ih=>
  intro h x hx;rcases aqZ.1 hx with rfl|h1
  ·exact h.1
  ·exact ih h.2 x h1
theorem LY {T:TypeId} {cs:Array Value} (h:Rel Γ s a w η) (k:Nat) (hX:∀b o,Γ.No b o->b<Γ.w0.heap.size):bt Γ (w.alloc (.cells cs T)) η s.hp w.heap.size k:=by
 refine⟨.inr (.inl h.keeps.size),by simp,fun hx=>by have:=hX _ _ hx;have:=h.keeps.size;omega,(bm _ _).2 fun r v hv hb=>?_⟩;have gy:r<s.hp.length:=by rw[<-h.heap.len];exact(aqr.1 hv).1
 refine⟨s.hp[r],by simp[gy],?_⟩;have ho:s.hp[r]?=some s.hp[r]:=by simp[gy]
 cases hk:s.hp[r] with
 |dead=>exact ai
 |_=>
  rw[hk] at ho;have:=h.heap.block ho ai hv hb;omega
theorem qb (aE:Γ.Ok) {tab:Nat->Option TD} (aA:bc Γ.P tab) {o:Oper} {T n e:Nat} {parts:Array (Nat×Operand)} (ho:o.op=.buildSlice T n parts) {d d':TD} (hd:tab T=some d) (hk:d.kind=.lU e) (ef:tab e=some d')
  (hn:n=parts.toList.length) (lf:tV 0 parts.toList=true) (Xs:n<=16777216) (Xt:n*d'.size<=16777216) (hl:sT d'.size (parts.toList.map fun p=>(s.ev p.2).bK s.hp)) (hr:Rel Γ s a w η):
  ∃r:Array Value,(execOp a.eval o).run Γ.P w=.ok (.value (.slice (some ⟨w.heap.size,0,none⟩) n n)) (w.alloc (.cells r e))/\r.size=n*d'.size/\
   (parts.toList.map fun p=>(s.ev p.2).bK s.hp).length=n/\
   ∀(i:Nat) (el:AV) (j:Nat) (x:AV),(parts.toList.map fun p=>(s.ev p.2).bK s.hp)[i]?=some el->el.cells[j]?=some x->∃u,r[i*d'.size+j]?=some u/\bB w (bt Γ w η s.hp) [] [] x u/\u.oneCell'=true:=by
 have dJ:=aA e d' ef;have hu:Γ.P.underlying T=some (.slice e):=by
  obtain⟨u,h2,h3⟩:=(aA T d hd).mK;rw[hk] at h3;rw[h2];exact congrArg some h3
 have hls:=qB _ hl;have eR:∀(j:Nat) (x:AV) (v:Value),(parts.toList.map fun p=>(s.ev p.2).bK s.hp)[j]?=some x->(parts.toList.map fun p=>a.eval p.2)[j]?=some v->bB w (bt Γ w η s.hp) [] [] x v:=by
  intro j x v h1 h2;simp only[aqE] at h1 h2
  cases hj:parts.toList[j]? with
  |none=>rw[hj] at h1;cases h1
  |some p=>
   rw[hj] at h1 h2;obtain rfl:=aqs h1;obtain rfl:=aqs h2;exact gA hr.heap hr.cq (hr.ev p.2)
 have nR:(parts.toList.map fun p=>(s.ev p.2).bK s.hp).length=n:=by simp[hn]
 have Q1:(parts.toList.map fun p=>a.eval p.2).length=n:=by simp[hn]
 have FK:∀(j:Nat) (x:AV) (v:Value),(parts.toList.map fun p=>(s.ev p.2).bK s.hp)[j]?=some x->(parts.toList.map fun p=>a.eval p.2)[j]?=some v->sU w (bt Γ w η s.hp) [] [] x.cells v.cells.toList:=
  fun j x v h1 h2=>(eR j x v h1 h2).FJ (hls x (aqA h1)).2
 have ajx:∀v:Value,v∈(parts.toList.map fun p=>a.eval p.2)->v.cells.size=d'.size:=by
  intro v hv;obtain⟨j,hj⟩:=arM hv;have aH:j<n:=by rw[<-Q1];exact(aqr.1 hj).1
  have hx:(parts.toList.map fun p=>(s.ev p.2).bK s.hp)[j]?=some (parts.toList.map fun p=>(s.ev p.2).bK s.hp)[j]:=by rw[aqx (by rw[nR];exact aH)]
  have:=(FK j _ v hx hj).1;rw[ara] at this;rw[this];exact(hls _ (aqA hx)).1
 have fin:∀cs0:Array Value,cs0.size=n*d'.size->∃r,Instr.fill (fun i=>some (i*d'.size,d'.size)) cs0 (parts.toList.map fun p=>(p.1,a.eval p.2))=some r/\r.size=n*d'.size/\
   ∀(i:Nat) (el:AV) (j:Nat) (x:AV),(parts.toList.map fun p=>(s.ev p.2).bK s.hp)[i]?=some el->el.cells[j]?=some x->∃u,r[i*d'.size+j]?=some u/\bB w (bt Γ w η s.hp) [] [] x u/\u.oneCell'=true:=by
  intro cs0 iV;obtain⟨r,e1,e2,e3,e4⟩:=y7 (parts.toList.map fun p=>a.eval p.2) 0 (parts.toList.map fun p=>(p.1,a.eval p.2)) cs0 (by simp[Function.comp_def]) (fun j p hj=>by
   rw[aqE] at hj
   cases vC:parts.toList[j]? with
   |none=>rw[vC] at hj;cases hj
   |some q=>
    rw[vC] at hj;obtain rfl:=aqs hj
    exact JQ _ _ lf j q vC) ajx (by rw[Q1,aqV];exact iV)
  refine⟨r,e1,by rw[e2];exact iV,?_⟩;intro i el j x hi hj;have aH:i<n:=by rw[<-nR];exact(aqr.1 hi).1
  have hv:(parts.toList.map fun p=>a.eval p.2)[i]?=some (parts.toList.map fun p=>a.eval p.2)[i]:=by rw[aqx (by rw[Q1];exact aH)]
  have h1:=FK i el _ hi hv;have vC:j<(parts.toList.map fun p=>a.eval p.2)[i].cells.toList.length:=by rw[h1.1];exact(aqr.1 hj).1
  have hu:(parts.toList.map fun p=>a.eval p.2)[i].cells.toList[j]?=some ((parts.toList.map fun p=>a.eval p.2)[i].cells.toList[j]):=by rw[aqx vC]
  have h2:=e4 i _ j _ hv hu;rw[aqV] at h2;exact⟨_,by simpa using h2,h1.2 j x _ hj hu⟩
 have hb:¬n*d'.size>2 ^ 24:=by omega
 by_cases hz:n*d'.size=0
 ·obtain⟨r,e1,e2,e3⟩:=fin ((Array.range (n*d'.size)).map ((#[]:Array Value)[· % (#[]:Array Value).size]!)) (by simp);refine⟨r,?_,e2,nR,e3⟩;simp only[execOp,ho,Instr.buildSlice,ao,run_underlying hu,al,dJ.run_sizeOf,Sem.run_ite,if_neg hb,aq,if_pos hz,asf,e1,newRow,run_newObj];rfl
 ·obtain⟨r,e1,e2,e3⟩:=fin ((Array.range (n*d'.size)).map (d'.zero.cells[· % d'.zero.cells.size]!)) (by simp);refine⟨r,?_,e2,nR,e3⟩;simp only[execOp,ho,Instr.buildSlice,ao,run_underlying hu,al,dJ.run_sizeOf,Sem.run_ite,if_neg hb,aq,if_neg hz,dJ.kq,asf,e1,newRow,run_newObj];rfl
theorem xT (aE:Γ.Ok) {tab:Nat->Option TD} (aA:bc Γ.P tab) {o:Oper} {T n e:Nat} {parts:Array (Nat×Operand)} (ho:o.op=.buildSlice T n parts) {d d':TD} (hd:tab T=some d) (hk:d.kind=.lU e) (ef:tab e=some d')
  (hn:n=parts.toList.length) (lf:tV 0 parts.toList=true) (Xs:n<=16777216) (Xt:n*d'.size<=16777216) (hl:sT d'.size (parts.toList.map fun p=>(s.ev p.2).bK s.hp)):gq Γ o s (.clip (parts.toList.map fun p=>(s.ev p.2).bK s.hp)):=by
 intro a w η hr;obtain⟨r,e1,_,nR,eg⟩:=qb aE aA ho hd hk ef hn lf Xs Xt hl hr;have hls:=qB _ hl;have he:=qw (Γ:=Γ) (η:=η) (hp:=s.hp) (bV.alloc w (.cells r e)) (fun _ _=>fh);refine⟨_,_,e1,bV.alloc w (.cells r e),?_⟩;have hm:(parts.toList.map fun p=>(s.ev p.2).bK s.hp).length<=maxLen:=by
  rw[nR];simp only[maxLen];omega
 have:=bB.clip (w:=w.alloc (.cells r e)) (F:=bt Γ (w.alloc (.cells r e)) η s.hp) (η:=η) (hp:=s.hp) d'.size (parts.toList.map fun p=>(s.ev p.2).bK s.hp) w.heap.size 0 (fun i j=>(r[i*d'.size+j]?).getD undef) hm
  (fun i el hi=>(hls el (aqA hi)).1) (fun i el j x hi hj=>by
   obtain⟨u,h1,_,h3⟩:=eg i el j x hi hj;rw[h1];refine⟨?_,LY hr _ (fun _ _=>aE.no),h3⟩;rw[aqV,World.cell?_alloc_new];exact h1) (fun i el j x hi hj=>by
   obtain⟨u,h1,h2,_⟩:=eg i el j x hi hj
   rw[h1];exact h2.ext he.qu.ext)
 rw[nR] at this;exact this
end
section
variable {G:Type} {Γ:Env G} {s:AS G} {a:Act} {w w':World} {η:List Value} {hp:List aw} {F:Nat->Nat->Prop} {P:Program}
theorem iY (h:Rel Γ s a w η) {d n:Int} {x:Operand} (hb:bZ s.ev d (some x)=some n):∃k,a.eval x=.int k n:=by
 unfold bZ at hb;simp only at hb;split at hb
 ·rename_i k m he;obtain rfl:=aqs hb;have hx:=h.ev x;rw[he] at hx;exact⟨k,hx.aC⟩
 ·cases hb
theorem run_sliceBound (w:World) {v:Value} {k:IntKind} {n:Int} (hv:v=.int k n) {y:Nat} (h0:0<=n) (h1:n<=y) (code:BoundsCode):(Instr.sliceBound v y code).run P w=.ok n.toNat w:=by
 subst hv;have:0<=n/\n<=(y:Int):=⟨h0,h1⟩;simp[Instr.sliceBound,asIntOf,this]
theorem bB.Xu {els:List AV} {b o c size:Nat} {x:Value} (cx:∀y:AV,y∈els->y.cells.length=size) (hx:bB w F η hp (.sl els) x) (hv:x=.slice (some ⟨b,o,none⟩) els.length c) {l h m:Nat} (hlh:l<=h) (hh:h<=els.length) (hm:h<=m) (hmc:m<=c):
  bB w F η hp (.sl ((els.take h).drop l)) (.slice (some ⟨b,if m=l then o else o+l*size,none⟩) (h-l) (m-l))/\(h=m->bB w F η hp (.clip ((els.take h).drop l)) (.slice (some ⟨b,if m=l then o else o+l*size,none⟩) (h-l) (h-l))):=by
 have hlen:((els.take h).drop l).length=h-l:=by simp;omega
 cases hx with
 |qq a=>
  simp only[aqW,Value.slice.injEq,true_and] at hv;obtain⟨rfl,rfl⟩:=hv;obtain rfl:m=0:=by omega
  obtain rfl:h=0:=by omega
  obtain rfl:l=0:=by omega
  exact⟨.qq _,fun _=>.kW _⟩
 |sl wI _ b' o' c' f hc qA hl aR eR=>
  simp only[Value.slice.injEq,aqq,Addr.mk.injEq,and_true,true_and] at hv;obtain⟨⟨rfl,rfl⟩,rfl⟩:=hv;have eg:∀(i:Nat) (e:AV),((els.take h).drop l)[i]?=some e->els[l+i]?=some e/\m≠l/\wI=size:=by
   intro i e hi;have aH:=(aqr.1 hi).1;rw[hlen] at aH;rw[arB,aqM,if_pos (by omega)] at hi;exact⟨hi,by omega,by rw[<-hl _ _ hi];exact cx e (aqA hi)⟩
  have FM:∀(i j:Nat),m≠l->wI=size->(if m=l then o' else o'+l*size)+i*size+j=o'+(l+i)*wI+j:=by
   intro i j h1 h2;rw[if_neg h1,h2,arz];omega
  have key:∀c2,h-l<=c2->c2<=maxLen->bB w F η hp (.sl ((els.take h).drop l)) (.slice (some ⟨b',if m=l then o' else o'+l*size,none⟩) (h-l) c2)/\(c2=h-l->bB w F η hp (.clip ((els.take h).drop l)) (.slice (some ⟨b',if m=l then o' else o'+l*size,none⟩) (h-l) (h-l))):=by
   intro c2 h1 h2;have p1:∀(i:Nat) (e:AV),((els.take h).drop l)[i]?=some e->e.cells.length=size:=fun i e hi=>cx e (aqA (eg i e hi).1);have p2:∀(i:Nat) (e:AV) (j:Nat) (x:AV),((els.take h).drop l)[i]?=some e->e.cells[j]?=some x->
     w.cell? ⟨b',(if m=l then o' else o'+l*size)+i*size+j,none⟩=some (f (l+i) j)/\F b' ((if m=l then o' else o'+l*size)+i*size+j)/\(f (l+i) j).oneCell'=true:=by
    intro i e j x hi hj;obtain⟨g1,g2,g3⟩:=eg i e hi;rw[FM i j g2 g3];exact aR _ _ _ _ g1 hj
   have p3:∀(i:Nat) (e:AV) (j:Nat) (x:AV),((els.take h).drop l)[i]?=some e->e.cells[j]?=some x->bB w F [] [] x (f (l+i) j):=
    fun i e j x hi hj=>eR _ _ _ _ (eg i e hi).1 hj
   have q1:=bB.sl (η:=η) (hp:=hp) size ((els.take h).drop l) b' (if m=l then o' else o'+l*size) c2 (fun i j=>f (l+i) j) (by rw[hlen];exact h1) h2 p1 p2 p3;rw[hlen] at q1;refine⟨q1,fun _=>?_⟩;have q2:=bB.clip (η:=η) (hp:=hp) size ((els.take h).drop l) b' (if m=l then o' else o'+l*size) (fun i j=>f (l+i) j) (by rw[hlen];omega) p1 p2 p3;rw[hlen] at q2;exact q2
  refine⟨(key (m-l) (by omega) (by omega)).1,fun e=>?_⟩;exact(key (m-l) (by omega) (by omega)).2 (by omega)
theorem y8 {tab:Nat->Option TD} (aA:bc Γ.P tab) {o:Oper} {T e:Nat} {x:Operand} {lo hi mx:Option Operand} (ho:o.op=.slice T x lo hi mx) {d d':TD} (hd:tab T=some d) (hk:d.kind=.lU e) (ef:tab e=some d') {els:List AV} (fN:(s.ev x).iU s.hp=some els)
  {l h:Int} (hl:bZ s.ev 0 lo=some l) (hh:bZ s.ev els.length hi=some h) (h0:0<=l) (h1:l<=h) (h2:h<=els.length) (cx:∀y:AV,y∈els->y.cells.length=d'.size) {r:AV}
  (hr:(mx=none/\r=.sl ((els.take h.toNat).drop l.toNat))\/(∃y m,mx=some y/\hi.isSome/\bZ s.ev 0 (some y)=some m/\h=m/\r=.clip ((els.take h.toNat).drop l.toNat))):gq Γ o s r:=by
 refine aZ fun a w η hrel=>?_;have hx:=lV hrel.heap hrel.cq (hrel.ev x) fN;have hu:Γ.P.underlying T=some (.slice e):=by
  obtain⟨u,q2,q3⟩:=(aA T d hd).mK;rw[hk] at q3;rw[q2];exact congrArg some q3
 have FN:lo=none/\l=0\/∃y k,lo=some y/\a.eval y=.int k l:=by
  cases lo with
  |none=>simp[bZ] at hl;exact .inl ⟨rfl,hl.symm⟩
  |some y=>obtain⟨k,hk⟩:=iY hrel hl;exact .inr ⟨y,k,rfl,hk⟩
 have hhv:hi=none/\h=els.length\/∃y k,hi=some y/\a.eval y=.int k h:=by
  cases hi with
  |none=>simp[bZ] at hh;exact .inl ⟨rfl,hh.symm⟩
  |some y=>obtain⟨k,hk⟩:=iY hrel hh;exact .inr ⟨y,k,rfl,hk⟩
 have JH:∃ad c,a.eval x=.slice ad els.length c/\els.length<=c:=by
  generalize a.eval x=v at hx
  cases hx with
  |qq a=>exact⟨a,0,rfl,aqw _⟩
  |sl size els b o c f hc hm hl aR hr=>exact⟨_,c,rfl,hc⟩
 obtain⟨ad,c,vD,hlc⟩:=JH;have sF:=(aA e d' ef).run_sizeOf w;have hb:∃m:Nat,(Instr.sliceBounds true els.length c (lo.map a.eval) (hi.map a.eval) (mx.map a.eval)).run Γ.P w=.ok (l.toNat,h.toNat,m) w/\h.toNat<=m/\m<=c/\(mx≠none->m=h.toNat):=by
  rcases hr with⟨rfl,_⟩|⟨y,m,rfl,his,hm,rfl,_⟩
  ·refine⟨c,?_,by omega,aqw _,fun h=>(h rfl).elim⟩;rcases hhv with⟨rfl,rfl⟩|⟨y,k,rfl,hv⟩
   ·rcases FN with⟨rfl,rfl⟩|⟨y0,k0,rfl,vJ⟩
    ·simp[Instr.sliceBounds]
    ·have QF:=run_sliceBound (P:=Γ.P) w vJ (y:=els.length) h0 (by omega) .sliceB;simp[Instr.sliceBounds,QF]
   ·have hs:=run_sliceBound (P:=Γ.P) w hv (y:=c) (by omega) (by omega) .sliceAcap;rcases FN with⟨rfl,rfl⟩|⟨y0,k0,rfl,vJ⟩
    ·simp[Instr.sliceBounds,hs]
    ·have QF:=run_sliceBound (P:=Γ.P) w vJ (y:=h.toNat) h0 (by omega) .sliceB;simp[Instr.sliceBounds,hs,QF]
  ·obtain⟨k2,hv2⟩:=iY hrel hm;refine⟨h.toNat,?_,aqw _,by omega,fun _=>rfl⟩;rcases hhv with⟨rfl,_⟩|⟨y',k,rfl,hv⟩
   ·simp at his
   ·have hs2:=run_sliceBound (P:=Γ.P) w hv2 (y:=c) (by omega) (by omega) .slice3Acap;have hs:=run_sliceBound (P:=Γ.P) w hv (y:=h.toNat) (by omega) (by omega) .slice3B;rcases FN with⟨rfl,rfl⟩|⟨y0,k0,rfl,vJ⟩
    ·simp[Instr.sliceBounds,hs,hs2]
    ·have QF:=run_sliceBound (P:=Γ.P) w vJ (y:=h.toNat) h0 (by omega) .slice3C;simp[Instr.sliceBounds,hs,hs2,QF]
 obtain⟨m,gX,Fy,sq,hm3⟩:=hb;have hex:(execOp a.eval o).run Γ.P w=.ok (.value (.slice (if m=l.toNat then ad else ad.map (·.add (l.toNat*d'.size))) (h.toNat-l.toNat) (m-l.toNat))) w:=by
  simp only[execOp,ho,Instr.sliceAt,ao,run_underlying hu,al,Instr.slice,vD,gX,sF,aq]
 refine⟨_,hex,?_⟩;have Q2:(els=[]/\c=0)\/∃b o,ad=some ⟨b,o,none⟩:=by
  have nL:=hx;rw[vD] at nL;generalize hv:Value.slice ad els.length c=v at nL
  cases nL with
  |qq a=>simp at hv;exact .inl ⟨rfl,hv.2⟩
  |sl size els b o c f hc hm hl aR hr=>simp at hv;exact .inr ⟨b,o,hv.1⟩
 rw[vD] at hx;rcases Q2 with⟨rfl,rfl⟩|⟨b,o',rfl⟩
 ·have e1:l.toNat=0:=by simp at h2;omega
  have e2:h.toNat=0:=by simp at h2;omega
  have e3:m=0:=by omega
  rw[e1,e2,e3];simp only[if_true,arO];rcases hr with⟨_,rfl⟩|⟨_,_,_,_,_,_,rfl⟩
  ·simpa using bB.qq ad
  ·simpa using bB.kW ad
 ·have vD:=vD;obtain⟨q1,q2⟩:=hx.Xu cx rfl (l:=l.toNat) (h:=h.toNat) (m:=m) (by omega) (by omega) Fy sq;have OS:(if m=l.toNat then some (⟨b,o',none⟩:Addr) else(some (⟨b,o',none⟩:Addr)).map (·.add (l.toNat*d'.size)))=some ⟨b,if m=l.toNat then o' else o'+l.toNat*d'.size,none⟩:=by
   split<;>simp[Addr.add_lit]
  rw[OS];rcases hr with⟨_,rfl⟩|⟨y,m',hmx,_,_,_,rfl⟩
  ·exact q1
  ·have:=hm3 (by rw[hmx];simp);subst this;exact q2 rfl
theorem Q3 (a b:ByteArray):(a==b)=decide (a=b):=by
 obtain⟨a⟩:=a;obtain⟨b⟩:=b;show (a==b)=_
 by_cases h:a=b
 ·subst h;simp
 ·have:¬(ByteArray.mk a=ByteArray.mk b):=fun e=>h (by injection e);rw[decide_eq_false this];simpa using h
structure OT {κ:Type} [DecidableEq κ] (td:TypeDesc) (kv:κ->Value) (me:List (κ×Value)->ME):Prop where
 me:∀l,OJ (me l)=l.map fun p=>(kv p.1,p.2)
 same:∀a b,Instr.sameNow td (kv a) (kv b)=some (decide (a=b))
 check:∀(P:Program) (kt:TypeId) (e:Bool) (v:Value) (w:World),P.underlying kt=some td->(Instr.checkKey e 10000 kt v).run P w=.ok () w
 bits:∀a,Instr.sameBits 10000 (kv a) (kv a)=true
theorem DK {κ:Type} [DecidableEq κ] {td:TypeDesc} {kv:κ->Value} {me:List (κ×Value)->ME} (K:OT td kv me) {a:κ}:∀(es:List MapEntry) (l:List (κ×Value)) (i:Nat),(es.map fun e=>(e.key,e.val))=l.map (fun p=>(kv p.1,p.2))->
  (∃r,Instr.findNow td (kv a) es i=some r/\r.map (·.2)=aL l a)/\
   (aL l a=none->Instr.findNow td (kv a) es i=some none):=by
 intro es
 induction es with
 |nil=>
  intro l i h
  cases l with
  |nil=>exact⟨⟨none,rfl,rfl⟩,fun _=>rfl⟩
  |cons p l=>simp at h
 |cons e es ih=>
  intro l i h
  cases l with
  |nil=>simp at h
  |cons p l=>
   obtain⟨key,v⟩:=p;simp only[aqS,List.cons.injEq,aqt] at h;obtain⟨⟨h1,h2⟩,h3⟩:=h;obtain⟨⟨r,g1,g2⟩,g3⟩:=ih l (i+1) h3;simp only[Instr.findNow,h1,K.same,aL]
   by_cases hak:a=key
   ·subst hak;simp[h2]
   ·simp only[if_neg hak,decide_eq_false hak];exact⟨⟨r,g1,g2⟩,g3⟩
theorem tW {kt:TypeId} {k:IntKind} (hk:P.underlying kt=some (.int k)) (e:Bool) (n:Nat) (v:Value) (w:World):(Instr.checkKey e (n+1) kt v).run P w=.ok () w:=by
 unfold Instr.checkKey;simp only[ao,run_underlying hk,Result.andThen]
 cases v<;>rfl
theorem adY (k:IntKind):OT (.int k) (fun a:Int=>.int .i64 a) .i:=
 ⟨fun _=>rfl,fun a b=>by simp[Instr.sameNow];rfl,fun P kt e v w hk=>tW hk e 9999 v w,fun a=>by simp[Instr.sameBits]⟩
theorem adZ:OT .string (fun a:ByteArray=>.string a) .s:=
 ⟨fun _=>rfl,fun a b=>by simp only[Instr.sameNow,Q3],fun P kt e v w hk=>by
  unfold Instr.checkKey;simp only[ao,run_underlying hk,Result.andThen]
  cases v<;>rfl,fun a=>by simp[Instr.sameBits,Q3]⟩
theorem wM {κ:Type} [DecidableEq κ] {td:TypeDesc} {kv:κ->Value} {me:List (κ×Value)->ME} (K:OT td kv me) {tab:Nat->Option TD} (aA:bc Γ.P tab) {o:Oper} {T kt et:Nat} {m key:Operand} {ok:Bool} (ho:o.op=.lookup T m key ok) {d dk de:TD} (hd:tab T=some d) (hk:d.kind=.qo kt et) (mN:tab kt=some dk) (yi:∀u,dk.kind.fits Γ.P u->u=td) (FO:tab et=some de)
  {es:List (κ×Value)} (hm:(s.ev m).Cn s.hp=some (me es)) {a:κ} (ajz:s.ev key=.ax (kv a)):gq Γ o s (iW es de.zero a ok):=by
 refine aZ fun act w η hr=>?_;have hu:Γ.P.underlying T=some (.map kt et):=by
  obtain⟨u,q2,q3⟩:=(aA T d hd).mK;rw[hk] at q3;rw[q2];exact congrArg some q3
 have Xv:Γ.P.underlying kt=some td:=by
  obtain⟨u,q2,q3⟩:=(aA kt dk mN).mK;rw[q2];exact congrArg some (yi u q3)
 have hkr:=hr.ev key;rw[ajz] at hkr;have hkv:=hkr.aC;have Xw:=hr.ev m;have abB:∃b en c,act.eval m=.map (some b)/\w.heap[b]?=some (.map en c)/\nJ en=OJ (me es):=by
  generalize s.ev m=x at hm Xw
  cases x with
  |fL l=>
   simp only[AV.Cn,aqq] at hm;subst hm;generalize act.eval m=v at Xw
   cases Xw with
   |fL b en c h1 h2 _ hl=>exact⟨b,en,c,rfl,h1,hl⟩
  |mp r=>
   simp only[AV.Cn] at hm;split at hm
   ·rename_i es' Xx;obtain rfl:=aqs hm;generalize act.eval m=v at Xw
    cases Xw with
    |mp _ b fF=>
     obtain⟨b',en,c,e1,e2,e3⟩:=hr.heap.obj r _ _ Xx fF;simp only[Value.map.injEq,aqq] at e1;subst e1;exact⟨b,en,c,rfl,e2,e3⟩
   ·cases hm
  |_=>simp[AV.Cn] at hm
 obtain⟨b,en,c,QH,kX,y9⟩:=abB;obtain⟨⟨r,g1,g2⟩,g3⟩:=DK K (a:=a) en.toList es 0 (y9.trans (K.me es));have eg:(getObj b).run Γ.P w=.ok (.map en c) w:=by simp[getObj,Sem.run,kX]
 have qC:(Instr.findKey kt (kv a) en.toList).run Γ.P w=.ok r w:=by
  simp only[Instr.findKey,ao,run_underlying Xv,al,g1,aq]
 have hz:=(aA et de FO).kq w
 cases r with
 |none=>
  have hg:aL es a=none:=g2.symm
  cases ok with
  |true=>
   refine⟨.tuple #[de.zero,.bool false],?_,?_⟩
   ·simp only[execOp,ho,QH,hkv,Instr.lookup,ao,run_underlying hu,al,eg,aq,K.check _ _ _ _ _ Xv,qC,hz,if_true]
   ·simp only[iW,hg,if_true,Option.getD_none,Option.isSome_none];exact .aK _ _ rfl fun j x v hx hv=>by
     match j with
     |0=>simp at hx hv;subst hx;subst hv;exact nM _
     |1=>simp at hx hv;subst hx;subst hv;exact .ax _
     |j+2=>simp at hx
  |false=>
   refine⟨de.zero,?_,?_⟩
   ·simp only[execOp,ho,QH,hkv,Instr.lookup,ao,run_underlying hu,al,eg,aq,K.check _ _ _ _ _ Xv,qC,hz,aqH,if_false]
   ·simp only[iW,hg,aqH,if_false,Option.getD_none];exact nM _
 |some q=>
  obtain⟨i,v⟩:=q;have hg:aL es a=some v:=g2.symm
  cases ok with
  |true=>
   refine⟨.tuple #[v,.bool true],?_,?_⟩
   ·simp only[execOp,ho,QH,hkv,Instr.lookup,ao,run_underlying hu,al,eg,aq,K.check _ _ _ _ _ Xv,qC,if_true]
   ·simp only[iW,hg,if_true,aq9,Option.isSome_some];exact .aK _ _ rfl fun j x v hx hv=>by
     match j with
     |0=>simp at hx hv;subst hx;subst hv;exact nM _
     |1=>simp at hx hv;subst hx;subst hv;exact .ax _
     |j+2=>simp at hx
  |false=>
   refine⟨v,?_,?_⟩
   ·simp only[execOp,ho,QH,hkv,Instr.lookup,ao,run_underlying hu,al,eg,aq,K.check _ _ _ _ _ Xv,qC,aqH,if_false]
   ·simp only[iW,hg,aqH,if_false,aq9];exact nM _
end
section
variable {G:Type} {Γ:Env G} {s:AS G} {a:Act} {w w':World} {η:List Value} {hp:List aw} {F:Nat->Nat->Prop} {P:Program}
theorem BM {tab:Nat->Option TD} (aA:bc Γ.P tab) {o:Oper} {T:Nat} {x:Operand} {lo hi:Option Operand} (ho:o.op=.slice T x lo hi none) {d:TD} (hd:tab T=some d) (hk:d.kind=.str) {b:ByteArray} (hx:s.ev x=.ax (.string b))
  {l h:Int} (hl:bZ s.ev 0 lo=some l) (hh:bZ s.ev b.size hi=some h) (h0:0<=l) (h1:l<=h) (h2:h<=b.size):gq Γ o s (.ax (.string (b.extract l.toNat h.toNat))):=by
 refine aZ fun a w η hrel=>⟨_,?_,.ax _⟩;have eP:=hrel.ev x;rw[hx] at eP;have vD:=eP.aC;have hu:Γ.P.underlying T=some .string:=by
  obtain⟨u,q2,q3⟩:=(aA T d hd).mK;rw[hk] at q3;rw[q2];exact congrArg some q3
 have FN:lo=none/\l=0\/∃y k,lo=some y/\a.eval y=.int k l:=by
  cases lo with
  |none=>simp[bZ] at hl;exact .inl ⟨rfl,hl.symm⟩
  |some y=>obtain⟨k,hk⟩:=iY hrel hl;exact .inr ⟨y,k,rfl,hk⟩
 have hhv:hi=none/\h=b.size\/∃y k,hi=some y/\a.eval y=.int k h:=by
  cases hi with
  |none=>simp[bZ] at hh;exact .inl ⟨rfl,hh.symm⟩
  |some y=>obtain⟨k,hk⟩:=iY hrel hh;exact .inr ⟨y,k,rfl,hk⟩
 rcases hhv with⟨rfl,rfl⟩|⟨y,k,rfl,hv⟩
 ·rcases FN with⟨rfl,rfl⟩|⟨y0,k0,rfl,vJ⟩
  ·simp[execOp,ho,Instr.sliceAt,run_underlying hu,Instr.slice,vD,Instr.sliceBounds]
  ·have QF:=run_sliceBound (P:=Γ.P) w vJ (y:=b.size) h0 (by omega) .sliceB;simp[execOp,ho,Instr.sliceAt,run_underlying hu,Instr.slice,vD,Instr.sliceBounds,QF]
 ·have hs:=run_sliceBound (P:=Γ.P) w hv (y:=b.size) (by omega) (by omega) .sliceAlen;rcases FN with⟨rfl,rfl⟩|⟨y0,k0,rfl,vJ⟩
  ·simp[execOp,ho,Instr.sliceAt,run_underlying hu,Instr.slice,vD,Instr.sliceBounds,hs]
  ·have QF:=run_sliceBound (P:=Γ.P) w vJ (y:=h.toNat) h0 (by omega) .sliceB;simp[execOp,ho,Instr.sliceAt,run_underlying hu,Instr.slice,vD,Instr.sliceBounds,hs,QF]
theorem sV (aE:Γ.Ok) {tab:Nat->Option TD} (aA:bc Γ.P tab) {o:Oper} {c:Prop} {r:AV} (h:bL tab s.hp s.ev o.op=some (c,r)) (hc:c):gq Γ o s r:=by
 generalize ho:o.op=op at h
 cases op with
 |move x=>
  simp only[bL,aqq,aqt] at h;obtain⟨_,rfl⟩:=h;exact aZ fun a w η hr=>⟨a.eval x,by simp[execOp,ho],hr.ev x⟩
 |assign x=>
  simp only[bL,aqq,aqt] at h;obtain⟨_,rfl⟩:=h;exact aZ fun a w η hr=>⟨a.eval x,by simp[execOp,ho],hr.ev x⟩
 |nilCheck x=>
  simp only[bL] at h;split at h
  ·rename_i r0 o0 hx;simp only[aqq,aqt] at h;obtain⟨_,rfl⟩:=h;refine aZ fun a w η hr=>?_;have hp:=hr.ev x;rw[hx] at hp;obtain⟨b,hb⟩:∃b,a.eval x=.pointer (some b):=by
    generalize a.eval x=v at hp;cases hp;exact⟨_,rfl⟩
   exact⟨a.eval x,by simp[execOp,ho,hb],hp⟩
  ·rename_i r0 o0 hx;simp only[aqq,aqt] at h;obtain⟨_,rfl⟩:=h;refine aZ fun a w η hr=>?_;have hp:=hr.ev x;rw[hx] at hp;obtain⟨b,hb⟩:∃b,a.eval x=.pointer (some b):=by
    generalize a.eval x=v at hp;cases hp;exact⟨_,rfl⟩
   exact⟨a.eval x,by simp[execOp,ho,hb],hp⟩
  ·cases h
 |pick cc x y=>
  simp only[bL] at h;split at h
  ·rename_i t ht;simp only[aqq,aqt] at h;obtain⟨_,rfl⟩:=h;exact OO ho ht
  ·cases h
 |fieldAddr T x f=>
  simp only[bL] at h;split at h
  ·rename_i p hp;split at h
   ·cases h
   ·rename_i h0;split at h
    ·rename_i n off he;simp only[aqq,aqt] at h;exact qz aA ho hp h0 (.inl ⟨n,off,he,h.2.symm⟩)
    ·rename_i e off he;simp only[aqq,aqt] at h;exact qz aA ho hp h0 (.inr ⟨e,off,he,h.2.symm⟩)
    ·rename_i r0 m0 i0 z0 he;split at h
     ·rename_i hz;simp only[aqq,aqt] at h;obtain⟨_,rfl⟩:=h;exact xO aA ho hp h0 he hz
     ·cases h
    ·cases h
  ·cases h
 |load T x=>
  simp only[bL] at h;split at h
  ·rename_i d hd;split at h
   ·rename_i n off he;split at h
    ·rename_i cs iV
     cases hl:gb d.kind.agg d.size cs off with
     |none=>rw[hl] at h;cases h
     |some v=>
      rw[hl] at h;simp only[aq1,aqq,aqt] at h;obtain⟨_,rfl⟩:=h;exact Co aA ho hd (.inl ⟨n,off,cs,he,iV,hl⟩)
    ·cases h
   ·rename_i e off he
    cases hl:yU d.kind.agg d.size e off with
    |none=>rw[hl] at h;cases h
    |some v=>
     rw[hl] at h;simp only[aq1,aqq,aqt] at h;obtain⟨_,rfl⟩:=h;exact Co aA ho hd (.inr ⟨e,off,he,hl⟩)
   ·rename_i r0 m0 i0 z0 he;split at h
    ·rename_i e0 z' els ss;split at h
     ·rename_i oX;obtain⟨rfl,FF⟩:=oX;simp only[aqq,aqt] at h;obtain⟨rfl,rfl⟩:=h;have hg:els.getD i0 .top=els[i0]'hc.2.1:=by simp[List.getD,hc.2.1]
      rw[hg] at hc ⊢;exact JL aA ho hd he ss hc.1 FF hc.2.1 hc.2.2
     ·cases h
    ·cases h
   ·cases h
  ·cases h
 |indexAddr T x i=>
  simp only[bL] at h;split at h
  ·rename_i d hd;split at h
   ·rename_i e hk;split at h
    ·rename_i d' els k n ef fN hi;simp only[aqq,aqt] at h;obtain⟨rfl,rfl⟩:=h;exact yY aA ho hd hk ef fN hi hc.1 hc.2.1 hc.2.2
    ·rename_i d' k n ef fN hi;split at h
     ·rename_i r m e' size k' hm;split at h
      ·rename_i oX;simp only[aqq,aqt] at h;obtain⟨rfl,rfl⟩:=h;obtain⟨hx,els,ss,rfl⟩:=rS hm;obtain⟨rfl,rfl⟩:=oX;exact xR aA ho hd hk ef hx ss hc.2.2 hi hc.1 hc.2.1
      ·cases h
     ·cases h
    ·cases h
   ·rename_i m hk;split at h
    ·rename_i r k n hx hi;simp only[aqq,aqt] at h;obtain⟨rfl,rfl⟩:=h;exact xP aA ho hd hk hx hi hc.1 hc.2
    ·rename_i e k n hx hi;simp only[aqq,aqt] at h;obtain⟨rfl,rfl⟩:=h;exact xQ aA ho hd hk hx hi hc.1 hc.2
    ·cases h
   ·cases h
  ·cases h
 |binOp op T x y T'=>
  simp only[bL] at h;split at h
  ·rename_i v hv;simp only[aqq,aqt] at h;obtain⟨_,rfl⟩:=h;exact QW aA ho hv
  ·exact FH aA ho h hc
 |convert S D x=>
  simp only[bL] at h;obtain⟨r',h1,h2⟩:=aro.1 h;simp only[aqt] at h2;rw[<-h2.2];exact QX aA ho h1
 |unOp op T x=>
  simp only[bL] at h;split at h
  ·rename_i b he;simp only[aqq,aqt] at h;exact Cp ho (.inl ⟨b,rfl,he,h.2.symm⟩)
  ·rename_i k n he;simp only[aqq,aqt] at h;exact Cp ho (.inr ⟨k,n,rfl,he,h.2.symm⟩)
  ·cases h
 |build T parts=>
  simp only[bL] at h;split at h
  ·rename_i d hd;split at h
   ·rename_i fs hk
    cases hl:dP fs (d.zero.cells.toList.map .ax) (parts.toList.map fun p=>(p.1,s.ev p.2)) with
    |none=>rw[hl] at h;cases h
    |some cs=>
     rw[hl] at h;simp only[aq1,aqq,aqt] at h;obtain⟨_,rfl⟩:=h;exact JP aA ho hd hk hl
   ·rename_i n hk
    cases hl:dP (yV n) (d.zero.cells.toList.map .ax) (parts.toList.map fun p=>(p.1,s.ev p.2)) with
    |none=>rw[hl] at h;cases h
    |some cs=>
     rw[hl] at h;simp only[aq1,aqq,aqt] at h;obtain⟨_,rfl⟩:=h;exact FL aA ho hd hk hl
   ·cases h
  ·cases h
 |buildSlice T n parts=>
  simp only[bL] at h;split at h
  ·rename_i d hd;split at h
   ·rename_i e hk;split at h
    ·rename_i d' ef;split at h
     ·rename_i nQ;simp only[aqq,aqt] at h;obtain⟨rfl,rfl⟩:=h;exact xT aE aA ho hd hk ef nQ.1 nQ.2.1 nQ.2.2.1 nQ.2.2.2 hc
     ·cases h
    ·cases h
   ·cases h
  ·cases h
 |field T x f=>
  simp only[bL] at h;split at h
  ·rename_i p cs hp hx;split at h
   ·rename_i nQ
    cases hl:gb p.2.2 p.2.1 cs p.1 with
    |none=>rw[hl] at h;cases h
    |some v=>
     rw[hl] at h;simp only[aq1,aqq,aqt] at h;obtain⟨_,rfl⟩:=h;exact JO aA ho hp hx hl fun hf=>by
      rcases nQ with h1|h1
      ·rw[h1] at hf;cases hf
      ·exact h1
   ·cases h
  ·cases h
 |lookup T m k ok=>
  simp only[bL] at h;split at h
  ·rename_i d es a hd hm hk;split at h
   ·rename_i kt et nT;split at h
    ·rename_i dk de mN FO;split at h
     ·rename_i ik yi;simp only[aqq,aqt] at h;obtain⟨_,rfl⟩:=h;exact wM (adY ik) aA ho hd nT mN (fun u hu=>by rw[yi] at hu;exact hu) FO hm hk
     ·cases h
    ·cases h
   ·cases h
  ·rename_i d es a hd hm hk;split at h
   ·rename_i kt et nT;split at h
    ·rename_i dk de mN FO;split at h
     ·rename_i yi;simp only[aqq,aqt] at h;obtain⟨_,rfl⟩:=h;exact wM adZ aA ho hd nT mN (fun u hu=>by rw[yi] at hu;exact hu) FO hm hk
     ·cases h
    ·cases h
   ·cases h
  ·cases h
 |index T x i=>
  simp only[bL] at h;split at h
  ·rename_i d b k n hd hx hi;split at h
   ·rename_i hk;simp only[aqq,aqt] at h;obtain⟨rfl,rfl⟩:=h;refine aZ fun a w η hr=>?_;have h1:=hr.ev x;rw[hx] at h1;have h1:=h1.aC;have h2:=hr.ev i;rw[hi] at h2;have h2:=h2.aC;have hu:Γ.P.underlying T=some .string:=by
     obtain⟨u,q2,q3⟩:=(aA T d hd).mK;rw[hk] at q3;rw[q2];exact congrArg some q3
    obtain⟨h3,h4⟩:=hc;have aH:n.toNat<b.size:=by omega
    refine⟨.int .u8 (dT b n),?_,.ax _⟩;have e:b[n.toNat]?=some b[n.toNat]:=getElem?_pos b n.toNat aH;have e2:dT b n=(b[n.toNat].toNat:Int):=by
     unfold dT;have:b.data[n.toNat]?=some b[n.toNat]:=by
      rw[arf (by exact aH)];rfl
     rw[this];rfl
    simp only[execOp,ho,h1,h2,Instr.index,asIntOf,ao,aq,al,run_underlying hu,if_pos h3,e,e2]
   ·cases h
  ·cases h
 |extract x i=>
  simp only[bL] at h;split at h
  ·rename_i vs he
   cases hl:vs[i]? with
   |none=>rw[hl] at h;cases h
   |some v=>
    rw[hl] at h;simp only[aq1,aqq,aqt] at h;obtain⟨_,rfl⟩:=h;exact DI ho he hl
  ·cases h
 |makeFunc fn first caps=>
  cases fn with
  |func f=>
   simp only[bL] at h;split at h
   ·rename_i h0;simp only[aqq,aqt] at h;obtain⟨_,rfl⟩:=h;exact BK ho h0
   ·split at h
    ·rename_i h0;simp only[aqq,aqt] at h;obtain⟨_,rfl⟩:=h;exact xS ho h0
    ·cases h
  |_=>simp[bL] at h
 |slice T x lo hi mx=>
  simp only[bL] at h;split at h
  ·rename_i d hd;split at h
   ·rename_i b hk hx;split at h
    ·rename_i l h' hl hh;simp only[aqq,aqt] at h;obtain⟨rfl,rfl⟩:=h;exact BM aA ho hd hk hx hl hh hc.1 hc.2.1 hc.2.2
    ·cases h
   ·rename_i e hk;split at h
    ·rename_i els d' fN ef;split at h
     ·rename_i l h' hl hh hm;simp only[aqq,aqt] at h;obtain⟨rfl,rfl⟩:=h;have hmx:mx=none:=by cases mx<;>simp_all
      exact y8 aA ho hd hk ef fN hl hh hc.1 hc.2.1 hc.2.2.1 hc.2.2.2 (.inl ⟨hmx,rfl⟩)
     ·rename_i l h' m hl hh hm;split at h
      ·rename_i his;simp only[aqq,aqt] at h;obtain⟨rfl,rfl⟩:=h
       cases mx with
       |none=>simp at hm
       |some y=>
        simp only[aq1,aqq] at hm;exact y8 aA ho hd hk ef fN hl hh hc.1 hc.2.1 hc.2.2.2.1 hc.2.2.2.2 (.inr ⟨y,m,rfl,his,hm,hc.2.2.1,rfl⟩)
      ·cases h
     ·cases h
    ·cases h
   ·cases h
  ·cases h
 |call cl=>
  simp only[bL] at h;split at h
  ·rename_i x hb hl;split at h
   ·rename_i d hd;have hT:∃T,cl.argTypes[0]?=some T/\tab T=some d:=by
     cases hT:cl.argTypes[0]? with
     |none=>rw[hT] at hd;cases hd
     |some T=>rw[hT] at hd;exact⟨T,rfl,hd⟩
    obtain⟨T,hT,hd⟩:=hT;split at h
    ·cases h
    ·rename_i e hk hns;split at h
     case h_2=>
      split at h
      ·rename_i r0 m0 e0 z0 k0 hm;simp only[aqq,aqt] at h;obtain⟨rfl,rfl⟩:=h;obtain⟨hx,els,ss,rfl⟩:=rS hm;exact OQ aA ho hb hl hT hd hk hx ss hc
      ·cases h
     rename_i u hu;simp only[aqq,aqt] at h;obtain⟨_,rfl⟩:=h;have h:(vK s.hp (s.ev x))=some u:=hu;have FN:∃els,(s.ev x).iU s.hp=some els/\u=.ax (.int .i64 els.length):=by
      unfold vK at h;split at h
      ·rename_i sb he;exact(hns sb he).elim
      ·cases fN:(s.ev x).iU s.hp with
       |none=>rw[fN] at h;cases h
       |some els=>
        rw[fN] at h;exact⟨els,rfl,(aqs h).symm⟩
     obtain⟨els,h1,h2⟩:=FN;exact FI aA ho hb hl hT hd (.inl ⟨e,els,hk,h1,h2⟩)
    ·rename_i b hk hx;simp only[aqq,aqt] at h;exact FI aA ho hb hl hT hd (.inr ⟨b,hk,hx,h.2.symm⟩)
    ·cases h
   ·cases h
  ·rename_i x y hb hl;split at h
   ·rename_i k m k' n hx hy;simp only[aqq,aqt] at h;obtain⟨_,rfl⟩:=h;exact QZ ho hb hl hx hy
   ·cases h
  ·rename_i x y hb hl;split at h
   ·rename_i k m k' n hx hy;simp only[aqq,aqt] at h;obtain⟨_,rfl⟩:=h;exact Q0 ho hb hl hx hy
   ·cases h
  ·cases h
 |_=>simp[bL] at h
end
section
variable {G:Type} {Γ:Env G} {s:AS G} {a:Act} {w w':World} {η:List Value} {hp:List aw} {F:Nat->Nat->Prop} {P:Program}
def gL (Γ:Env G) (o:Oper) (s:AS G) (r:AV) (hp':List aw):Prop:=
 ∀a w η,Rel Γ s a w η->∃v w' bf,((execOp a.eval o).run Γ.P w=.ok (.value v) w'\/(execOp a.eval o).run Γ.P w=.ok .skip w'/\v=undef)/\
  Rel Γ { s with hp:=hp' } a w' bf/\bB w' (bt Γ w' bf hp') bf hp' r v
def bw (d:TD) (n:Nat) (els aJ:List AV):Prop:=
 (∀x:AV,x∈els->x.cells.length=d.size)/\(∀x:AV,x∈aJ->x.cells.length=d.size)/\n<=maxLen/\n*d.bytes<=140737488355328
def cH {κ:Type} [DecidableEq κ]:List (κ×Value)->κ->Value->List (κ×Value)
 | [],a,v=>[(a,v)]
 |(k,u)::r,a,v=>if a=k then(k,v)::r else(k,u)::cH r a v
def yj:Operand->Operand->Bool
 | .tmp a,.tmp b=>Nat.beq a b
 |_,_=>false
theorem JR {l c:Operand} (h:yj l c=true):l=c:=by
 unfold yj at h;split at h
 ·rw[aqN h]
 ·cases h
def FP (d:TD):Option Value:=
 match Nat.beq d.size 1,d.zero.cells.toList with
 |true,[z]=>if z.oneCell'=true then some z else none
 |_,_=>none
theorem Q4 {d:TD} {z:Value} (h:FP d=some z):d.size=1/\d.zero.cells=#[z]/\z.oneCell'=true:=by
 unfold FP at h;split at h
 ·rename_i z' h1 h2;split at h
  ·rename_i h3;obtain rfl:=aqs h;exact⟨aqN h1,by apply arL;simpa using h2,h3⟩
  ·cases h
 ·cases h
def eh (tab:Nat->Option TD) (hp:List aw) (ρ:Operand->AV):Op->Option (Prop×AV×List aw)
 | .alloc T=>(match tab T with
  |some d=>some (True,.ptr hp.length 0,hp++[.box (d.zero.cells.toList.map .ax)])
  |none=>none)
 | .box _ x=>if(ρ x).nO=true then some (True,.ptr hp.length 0,hp++[.box (ρ x).cells]) else none
 | .store T p x=>(match tab T,ρ p with
  |some d,.ptr r o=>(match hp[r]? with
   |some (.box cs)=>if(ρ x).nO=true then some ((ρ x).cells.length=d.size/\o+d.size<=cs.length,.top,hp.set r (.box (setCells cs o (ρ x).cells))) else none
   |_=>none)
  |some d,.fV r m i z=>(match hp[r]? with
   |some (.bj e size els)=>if((ρ x).fO hp).nO=true/\size=z then(if d.size=z then some (((ρ x).fO hp).cells.length=d.size/\m=els.length/\i<els.length,.top,hp.set r (.bj e size (els.set i ((ρ x).fO hp))))
     else some (((ρ x).fO hp).cells.length=d.size/\d.size<=z/\m=els.length/\i<els.length,.top,hp.set r (.bj e size (els.set i (.agg (setCells (els.getD i .top).cells 0 ((ρ x).fO hp).cells)))))) else none
   |_=>none)
  |_,_=>none)
 | .makeSlice T l c=>(match tab T with
  |some d=>(match d.kind with
   | .lU e=>(match yj l c with
    |true=>(match tab e,ρ c with
     |some d',.ax (.int _ n)=>(match FP d' with
      |some z=>some (0<=n/\n<=9223372036854775807/\(d'.bytes:Int)*n<=281474976710656,.own hp.length (List.replicate n.toNat (AV.ax z)).length,hp++[.bj e 1 (List.replicate n.toNat (.ax z))])
      |none=>none)
     |_,_=>none)
    |false=>(match tab e,ρ l,ρ c with
     |some d',.ax (.int _ 0),.ax (.int _ n)=>some (0<=n/\n<=9223372036854775807/\(d'.bytes:Int)*n<=281474976710656/\0<d'.size,.own hp.length 0,hp++[.row e d'.size []])
     |_,_,_=>none))
   |_=>none)
  |none=>none)
 | .makeMap T none=>(match tab T with
  |some d=>(match d.kind with
   | .qo kt _=>(match tab kt with
    |some dk=>(match dk.kind with
     | .str=>some (True,.mp hp.length,hp++[.cE (.s [])])
     |_=>some (True,.mp hp.length,hp++[.cE (.i [])]))
    |none=>none)
   |_=>none)
  |none=>none)
 | .mapUpdate T m k x=>(match tab T,ρ m,ρ k,(ρ x).val? with
  |some d,.mp r,.ax (.int .i64 a),some v=>(match d.kind,hp[r]? with
   | .qo kt _,some (.cE (.i es))=>(match tab kt with
    |some dk=>(match dk.kind with
     | .int _=>some (True,.top,hp.set r (.cE (.i (cH es a v))))
     |_=>none)
    |none=>none)
   |_,_=>none)
  |some d,.mp r,.ax (.string a),some v=>(match d.kind,hp[r]? with
   | .qo kt _,some (.cE (.s es))=>(match tab kt with
    |some dk=>(match dk.kind with
     | .str=>some (True,.top,hp.set r (.cE (.s (cH es a v))))
     |_=>none)
    |none=>none)
   |_,_=>none)
  |_,_,_,_=>none)
 | .call c=>(match c.callee,c.args.toList,c.argTypes.toList with
  | .builtin .append,[b,x],[T,T']=>if T=T' then(match tab T with
   |some d=>(match d.kind with
    | .lU e=>(match tab e,(ρ x).iU hp with
     |some d',some aJ=>(match ρ b with
      | .ax (.slice none 0 0)=>some (0<d'.size/\bw d' aJ.length [] aJ,.own hp.length aJ.length,hp++[.row e d'.size aJ])
      | .clip els=>some (0<d'.size/\(aJ=[]->els=[])/\bw d' (els.length+aJ.length) els aJ,.own hp.length (els.length+aJ.length),hp++[.row e d'.size (els++aJ)])
      | .own r n=>(match hp[r]? with
       |some (.row e' size els)=>if e'=e/\size=d'.size/\n=els.length then some (bw d' (els.length+aJ.length) [] aJ,.own r (els.length+aJ.length),hp.set r (.row e size (els++aJ))) else none
       |some (.bj e' size els)=>if e'=e/\size=d'.size/\n=els.length then some (bw d' (els.length+aJ.length) [] aJ,.own r (els.length+aJ.length),hp.set r (.bj e size (els++aJ))) else none
       |_=>none)
      |_=>none)
     |_,_=>none)
    |_=>none)
   |none=>none) else none
  |_,_,_=>none)
 |_=>none
theorem Q5 (aE:Γ.Ok) {o:Oper} {T:Nat} {x:Operand} (ho:o.op=.box T x) (hs:(s.ev x).nO=true):gL Γ o s (.ptr s.hp.length 0) (s.hp++[.box (s.ev x).cells]):=by
 intro a w η hr;have FK:=(hr.ev x).FJ hs;have wN:=bV.alloc w (.cells (a.eval x).cells T);have he:=tQ (Γ:=Γ) (o:=.box (s.ev x).cells) (v:=.pointer (some ⟨w.heap.size,0,none⟩)) hr.heap.len wN (fun b hb=>by simp only[dO,aqq] at hb;omega);refine⟨.pointer (some ⟨w.heap.size,0,none⟩),_,η++[.pointer (some ⟨w.heap.size,0,none⟩)],.inl (by simp[execOp,ho,Instr.box,newVar,newRow];rfl),?_,?_⟩
 ·exact hr.add aE wN (fun b hb=>by simp only[dO,aqq] at hb;omega) ⟨w.heap.size,(a.eval x).cells,T,rfl,heap_alloc_new w _,by simpa using FK.1,fun j y u hy hu=>by
   have:=FK.2 j y u hy (by simpa using hu)
   exact⟨this.1.ext he,this.2⟩⟩
 ·exact .ptr _ 0 w.heap.size (by rw[<-hr.heap.len];simp)
theorem JS (aE:Γ.Ok) {tab:Nat->Option TD} (aA:bc Γ.P tab) {o:Oper} {T:Nat} (ho:o.op=.alloc T) {d:TD} (hd:tab T=some d):gL Γ o s (.ptr s.hp.length 0) (s.hp++[.box (d.zero.cells.toList.map .ax)]):=by
 intro a w η hr;have dJ:=aA T d hd;have wN:=bV.alloc w (.cells d.zero.cells T);refine⟨.pointer (some ⟨w.heap.size,0,none⟩),_,η++[.pointer (some ⟨w.heap.size,0,none⟩)],.inl (by simp[execOp,ho,Instr.alloc,dJ.kq,newVar,newRow];rfl),?_,?_⟩
 ·refine hr.add aE wN (fun b hb=>by simp only[dO,aqq] at hb;omega) ⟨w.heap.size,d.zero.cells,T,rfl,heap_alloc_new w _,by simp,fun j y u hy hu=>?_⟩;exact(dJ.DJ (w:=_) (F:=_) (η:=_) (hp:=_)).2 j y u hy (by simpa using hu)
 ·exact .ptr _ 0 w.heap.size (by rw[<-hr.heap.len];simp)
theorem FQ (aE:Γ.Ok) {b r:Nat}:∀(us:List Value) (xs:List AV) (k off:Nat) (cs:List AV) (s:AS G) (w:World),Rel Γ s a w η->s.hp[r]?=some (.box cs)->η[r]?=some (.pointer (some ⟨b,0,none⟩))->
  sU w (bt Γ w η s.hp) η s.hp xs us->off+k+xs.length<=cs.length->
  ∃w',(storeCells ⟨b,off,none⟩ us k).run Γ.P w=.ok () w'/\Rel Γ { s with hp:=s.hp.set r (.box (setCells cs (off+k) xs)) } a w' η:=by
 intro us
 induction us with
 |nil=>
  intro xs k off cs s w hr hb fF FK hle;have:xs=[]:=aq4 (by have:=FK.1;simpa using this.symm);subst this;refine⟨w,rfl,?_⟩;have:s.hp.set r (.box (setCells cs (off+k) []))=s.hp:=by
   apply ark;intro i
   by_cases hi:r=i
   ·subst hi;rw[aB hb,hb];rfl
   ·rw[getElem?_set_ne hi]
  rw[this];exact hr
 |cons u us ih=>
  intro xs k off cs s w hr hb fF FK hle
  cases xs with
  |nil=>have:=FK.1;simp at this
  |cons x xs=>
   have h0:=FK.2 0 x u rfl rfl;simp only[aqy] at hle;obtain⟨h1,h2,u',h3⟩:=hr.write aE (off:=off+k) hb fF (by omega) h0.2 h0.1;have gu:sU (w.setCell ⟨b,off+k,none⟩ u) (bt Γ (w.setCell ⟨b,off+k,none⟩ u) η (s.hp.set r (.box (cs.set (off+k) x)))) η (s.hp.set r (.box (cs.set (off+k) x))) xs us:=by
    refine⟨by simpa using FK.1,fun j y z hy hz=>?_⟩;have h4:=FK.2 (j+1) y z (by simpa using hy) (by simpa using hz);refine⟨?_,h4.2⟩;refine h4.1.ext ?_;refine⟨fun b' o v hf hc=>?_,fun b' es c hf hc=>?_,fun b' o hf=>?_,fun _ _ h=>h,fun _ _ h=>h,fun r' n v ho=>?_⟩
    ·have cg:b'≠b:=by
      intro e;subst e;obtain⟨o1,q1,q2⟩:=(bm b' o).1 hf.2.2.2 r _ fF rfl;rw[hb] at q1;obtain rfl:=aqs q1;exact q2
     rw[World.cell?_of_block (ar5 w _ b' u (by simpa using cg))];exact hc
    ·have cg:b'≠b:=by
      intro e;subst e;obtain⟨o1,q1,q2⟩:=(bm b' 0).1 hf.2.2.2 r _ fF rfl;rw[hb] at q1;obtain rfl:=aqs q1;exact q2
     rw[ar5 w _ b' u (by simpa using cg)];exact hc
    ·refine⟨hf.1,by simpa using hf.2.1,hf.2.2.1,(bm b' o).2 fun r' v hv qD=>?_⟩;obtain⟨o1,q1,q2⟩:=(bm b' o).1 hf.2.2.2 r' v hv qD
     by_cases OU:r=r'
     ·subst OU;rw[hb] at q1;obtain rfl:=aqs q1;exact q2.elim
     ·exact⟨o1,by rw[getElem?_set_ne OU];exact q1,q2⟩
    ·unfold bl at ho ⊢
     by_cases OU:r=r'
     ·subst OU;rw[hb] at ho;exact ho.elim
     ·rw[getElem?_set_ne OU];exact ho
   obtain⟨w',e1,e2⟩:=ih xs (k+1) off (cs.set (off+k) x) { s with hp:=s.hp.set r (.box (cs.set (off+k) x)) } (w.setCell ⟨b,off+k,none⟩ u) h1 (aB hb) fF gu (by simp;omega);refine⟨w',?_,?_⟩
   ·simp only[storeCells,ao,Addr.add_lit];rw[run_store _ _ _ _ _ h0.2,h3];simp only[h2,aqH,if_false,al];exact e1
   ·have:(s.hp.set r (.box (cs.set (off+k) x))).set r (.box (setCells (cs.set (off+k) x) (off+(k+1)) xs))=s.hp.set r (.box (setCells cs (off+k) (x::xs))):=by
     rw[List.set_set];rfl
    simp only[this] at e2;exact e2
theorem JU (aE:Γ.Ok) {tab:Nat->Option TD} (aA:bc Γ.P tab) {o:Oper} {T r off:Nat} {p x:Operand} (ho:o.op=.store T p x) {d:TD} (hd:tab T=some d) (hp:s.ev p=.ptr r off) {cs:List AV} (hb:s.hp[r]?=some (.box cs))
  (hs:(s.ev x).nO=true) (hl:(s.ev x).cells.length=d.size) (hle:off+d.size<=cs.length):gL Γ o s .top (s.hp.set r (.box (setCells cs off (s.ev x).cells))):=by
 intro a w η hr;have su:=hr.ev p;rw[hp] at su;have eP:=(hr.ev x).FJ hs;generalize hv:a.eval p=v at su
 cases su with
 |ptr _ _ b fF=>
  obtain⟨w',e1,e2⟩:=FQ aE (a.eval x).cells.toList (s.ev x).cells 0 off cs s w hr hb fF eP (by omega);refine⟨undef,w',η,.inr ⟨?_,rfl⟩,by simpa using e2,.top _⟩;have cx:(a.eval x).cells.size=d.size:=by rw[<-hl,<-eP.1];simp
  simp only[execOp,ho,hv,Instr.storeAt,Instr.sureAddr,ao,aq,al,storeVar,(aA T d hd).run_sizeOf,cx,ne_eq,not_true_eq_false,if_false,e1]
theorem Cq {b off:Nat} {T:TypeId}:∀(us:List Value) (k:Nat) (cs:Array Value) (w:World),w.heap[b]?=some (.cells cs T (0,0))->off+k+us.length<=cs.size->(∀u∈us,u.oneCell'=true)->
  ∃w' gi,(storeCells ⟨b,off,none⟩ us k).run P w=.ok () w'/\w'.heap[b]?=some (.cells gi T (0,0))/\gi.toList=gd cs.toList (off+k) us/\cG (fun x=>x=b) w w'
 | [],k,cs,w,hb,_,_=>⟨w,cs,rfl,hb,rfl,cG.refl _ _⟩
 |u::us,k,cs,w,hb,hle,h1=>by
  simp only[aqy] at hle;have xN:(w.setCell ⟨b,off+k,none⟩ u).heap[b]?=some (.cells (cs.setIfInBounds (off+k) u) T (0,0)):=Go.heap_setCell_same w b (off+k) cs T u hb;obtain⟨w',gi,e1,e2,e3,e4⟩:=Cq (off:=off) us (k+1) _ _ xN (by simp;omega) fun v hv=>h1 v (aqI _ hv);refine⟨w',gi,?_,e2,?_,?_⟩
  ·have hc:w.cell? ⟨b,off+k,none⟩=some (cs[off+k]'(by omega)):=by
    rw[cell_of_row w b (off+k) cs T (0,0) hb];simp
   have hf:=frozen_of_row w b (off+k) cs T hb;simp only[storeCells,ao,Addr.add_lit];rw[run_store _ _ _ _ _ (h1 u aqG),hc];simp only[hf,aqH,if_false,al];exact e1
  ·rw[e3];simp[gd,asd]
  ·exact(show cG (fun x=>x=b) w (w.setCell ⟨b,off+k,none⟩ u) from⟨rfl,rfl,rfl,by simp[World.setCell],fun i _ hi=>ar5 w _ i u hi⟩).trans e4 fun _ _ h=>h
theorem wO (aE:Γ.Ok) {tab:Nat->Option TD} (aA:bc Γ.P tab) {o:Oper} {T r m i z e:Nat} {p x:Operand} (ho:o.op=.store T p x) {d:TD} (hd:tab T=some d) (hp:s.ev p=.fV r m i z) {els:List AV} (hb:s.hp[r]?=some (.bj e z els))
  (hs:((s.ev x).fO s.hp).nO=true) (hl:((s.ev x).fO s.hp).cells.length=d.size) (hm:m=els.length) (FF:d.size<=z) (hi:i<els.length) {el':AV} (hle:els[i].cells.length=z->el'.cells.length=z)
  (ep:els[i].cells.length=z->∀(j:Nat) (y:AV),el'.cells[j]?=some y->(j<d.size->((s.ev x).fO s.hp).cells[j]?=some y)/\(d.size<=j->els[i].cells[j]?=some y)):gL Γ o s .top (s.hp.set r (.bj e z (els.set i el'))):=by
 intro a w η hr;have su:=hr.ev p;rw[hp] at su;have eP:=(nN hr.heap hr.cq (hr.ev x)).FJ hs;generalize (s.ev x).fO s.hp=el at hs hl eP ep;generalize hv:a.eval p=v at su
 cases su with
 |fV _ _ _ _ b o' c k Fx=>
  have yX:=Fx;unfold bl at yX;rw[hb] at yX;have fF:=yX.2 hm;obtain⟨hz0,xs,eQ,fN⟩:=hr.heap.obj r _ _ hb fF;rcases eQ.2 with⟨h0,_⟩|⟨g,cap,cur,he,h0,⟨FG,rR,hg⟩,Jx,Jy,iV,qa⟩
  ·omega
  obtain rfl:FG=0:=Nat.le_zero.1 rR
  ·simp only[Value.slice.injEq,aqq,Addr.mk.injEq,and_true] at he;obtain⟨⟨rfl,rfl⟩,rfl,rfl⟩:=he;generalize sW:(a.eval x).cells.toList=us at eP;have hul:us.length=d.size:=by rw[eP.1,hl]
   have hold:=fN i els[i] (aqx hi);have ep:=ep hold.1;have hle:=hle hold.1;have aR:(i+1)*z<=els.length*z:=ard _ hi;have JH:els.length*z<=c*z:=ard _ Jx;rw[arz,Nat.one_mul] at aR;obtain⟨w',gi,e1,e2,e3,e4⟩:=Cq (P:=Γ.P) (off:=0+i*z) us 0 cur w hg (by omega) fun u hu=>by
    obtain⟨j,hj⟩:=arM hu;have aH:j<el.cells.length:=by rw[<-eP.1];exact(aqr.1 hj).1
    exact(eP.2 j _ u (aqx aH) hj).2
   have cx:(a.eval x).cells.size=d.size:=by rw[<-hl,<-eP.1,<-sW];simp
   have wH:dO (.slice (some ⟨b,0,none⟩) els.length c)=some b:=cF h0;have Xy:η.set r (.slice (some ⟨b,0,none⟩) els.length c)=η:=by
    apply ark;intro k
    by_cases hk:r=k
    ·subst hk;rw[aB fF,fF]
    ·rw[getElem?_set_ne hk]
   have:=Rel.change (w':=w') (o':=.bj e z (els.set i el')) (v':=.slice (some ⟨b,0,none⟩) els.length c) aE hr hb ai fF
    ⟨e4.os,e4.tape,e4.output,e4.size,fun k hk hkb=>e4.block k hk fun h=>hkb (by rw[wH,h])⟩
    (fun c hc=>.inl hc) (fun k hk=>hk.elim) (fun _ _ _ _ hk=>hk.elim) (fun _ _ _ _ hk=>hk.elim)
    (fun n u ho=>by
     unfold bl at ho ⊢;rw[hb] at ho;rw[aB hb,Xy]
     exact⟨by rw[arN];exact ho.1,fun h=>ho.2 (by rw[arN] at h;exact h)⟩)
    (fun _ _=>rfl) (fun _ hx=>by cases hx)
    (fun b' d' gz ef=>by rw[wH] at gz;obtain rfl:=aqs gz;rw[hg] at ef;cases ef)
    (fun he=>⟨hz0,gd xs (i*z) us,⟨by rw[iX,arN];exact eQ.1,.inr ⟨b,c,gi,by rw[arN],h0,⟨0,aqw _,e2⟩,by rw[arN];exact Jx,Jy,by
      have:gi.toList.length=cur.toList.length:=by rw[e3,iX]
      simp only[ara] at this;rw[this,iV],by
      rw[arN];apply ark;intro k;have hlen:i*z+us.length<=cur.toList.length:=by simp only[ara];omega
      have FR:i*z+us.length<=xs.length:=by rw[eQ.1];omega
      rw[aqM,dt us xs _ _ FR,e3,arw,aqV,dt us _ _ _ hlen]
      by_cases hk:k<els.length*z
      ·rw[if_pos hk]
       by_cases ep:i*z<=k/\k<i*z+us.length
       ·rw[if_pos ep,if_pos ep]
       ·rw[if_neg ep,if_neg ep,<-qa,aqM,if_pos hk]
      ·rw[if_neg hk,if_neg (by omega),aq6 (by rw[eQ.1];omega)]⟩⟩,fun i' el2 tR=>by
      have FR:i*z+us.length<=xs.length:=by rw[eQ.1];omega
      by_cases JM:i=i'
      ·subst JM;rw[List.getElem?_set_self hi] at tR;obtain rfl:=aqs tR;refine⟨hle,fun j x hj=>?_⟩
       by_cases hjd:j<d.size
       ·have hj:=(ep j x hj).1 hjd;have za:j<us.length:=by omega
        refine⟨us[j],?_,((eP.2 j x _ hj (aqx za)).1).ext he.qu.ext,(eP.2 j x _ hj (aqx za)).2⟩;rw[dt us xs _ _ FR,if_pos (by omega),show i*z+j-i*z=j from by omega,aqx za]
       ·obtain⟨u,q1,q2,q3⟩:=hold.2 j x ((ep j x hj).2 (by omega));refine⟨u,?_,q2.ext he.qu.ext,q3⟩;rw[dt us xs _ _ FR,if_neg (by omega)];exact q1
      ·rw[getElem?_set_ne JM] at tR;refine⟨(fN i' el2 tR).1,fun j x hj=>?_⟩;obtain⟨u,q1,q2,q3⟩:=(fN i' el2 tR).2 j x hj;refine⟨u,?_,q2.ext he.qu.ext,q3⟩;have hjz:j<z:=by rw[<-(fN i' el2 tR).1];exact(aqr.1 hj).1
       rw[dt us xs _ _ FR,if_neg ?_]
       ·exact q1
       ·rw[hul];rcases Nat.lt_or_gt_of_ne JM with h|h
        ·have:=ard z (show i+1<=i' from h);rw[arz,Nat.one_mul] at this;omega
        ·have:=ard z (show i'+1<=i from h)
         rw[arz,Nat.one_mul] at this;omega⟩)
   rw[Xy] at this;refine⟨undef,w',η,.inr ⟨?_,rfl⟩,this,.top _⟩;simp only[execOp,ho,hv,Instr.storeAt,Instr.sureAddr,ao,aq,al,storeVar,(aA T d hd).run_sizeOf,cx,ne_eq,not_true_eq_false,if_false,sW,e1]
theorem FT (aE:Γ.Ok) {tab:Nat->Option TD} (aA:bc Γ.P tab) {o:Oper} {T r m i z e:Nat} {p x:Operand} (ho:o.op=.store T p x) {d:TD} (hd:tab T=some d) (hp:s.ev p=.fV r m i z) {els:List AV} (hb:s.hp[r]?=some (.bj e z els))
  (hs:((s.ev x).fO s.hp).nO=true) (hl:((s.ev x).fO s.hp).cells.length=d.size) (hm:m=els.length) (FF:d.size=z) (hi:i<els.length):gL Γ o s .top (s.hp.set r (.bj e z (els.set i ((s.ev x).fO s.hp)))):=
 wO aE aA ho hd hp hb hs hl hm (asi FF) hi (fun _=>by rw[hl,FF]) fun _ j y hy=>⟨fun _=>hy,fun h=>by have:=(aqr.1 hy).1;omega⟩
theorem mV:∀(xs cs:List AV) (k j:Nat),k+xs.length<=cs.length->(setCells cs k xs)[j]?=if k<=j/\j<k+xs.length then xs[j-k]? else cs[j]?
 | [],cs,k,j,_=>by rw[setCells,if_neg (by simp only[aqW];omega)]
 |x::xs,cs,k,j,h=>by
  simp only[aqy] at h;rw[setCells,mV xs _ _ _ (by rw[arN];omega)]
  by_cases e:k=j
  ·subst e;rw[if_neg (by omega),if_pos (by simp only[aqy];omega),arO,ari,List.getElem?_set_self (by omega)]
  ·rw[getElem?_set_ne e]
   by_cases h2:k+1<=j/\j<k+1+xs.length
   ·rw[if_pos h2,if_pos (by simp only[aqy];omega),show j-k=j-(k+1)+1 from by omega,aq2]
   ·rw[if_neg h2,if_neg (by simp only[aqy];omega)]
theorem FU (aE:Γ.Ok) {tab:Nat->Option TD} (aA:bc Γ.P tab) {o:Oper} {T r m i z e:Nat} {p x:Operand} (ho:o.op=.store T p x) {d:TD} (hd:tab T=some d) (hp:s.ev p=.fV r m i z) {els:List AV} (hb:s.hp[r]?=some (.bj e z els))
  (hs:((s.ev x).fO s.hp).nO=true) (hl:((s.ev x).fO s.hp).cells.length=d.size) (hm:m=els.length) (FF:d.size<=z) (hi:i<els.length):gL Γ o s .top (s.hp.set r (.bj e z (els.set i (.agg (setCells (els.getD i .top).cells 0 ((s.ev x).fO s.hp).cells))))):=by
 have hg:els.getD i .top=els[i]:=by simp[List.getD,hi]
 rw[hg];refine wO aE aA ho hd hp hb hs hl hm FF hi (fun h=>by show (setCells _ 0 _).length=z;rw[xM,h]) fun h j y hy=>?_;have DG:(setCells els[i].cells 0 ((s.ev x).fO s.hp).cells)[j]?=some y:=hy;rw[mV _ _ _ _ (by rw[hl,h];omega),hl] at DG;refine⟨fun hj=>?_,fun hj=>?_⟩
 ·rw[if_pos (by omega)] at DG;exact DG
 ·rw[if_neg (by omega)] at DG;exact DG
theorem zb (aE:Γ.Ok) {tab:Nat->Option TD} (aA:bc Γ.P tab) {o:Oper} {T e:Nat} {l c:Operand} (ho:o.op=.makeSlice T l c) {d d':TD} (hd:tab T=some d) (hk:d.kind=.lU e) (ef:tab e=some d')
  {k k':IntKind} {n:Int} (hl:s.ev l=.ax (.int k 0)) (hc:s.ev c=.ax (.int k' n)) (h0:0<=n) (Dz:n<=9223372036854775807) (h48:(d'.bytes:Int)*n<=281474976710656) (cx:0<d'.size):
  gL Γ o s (.own s.hp.length 0) (s.hp++[.row e d'.size []]):=by
 intro a w η hr;have WZ:=hr.ev l;have LW:=hr.ev c;rw[hl] at WZ;rw[hc] at LW;have dJ:=aA e d' ef;obtain⟨i,jN,sD,Fw,LS⟩:=dJ.info;have hu:Γ.P.underlying T=some (.slice e):=by
  obtain⟨u,q2,q3⟩:=(aA T d hd).mK;rw[hk] at q3;rw[q2];exact congrArg some q3
 have hw:IntKind.i64.wrap n=n:=by
  simp only[IntKind.wrap,IntKind.bits,IntKind.signed];simp;omega
 have hw0:IntKind.i64.wrap 0=0:=by decide
 have JV:((decide (n<0)||decide ((d'.bytes:Int)*n>2 ^ 48))||decide ((0:Int)<0)||decide ((0:Int)>n))=false:=by
  simp;omega
 have gX:∃arr:Array Value,arr.size=n.toNat*d'.size/\(execOp a.eval o).run Γ.P w=.ok (.value (.slice (some ⟨w.heap.size,0,none⟩) 0 n.toNat)) (w.alloc (.cells arr e)):=by
  by_cases hz:n.toNat*d'.size=0
  ·refine⟨(Array.range (n.toNat*d'.size)).map ((#[]:Array Value)[· % (#[]:Array Value).size]!),by simp,?_⟩;simp only[execOp,ho,Instr.makeSlice,ao,run_underlying hu,al,asInt,WZ.aC,LW.aC,asIntOf,aq,typeInfo,run_program,jN,Fw,hw,hw0,JV,aqH,if_false,run_askRoom,sizeOf,sD,if_pos hz,newRow,run_newObj];rfl
  ·refine⟨(Array.range (n.toNat*d'.size)).map (d'.zero.cells[· % d'.zero.cells.size]!),by simp,?_⟩;simp only[execOp,ho,Instr.makeSlice,ao,run_underlying hu,al,asInt,WZ.aC,LW.aC,asIntOf,aq,typeInfo,run_program,jN,Fw,hw,hw0,JV,aqH,if_false,run_askRoom,sizeOf,sD,if_neg hz,dJ.kq,newRow,run_newObj];rfl
 obtain⟨arr,sF,gX⟩:=gX;have wN:=bV.alloc w (.cells arr e);refine⟨_,_,η++[.slice (some ⟨w.heap.size,0,none⟩) 0 n.toNat],.inl gX,?_,?_⟩
 ·refine hr.add aE wN (fun b hb=>?_) ⟨cx,[],⟨by simp,?_⟩,fun i el hi=>by simp at hi⟩
  ·simp only[dO] at hb;split at hb
   ·cases hb
   ·obtain rfl:=aqs hb;exact aqw _
  ·by_cases hn:n.toNat=0
   ·exact .inl ⟨rfl,.inr ⟨_,by rw[hn]⟩⟩
   ·exact .inr ⟨w.heap.size,n.toNat,arr,rfl,by omega,⟨0,aqC _,heap_alloc_new w _⟩,aqC _,by simp only[maxLen];omega,sF,by simp⟩
 ·refine .own _ 0 _ rfl ?_;unfold bl;have:(s.hp++[aw.row e d'.size []])[s.hp.length]?=some (.row e d'.size []):=by simp
  rw[this];exact⟨aqw _,fun _=>by rw[<-hr.heap.len];simp⟩
theorem JW (aE:Γ.Ok) {tab:Nat->Option TD} (aA:bc Γ.P tab) {o:Oper} {T e:Nat} {l c:Operand} (ho:o.op=.makeSlice T l c) {d d':TD} (hd:tab T=some d) (hk:d.kind=.lU e) (ef:tab e=some d')
  {k k':IntKind} {n:Int} (hl:s.ev l=.ax (.int k n)) (hc:s.ev c=.ax (.int k' n)) (h0:0<=n) (Dz:n<=9223372036854775807) (h48:(d'.bytes:Int)*n<=281474976710656) {z:Value} (hz:FP d'=some z):
  gL Γ o s (.own s.hp.length (List.replicate n.toNat (AV.ax z)).length) (s.hp++[.bj e 1 (List.replicate n.toNat (.ax z))]):=by
 intro a w η hr;have WZ:=hr.ev l;have LW:=hr.ev c;rw[hl] at WZ;rw[hc] at LW;have dJ:=aA e d' ef;obtain⟨i,jN,sD,Fw,LS⟩:=dJ.info;obtain⟨hs1,hzc,BJ⟩:=Q4 hz;have hu:Γ.P.underlying T=some (.slice e):=by
  obtain⟨u,q2,q3⟩:=(aA T d hd).mK;rw[hk] at q3;rw[q2];exact congrArg some q3
 have hw:IntKind.i64.wrap n=n:=by
  simp only[IntKind.wrap,IntKind.bits,IntKind.signed];simp;omega
 have JV:((decide (n<0)||decide ((d'.bytes:Int)*n>2 ^ 48))||decide (n<0)||decide (n>n))=false:=by
  simp;omega
 have gX:∃arr:Array Value,arr.toList=List.replicate n.toNat z/\(execOp a.eval o).run Γ.P w=.ok (.value (.slice (some ⟨w.heap.size,0,none⟩) n.toNat n.toNat)) (w.alloc (.cells arr e)):=by
  by_cases hz:n.toNat*d'.size=0
  ·have oY:n.toNat=0:=by rw[hs1] at hz;omega
   refine⟨(Array.range (n.toNat*d'.size)).map ((#[]:Array Value)[· % (#[]:Array Value).size]!),by rw[hz,oY];simp,?_⟩;simp only[execOp,ho,Instr.makeSlice,ao,run_underlying hu,al,asInt,WZ.aC,LW.aC,asIntOf,aq,typeInfo,run_program,jN,Fw,hw,JV,aqH,if_false,run_askRoom,sizeOf,sD,if_pos hz,newRow,run_newObj];rfl
  ·refine⟨(Array.range (n.toNat*d'.size)).map (d'.zero.cells[· % d'.zero.cells.size]!),?_,?_⟩
   ·rw[hs1,hzc,arG];refine List.ext_getElem (by simp) fun j h1 h2=>?_;simp[Nat.mod_one]
   simp only[execOp,ho,Instr.makeSlice,ao,run_underlying hu,al,asInt,WZ.aC,LW.aC,asIntOf,aq,typeInfo,run_program,jN,Fw,hw,JV,aqH,if_false,run_askRoom,sizeOf,sD,if_neg hz,dJ.kq,newRow,run_newObj];rfl
 obtain⟨arr,gY,gX⟩:=gX;have sF:arr.size=n.toNat:=by rw[<-ara,gY,List.length_replicate]
 have wN:=bV.alloc w (.cells arr e);have hle:=List.length_replicate (n:=n.toNat) (a:=AV.ax z);refine⟨_,_,η++[.slice (some ⟨w.heap.size,0,none⟩) n.toNat n.toNat],.inl gX,?_,?_⟩
 ·refine hr.add aE wN (fun b hb=>?_) ⟨Nat.one_pos,List.replicate n.toNat z,⟨by simp,?_⟩,fun i el hi=>?_⟩
  ·simp only[dO] at hb;split at hb
   ·cases hb
   ·obtain rfl:=aqs hb;exact aqw _
  ·rw[hle]
   by_cases hn:n.toNat=0
   ·exact .inl ⟨hn,.inr ⟨_,by rw[hn]⟩⟩
   ·exact .inr ⟨w.heap.size,n.toNat,arr,rfl,by omega,⟨0,aqw _,heap_alloc_new w _⟩,aqw _,by simp only[maxLen];omega,by omega,by rw[gY,aqP (by simp)]⟩
  ·obtain⟨aH,rfl⟩:i<n.toNat/\el=.ax z:=by
    rw[List.getElem?_replicate] at hi;split at hi
    ·rename_i aH;exact⟨aH,(aqs hi).symm⟩
    ·cases hi
   refine⟨rfl,fun j x hj=>?_⟩;have vC:[AV.ax z][j]?=some x:=hj
   cases j with
   |zero=>
    obtain rfl:=aqs vC;exact⟨z,by rw[List.getElem?_replicate,if_pos (by omega)],.ax z,BJ⟩
   |succ j=>simp at vC
 ·refine .own _ _ _ rfl ?_;unfold bl;have:(s.hp++[aw.bj e 1 (List.replicate n.toNat (.ax z))])[s.hp.length]?=some (.bj e 1 (List.replicate n.toNat (.ax z))):=by simp
  rw[this];refine⟨aqw _,fun _=>?_⟩;have hlen:η.length=s.hp.length:=hr.heap.len;rw[<-hlen];simp
theorem mW (aE:Γ.Ok) {tab:Nat->Option TD} (aA:bc Γ.P tab) {o:Oper} {c:Call} (ho:o.op=.call c) (hb:c.callee=.builtin .append) {b x:Operand} (hl:c.args.toList=[b,x]) {T e:Nat} (hT:c.argTypes.toList=[T,T]) {d d':TD} (hd:tab T=some d)
  (hk:d.kind=.lU e) (ef:tab e=some d') {aJ:List AV} (hx:(s.ev x).iU s.hp=some aJ) {r:AV} {hp':List aw}
  (h:(∃els,(s.ev b=.ax (.slice none 0 0)/\els=[]\/s.ev b=.clip els)/\0<d'.size/\(aJ=[]->els=[])/\bw d' (els.length+aJ.length) els aJ/\r=.own s.hp.length (els.length+aJ.length)/\hp'=s.hp++[.row e d'.size (els++aJ)])\/
   (∃M n els,s.ev b=.own n els.length/\s.hp[n]?=some (gK M e d'.size els)/\bw d' (els.length+aJ.length) [] aJ/\r=.own n (els.length+aJ.length)/\hp'=s.hp.set n (gK M e d'.size (els++aJ)))):gL Γ o s r hp':=by
 intro a w η hr;have hu:Γ.P.underlying T=some (.slice e):=by
  obtain⟨u,q2,q3⟩:=(aA T d hd).mK;rw[hk] at q3;rw[q2];exact congrArg some q3
 have eP:=lV hr.heap hr.cq (hr.ev x) hx;have LZ:=hr.ev b;have qE:c.argTypes=#[T,T]:=by rw[<-aq8 (xs:=c.argTypes),hT]
 have aN:c.args=#[b,x]:=by rw[<-aq8 (xs:=c.args),hl]
 have qc:∀v w',(Builtin.append_ #[T,T] o.type #[a.eval b,a.eval x]).run Γ.P w=.ok v w'->(execOp a.eval o).run Γ.P w=.ok (.value v) w':=by
  intro v w' gX;simp only[execOp,ho,resolve,hb,ao,aq,al,invoke,builtin,qE,aN,arY,aqS,arl,gX]
 rcases h with⟨els,qD,cx,cg,tX,rfl,rfl⟩|⟨M,n,els,qD,eQ,tX,rfl,rfl⟩
 ·have FM:a.eval b=.slice none 0 0/\els=[]\/bB w (bt Γ w η s.hp) η s.hp (.clip els) (a.eval b):=by
   rcases qD with⟨h1,h2⟩|h1
   ·rw[h1] at LZ;exact .inl ⟨LZ.aC,h2⟩
   ·rw[h1] at LZ;exact .inr LZ
  obtain⟨v',w',h1,h2,h3⟩:=yQ aE hr (ty:=o.type) hu (aA e d' ef) cx FM eP tX.1 tX.2.1 cg tX.2.2.1 tX.2.2.2 (ob:=.row e d'.size (els++aJ)) (.inl rfl);refine⟨v',w',η++[v'],.inl (qc _ _ h1),h2,.own _ _ _ h3 ?_⟩;unfold bl;have:(s.hp++[aw.row e d'.size (els++aJ)])[s.hp.length]?=some (.row e d'.size (els++aJ)):=by simp
  rw[this];exact⟨by simp,fun _=>by rw[<-hr.heap.len];simp⟩
 ·rw[qD] at LZ;have vF:bl η s.hp n els.length (a.eval b):=by cases LZ;assumption
  have vJ:η[n]?=some (a.eval b):=((lX eQ).1 vF).2 rfl;obtain⟨news,hn⟩:=tS (ty:=o.type) hu (aA e d' ef) (nK.1 (hr.heap.obj n _ _ eQ vJ)).1 eP tX.2.1;obtain⟨v',w',bf,h1,h2,h3,h4⟩:=yT aE hr (aA e d' ef) eQ vF hn tX.2.1 tX.2.2.1 tX.2.2.2;exact⟨v',w',bf,.inl (qc _ _ h1),h2,.own _ _ _ h3 ((lX (aB eQ)).2 ⟨by simp,fun _=>h4⟩)⟩
theorem DL (aE:Γ.Ok) {tab:Nat->Option TD} (aA:bc Γ.P tab) {o:Oper} {c:Call} (ho:o.op=.call c) (hb:c.callee=.builtin .append) {b x:Operand} (hl:c.args.toList=[b,x]) {T e:Nat} (hT:c.argTypes.toList=[T,T]) {d d':TD} (hd:tab T=some d)
  (hk:d.kind=.lU e) (ef:tab e=some d') {aJ:List AV} (hx:(s.ev x).iU s.hp=some aJ) {els:List AV} (qD:s.ev b=.ax (.slice none 0 0)/\els=[]\/s.ev b=.clip els) (cx:0<d'.size) (cg:aJ=[]->els=[]) (tX:bw d' (els.length+aJ.length) els aJ):
  gL Γ o s (.own s.hp.length (els++aJ).length) (s.hp++[.bj e d'.size (els++aJ)]):=by
 intro a w η hr;have hu:Γ.P.underlying T=some (.slice e):=by
  obtain⟨u,q2,q3⟩:=(aA T d hd).mK;rw[hk] at q3;rw[q2];exact congrArg some q3
 have eP:=lV hr.heap hr.cq (hr.ev x) hx;have LZ:=hr.ev b;have qE:c.argTypes=#[T,T]:=by rw[<-aq8 (xs:=c.argTypes),hT]
 have aN:c.args=#[b,x]:=by rw[<-aq8 (xs:=c.args),hl]
 have qc:∀v w',(Builtin.append_ #[T,T] o.type #[a.eval b,a.eval x]).run Γ.P w=.ok v w'->(execOp a.eval o).run Γ.P w=.ok (.value v) w':=by
  intro v w' gX;simp only[execOp,ho,resolve,hb,ao,aq,al,invoke,builtin,qE,aN,arY,aqS,arl,gX]
 have FM:a.eval b=.slice none 0 0/\els=[]\/bB w (bt Γ w η s.hp) η s.hp (.clip els) (a.eval b):=by
  rcases qD with⟨h1,h2⟩|h1
  ·rw[h1] at LZ;exact .inl ⟨LZ.aC,h2⟩
  ·rw[h1] at LZ;exact .inr LZ
 obtain⟨v',w',h1,h2,h3⟩:=yQ aE hr (ty:=o.type) hu (aA e d' ef) cx FM eP tX.1 tX.2.1 cg tX.2.2.1 tX.2.2.2 (ob:=.bj e d'.size (els++aJ)) (.inr rfl);refine⟨v',w',η++[v'],.inl (qc _ _ h1),h2,.own _ _ _ h3 ?_⟩;unfold bl;have:(s.hp++[aw.bj e d'.size (els++aJ)])[s.hp.length]?=some (.bj e d'.size (els++aJ)):=by simp
 rw[this];exact⟨aqw _,fun _=>by rw[<-hr.heap.len];simp⟩
theorem tY (aE:Γ.Ok) {o:Oper} {T:Nat} (ho:o.op=.makeMap T none) {me:ME} (hme:OJ me=[]):gL Γ o s (.mp s.hp.length) (s.hp++[.cE me]):=by
 intro a w η hr;have wN:=bV.alloc w (.map #[] 0);refine⟨.map (some w.heap.size),_,η++[.map (some w.heap.size)],.inl (by simp[execOp,ho,Instr.makeMap];rfl),?_,?_⟩
 ·exact hr.add aE wN (fun b hb=>by simp only[dO,aqq] at hb;omega) ⟨w.heap.size,#[],0,rfl,World.alloc_heap_new w _,hme.symm⟩
 ·exact .mp _ w.heap.size (by rw[<-hr.heap.len];simp)
theorem Q6 {κ:Type} [DecidableEq κ] {td:TypeDesc} {kv:κ->Value} {me:List (κ×Value)->ME} (K:OT td kv me) {a:κ} {v:Value}:∀(es:List MapEntry) (l:List (κ×Value)) (i:Nat),(es.map fun e=>(e.key,e.val))=l.map (fun p=>(kv p.1,p.2))->
  (∃j u,Instr.findNow td (kv a) es i=some (some (i+j,u))/\(es[j]?).map (·.key)=some (kv a)/\((es.modify j fun e=>{ e with key:=kv a,val:=v }).map fun e=>(e.key,e.val))=(cH l a v).map (fun p=>(kv p.1,p.2)))\/
   (Instr.findNow td (kv a) es i=some none/\(cH l a v).map (fun p=>(kv p.1,p.2))=(es.map fun e=>(e.key,e.val))++[(kv a,v)]):=by
 intro es
 induction es with
 |nil=>
  intro l i h
  cases l with
  |nil=>exact .inr ⟨rfl,rfl⟩
  |cons p l=>simp at h
 |cons e es ih=>
  intro l i h
  cases l with
  |nil=>simp at h
  |cons p l=>
   obtain⟨key,u⟩:=p;simp only[aqS,List.cons.injEq,aqt] at h;obtain⟨⟨h1,h2⟩,h3⟩:=h;simp only[Instr.findNow,h1,K.same,cH]
   by_cases hak:a=key
   ·subst hak;simp only[decide_true,if_true];refine .inl ⟨0,e.val,rfl,by simp[h1],?_⟩;simp only[List.modify_zero_cons,aqS];rw[h3]
   ·simp only[if_neg hak,decide_eq_false hak];rcases ih l (i+1) h3 with⟨j,u',g1,g2,g3⟩|⟨g1,g2⟩
    ·refine .inl ⟨j+1,u',by rw[g1];congr 3;omega,by simpa using g2,?_⟩;simp only[List.modify_succ_cons,aqS,h1,h2];rw[g3]
    ·refine .inr ⟨g1,?_⟩;simp only[aqS,arK,h1,h2] at g2 ⊢;rw[g2]
theorem qF {κ:Type} [DecidableEq κ] {td:TypeDesc} {kv:κ->Value} {me:List (κ×Value)->ME} (K:OT td kv me) (aE:Γ.Ok) {tab:Nat->Option TD} (aA:bc Γ.P tab) {o:Oper} {T kt et r:Nat} {m k x:Operand} (ho:o.op=.mapUpdate T m k x) {d dk:TD} (hd:tab T=some d) (nT:d.kind=.qo kt et) (mN:tab kt=some dk) (yi:∀u,dk.kind.fits Γ.P u->u=td)
  (hm:s.ev m=.mp r) {es:List (κ×Value)} (Xx:s.hp[r]?=some (.cE (me es))) {a:κ} (hk:s.ev k=.ax (kv a)) {v:Value} (hx:(s.ev x).val?=some v):gL Γ o s .top (s.hp.set r (.cE (me (cH es a v)))):=by
 intro act w η hr;have hu:Γ.P.underlying T=some (.map kt et):=by
  obtain⟨u,q2,q3⟩:=(aA T d hd).mK;rw[nT] at q3;rw[q2];exact congrArg some q3
 have Xv:Γ.P.underlying kt=some td:=by
  obtain⟨u,q2,q3⟩:=(aA kt dk mN).mK;rw[q2];exact congrArg some (yi u q3)
 have hkr:=hr.ev k;rw[hk] at hkr;have hkv:=hkr.aC;have vD:=(hr.ev x).Xo hx;have Xw:=hr.ev m;rw[hm] at Xw;generalize QH:act.eval m=mv at Xw
 cases Xw with
 |mp _ b fF=>
  obtain⟨b',en,c,e1,kX,y9⟩:=hr.heap.obj r _ _ Xx fF;simp only[Value.map.injEq,aqq] at e1;subst e1;have aH:=bX kX;have eg:(getObj b).run Γ.P w=.ok (.map en c) w:=by simp[getObj,Sem.run,kX]
  have xN:∀o',(setObj b o').run Γ.P w=.ok () (w.putObj b o'):=fun o'=>by simp[setObj,Sem.run,kX,World.putObj]
  have key:∀en' c',nJ en'=OJ (me (cH es a v))->Rel Γ { s with hp:=s.hp.set r (.cE (me (cH es a v))) } act (w.putObj b (.map en' c')) η:=by
   intro en' c' hp';have Xy:η.set r (.map (some b))=η:=by
    apply ark;intro i
    by_cases hi:r=i
    ·subst hi;rw[aB fF,fF]
    ·rw[getElem?_set_ne hi]
   have:=Rel.change (w':=w.putObj b (.map en' c')) (o':=.cE (me (cH es a v))) (v':=.map (some b)) aE hr Xx ai fF
    ⟨rfl,rfl,rfl,by simp,fun q hq hb=>World.putObj_heap_other (fun e=>hb (by rw[e];rfl))⟩
    (fun q hq=>.inl hq) (fun q hq=>hq.elim) (fun _ _ _ _ hq=>hq.elim) (fun _ _ _ _ hq=>hq.elim)
    (fun n u BH=>by simp[bl,Xx] at BH) (fun _ hq=>by cases hq) (fun _ _=>rfl)
    (fun q dd hb hdd=>by simp only[dO,aqq] at hb;subst hb;rw[kX] at hdd;cases hdd)
    (fun _=>⟨b,en',c',rfl,World.putObj_heap_same aH,hp'⟩)
   rw[Xy] at this;exact this
  have hfk:∀q,Instr.findNow td (kv a) en.toList 0=some q->(Instr.findKey kt (kv a) en.toList).run Γ.P w=.ok q w:=fun q hq=>by
   simp only[Instr.findKey,ao,run_underlying Xv,al,hq,aq]
  rcases Q6 K (a:=a) (v:=v) en.toList es 0 (y9.trans (K.me es)) with⟨j,u,g1,g2,g3⟩|⟨g1,g2⟩
  ·rw[aqV] at g1;have hj:(en[j]?).map (·.key)=some (kv a):=by simpa using g2
   have ajB:(Instr.keyThatStays (((en[j]?).map (·.key)).getD (kv a)) (kv a)).run Γ.P w=.ok (kv a) w:=by
    rw[hj];simp[Instr.keyThatStays,K.bits]
   refine⟨undef,_,η,.inr ⟨?_,rfl⟩,key (en.modify j fun e=>{ e with key:=kv a,val:=v }) c ?_,.top _⟩
   ·simp only[execOp,ho,QH,hkv,vD,Instr.mapUpdate,ao,run_underlying hu,al,eg,K.check _ _ _ _ _ Xv,hfk _ g1,ajB,xN,aq]
   ·unfold nJ;rw[Array.toList_modify,K.me];exact g3
  ·refine⟨undef,_,η,.inr ⟨?_,rfl⟩,key (en.push { key:=kv a,val:=v,born:=c }) (c+1) ?_,.top _⟩
   ·simp only[execOp,ho,QH,hkv,vD,Instr.mapUpdate,ao,run_underlying hu,al,eg,K.check _ _ _ _ _ Xv,hfk _ g1,xN,aq]
   ·unfold nJ;rw[K.me,g2];simp
theorem jO (aE:Γ.Ok) {tab:Nat->Option TD} (aA:bc Γ.P tab) {o:Oper} {c:Prop} {r:AV} {hp':List aw} (h:eh tab s.hp s.ev o.op=some (c,r,hp')) (hc:c):gL Γ o s r hp':=by
 generalize ho:o.op=op at h
 cases op with
 |alloc T=>
  simp only[eh] at h;split at h
  ·rename_i d hd;simp only[aqq,aqt] at h;obtain⟨_,rfl,rfl⟩:=h;exact JS aE aA ho hd
  ·cases h
 |box T x=>
  simp only[eh] at h;split at h
  ·rename_i hs;simp only[aqq,aqt] at h;obtain⟨_,rfl,rfl⟩:=h;exact Q5 aE ho hs
  ·cases h
 |store T p x=>
  simp only[eh] at h;split at h
  ·rename_i d r' off hd hp;split at h
   ·rename_i cs iV;split at h
    ·rename_i hs;simp only[aqq,aqt] at h;obtain⟨rfl,rfl,rfl⟩:=h;exact JU aE aA ho hd hp iV hs hc.1 hc.2
    ·cases h
   ·cases h
  ·rename_i d r' m i z hd hp;split at h
   ·rename_i e size els iV;split at h
    ·rename_i hs;obtain⟨hs,rfl⟩:=hs;split at h
     ·rename_i FF;simp only[aqq,aqt] at h;obtain⟨rfl,rfl,rfl⟩:=h;exact FT aE aA ho hd hp iV hs hc.1 hc.2.1 FF hc.2.2
     ·simp only[aqq,aqt] at h;obtain⟨rfl,rfl,rfl⟩:=h;exact FU aE aA ho hd hp iV hs hc.1 hc.2.2.1 hc.2.1 hc.2.2.2
    ·cases h
   ·cases h
  ·cases h
 |makeSlice T l c'=>
  simp only[eh] at h;split at h
  ·rename_i d hd;split at h
   ·rename_i e hk;split at h
    ·rename_i hlc;obtain rfl:=JR hlc;split at h
     ·rename_i d' k n ef wP;split at h
      ·rename_i z hz;simp only[aqq,aqt] at h;obtain⟨rfl,rfl,rfl⟩:=h;exact JW aE aA ho hd hk ef wP wP hc.1 hc.2.1 hc.2.2 hz
      ·cases h
     ·cases h
    split at h
    ·rename_i d' k k' n ef hl wP;simp only[aqq,aqt] at h;obtain⟨rfl,rfl,rfl⟩:=h;exact zb aE aA ho hd hk ef hl wP hc.1 hc.2.1 hc.2.2.1 hc.2.2.2
    ·cases h
   ·cases h
  ·cases h
 |makeMap T r'=>
  cases r' with
  |some r'=>simp[eh] at h
  |none=>
   simp only[eh] at h;split at h
   ·split at h
    ·split at h
     ·split at h
      ·simp only[aqq,aqt] at h;obtain⟨_,rfl,rfl⟩:=h;exact tY aE ho rfl
      ·simp only[aqq,aqt] at h;obtain⟨_,rfl,rfl⟩:=h;exact tY aE ho rfl
     ·cases h
    ·cases h
   ·cases h
 |mapUpdate T m k x=>
  simp only[eh] at h;split at h
  ·rename_i d r' a v hd hm hk hx;split at h
   ·rename_i kt et es nT Xx;split at h
    ·rename_i dk mN;split at h
     ·rename_i ik yi;simp only[aqq,aqt] at h;obtain⟨_,rfl,rfl⟩:=h;exact qF (adY ik) aE aA ho hd nT mN (fun u hu=>by rw[yi] at hu;exact hu) hm Xx hk hx
     ·cases h
    ·cases h
   ·cases h
  ·rename_i d r' a v hd hm hk hx;split at h
   ·rename_i kt et es nT Xx;split at h
    ·rename_i dk mN;split at h
     ·rename_i yi;simp only[aqq,aqt] at h;obtain⟨_,rfl,rfl⟩:=h;exact qF adZ aE aA ho hd nT mN (fun u hu=>by rw[yi] at hu;exact hu) hm Xx hk hx
     ·cases h
    ·cases h
   ·cases h
  ·cases h
 |call cl=>
  simp only[eh] at h;split at h
  ·rename_i b x T T' hb hl hT;split at h
   ·rename_i hTT;subst hTT;split at h
    ·rename_i d hd;split at h
     ·rename_i e hk;split at h
      ·rename_i d' aJ ef hx;split at h
       ·rename_i qD;simp only[aqq,aqt] at h;obtain⟨rfl,rfl,rfl⟩:=h;exact mW aE aA ho hb hl hT hd hk ef hx (.inl ⟨[],.inl ⟨qD,rfl⟩,hc.1,fun _=>rfl,by simpa using hc.2,by simp,by simp⟩)
       ·rename_i els qD;simp only[aqq,aqt] at h;obtain⟨rfl,rfl,rfl⟩:=h;exact mW aE aA ho hb hl hT hd hk ef hx (.inl ⟨els,.inr qD,hc.1,hc.2.1,hc.2.2,rfl,rfl⟩)
       ·rename_i n m qD;split at h
        ·rename_i e' size els eQ;split at h
         ·rename_i nQ;obtain⟨rfl,rfl,rfl⟩:=nQ;simp only[aqq,aqt] at h;obtain⟨rfl,rfl,rfl⟩:=h;exact mW aE aA ho hb hl hT hd hk ef hx (.inr ⟨false,n,els,qD,eQ,hc,rfl,rfl⟩)
         ·cases h
        ·rename_i e' size els eQ;split at h
         ·rename_i nQ;obtain⟨rfl,rfl,rfl⟩:=nQ;simp only[aqq,aqt] at h;obtain⟨rfl,rfl,rfl⟩:=h;exact mW aE aA ho hb hl hT hd hk ef hx (.inr ⟨true,n,els,qD,eQ,hc,rfl,rfl⟩)
         ·cases h
        ·cases h
       ·cases h
      ·cases h
     ·cases h
    ·cases h
   ·cases h
  ·cases h
 |_=>simp[eh] at h
end
end Go.Proofs.YtnkjkpmbgoehkaaGreat
