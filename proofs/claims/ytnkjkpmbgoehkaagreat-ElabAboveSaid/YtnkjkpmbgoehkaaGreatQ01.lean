/- Texts of ours laid together for a claim: FilA FilB FilC FilD FilE FilF FilG FilH FilI FilJ FilK FilL FilM. -/
import Derived.WalkKit
import Derived.CallsIn
import Derived.RangeFuncRecord
import Derived.Laws.AppendOwn
import Derived.Lib.AppendStr
import Derived.ArgAppend
namespace Go.Proofs.YtnkjkpmbgoehkaaGreat
open Go
theorem alh:type_of% @Option.some.injEq:=@Option.some.injEq
theorem ali:type_of% @List.getElem?_eq_some_iff:=@List.getElem?_eq_some_iff
theorem alj:type_of% @Option.some.inj:=@Option.some.inj
theorem alk:type_of% @Prod.mk.injEq:=@Prod.mk.injEq
theorem alm:type_of% @List.length_map:=@List.length_map
theorem aln:type_of% @Bool.and_eq_true:=@Bool.and_eq_true
theorem alo:type_of% @List.getElem?_eq_getElem:=@List.getElem?_eq_getElem
theorem alp:type_of% @Nat.le_refl:=@Nat.le_refl
theorem alq:type_of% @List.mem_of_getElem?:=@List.mem_of_getElem?
theorem alr:type_of% @List.getElem?_append_left:=@List.getElem?_append_left
theorem als:type_of% @List.length_cons:=@List.length_cons
theorem alu:type_of% @List.getElem?_map:=@List.getElem?_map
theorem alv:type_of% @List.all_eq_true:=@List.all_eq_true
theorem alw:type_of% @List.drop_eq_getElem_cons:=@List.drop_eq_getElem_cons
theorem alx:type_of% @Bool.false_eq_true:=@Bool.false_eq_true
theorem aly:type_of% @Nat.zero_le:=@Nat.zero_le
theorem alz:type_of% @List.getElem?_take:=@List.getElem?_take
theorem alA:type_of% @List.length_append:=@List.length_append
theorem alB:type_of% @Nat.eq_of_beq_eq_true:=@Nat.eq_of_beq_eq_true
theorem alC:type_of% @List.drop_eq_nil_of_le:=@List.drop_eq_nil_of_le
theorem alD:type_of% @List.mem_cons_self:=@List.mem_cons_self
theorem alE:type_of% @Array.getElem?_eq_some_iff:=@Array.getElem?_eq_some_iff
theorem alF:type_of% @Nat.le_of_ble_eq_true:=@Nat.le_of_ble_eq_true
theorem alG:type_of% @List.mem_singleton:=@List.mem_singleton
theorem alH:type_of% @List.getElem_mem:=@List.getElem_mem
theorem alI:type_of% @List.take_of_length_le:=@List.take_of_length_le
theorem alJ:type_of% @Nat.lt_of_lt_of_le:=@Nat.lt_of_lt_of_le
theorem alK:type_of% @List.mem_cons_of_mem:=@List.mem_cons_of_mem
theorem alL:type_of% @Nat.le_add_right:=@Nat.le_add_right
theorem alM:type_of% @Nat.zero_add:=@Nat.zero_add
theorem alN:type_of% @Option.map_some:=@Option.map_some
theorem alO:type_of% @List.getElem?_append_right:=@List.getElem?_append_right
theorem alP:type_of% @List.getElem?_cons_succ:=@List.getElem?_cons_succ
theorem alQ:type_of% @List.map_cons:=@List.map_cons
theorem alR:type_of% @Array.getD_eq_getD_getElem?:=@Array.getD_eq_getD_getElem?
theorem alS:type_of% @List.eq_nil_of_length_eq_zero:=@List.eq_nil_of_length_eq_zero
theorem alT:type_of% @Nat.le_trans:=@Nat.le_trans
theorem alU:type_of% @List.getElem?_eq_none:=@List.getElem?_eq_none
theorem alV:type_of% @Array.toArray_toList:=@Array.toArray_toList
theorem alW:type_of% @List.mem_cons:=@List.mem_cons
theorem alX:type_of% @List.length_drop:=@List.length_drop
theorem alY:type_of% @Array.length_toList:=@Array.length_toList
theorem alZ:type_of% @Option.bind_eq_some_iff:=@Option.bind_eq_some_iff
theorem al0:type_of% @Bool.not_eq_true':=@Bool.not_eq_true'
theorem al1:type_of% @Option.getD_some:=@Option.getD_some
theorem al2:type_of% @Bool.true_and:=@Bool.true_and
theorem al3:type_of% @List.append_assoc:=@List.append_assoc
theorem al4:type_of% @Array.getElem?_eq_getElem:=@Array.getElem?_eq_getElem
theorem al5:type_of% @List.length_nil:=@List.length_nil
theorem al6:type_of% @Nat.mul_le_mul_right:=@Nat.mul_le_mul_right
theorem al7:type_of% @Bool.or_eq_true:=@Bool.or_eq_true
theorem al8:type_of% @List.getElem?_cons_zero:=@List.getElem?_cons_zero
theorem al9:type_of% @List.ext_getElem?:=@List.ext_getElem?
theorem ama:type_of% @List.map_nil:=@List.map_nil
theorem amb:type_of% @Option.map_eq_some_iff:=@Option.map_eq_some_iff
theorem amc:type_of% @List.mem_append:=@List.mem_append
theorem amd:type_of% @List.take_append_drop:=@List.take_append_drop
theorem ame:type_of% @List.append_nil:=@List.append_nil
theorem amf:type_of% @List.length_take:=@List.length_take
theorem amg:type_of% @List.mem_map:=@List.mem_map
theorem amh:type_of% @Nat.add_zero:=@Nat.add_zero
theorem ami:type_of% @List.map_append:=@List.map_append
theorem amj:type_of% @Nat.add_mul:=@Nat.add_mul
theorem amk:type_of% @List.forall_mem_cons:=@List.forall_mem_cons
theorem aml:type_of% @Bool.not_true:=@Bool.not_true
theorem amm:type_of% @Array.setIfInBounds_comm:=@Array.setIfInBounds_comm
theorem amn:type_of% @Bool.false_and:=@Bool.false_and
theorem amo:type_of% @List.getElem?_drop:=@List.getElem?_drop
theorem amp:type_of% @Bool.false_or:=@Bool.false_or
theorem amq:type_of% @List.take_succ_eq_append_getElem:=@List.take_succ_eq_append_getElem
theorem amr:type_of% @List.getElem?_set:=@List.getElem?_set
theorem ams:type_of% @Int.toNat_natCast:=@Int.toNat_natCast
theorem amt:type_of% @List.length_singleton:=@List.length_singleton
theorem amu:type_of% @Nat.mul_one:=@Nat.mul_one
theorem amv:type_of% @Nat.le_succ_of_le:=@Nat.le_succ_of_le
theorem amw:type_of% @List.nil_append:=@List.nil_append
theorem amx:type_of% @List.map_congr_left:=@List.map_congr_left
theorem amy:type_of% @Array.ext':=@Array.ext'
theorem amz:type_of% @List.getElem?_of_mem:=@List.getElem?_of_mem
theorem amA:type_of% @List.length_set:=@List.length_set
theorem amB:type_of% @List.eq_nil_iff_forall_not_mem:=@List.eq_nil_iff_forall_not_mem
theorem amC:type_of% @Nat.lt_succ_self:=@Nat.lt_succ_self
theorem amD:type_of% @List.mem_range:=@List.mem_range
theorem amE:type_of% @Array.getElem?_setIfInBounds:=@Array.getElem?_setIfInBounds
theorem amF:type_of% @List.all_cons:=@List.all_cons
theorem amG:type_of% @List.getD_eq_getElem?_getD:=@List.getD_eq_getElem?_getD
theorem amH:type_of% @Array.mem_toList_iff:=@Array.mem_toList_iff
theorem amI:type_of% @List.map_toArray:=@List.map_toArray
theorem amJ:type_of% @Array.mem_append:=@Array.mem_append
theorem amK:type_of% @Ne.symm:=@Ne.symm
theorem amL:type_of% @Bool.eq_iff_iff:=@Bool.eq_iff_iff
theorem amM:type_of% @Decidable.not_not:=@Decidable.not_not
theorem amN:type_of% @Go.heap_setCell_other:=@Go.heap_setCell_other
theorem amO:type_of% @Nat.sub_self:=@Nat.sub_self
theorem amP:type_of% @List.getElem?_toArray:=@List.getElem?_toArray
theorem amQ:type_of% @List.contains_iff_mem:=@List.contains_iff_mem
theorem amR:type_of% @List.cons_append:=@List.cons_append
theorem amS:type_of% @Classical.byContradiction:=@Classical.byContradiction
theorem amT:type_of% @Nat.mul_le_mul:=@Nat.mul_le_mul
theorem amU:type_of% @List.flatten_cons:=@List.flatten_cons
theorem amV:type_of% @Nat.add_assoc:=@Nat.add_assoc
theorem amW:type_of% @Array.toList_map:=@Array.toList_map
theorem amX:type_of% @List.flatten_nil:=@List.flatten_nil
theorem amY:type_of% @ByteArray.size_extract:=@ByteArray.size_extract
theorem amZ:type_of% @Bool.true_or:=@Bool.true_or
theorem am0:type_of% @List.singleton_append:=@List.singleton_append
theorem am1:type_of% @List.mem_append_left:=@List.mem_append_left
theorem am2:type_of% @List.take_left:=@List.take_left
theorem am3:type_of% @List.drop_zero:=@List.drop_zero
theorem am4:type_of% @List.getElem?_range:=@List.getElem?_range
theorem am5:type_of% @List.takeWhile_cons:=@List.takeWhile_cons
set_option linter.unusedSimpArgs false
set_option linter.unusedVariables false
section
inductive ME where
 |i (l:List (Int×Value))
 |s (l:List (ByteArray×Value))
def zf:TypeId:=0
inductive AV where
 |top
 |ae (v:Value)
 |fn (v:Value)
 |sl (els:List AV)
 |clip (els:List AV)
 |own (r n:Nat)
 |ptr (r off:Nat)
 |aJ (e:AV) (off:Nat)
 |agg (cs:List AV)
 |av (vs:List AV)
 |bf (f:Nat) (caps:List AV)
 |mp (r:Nat)
 |eY (es:ME)
 |fq (r n i size:Nat)
 |cB (f:Nat) (first:List AV)
instance:Inhabited AV:=⟨.top⟩
def AV.cells:AV->List AV
 | .agg cs=>cs
 |v=>[v]
inductive ab where
 |dead
 |box (cs:List AV)
 |row (e size:Nat) (els:List AV)
 |bW (es:ME)
 |iz (r n:Nat)
 |aQ (e size:Nat) (els:List AV)
 |eI (e m:Nat) (ns:List Int)
def ab.live:ab->Prop
 | .dead=>False
 |_=>True
def cZ:Value->Option Nat
 | .pointer (some a)=>some a.block
 | .slice (some a) _ c=>if c=0 then none else some a.block
 | .map (some b)=>some b
 |_=>none
def aR (η:List Value) (hp:List ab) (r n:Nat) (v:Value):Prop:=
 match hp[r]? with
 |some (.row _ _ els)=>n<=els.length/\(n=els.length->η[r]?=some v)
 |some (.aQ _ _ els)=>n<=els.length/\(n=els.length->η[r]?=some v)
 |some (.eI _ m _)=>n<=m/\(n=m->η[r]?=some v)
 |some .dead=>True
 |_=>False
def mc (es:Array MapEntry):List (Value×Value):=es.toList.map fun e=>(e.key,e.val)
def KP:ME->List (Value×Value)
 | .i l=>l.map fun p=>(.int .i64 p.1,p.2)
 | .s l=>l.map fun p=>(.string p.1,p.2)
inductive ba (w:World) (F:Nat->Nat->Prop):List Value->List ab->AV->Value->Prop
 |top {η:List Value} {hp:List ab} (v:Value):ba w F η hp .top v
 |ae {η:List Value} {hp:List ab} (v:Value):ba w F η hp (.ae v) v
 |fn {η:List Value} {hp:List ab} (v:Value) (h1:v.oneCell'=true):ba w F η hp (.fn v) v
 |oc {η:List Value} {hp:List ab} (a:Option Addr):ba w F η hp (.sl []) (.slice a 0 0)
 |jB {η:List Value} {hp:List ab} (a:Option Addr):ba w F η hp (.clip []) (.slice a 0 0)
 |sl {η:List Value} {hp:List ab} (size:Nat) (els:List AV) (b o c:Nat) (f:Nat->Nat->Value) (hc:els.length<=c) (hm:c<=maxLen)
   (hl:∀(i:Nat) (e:AV),els[i]?=some e->e.cells.length=size)
   (aA:∀(i:Nat) (e:AV) (j:Nat) (x:AV),els[i]?=some e->e.cells[j]?=some x->w.cell? ⟨b,o+i*size+j,none⟩=some (f i j)/\F b (o+i*size+j)/\(f i j).oneCell'=true)
   (hr:∀(i:Nat) (e:AV) (j:Nat) (x:AV),els[i]?=some e->e.cells[j]?=some x->ba w F [] [] x (f i j)):
   ba w F η hp (.sl els) (.slice (some ⟨b,o,none⟩) els.length c)
 |clip {η:List Value} {hp:List ab} (size:Nat) (els:List AV) (b o:Nat) (f:Nat->Nat->Value) (hm:els.length<=maxLen)
   (hl:∀(i:Nat) (e:AV),els[i]?=some e->e.cells.length=size)
   (aA:∀(i:Nat) (e:AV) (j:Nat) (x:AV),els[i]?=some e->e.cells[j]?=some x->w.cell? ⟨b,o+i*size+j,none⟩=some (f i j)/\F b (o+i*size+j)/\(f i j).oneCell'=true)
   (hr:∀(i:Nat) (e:AV) (j:Nat) (x:AV),els[i]?=some e->e.cells[j]?=some x->ba w F [] [] x (f i j)):
   ba w F η hp (.clip els) (.slice (some ⟨b,o,none⟩) els.length els.length)
 |own {η:List Value} {hp:List ab} (r n:Nat) (v:Value) (h1:v.oneCell'=true) (h:aR η hp r n v):ba w F η hp (.own r n) v
 |ptr {η:List Value} {hp:List ab} (r off b:Nat) (h:η[r]?=some (.pointer (some ⟨b,0,none⟩))):ba w F η hp (.ptr r off) (.pointer (some ⟨b,off,none⟩))
 |aJ {η:List Value} {hp:List ab} (e:AV) (off b o:Nat) (f:Nat->Value)
   (aA:∀(j:Nat) (x:AV),e.cells[j]?=some x->w.cell? ⟨b,o+j,none⟩=some (f j)/\F b (o+j)/\(f j).oneCell'=true)
   (hr:∀(j:Nat) (x:AV),e.cells[j]?=some x->ba w F [] [] x (f j)):
   ba w F η hp (.aJ e off) (.pointer (some ⟨b,o+off,none⟩))
 |agg {η:List Value} {hp:List ab} (cs:List AV) (vs:Array Value) (hl:vs.size=cs.length) (h1:∀v:Value,v∈vs->v.oneCell'=true)
   (hr:∀(j:Nat) (x:AV) (v:Value),cs[j]?=some x->vs[j]?=some v->ba w F η hp x v):ba w F η hp (.agg cs) (.agg vs)
 |av {η:List Value} {hp:List ab} (cs:List AV) (vs:Array Value) (hl:vs.size=cs.length)
   (hr:∀(j:Nat) (x:AV) (v:Value),cs[j]?=some x->vs[j]?=some v->ba w F η hp x v):ba w F η hp (.av cs) (.tuple vs)
 |bf {η:List Value} {hp:List ab} (fn:Nat) (cs:List AV) (vs:Array Value) (hl:vs.size=cs.length)
   (hr:∀(j:Nat) (x:AV) (v:Value),cs[j]?=some x->vs[j]?=some v->ba w F η hp x v):ba w F η hp (.bf fn cs) (.func (.func fn) #[] vs)
 |mp {η:List Value} {hp:List ab} (r b:Nat) (h:η[r]?=some (.map (some b))):ba w F η hp (.mp r) (.map (some b))
 |eY {η:List Value} {hp:List ab} (b:Nat) (es:Array MapEntry) (c:Nat) (h:w.heap[b]?=some (.map es c)) (hF:F b 0) (l:ME) (hl:mc es=KP l):ba w F η hp (.eY l) (.map (some b))
 |fq {η:List Value} {hp:List ab} (r n i size b o c k:Nat) (h:aR η hp r n (.slice (some ⟨b,o,none⟩) k c)):ba w F η hp (.fq r n i size) (.pointer (some ⟨b,o+i*size,none⟩))
 |cB {η:List Value} {hp:List ab} (fn:Nat) (cs:List AV) (vs:Array Value) (hl:vs.size=cs.length)
   (hr:∀(j:Nat) (x:AV) (v:Value),cs[j]?=some x->vs[j]?=some v->ba w F η hp x v):ba w F η hp (.cB fn cs) (.func (.func fn) vs #[])
structure MW (w:World) (F:Nat->Nat->Prop) (w':World) (F':Nat->Nat->Prop):Prop where
 cell:∀b o v,F b o->w.cell? ⟨b,o,none⟩=some v->w'.cell? ⟨b,o,none⟩=some v
 jt:∀b es c,F b 0->w.heap[b]?=some (.map es c)->w'.heap[b]?=some (.map es c)
 bk:∀b o,F b o->F' b o
structure Ext (w:World) (F:Nat->Nat->Prop) (η:List Value) (hp:List ab) (w':World) (F':Nat->Nat->Prop) (aO:List Value) (hp':List ab):Prop where
 cell:∀b o v,F b o->w.cell? ⟨b,o,none⟩=some v->w'.cell? ⟨b,o,none⟩=some v
 jt:∀b es c,F b 0->w.heap[b]?=some (.map es c)->w'.heap[b]?=some (.map es c)
 bk:∀b o,F b o->F' b o
 ptr:∀(r:Nat) a,η[r]?=some (.pointer a)->aO[r]?=some (.pointer a)
 mp:∀(r:Nat) a,η[r]?=some (.map a)->aO[r]?=some (.map a)
 own:∀r n v,aR η hp r n v->aR aO hp' r n v
variable {w w':World} {F F':Nat->Nat->Prop} {η aO:List Value} {hp hp':List ab}
theorem MW.ext (h:MW w F w' F'):Ext w F [] [] w' F' [] []:=
 ⟨h.cell,h.jt,h.bk,fun _ _ h=>h,fun _ _ h=>h,fun _ _ _ h=>h⟩
theorem Ext.oB (h:Ext w F η hp w' F' aO hp'):MW w F w' F':=⟨h.cell,h.jt,h.bk⟩
theorem ba.ext (h:Ext w F η hp w' F' aO hp') {x:AV} {v:Value} (hx:ba w F η hp x v):ba w' F' aO hp' x v:=by
 induction hx generalizing aO hp' with
 |top v=>exact .top v
 |ae v=>exact .ae v
 |fn v h1=>exact .fn v h1
 |oc a=>exact .oc a
 |jB a=>exact .jB a
 |sl size els b o c f hc hm hl aA _ ih=>
  exact .sl size els b o c f hc hm hl (fun i e j x hi hj=>let ⟨h1,h2,h3⟩:=aA i e j x hi hj;⟨h.cell _ _ _ h2 h1,h.bk _ _ h2,h3⟩) fun i e j x hi hj=>ih i e j x hi hj h.oB.ext
 |clip size els b o f hm hl aA _ ih=>
  exact .clip size els b o f hm hl (fun i e j x hi hj=>let ⟨h1,h2,h3⟩:=aA i e j x hi hj;⟨h.cell _ _ _ h2 h1,h.bk _ _ h2,h3⟩) fun i e j x hi hj=>ih i e j x hi hj h.oB.ext
 |own r n v h1 h2=>exact .own r n v h1 (h.own _ _ _ h2)
 |ptr r off b h1=>exact .ptr r off b (h.ptr _ _ h1)
 |aJ e off b o f aA _ ih=>
  exact .aJ e off b o f (fun j x hj=>let ⟨h1,h2,h3⟩:=aA j x hj;⟨h.cell _ _ _ h2 h1,h.bk _ _ h2,h3⟩) fun j x hj=>ih j x hj h.oB.ext
 |agg cs vs hl h1 _ ih=>exact .agg cs vs hl h1 fun j x v h1 h2=>ih j x v h1 h2 h
 |av cs vs hl _ ih=>exact .av cs vs hl fun j x v h1 h2=>ih j x v h1 h2 h
 |bf fn cs vs hl _ ih=>exact .bf fn cs vs hl fun j x v h1 h2=>ih j x v h1 h2 h
 |mp r b h1=>exact .mp r b (h.mp _ _ h1)
 |eY b es c h1 h2 l hl=>exact .eY b es c (h.jt _ _ _ h2 h1) (h.bk _ _ h2) l hl
 |fq r n i size b o c k h1=>exact .fq r n i size b o c k (h.own _ _ _ h1)
 |cB fn cs vs hl _ ih=>exact .cB fn cs vs hl fun j x v h1 h2=>ih j x v h1 h2 h
theorem ba.lift {x:AV} {v:Value} (hx:ba w F [] [] x v):ba w F η hp x v:=
 hx.ext ⟨fun _ _ _ _ h=>h,fun _ _ _ _ h=>h,fun _ _ h=>h,fun _ _ h=>by simp at h,fun _ _ h=>by simp at h,fun _ _ _ h=>by simp[aR] at h⟩
theorem Ext.trans {w1 w2 w3:World} {F1 F2 F3:Nat->Nat->Prop} {nc C1 My:List Value} {h1 h2 h3:List ab} (h:Ext w1 F1 nc h1 w2 F2 C1 h2) (k:Ext w2 F2 C1 h2 w3 F3 My h3):Ext w1 F1 nc h1 w3 F3 My h3:=
 ⟨fun b o v hf hc=>k.cell b o v (h.bk _ _ hf) (h.cell b o v hf hc),fun b es c hf hc=>k.jt b es c (h.bk _ _ hf) (h.jt b es c hf hc),fun b o hf=>k.bk _ _ (h.bk _ _ hf),
  fun r a hr=>k.ptr r a (h.ptr r a hr),fun r a hr=>k.mp r a (h.mp r a hr),fun r n v ho=>k.own r n v (h.own r n v ho)⟩
def AV.MX:AV->Bool
 | .ae v=>v.oneCell'
 | .top | .agg _ | .av _=>false
 |_=>true
def bS (w:World) (F:Nat->Nat->Prop) (η:List Value) (hp:List ab):List AV->List Value->Prop
 | [],[]=>True
 |x::xs,v::vs=>ba w F η hp x v/\bS w F η hp xs vs
 |_,_=>False
theorem bS.length {xs:List AV} {vs:List Value} (h:bS w F η hp xs vs):vs.length=xs.length:=by
 induction xs generalizing vs with
 |nil=>cases vs<;>simp_all [bS]
 |cons x xs ih=>cases vs with
  |nil=>simp[bS] at h
  |cons v vs=>simp only[als];rw[ih h.2]
theorem bS.get {xs:List AV} {vs:List Value} (h:bS w F η hp xs vs):∀(j:Nat) (x:AV) (v:Value),xs[j]?=some x->vs[j]?=some v->ba w F η hp x v:=by
 induction xs generalizing vs with
 |nil=>intro j x v hx;simp at hx
 |cons x xs ih=>cases vs with
  |nil=>simp[bS] at h
  |cons v vs=>
   intro j y u hy hu
   cases j with
   |zero=>simp at hy hu;subst hy;subst hu;exact h.1
   |succ j=>exact ih h.2 j y u (by simpa using hy) (by simpa using hu)
theorem cU {xs:List AV} {vs:List Value} (hl:vs.length=xs.length) (h:∀(j:Nat) (x:AV) (v:Value),xs[j]?=some x->vs[j]?=some v->ba w F η hp x v):bS w F η hp xs vs:=by
 induction xs generalizing vs with
 |nil=>cases vs with
  |nil=>exact True.intro
  |cons v vs=>simp at hl
 |cons x xs ih=>cases vs with
  |nil=>simp at hl
  |cons v vs=>
   exact⟨h 0 x v rfl rfl,ih (by simpa using hl) fun j y u hy hu=>h (j+1) y u (by simpa using hy) (by simpa using hu)⟩
theorem bS.ext (h:Ext w F η hp w' F' aO hp') {xs:List AV} {vs:List Value} (hx:bS w F η hp xs vs):bS w' F' aO hp' xs vs:=
 cU hx.length fun j x v h1 h2=>(hx.get j x v h1 h2).ext h
def VZ:List (Nat×List Value):=[]
def nf (b:Nat):Prop:=∃p,p∈VZ/\p.1=b
def qn (w:World):Prop:=∀p,p∈VZ->∃T,w.heap[p.1]?=some (.cells p.2.toArray T (0,0))
structure bD (w w':World):Prop where
 os:w'.os=w.os
 tape:w'.tape=w.tape
 output:w'.output=w.output
 size:w.heap.size<=w'.heap.size
 block:∀k,k<w.heap.size->w'.heap[k]?=w.heap[k]?
structure bZ (X:Nat->Prop) (w w':World):Prop where
 os:w'.os=w.os
 tape:w'.tape=w.tape
 output:w'.output=w.output
 size:w.heap.size<=w'.heap.size
 block:∀k,k<w.heap.size->¬X k->w'.heap[k]?=w.heap[k]?
theorem ba.ng {els:List AV} {v:Value} (h:ba w F η hp (.clip els) v):ba w F η hp (.sl els) v:=by
 cases h with
 |jB a=>exact .oc a
 |clip size els b o f hm hl aA hr=>exact .sl size els b o _ f (alp _) hm hl aA hr
def lu (w:World) (e:TypeId) (size:Nat) (v:Value) (n:Nat) (xs:List Value) (k:Nat):Prop:=
 xs.length=n*size/\((n=0/\(v=.slice none 0 0\/∃ad:Addr,v=.slice (some ad) 0 0))\/
  ∃g cap cur,v=.slice (some ⟨g,0,none⟩) n cap/\0<cap/\(∃hi,hi<=k/\w.heap[g]?=some (.cells cur e (0,hi)))/\n<=cap/\cap<=maxLen/\cur.size=cap*size/\cur.toList.take (n*size)=xs)
theorem bX {a:Addr} {n c:Nat} (h:0<c):cZ (.slice (some a) n c)=some a.block:=by simp[cZ];omega
theorem lu.lt {w:World} {e size n k:Nat} {v:Value} {xs:List Value} (h:lu w e size v n xs k) {b:Nat} (hb:cZ v=some b):∃cz:Array Value×Nat,w.heap[b]?=some (.cells cz.1 e (0,cz.2)):=by
 rcases h.2 with⟨_,rfl|⟨ad,rfl⟩⟩|⟨g,cap,cur,rfl,h0,⟨hi,_,h1⟩,_⟩
 ·simp[cZ] at hb
 ·simp[cZ] at hb
 ·rw[bX h0] at hb;obtain rfl:=alj hb;exact⟨(cur,hi),h1⟩
theorem lu.S2 {w w':World} {e size n k:Nat} {v:Value} {xs:List Value} (h:lu w e size v n xs k) (hb:∀b,cZ v=some b->b<w.heap.size->w'.heap[b]?=w.heap[b]?):lu w' e size v n xs k:=by
 refine⟨h.1,?_⟩;rcases h.2 with h1|⟨g,cap,cur,rfl,h0,⟨hi,hk,h1⟩,h2⟩
 ·exact .inl h1
 ·exact .inr ⟨g,cap,cur,rfl,h0,⟨hi,hk,by rw[hb g (bX h0) (alE.1 h1).1];exact h1⟩,h2⟩
theorem lu.more {w:World} {e size n k k':Nat} {v:Value} {xs:List Value} (h:lu w e size v n xs k) (hk:k<=k'):lu w e size v n xs k':=
 ⟨h.1,h.2.imp id fun⟨g,cap,cur,h1,h2,⟨hi,h3,h4⟩,h5⟩=>⟨g,cap,cur,h1,h2,⟨hi,alT h3 hk,h4⟩,h5⟩⟩
def fH (w:World) (e:TypeId) (v:Value) (ns:List Int):Prop:=
 (ns=[]/\∃ad,v=.slice ad 0 0)\/
  ∃g o cap cur,v=.slice (some ⟨g,o,none⟩) ns.length cap/\0<cap/\w.heap[g]?=some (.cells cur e (0,0))/\ns.length<=cap/\cap<=maxLen/\o+cap<=cur.size/\
   ∀(i:Nat) (n:Int),ns[i]?=some n->cur[o+i]?=some (.int .i64 n)
theorem fH.lt {w:World} {e:Nat} {v:Value} {ns:List Int} (h:fH w e v ns) {b:Nat} (hb:cZ v=some b):∃cur,w.heap[b]?=some (.cells cur e (0,0)):=by
 rcases h with⟨_,ad,rfl⟩|⟨g,o,cap,cur,rfl,h0,h1,_⟩
 ·cases ad<;>simp[cZ] at hb
 ·rw[bX h0] at hb;obtain rfl:=alj hb;exact⟨cur,h1⟩
theorem fH.S2 {w w':World} {e:Nat} {v:Value} {ns:List Int} (h:fH w e v ns) (hb:∀b,cZ v=some b->b<w.heap.size->w'.heap[b]?=w.heap[b]?):fH w' e v ns:=by
 rcases h with h1|⟨g,o,cap,cur,rfl,h0,h1,h2⟩
 ·exact .inl h1
 ·exact .inr ⟨g,o,cap,cur,rfl,h0,by rw[hb g (bX h0) (alE.1 h1).1];exact h1,h2⟩
theorem bD.refl (w:World):bD w w:=⟨rfl,rfl,rfl,alp _,fun _ _=>rfl⟩
theorem bD.trans {a b c:World} (h:bD a b) (k:bD b c):bD a c:=
 ⟨k.os.trans h.os,k.tape.trans h.tape,k.output.trans h.output,alT h.size k.size,fun i hi=>(k.block i (alJ hi h.size)).trans (h.block i hi)⟩
theorem bD.alloc (w:World) (o:Obj):bD w (w.alloc o):=⟨rfl,rfl,rfl,by simp,fun k hk=>heap_alloc_old w o hk⟩
theorem bD.drew (w:World):bD w w.drew:=⟨rfl,rfl,rfl,alp _,fun _ _=>rfl⟩
theorem bD.keeps {w w':World} (X:Nat->Prop) (h:bD w w'):bZ X w w':=⟨h.os,h.tape,h.output,h.size,fun k hk _=>h.block k hk⟩
theorem bZ.same {w w':World} {X:Nat->Prop} (h:bZ X w w') (hX:∀b,b<w.heap.size->¬X b):bD w w':=⟨h.os,h.tape,h.output,h.size,fun k hk=>h.block k hk (hX k hk)⟩
theorem bZ.refl (X:Nat->Prop) (w:World):bZ X w w:=⟨rfl,rfl,rfl,alp _,fun _ _ _=>rfl⟩
theorem bZ.trans {X Z:Nat->Prop} {a b c:World} (h:bZ X a b) (k:bZ Z b c) (hZ:∀i,i<a.heap.size->Z i->X i):bZ X a c:=
 ⟨k.os.trans h.os,k.tape.trans h.tape,k.output.trans h.output,alT h.size k.size,
  fun i hi hx=>(k.block i (alJ hi h.size) (fun hz=>hx (hZ i hi hz))).trans (h.block i hi hx)⟩
theorem bZ.cell {X:Nat->Prop} {w w':World} (h:bZ X w w') {b o:Nat} (hb:b<w.heap.size) (hx:¬X b):w'.cell? ⟨b,o,none⟩=w.cell? ⟨b,o,none⟩:=by
 simp[World.cell?,h.block b hb hx]
theorem qn.lt {w:World} (h:qn w) {b:Nat} (hb:nf b):b<w.heap.size:=by
 obtain⟨p,hp,rfl⟩:=hb;obtain⟨T,h1⟩:=h p hp;exact(alE.1 h1).1
theorem qn.keeps {X:Nat->Prop} {w w':World} (h:qn w) (k:bZ X w w') (hx:∀b,nf b->¬X b):qn w':=fun p hp=>by
 obtain⟨T,h1⟩:=h p hp;exact⟨T,by rw[k.block p.1 (h.lt ⟨p,hp,rfl⟩) (hx p.1 ⟨p,hp,rfl⟩)];exact h1⟩
theorem qn.same {w w':World} (h:qn w) (k:bD w w'):qn w':=h.keeps (k.keeps fun _=>False) fun _ _=>not_false
theorem bF {w:World} {b:Nat} {o:Obj} (h:w.heap[b]?=some o):b<w.heap.size:=(alE.1 h).1
end
section
structure Env (G:Type) where
 P:Program
 w0:World
 F0:Nat->Nat->Prop
 X:Nat->Prop
 Y:Nat->Prop
 Inv:G->World->Prop
 nt:Nat
 A1:Option Nat
 m0:Nat->Prop
 Z:Nat->Nat->Prop
 zg:List Value
 lx:List ab
def Env.No {G:Type} (Γ:Env G) (b o:Nat):Prop:=Γ.X b\/Γ.Z b o
structure Env.Ok {G:Type} (Γ:Env G):Prop where
 l0:Γ.zg.length=Γ.lx.length
 x:∀b,Γ.X b->b<Γ.w0.heap.size
 y:∀b,Γ.Y b->b<Γ.w0.heap.size
 oC:∀g w w',(∀b,Γ.X b->w'.heap[b]?=w.heap[b]?)->w.heap.size<=w'.heap.size->Γ.Inv g w->Γ.Inv g w'
 z:∀b o,Γ.Z b o->b<Γ.w0.heap.size
 ju:qn Γ.w0
 gx:∀b,nf b->¬(Γ.X b\/Γ.Y b)
def Env.GF {G:Type} (Γ:Env G):Prop:=Γ.A1=none/\∀r,Γ.w0.heap.size<=r->Γ.m0 r
theorem Env.Ok.no {G:Type} {Γ:Env G} (h:Γ.Ok) {b o:Nat} (hb:Γ.No b o):b<Γ.w0.heap.size:=hb.elim (h.x b) (h.z b o)
structure AS (G:Type) where
 tmps:Nat->AV
 hp:List ab
 g:G
def kz (η:List Value) (hp:List ab) (b o:Nat):Prop:=
 ∀(r:Nat) (v:Value),η[r]?=some v->cZ v=some b->
  match hp[r]? with
  |some (.row _ size els)=>o<els.length*size
  |some .dead=>True
  |_=>False
def aW {G:Type} (Γ:Env G) (w:World) (η:List Value) (hp:List ab) (b o:Nat):Prop:=
 (Γ.F0 b o\/Γ.w0.heap.size<=b\/Γ.Y b)/\b<w.heap.size/\¬Γ.No b o/\kz η hp b o
def kA (w:World) (F:Nat->Nat->Prop) (η:List Value) (hp:List ab):ab->Value->Prop
 | .dead,_=>True
 | .box cs,v=>∃(b:Nat) (vs:Array Value) (T:TypeId),v=.pointer (some ⟨b,0,none⟩)/\w.heap[b]?=some (.cells vs T (0,0))/\vs.size=cs.length/\
   ∀(j:Nat) (x:AV) (u:Value),cs[j]?=some x->vs[j]?=some u->ba w F η hp x u/\u.oneCell'=true
 | .row e size els,v=>0<size/\∃xs:List Value,lu w e size v els.length xs (els.length*size)/\
   ∀(i:Nat) (el:AV),els[i]?=some el->el.cells.length=size/\
    ∀(j:Nat) (x:AV),el.cells[j]?=some x->∃u,xs[i*size+j]?=some u/\ba w F [] [] x u/\u.oneCell'=true
 | .iz r n,v=>∃(b:Nat) (vs:Array Value),v=.pointer (some ⟨b,0,none⟩)/\w.heap[b]?=some (.cells vs zf (0,0))/\(vs.size=2/\(n=0->vs[1]?=some (.slice none 0 0)))/\(vs[0]?=some (.pointer none)\/vs[0]?=some v)/\∃u,vs[1]?=some u/\ba w F η hp (.own r n) u
 | .bW es,v=>∃(b:Nat) (en:Array MapEntry) (c:Nat),v=.map (some b)/\w.heap[b]?=some (.map en c)/\mc en=KP es
 | .aQ e size els,v=>0<size/\∃xs:List Value,lu w e size v els.length xs 0/\
   ∀(i:Nat) (el:AV),els[i]?=some el->el.cells.length=size/\
    ∀(j:Nat) (x:AV),el.cells[j]?=some x->∃u,xs[i*size+j]?=some u/\ba w F [] [] x u/\u.oneCell'=true
 | .eI e _ ns,v=>fH w e v ns
structure dJ (w:World) (F:Nat->Nat->Prop) (η:List Value) (hp:List ab):Prop where
 len:η.length=hp.length
 obj:∀(r:Nat) (o:ab) (v:Value),hp[r]?=some o->η[r]?=some v->kA w F η hp o v
 sep:∀(r r':Nat) (o o':ab) (v v':Value) (b:Nat),r≠r'->hp[r]?=some o->hp[r']?=some o'->o.live->o'.live->
  η[r]?=some v->η[r']?=some v'->cZ v=some b->cZ v'≠some b
def vu {G:Type} (Γ:Env G) (η:List Value) (hp:List ab):Prop:=
 ∀(r:Nat) (o:ab) (v:Value) (b:Nat),hp[r]?=some o->o.live->η[r]?=some v->cZ v=some b->(Γ.w0.heap.size<=b\/Γ.Y b)/\∀o,¬Γ.No b o
structure Marks (N:Nat->Prop) (ds:List Deferred) (w:World):Prop where
 all:∀d,d∈ds->∃r,d.target=.collected r/\w.heap[r]?=some (.deferred (some []))/\N r
 apart:ds.Pairwise fun d d'=>d.target≠d'.target
structure Rel {G:Type} (Γ:Env G) (s:AS G) (a:Act) (w:World) (η:List Value):Prop where
 nt:a.tmps.size=Γ.nt
 tmps:∀t,ba w (aW Γ w η s.hp) η s.hp (s.tmps t) (a.tmps.getD t undef)
 heap:dJ w (aW Γ w η s.hp) η s.hp
 bN:vu Γ η s.hp
 keeps:bZ (fun b=>Γ.X b\/Γ.Y b) Γ.w0 w
 inv:Γ.Inv s.g w
 marks:Marks Γ.m0 a.defers w
 ext:Ext Γ.w0 Γ.F0 Γ.zg Γ.lx w (aW Γ w η s.hp) η s.hp
def zb (f:Nat->AV) (t:Nat) (x:AV):Nat->AV:=fun u=>if u=t then x else f u
theorem fX (f:Nat->AV) (t:Nat) (x:AV) (u:Nat):zb f t x u=if u=t then x else f u:=rfl
def AS.put {G:Type} (s:AS G) (d:Option Nat) (x:AV):AS G:=
 match d with
 |some d=>{ s with tmps:=zb s.tmps d x }
 |none=>s
variable {G:Type} {Γ:Env G} {s:AS G} {a:Act} {w w':World} {η aO:List Value} {hp:List ab}
theorem bZ.marks {X:Nat->Prop} {N:Nat->Prop} {ds:List Deferred} (h:Marks N ds w) (k:bZ X w w') (hX:∀b,X b->¬N b\/∀d,w.heap[b]?≠some (.deferred d)):Marks N ds w':=by
 refine⟨fun d hd=>?_,h.apart⟩;obtain⟨r,h1,h2,h3⟩:=h.all d hd;refine⟨r,h1,?_,h3⟩;rw[k.block r (bF h2)]
 ·exact h2
 ·intro hx;rcases hX r hx with h4|h4
  ·exact h4 h3
  ·exact h4 _ h2
theorem oD (hs:bD w w') (hF:∀b o,aW Γ w η hp b o->b<w.heap.size):Ext w (aW Γ w η hp) η hp w' (aW Γ w' η hp) η hp where
 cell b o v hf hc:=by rw[World.cell?_of_block (hs.block b (hF b o hf))];exact hc
 jt b es c hf hc:=by rw[hs.block b (hF b 0 hf)];exact hc
 bk b o hf:=⟨hf.1,alJ hf.2.1 hs.size,hf.2.2⟩
 ptr _ _ h:=h
 mp _ _ h:=h
 own _ _ _ h:=h
theorem eu {b o:Nat} (h:aW Γ w η hp b o):b<w.heap.size:=h.2.1
theorem kA.ext {F F':Nat->Nat->Prop} {hp':List ab} {o:ab} {v:Value} (h:kA w F η hp o v) (he:Ext w F η hp w' F' aO hp') (bO:w.heap.size<=w'.heap.size)
  (hb:∀b,cZ v=some b->b<w.heap.size->w'.heap[b]?=w.heap[b]?):kA w' F' aO hp' o v:=by
 cases o with
 |dead=>exact True.intro
 |box cs=>
  obtain⟨b,vs,T,rfl,h1,h2,h3⟩:=h;exact⟨b,vs,T,rfl,by rw[hb b rfl (bF h1)];exact h1,h2,fun j x u hx hu=>⟨(h3 j x u hx hu).1.ext he,(h3 j x u hx hu).2⟩⟩
 |row e size els=>
  obtain⟨h0,xs,h1,h2⟩:=h;refine⟨h0,xs,h1.S2 hb,fun i el hi=>⟨(h2 i el hi).1,fun j x hj=>?_⟩⟩
  ·obtain⟨u,h3,h4,h5⟩:=(h2 i el hi).2 j x hj;exact⟨u,h3,h4.ext he.oB.ext,h5⟩
 |iz q k=>
  obtain⟨b,vs,rfl,h1,h2,h3,u,h4,h5⟩:=h;exact⟨b,vs,rfl,by rw[hb b rfl (bF h1)];exact h1,h2,h3,u,h4,h5.ext he⟩
 |bW es=>
  obtain⟨b,en,c,rfl,h1,h2⟩:=h;exact⟨b,en,c,rfl,by rw[hb b rfl (bF h1)];exact h1,h2⟩
 |aQ e size els=>
  obtain⟨h0,xs,h1,h2⟩:=h;refine⟨h0,xs,h1.S2 hb,fun i el hi=>⟨(h2 i el hi).1,fun j x hj=>?_⟩⟩
  ·obtain⟨u,h3,h4,h5⟩:=(h2 i el hi).2 j x hj;exact⟨u,h3,h4.ext he.oB.ext,h5⟩
 |eI e m ns=>exact fH.S2 h hb
theorem dJ.same (h:dJ w (aW Γ w η hp) η hp) (hs:bD w w'):dJ w' (aW Γ w' η hp) η hp:=
 ⟨h.len,fun r o v h1 h2=>(h.obj r o v h1 h2).ext (oD hs fun _ _=>eu) hs.size fun b _ aq=>hs.block b aq,h.sep⟩
theorem bZ.A2 {X:Nat->Prop} {w0:World} (h:bZ X w0 w) (hs:bD w w'):bZ X w0 w':=
 h.trans (hs.keeps fun _=>False) fun _ _ hf=>hf.elim
theorem Rel.same (al:Γ.Ok) (h:Rel Γ s a w η) (hs:bD w w'):Rel Γ s a w' η where
 nt:=h.nt
 tmps t:=(h.tmps t).ext (oD hs fun _ _=>eu)
 heap:=h.heap.same hs
 bN:=h.bN
 keeps:=h.keeps.A2 hs
 inv:=al.oC _ _ _ (fun b hb=>hs.block b (alJ (al.x b hb) h.keeps.size)) hs.size h.inv
 marks:=(hs.keeps fun _=>False).marks h.marks fun _ hf=>hf.elim
 ext:=h.ext.trans (oD hs fun _ _=>eu)
theorem Rel.ju (al:Γ.Ok) (h:Rel Γ s a w η):qn w:=al.ju.keeps h.keeps al.gx
theorem Rel.put (h:Rel Γ s a w η) {d:Option Nat} {x:AV} {v:Value} (hd:∀t,d=some t->t<Γ.nt) (hr:ba w (aW Γ w η s.hp) η s.hp x v):Rel Γ (s.put d x) (a.put d v) w η:=by
 cases d with
 |none=>exact h
 |some d=>
  refine⟨by simpa [Act.put] using h.nt,fun t=>?_,h.heap,h.bN,h.keeps,h.inv,h.marks,h.ext⟩;show ba w _ η s.hp (zb s.tmps d x t) ((a.tmps.setIfInBounds d v).getD t undef)
  by_cases htd:t=d
  ·subst htd;have aq:t<a.tmps.size:=by rw[h.nt];exact hd t rfl
   have e:(a.tmps.setIfInBounds t v).getD t undef=v:=by simp[aq]
   rw[fX,if_pos rfl,e];exact hr
  ·have e:(a.tmps.setIfInBounds d v).getD t undef=a.tmps.getD t undef:=by
    simp only[alR];rw[Array.getElem?_setIfInBounds_ne (amK htd)]
   rw[fX,if_neg htd,e];exact h.tmps t
def AS.add (s:AS G) (o:ab):AS G:={ s with hp:=s.hp++[o] }
theorem cj {α:Type} {l:List α} {x y:α} {r:Nat} (h:l[r]?=some y):(l++[x])[r]?=some y:=by
 rw[alr (ali.1 h).1];exact h
theorem dx {α:Type} {l:List α} {x y:α} {r:Nat} (h:(l++[x])[r]?=some y):l[r]?=some y\/(r=l.length/\y=x):=by
 rcases Nat.lt_trichotomy r l.length with h1|h1|h1
 ·rw[alr h1] at h;exact .inl h
 ·subst h1;simp at h;exact .inr ⟨rfl,h.symm⟩
 ·rw[alO (by omega)] at h;have:r-l.length≠0:=by omega
  cases hk:r-l.length with
  |zero=>omega
  |succ k=>rw[hk] at h;simp at h
theorem kz.snoc {o:ab} {v:Value} {b k:Nat} (hl:η.length=hp.length) (h:kz η hp b k) (hv:cZ v=some b->False):kz (η++[v]) (hp++[o]) b k:=by
 intro r u hu hb;rcases dx hu with h1|⟨rfl,rfl⟩
 ·have:=h r u h1 hb;have hr:r<hp.length:=by rw[<-hl];exact(ali.1 h1).1
  rw[alr hr];exact this
 ·exact(hv hb).elim
theorem aR.snoc {o:ab} {v u:Value} {r n:Nat} (h:aR η hp r n u):aR (η++[v]) (hp++[o]) r n u:=by
 unfold aR at h ⊢
 cases hr:hp[r]? with
 |none=>simp[hr] at h
 |some x=>
  rw[cj hr];rw[hr] at h
  cases x with
  |row e size els=>exact⟨h.1,fun hn=>cj (h.2 hn)⟩
  |dead=>exact True.intro
  |box cs=>exact h
  |bW es=>exact h
  |iz q k=>exact h
  |aQ e size els=>exact⟨h.1,fun hn=>cj (h.2 hn)⟩
  |eI e m ns=>exact⟨h.1,fun hn=>cj (h.2 hn)⟩
theorem rQ {o:ab} {v:Value} (hl:η.length=hp.length) (hs:bD w w') (hv:∀b,cZ v=some b->w.heap.size<=b):
  Ext w (aW Γ w η hp) η hp w' (aW Γ w' (η++[v]) (hp++[o])) (η++[v]) (hp++[o]) where
 cell b k u hf hc:=by rw[World.cell?_of_block (hs.block b (eu hf))];exact hc
 jt b es c hf hc:=by rw[hs.block b (eu hf)];exact hc
 bk b k hf:=⟨hf.1,alJ hf.2.1 hs.size,hf.2.2.1,hf.2.2.2.snoc hl fun hb=>by have:=hv b hb;have:=eu hf;omega⟩
 ptr _ _ h:=cj h
 mp _ _ h:=cj h
 own _ _ _ h:=h.snoc
theorem Rel.add (al:Γ.Ok) (h:Rel Γ s a w η) {o:ab} {v:Value} (hs:bD w w') (hv:∀b,cZ v=some b->w.heap.size<=b)
  (ho:kA w' (aW Γ w' (η++[v]) (s.hp++[o])) (η++[v]) (s.hp++[o]) o v):Rel Γ (s.add o) a w' (η++[v]):=by
 have he:=rQ (Γ:=Γ) (o:=o) (v:=v) h.heap.len hs hv;have bO:=h.keeps.size;have ln:∀(r:Nat) (u:Value) (b:Nat),η[r]?=some u->cZ u=some b->b<w.heap.size\/¬∃o:ab,s.hp[r]?=some o/\o.live:=by
  intro r u b hu hb
  by_cases aq:b<w.heap.size
  ·exact .inl aq
  ·refine .inr fun⟨o',zh,hli⟩=>aq ?_;have ei:=h.heap.obj r o' u zh hu
   cases o' with
   |dead=>exact hli.elim
   |box cs=>obtain⟨b',vs,T,rfl,h1,_⟩:=ei;simp only[cZ,alh] at hb;subst hb;exact bF h1
   |row e size els=>
    obtain⟨_,xs,h1,_⟩:=ei;obtain⟨cur,h5⟩:=h1.lt hb;exact bF h5
   |bW es=>obtain⟨b',en,c,rfl,h1,_⟩:=ei;simp only[cZ,alh] at hb;subst hb;exact bF h1
   |iz q k=>obtain⟨b',vs,rfl,h1,_⟩:=ei;simp only[cZ,alh] at hb;subst hb;exact bF h1
   |aQ e size els=>
    obtain⟨_,xs,h1,_⟩:=ei;obtain⟨cur,h5⟩:=h1.lt hb;exact bF h5
   |eI e m ns=>obtain⟨cur,h5⟩:=fH.lt ei hb;exact bF h5
 refine⟨h.nt,fun t=>(h.tmps t).ext he,⟨by simp[AS.add,h.heap.len],?_,?_⟩,?_,h.keeps.A2 hs,
  al.oC _ _ _ (fun b hb=>hs.block b (alJ (al.x b hb) h.keeps.size)) hs.size h.inv,(hs.keeps fun _=>False).marks h.marks fun _ hf=>hf.elim,h.ext.trans he⟩
 ·intro r o' u h1 h2;rcases dx h1 with h3|⟨rfl,rfl⟩
  ·rcases dx h2 with h4|⟨rfl,rfl⟩
   ·exact(h.heap.obj r o' u h3 h4).ext he hs.size fun b _ aq=>hs.block b aq
   ·have:=(ali.1 h3).1;have:=h.heap.len;omega
  ·have:(η++[v])[s.hp.length]?=some v:=by rw[<-h.heap.len];simp
   rw[this] at h2;obtain rfl:=alj h2;exact ho
 ·intro r r' o1 o2 v1 v2 b bL h1 h2 l1 l2 e1 e2 hb;rcases dx h1 with h3|⟨rfl,rfl⟩<;>rcases dx h2 with h4|⟨rfl,rfl⟩
  ·have hr:r<η.length:=by rw[h.heap.len];exact(ali.1 h3).1
   have fI:r' < η.length:=by rw[h.heap.len];exact(ali.1 h4).1
   rw[alr hr] at e1;rw[alr fI] at e2;exact h.heap.sep r r' o1 o2 v1 v2 b bL h3 h4 l1 l2 e1 e2 hb
  ·have hr:r<η.length:=by rw[h.heap.len];exact(ali.1 h3).1
   rw[alr hr] at e1;have:(η++[v])[s.hp.length]?=some v:=by rw[<-h.heap.len];simp
   rw[this] at e2;obtain rfl:=alj e2;intro fJ;have:=hv b fJ;rcases ln r v1 b e1 hb with h5|h5
   ·omega
   ·exact h5 ⟨o1,h3,l1⟩
  ·have fI:r' < η.length:=by rw[h.heap.len];exact(ali.1 h4).1
   rw[alr fI] at e2;have:(η++[v])[s.hp.length]?=some v:=by rw[<-h.heap.len];simp
   rw[this] at e1;obtain rfl:=alj e1;intro fJ;have:=hv b hb;rcases ln r' v2 b e2 fJ with h5|h5
   ·omega
   ·exact h5 ⟨o2,h4,l2⟩
  ·exact(bL rfl).elim
 ·intro r o' u b h1 hli h2 hb;rcases dx h1 with h3|⟨rfl,rfl⟩
  ·have hr:r<η.length:=by rw[h.heap.len];exact(ali.1 h3).1
   rw[alr hr] at h2;exact h.bN r o' u b h3 hli h2 hb
  ·have:(η++[v])[s.hp.length]?=some v:=by rw[<-h.heap.len];simp
   rw[this] at h2;obtain rfl:=alj h2;have h5:=hv b hb;exact⟨.inl (alT bO h5),fun o hx=>by have:=al.no hx;omega⟩
end
section
variable {G:Type} {Γ:Env G} {s:AS G} {a:Act} {w w':World} {η aO:List Value} {hp:List ab}
theorem getElem?_set_ne {α:Type} {l:List α} {r r':Nat} {x:α} (h:r≠r'):(l.set r x)[r']?=l[r']?:=by
 rw[amr];simp[h]
theorem ai {α:Type} {l:List α} {r:Nat} {x y:α} (h:l[r]?=some y):(l.set r x)[r]?=some x:=by
 rw[amr];simp[(ali.1 h).1]
def ab.bk (k:Nat):ab->Prop
 | .row _ size els=>k<els.length*size
 | .dead=>True
 |_=>False
theorem aS (b k:Nat):kz η hp b k↔∀(r:Nat) (v:Value),η[r]?=some v->cZ v=some b->∃o,hp[r]?=some o/\o.bk k:=by
 constructor
 ·intro h r v h1 h2;have:=h r v h1 h2
  cases hr:hp[r]? with
  |none=>simp[hr] at this
  |some o=>rw[hr] at this;refine⟨o,rfl,?_⟩;cases o<;>exact this
 ·intro h r v h1 h2;obtain⟨o,h3,h4⟩:=h r v h1 h2;rw[h3]
  cases o<;>exact h4
theorem dJ.block (h:dJ w (aW Γ w η hp) η hp) {r:Nat} {o:ab} {u:Value} {b:Nat} (ho:hp[r]?=some o) (hl:o.live) (hu:η[r]?=some u) (hb:cZ u=some b):b<w.heap.size:=by
 have ei:=h.obj r o u ho hu
 cases o with
 |dead=>exact hl.elim
 |box cs=>obtain⟨b',vs,T,rfl,h1,_⟩:=ei;simp only[cZ,alh] at hb;subst hb;exact bF h1
 |row e size els=>
  obtain⟨_,xs,h1,_⟩:=ei;obtain⟨cur,h5⟩:=h1.lt hb;exact bF h5
 |bW es=>obtain⟨b',en,c,rfl,h1,_⟩:=ei;simp only[cZ,alh] at hb;subst hb;exact bF h1
 |iz q k=>obtain⟨b',vs,rfl,h1,_⟩:=ei;simp only[cZ,alh] at hb;subst hb;exact bF h1
 |aQ e size els=>
  obtain⟨_,xs,h1,_⟩:=ei;obtain⟨cur,h5⟩:=h1.lt hb;exact bF h5
 |eI e m ns=>obtain⟨cur,h5⟩:=fH.lt ei hb;exact bF h5
theorem Rel.change (al:Γ.Ok) (h:Rel Γ s a w η) {r:Nat} {o o':ab} {v v':Value} (hr:s.hp[r]?=some o) (eL:o.live) (hv:η[r]?=some v)
  (hk:bZ (fun k=>cZ v=some k) w w') (Mz:∀b,cZ v'=some b->cZ v=some b\/w.heap.size<=b)
  (jc:∀k,o.bk k->o'.bk k)
  (aA:∀b k u,cZ v=some b->o.bk k->w.cell? ⟨b,k,none⟩=some u->w'.cell? ⟨b,k,none⟩=some u)
  (Y2:∀b es c,cZ v=some b->o.bk 0->w.heap[b]?=some (.map es c)->False)
  (tD:∀n u,aR η s.hp r n u->aR (η.set r v') (s.hp.set r o') r n u)
  (aeq:∀x,v=.pointer x->v'=v) (hmp:∀x,v=.map x->v'=v)
  (W5:∀b d,cZ v=some b->w.heap[b]?=some (.deferred d)->False)
  (zh:Ext w (aW Γ w η s.hp) η s.hp w' (aW Γ w' (η.set r v') (s.hp.set r o')) (η.set r v') (s.hp.set r o')->kA w' (aW Γ w' (η.set r v') (s.hp.set r o')) (η.set r v') (s.hp.set r o') o' v'):
  Rel Γ { s with hp:=s.hp.set r o' } a w' (η.set r v'):=by
 have ei:∀b k,aW Γ w η s.hp b k->cZ v=some b->o.bk k:=fun b k hf hb=>by
  obtain⟨o1,h1,h2⟩:=(aS b k).1 hf.2.2.2 r v hv hb;rw[hr] at h1;obtain rfl:=alj h1;exact h2
 have he:Ext w (aW Γ w η s.hp) η s.hp w' (aW Γ w' (η.set r v') (s.hp.set r o')) (η.set r v') (s.hp.set r o'):=by
  refine⟨fun b k u hf hc=>?_,fun b es c hf hc=>?_,fun b k hf=>?_,fun r1 x h1=>?_,fun r1 x h1=>?_,fun r1 n u h1=>?_⟩
  ·by_cases hb:cZ v=some b
   ·exact aA b k u hb (ei b k hf hb) hc
   ·rw[hk.cell (eu hf) hb];exact hc
  ·by_cases hb:cZ v=some b
   ·exact(Y2 b es c hb (ei b 0 hf hb) hc).elim
   ·rw[hk.block b (eu hf) hb];exact hc
  ·refine⟨hf.1,alJ hf.2.1 hk.size,hf.2.2.1,(aS b k).2 fun r1 u h1 hb=>?_⟩
   by_cases bL:r=r1
   ·subst bL;rw[ai hv] at h1;obtain rfl:=alj h1;refine⟨o',ai hr,?_⟩;rcases Mz b hb with h2|h2
    ·exact jc k (ei b k hf h2)
    ·have:=eu hf;omega
   ·rw[getElem?_set_ne bL] at h1 ⊢;exact(aS b k).1 hf.2.2.2 r1 u h1 hb
  ·by_cases bL:r=r1
   ·subst bL;rw[hv] at h1;obtain rfl:=alj h1;rw[ai hv,aeq _ rfl]
   ·rw[getElem?_set_ne bL];exact h1
  ·by_cases bL:r=r1
   ·subst bL;rw[hv] at h1;obtain rfl:=alj h1;rw[ai hv,hmp _ rfl]
   ·rw[getElem?_set_ne bL];exact h1
  ·by_cases bL:r=r1
   ·subst bL;exact tD n u h1
   ·unfold aR at h1 ⊢;rw[getElem?_set_ne bL,getElem?_set_ne bL];exact h1
 refine⟨h.nt,fun t=>(h.tmps t).ext he,⟨by simp[h.heap.len],fun r1 o1 u h1 h2=>?_,fun r1 r2 o1 o2 v1 v2 b bL h1 h2 l1 l2 e1 e2 hb=>?_⟩,fun r1 o1 u b h1 hl h2 hb=>?_,?_,?_,?_,h.ext.trans he⟩
 ·simp only at h1
  by_cases bL:r=r1
  ·subst bL;rw[ai hr] at h1;rw[ai hv] at h2;obtain rfl:=alj h1;obtain rfl:=alj h2;exact zh he
  ·rw[getElem?_set_ne bL] at h1 h2
   by_cases MA:o1.live
   ·exact(h.heap.obj r1 o1 u h1 h2).ext he hk.size fun b hb aq=>hk.block b aq fun fJ=>h.heap.sep r1 r o1 o u v b (amK bL) h1 hr MA eL h2 hv hb fJ
   ·cases o1<;>first|exact True.intro|exact(MA True.intro).elim
 ·simp only at h1 h2
  by_cases n1:r=r1
  ·subst n1;rw[ai hv] at e1;obtain rfl:=alj e1;rw[getElem?_set_ne bL] at h2 e2;intro fJ;rcases Mz b hb with h3|h3
   ·exact h.heap.sep r r2 o o2 v v2 b bL hr h2 eL l2 hv e2 h3 fJ
   ·have:=h.heap.block h2 l2 e2 fJ;omega
  ·rw[getElem?_set_ne n1] at h1 e1
   by_cases n2:r=r2
   ·subst n2;rw[ai hv] at e2;obtain rfl:=alj e2;intro fJ;rcases Mz b fJ with h3|h3
    ·exact h.heap.sep r r1 o o1 v v1 b (fun e=>n1 e) hr h1 eL l1 hv e1 h3 hb
    ·have:=h.heap.block h1 l1 e1 hb;omega
   ·rw[getElem?_set_ne n2] at h2 e2;exact h.heap.sep r1 r2 o1 o2 v1 v2 b bL h1 h2 l1 l2 e1 e2 hb
 ·simp only at h1
  by_cases bL:r=r1
  ·subst bL;rw[ai hv] at h2;obtain rfl:=alj h2;rcases Mz b hb with h3|h3
   ·exact h.bN r o v b hr eL hv h3
   ·exact⟨.inl (alT h.keeps.size h3),fun o hx=>by have:=al.no hx;have:=h.keeps.size;omega⟩
  ·rw[getElem?_set_ne bL] at h1 h2;exact h.bN r1 o1 u b h1 hl h2 hb
 ·refine h.keeps.trans hk fun b hb uz=>?_;rcases (h.bN r o v b hr eL hv uz).1 with h1|h1
  ·omega
  ·exact .inr h1
 ·refine al.oC _ _ _ (fun b hb=>hk.block b (alJ (al.x b hb) h.keeps.size) fun uz=>?_) hk.size h.inv;exact(h.bN r o v b hr eL hv uz).2 0 (.inl hb)
 ·exact hk.marks h.marks fun b uz=>.inr fun d hd=>W5 b d uz hd
def setCells (cs:List AV) (off:Nat):List AV->List AV
 | []=>cs
 |x::xs=>setCells (cs.set off x) (off+1) xs
theorem vv (xs:List AV):∀(cs:List AV) (off:Nat),(setCells cs off xs).length=cs.length:=by
 induction xs with
 |nil=>intro cs off;rfl
 |cons x xs ih=>intro cs off;simp[setCells,ih]
theorem Rel.write (al:Γ.Ok) (h:Rel Γ s a w η) {r off b:Nat} {cs:List AV} {x:AV} {v:Value} (hr:s.hp[r]?=some (.box cs)) (hv:η[r]?=some (.pointer (some ⟨b,0,none⟩)))
  (S5:off<cs.length) (h1:v.oneCell'=true) (hx:ba w (aW Γ w η s.hp) η s.hp x v):
  Rel Γ { s with hp:=s.hp.set r (.box (cs.set off x)) } a (w.setCell ⟨b,off,none⟩ v) η/\w.frozen? ⟨b,off,none⟩=false/\∃u,w.cell? ⟨b,off,none⟩=some u:=by
 have ei:=h.heap.obj r _ _ hr hv;obtain⟨b',vs,T,he,hg,bO,hc⟩:=ei;simp only[Value.pointer.injEq,alh,Addr.mk.injEq,and_true] at he;subst he;have vw:(w.setCell ⟨b,off,none⟩ v).heap[b]?=some (.cells (vs.setIfInBounds off v) T (0,0)):=Go.heap_setCell_same w b off vs T v hg;have eP:η.set r (.pointer (some ⟨b,0,none⟩))=η:=by
  apply al9;intro i
  by_cases hi:r=i
  ·subst hi;rw[ai hv,hv]
  ·rw[getElem?_set_ne hi]
 refine⟨?_,frozen_of_row w b off vs T hg,?_⟩
 ·have:=Rel.change (w':=w.setCell ⟨b,off,none⟩ v) (o':=.box (cs.set off x)) (v':=.pointer (some ⟨b,0,none⟩)) al h hr True.intro hv
   ⟨rfl,rfl,rfl,by simp[World.setCell],fun k hk hb=>amN w _ k v (by intro e;exact hb (by rw[e];rfl))⟩
   (fun c hc=>.inl hc) (fun k hk=>hk.elim) (fun _ _ _ _ hk=>hk.elim) (fun _ _ _ _ hk=>hk.elim)
   (fun n u ho=>by simp[aR,hr] at ho)
   (fun _ _=>rfl) (fun _ hx=>by cases hx)
   (fun c d hb hd=>by simp only[cZ,alh] at hb;subst hb;rw[hg] at hd;cases hd)
   (fun he=>⟨b,vs.setIfInBounds off v,T,rfl,vw,by simp[bO],fun j y u hy hu=>by
    by_cases hj:off=j
    ·subst hj;have aq:off<vs.size:=by rw[bO];exact S5
     have e1:(cs.set off x)[off]?=some x:=by rw[amr];simp[S5]
     have e2:(vs.setIfInBounds off v)[off]?=some v:=by rw[amE];simp[aq]
     rw[e1] at hy;rw[e2] at hu;obtain rfl:=alj hy;obtain rfl:=alj hu;exact⟨hx.ext he,h1⟩
    ·rw[getElem?_set_ne hj] at hy;have e2:(vs.setIfInBounds off v)[j]?=vs[j]?:=by rw[amE];simp[hj]
     rw[e2] at hu
     exact⟨(hc j y u hy hu).1.ext he,(hc j y u hy hu).2⟩⟩)
  rw[eP] at this;exact this
 ·rw[cell_of_row w b off vs T (0,0) hg];exact⟨vs[off]'(by rw[bO];exact S5),by simp[bO,S5]⟩
end
section
inductive TK where
 |other
 |int (k:IntKind)
 |str
 |bool
 |bj (fields:List (Nat×Nat×Bool))
 |kC (e:Nat)
 |oy (k e:Nat)
 |ptr (e:Nat)
 |arr (n:Nat)
 |ifc
structure TD where
 flat:Bool:=false
 four:Bool:=false
 kind:TK
 size:Nat
 bytes:Nat
 zero:Value
def TK.agg:TK->Bool
 | .bj _=>true
 | .arr _=>true
 |_=>false
def MY:TypeDesc->Bool
 | .struct _ | .array _ _=>true
 |_=>false
def TK.fits (P:Program) (u:TypeDesc):TK->Prop
 | .other=>(match u with | .struct _ | .array _ _=>False|_=>True)
 | .int k=>u=.int k
 | .str=>u=.string
 | .bool=>u=.bool
 | .bj fs=>∃fields,u=.struct fields/\fields.toList.map (fun f=>(f.offset,(P.info? f.type).map (·.size),(P.underlying f.type).map MY))=fs.map fun p=>(p.1,some p.2.1,some p.2.2)
 | .kC e=>u=.slice e
 | .oy k e=>u=.map k e
 | .ptr e=>u=.pointer e
 | .ifc=>∃ms,u=.interface ms
 | .arr n=>∃e i,u=.array n e/\P.info? e=some i/\i.size=1
structure eZ (P:Program) (T:TypeId) (d:TD):Prop where
 info:∃i,P.info? T=some i/\i.size=d.size/\i.bytes=d.bytes/\i.zero=some d.zero
 lj:∃u,P.underlying T=some u/\d.kind.fits P u
 IQ:d.zero.cells.size=d.size
 aer:∀v:Value,v∈d.zero.cells->v.oneCell'=true
 aiS:d.kind.agg=true->∃cs,d.zero=.agg cs
 V0:d.kind.agg=false->d.size=1/\d.zero.oneCell'=true
 feq:d.flat=true->P.eqGuardType P.depth T=false/\∀(w:World) (a1 a2 b1 b2:Int),(Op.equalIn 10000 T (.agg #[.int .i64 a1,.int .i64 a2]) (.agg #[.int .i64 b1,.int .i64 b2])).run P w=.ok (a1==b1&&a2==b2) w
 aes:d.four=true->P.eqGuardType P.depth T=false/\∀(w:World) (a0 a1 a2 b0 b1 b2:Int) (s t:ByteArray),(Op.equalIn 10000 T (.agg #[.int .i64 a0,.int .i64 a1,.int .i64 a2,.string s]) (.agg #[.int .i64 b0,.int .i64 b1,.int .i64 b2,.string t])).run P w=.ok (a0==b0&&((a1==b1&&a2==b2)&&s.toList==t.toList)) w
def aL (P:Program) (tab:Nat->Option TD):Prop:=∀T d,tab T=some d->eZ P T d
variable {G:Type} {Γ:Env G} {s:AS G} {a:Act} {w w':World} {η:List Value} {hp:List ab} {F:Nat->Nat->Prop} {P:Program}
theorem eZ.KQ {T:TypeId} {d:TD} (h:eZ P T d) (w:World):(isAgg T).run P w=.ok d.kind.agg w:=by
 obtain⟨u,h1,h2⟩:=h.lj;simp only[isAgg,Sem.run_bind,run_underlying h1,Result.andThen_ok];revert h2
 cases hk:d.kind<;>intro h2<;>simp only[TK.fits] at h2
 ·cases u<;>first|rfl|exact h2.elim
 ·subst h2;rfl
 ·subst h2;rfl
 ·subst h2;rfl
 ·obtain⟨f,rfl,_⟩:=h2;rfl
 ·subst h2;rfl
 ·subst h2;rfl
 ·subst h2;rfl
 ·obtain⟨e,i,rfl,_⟩:=h2;rfl
 ·obtain⟨m,rfl⟩:=h2;rfl
theorem eZ.run_sizeOf {T:TypeId} {d:TD} (h:eZ P T d) (w:World):(sizeOf T).run P w=.ok d.size w:=by
 obtain⟨i,h1,h2,_⟩:=h.info;simp[sizeOf,typeInfo,h1,h2]
theorem eZ.jd {T:TypeId} {d:TD} (h:eZ P T d) (w:World):(zeroValue T).run P w=.ok d.zero w:=by
 obtain⟨i,h1,_,_,h4⟩:=h.info;simp[zeroValue,typeInfo,h1,h4]
theorem eZ.run_load {T:TypeId} {d:TD} (h:eZ P T d) {b o:Nat} {vs:List Value} (hl:vs.length=d.size) (hc:∀(j:Nat) (v:Value),vs[j]?=some v->w.cell? ⟨b,o+j,none⟩=some v):
  (loadVar T ⟨b,o,none⟩).run P w=.ok (if d.kind.agg then .agg vs.toArray else vs.headD undef) w:=by
 simp only[loadVar,Sem.run_bind,h.KQ,Result.andThen_ok]
 cases hk:d.kind.agg with
 |true=>
  simp only[if_true,Sem.run_bind,h.run_sizeOf,Result.andThen_ok];rw[<-hl,run_loadCells_list (P:=P) w ⟨b,o,none⟩ vs (fun j v hj=>by rw[Addr.add_lit];exact hc j v hj)];rfl
 |false=>
  have h1:=(h.V0 hk).1;rw[h1] at hl
  match vs,hl with
  | [v],_=>
   have:=hc 0 v rfl;simp only[amh] at this;simp[run_load,this]
def AV.gN (hp:List ab):AV->Option (List AV)
 | .sl els=>some els
 | .clip els=>some els
 | .ae (.slice none 0 0)=>some []
 | .own r n=>match hp[r]? with
  |some (.row _ _ els)=>if n=els.length then some els else none
  |_=>none
 |_=>none
theorem Rel.W6 {r:Nat} {e size:Nat} {els:List AV} {v:Value} (hF:∀b k,(∃u,η[r]?=some u/\cZ u=some b)->k<els.length*size->F b k)
  (ei:kA w F η hp (.row e size els) v) (hv:η[r]?=some v):ba w F η hp (.sl els) v:=by
 obtain⟨h0,xs,ea,fb⟩:=ei;rcases ea.2 with⟨hn,rfl|⟨ad,rfl⟩⟩|⟨g,cap,cur,rfl,MZ,⟨hi,_,hg⟩,Gz,GA,gO,od⟩
 ·have:els=[]:=alS hn;subst this;exact .oc _
 ·have:els=[]:=alS hn;subst this;exact .oc _
 ·have aA:∀(i:Nat) (el:AV) (j:Nat) (x:AV),els[i]?=some el->el.cells[j]?=some x->∃u,w.cell? ⟨g,0+i*size+j,none⟩=some u/\xs.getD (i*size+j) undef=u/\F g (0+i*size+j)/\u.oneCell'=true/\ba w F [] [] x u:=by
   intro i el j x hi hj;obtain⟨hlen,hx⟩:=fb i el hi;obtain⟨u,hu,dG,h1⟩:=hx j x hj;have tE:i<els.length:=(ali.1 hi).1;have tA:j<size:=by rw[<-hlen];exact(ali.1 hj).1
   have aq:i*size+j<els.length*size:=by
    have:=al6 size (show i+1<=els.length from tE);rw[amj] at this;omega
   refine⟨u,?_,by simp[List.getD,hu],hF _ _ ⟨_,hv,bX MZ⟩ (by omega),h1,dG⟩;rw[alM,cell_of_row w g _ cur e _ hg];rw[<-od,alz,if_pos aq] at hu;simpa using hu
  refine .sl size els g 0 cap (fun i j=>xs.getD (i*size+j) undef) Gz GA (fun i el hi=>(fb i el hi).1) (fun i el j x hi hj=>?_) (fun i el j x hi hj=>?_)
  ·obtain⟨u,h1,h2,h3,h4,_⟩:=aA i el j x hi hj;exact⟨by rw[h2];exact h1,h3,by rw[h2];exact h4⟩
  ·obtain⟨u,h1,h2,h3,h4,h5⟩:=aA i el j x hi hj;rw[h2];exact h5
theorem S6 (h:dJ w (aW Γ w η hp) η hp) (hm:vu Γ η hp) {r e size:Nat} {els:List AV} {v:Value} (hr:hp[r]?=some (.row e size els)) (hv:η[r]?=some v)
  {b k:Nat} (hb:cZ v=some b) (zi:k<els.length*size):aW Γ w η hp b k:=by
 have h1:=hm r _ v b hr True.intro hv hb;refine⟨.inr h1.1,h.block hr True.intro hv hb,h1.2 _,(aS b k).2 fun r' u hu fJ=>?_⟩
 ·by_cases bL:r=r'
  ·subst bL;exact⟨_,hr,zi⟩
  ·have fI:r' < hp.length:=by rw[<-h.len];exact(ali.1 hu).1
   refine⟨hp[r'],by simp[fI],?_⟩
   cases ho:hp[r'] with
   |dead=>exact True.intro
   |box cs=>exact(h.sep r r' _ (.box cs) v u b bL hr (by rw[<-ho];simp[fI]) True.intro True.intro hv hu hb fJ).elim
   |row e' s' oE=>exact(h.sep r r' _ (.row e' s' oE) v u b bL hr (by rw[<-ho];simp[fI]) True.intro True.intro hv hu hb fJ).elim
   |bW es=>exact(h.sep r r' _ (.bW es) v u b bL hr (by rw[<-ho];simp[fI]) True.intro True.intro hv hu hb fJ).elim
   |iz q k=>exact(h.sep r r' _ (.iz q k) v u b bL hr (by rw[<-ho];simp[fI]) True.intro True.intro hv hu hb fJ).elim
   |aQ e' s' oE=>exact(h.sep r r' _ (.aQ e' s' oE) v u b bL hr (by rw[<-ho];simp[fI]) True.intro True.intro hv hu hb fJ).elim
   |eI e' m' Y3=>exact(h.sep r r' _ (.eI e' m' Y3) v u b bL hr (by rw[<-ho];simp[fI]) True.intro True.intro hv hu hb fJ).elim
end
section
variable {G:Type} {Γ:Env G} {s:AS G} {a:Act} {w w':World} {η:List Value} {hp:List ab} {F:Nat->Nat->Prop} {P:Program}
theorem S8 (h:dJ w (aW Γ w η hp) η hp) (hm:vu Γ η hp) {r n e size:Nat} {els:List AV} {v:Value} (hr:hp[r]?=some (.row e size els)) (ho:aR η hp r n v) (hn:n=els.length):
  ba w (aW Γ w η hp) η hp (.sl els) v:=by
 have hv:η[r]?=some v:=by
  unfold aR at ho;rw[hr] at ho;exact ho.2 hn
 exact Rel.W6 (fun b k ⟨u,h1,h2⟩ hk=>S6 h hm hr h1 h2 hk) (h.obj r _ v hr hv) hv
theorem kD (h:dJ w (aW Γ w η hp) η hp) (hm:vu Γ η hp) {x:AV} {els:List AV} {v:Value} (hx:ba w (aW Γ w η hp) η hp x v) (he:x.gN hp=some els):
  ba w (aW Γ w η hp) η hp (.sl els) v:=by
 cases x with
 |sl l=>simp only[AV.gN,alh] at he;subst he;exact hx
 |clip l=>simp only[AV.gN,alh] at he;subst he;exact hx.ng
 |ae u=>
  have:u=v:=by cases hx;rfl
  subst this;unfold AV.gN at he
  split at he<;>try (simp at he;done)
  ·rename_i h1;cases h1
  ·rename_i h1;cases h1
  ·rename_i h1;simp only[AV.ae.injEq] at h1;subst h1;obtain rfl:=alj he;exact .oc _
  ·rename_i h1;cases h1
 |own r n=>
  have ho:aR η hp r n v:=by cases hx;assumption
  simp only[AV.gN] at he
  cases hr:hp[r]? with
  |none=>simp[hr] at he
  |some o=>
   cases o with
   |row e size l=>
    simp only[hr] at he;split at he
    ·rename_i hn;obtain rfl:=alj he;exact S8 h hm hr ho hn
    ·cases he
   |_=>simp[hr] at he
 |_=>simp[AV.gN] at he
structure A3 (w:World) (F:Nat->Nat->Prop) (size:Nat) (els:List AV) (v:Value) (news:List Value):Prop where
 shape:(∃ad:Option Addr,v=.slice ad 0 0/\els=[])\/∃b o c,v=.slice (some ⟨b,o,none⟩) els.length c/\els.length<=c/\c<=maxLen/\∀(k:Nat) (u:Value),news[k]?=some u->w.cell? ⟨b,o+k,none⟩=some u
 len:news.length=els.length*size
 one:∀u:Value,u∈news->u.oneCell'=true
 rep:∀(i:Nat) (e:AV) (j:Nat) (x:AV),els[i]?=some e->e.cells[j]?=some x->∃u,news[i*size+j]?=some u/\ba w F [] [] x u/\u.oneCell'=true
theorem ba.vW {size:Nat} {els:List AV} {v:Value} (h:ba w F η hp (.sl els) v) (bO:0<size) (hl:∀e:AV,e∈els->e.cells.length=size):∃news,A3 w F size els v news:=by
 cases h with
 |oc a=>exact⟨[],.inl ⟨a,rfl,rfl⟩,by simp,(fun u hu=>by cases hu),fun i e j x hi=>by simp at hi⟩
 |sl uA els b o c f hc hm SP aA hr=>
  have aet:∀k,k<els.length*size->k / size<els.length/\k % size<size/\k=k / size*size+k % size:=fun k hk=>
   ⟨Nat.div_lt_of_lt_mul (by rw[Nat.mul_comm];exact hk),Nat.mod_lt _ bO,by rw[Nat.mul_comm];exact(Nat.div_add_mod k size).symm⟩
  have dA:∀k,k<els.length*size->w.cell? ⟨b,o+k,none⟩=some (f (k / size) (k % size))/\(f (k / size) (k % size)).oneCell'=true:=fun k hk=>by
   obtain⟨h1,h2,h3⟩:=aet k hk;have he:els[k / size]?=some els[k / size]:=by simp[h1]
   have hlen:=hl _ (alH h1);have hj:els[k / size].cells[k % size]?=some (els[k / size].cells[k % size]'(by rw[hlen];exact h2)):=by simp[hlen,h2]
   have hs':uA=size:=by rw[<-SP _ _ he];exact hlen
   have:=aA _ _ _ _ he hj;rw[hs',amV,<-h3] at this;exact⟨this.1,this.2.2⟩
  refine⟨(List.range (els.length*size)).map fun k=>f (k / size) (k % size),.inr ⟨b,o,c,rfl,hc,hm,fun k u hk=>?_⟩,by simp,fun u hu=>?_,fun i e j x hi hj=>?_⟩
  ·rw[alu] at hk
   by_cases aq:k<els.length*size
   ·rw[am4 aq] at hk;obtain rfl:=alj hk;exact(dA k aq).1
   ·rw[alU (by simp;omega)] at hk;cases hk
  ·obtain⟨k,hk,rfl⟩:=amg.1 hu;exact(dA k (amD.1 hk)).2
  ·have hlen:=hl e (alq hi);have tE:i<els.length:=(ali.1 hi).1;have tA:j<size:=by rw[<-hlen];exact(ali.1 hj).1
   have aq:i*size+j<els.length*size:=by
    have:=al6 size (show i+1<=els.length from tE);rw[amj] at this;omega
   have e1:(i*size+j) / size=i:=by rw[Nat.mul_comm,Nat.mul_add_div bO,Nat.div_eq_of_lt tA,amh]
   have e2:(i*size+j) % size=j:=by rw[Nat.mul_comm,Nat.mul_add_mod,Nat.mod_eq_of_lt tA]
   refine⟨f i j,?_,hr i e j x hi hj,(aA i e j x hi hj).2.2⟩;rw[alu,am4 aq];simp[e1,e2]
theorem A3.ext {w':World} {F':Nat->Nat->Prop} {size:Nat} {els:List AV} {v:Value} {news:List Value} (h:A3 w F size els v news) (he:MW w F w' F'):
  ∀(i:Nat) (e:AV) (j:Nat) (x:AV),els[i]?=some e->e.cells[j]?=some x->∃u,news[i*size+j]?=some u/\ba w' F' [] [] x u/\u.oneCell'=true:=
 fun i e j x hi hj=>let ⟨u,h1,h2,h3⟩:=h.rep i e j x hi hj;⟨u,h1,h2.ext he.ext,h3⟩
theorem nh {R:AV->Value->Prop} {size:Nat} {l1 l2:List AV} {x1 x2:List Value} (hx1:x1.length=l1.length*size)
  (h1:∀(i:Nat) (e:AV) (j:Nat) (x:AV),l1[i]?=some e->e.cells[j]?=some x->∃u,x1[i*size+j]?=some u/\R x u/\u.oneCell'=true)
  (h2:∀(i:Nat) (e:AV) (j:Nat) (x:AV),l2[i]?=some e->e.cells[j]?=some x->∃u,x2[i*size+j]?=some u/\R x u/\u.oneCell'=true):
  ∀(i:Nat) (e:AV) (j:Nat) (x:AV),(l1++l2)[i]?=some e->e.cells[j]?=some x->∃u,(x1++x2)[i*size+j]?=some u/\R x u/\u.oneCell'=true:=by
 intro i e j x hi hj
 by_cases aq:i<l1.length
 ·rw[alr aq] at hi;obtain⟨u,h3,h4⟩:=h1 i e j x hi hj;exact⟨u,by rw[alr (ali.1 h3).1];exact h3,h4⟩
 ·rw[alO (by omega)] at hi;obtain⟨u,h3,h4⟩:=h2 _ e j x hi hj;refine⟨u,?_,h4⟩;have:x1.length<=i*size+j:=by
   rw[hx1];have:=al6 size (show l1.length<=i by omega);omega
  rw[alO this,hx1,<-h3]
  congr 1
  rw[Nat.sub_mul];have:=al6 size (show l1.length<=i by omega);omega
theorem jv {t ty e:TypeId} {ed:TD} (ht:P.underlying t=some (.slice e)) (he:eZ P e ed) (b:Option Addr) (n c:Nat) (hn:n<=c) (x:Value) (hx:x=.slice none 0 0\/∃ad k,x=.slice (some ad) 0 k):
  (Builtin.append_ #[t,t] ty #[.slice b n c,x]).run P w=.ok (.slice b n c) w:=by
 obtain⟨i,h1,h2,_⟩:=he.info;rcases hx with rfl|⟨ad,k,rfl⟩<;>cases b <;>
  simp[Builtin.append_,run_underlying ht,sizeOf,typeInfo,h1,Builtin.lenOf,hn,Builtin.firstCells,storeCells,loadCells,loadCellsFrom]
theorem tF {e size:Nat} {n m:Nat} {z:Array Value} (lL news:List Value) (ho:lL.length=n*size) (hnw:news.length=m*size) (hz:z.size=size) (qC:Nat) (hm:0<m) (A4:n+m<=maxLen):
  lu (w.drew.alloc (.cells (lL.toArray++news.toArray++Builtin.zeroCells z (grownCap w (n+m) qC e-(n+m))) e)) e size
   (.slice (some ⟨w.heap.size,0,none⟩) (n+m) (grownCap w (n+m) qC e)) (n+m) (lL++news) 0:=by
 have je:=grownCap_ge w (n+m) qC e;have GA:grownCap w (n+m) qC e<=maxLen:=grownCap_le_maxLen w (n+m) qC e A4;have hlen:(lL++news).length=(n+m)*size:=by rw[alA,ho,hnw,amj]
 refine⟨hlen,.inr ⟨w.heap.size,_,_,rfl,by omega,⟨0,alp _,heap_alloc_new w.drew _⟩,je,GA,?_,?_⟩⟩
 ·simp only[Array.size_append,List.size_toArray,size_zeroCells,hz,ho,hnw,<-amj]
  congr 1
  omega
 ·simp only[Array.toList_append,al3];rw[<-al3,<-hlen];exact am2
end
section
variable {G:Type} {Γ:Env G} {s:AS G} {a:Act} {w w':World} {η:List Value} {hp:List ab} {F:Nat->Nat->Prop} {P:Program}
theorem wD (al:Γ.Ok) (h:Rel Γ s a w η) {t ty e:TypeId} {d:TD} (ht:Γ.P.underlying t=some (.slice e)) (dZ:eZ Γ.P e d) (bO:0<d.size) {els ar:List AV} {v0 v2:Value}
  (hb:v0=.slice none 0 0/\els=[]\/ba w (aW Γ w η s.hp) η s.hp (.clip els) v0) (hx:ba w (aW Γ w η s.hp) η s.hp (.sl ar) v2)
  (hl:∀x:AV,x∈els->x.cells.length=d.size) (zc:∀x:AV,x∈ar->x.cells.length=d.size) (bL:ar=[]->els=[])
  (hm:els.length+ar.length<=maxLen) (GG:(els.length+ar.length)*d.bytes<=140737488355328) {ob:ab} (ei:ob=.row e d.size (els++ar)\/ob=.aQ e d.size (els++ar)):
  ∃v' w',(Builtin.append_ #[t,t] ty #[v0,v2]).run Γ.P w=.ok v' w'/\Rel Γ (s.add ob) a w' (η++[v'])/\v'.oneCell'=true:=by
 have oF:∀{w:World} {F:Nat->Nat->Prop} {η:List Value} {hp:List ab} {v:Value},kA w F η hp (.aQ e d.size (els++ar)) v->kA w F η hp ob v:=by
  rcases ei with rfl|rfl
  ·exact fun⟨h1,xs,h2,h3⟩=>⟨h1,xs,h2.more (aly _),h3⟩
  ·exact id
 obtain⟨i,iK,qD,CU,IU⟩:=dZ.info;have hbs:ba w (aW Γ w η s.hp) η s.hp (.sl els) v0:=by
  rcases hb with⟨rfl,rfl⟩|hb
  ·exact .oc _
  ·exact hb.ng
 obtain⟨lL,ho⟩:=hbs.vW bO hl;obtain⟨news,hn⟩:=hx.vW bO zc;have GH:(∃ad:Option Addr,v0=.slice ad 0 0/\els=[])\/∃b o,v0=.slice (some ⟨b,o,none⟩) els.length els.length/\∀(k:Nat) (u:Value),lL[k]?=some u->w.cell? ⟨b,o+k,none⟩=some u:=by
  rcases ho.shape with h1|⟨b,o,c,rfl,_,_,hc⟩
  ·exact .inl h1
  ·rcases hb with⟨hb,_⟩|hb
   ·cases hb
   ·cases hb with
    |jB=>exact .inl ⟨_,rfl,rfl⟩
    |clip size els b o f hm SP aA hr=>exact .inr ⟨_,_,rfl,hc⟩
 by_cases hz:ar=[]
 ·have SQ:=bL hz;subst hz;subst SQ;have hv2:v2=.slice none 0 0\/∃ad k,v2=.slice (some ad) 0 k:=by
   rcases hn.shape with⟨ad,rfl,_⟩|⟨b,o,c,rfl,_⟩
   ·cases ad with
    |none=>exact .inl rfl
    |some ad=>exact .inr ⟨_,_,rfl⟩
   ·exact .inr ⟨_,_,rfl⟩
  rcases GH with⟨ad,rfl,_⟩|⟨b,o,rfl,_⟩
  ·refine⟨_,w,jv ht dZ ad 0 0 (alp _) v2 hv2,?_,rfl⟩;exact h.add al (bD.refl w) (fun b hb=>by cases ad<;>simp[cZ] at hb) (oF ⟨bO,[],⟨by simp,.inl ⟨rfl,by cases ad with|none=>exact .inl rfl|some ad=>exact .inr ⟨ad,rfl⟩⟩⟩,fun i el hi=>by simp at hi⟩)
  ·refine⟨_,w,jv ht dZ (some ⟨b,o,none⟩) 0 0 (alp _) v2 hv2,?_,rfl⟩;exact h.add al (bD.refl w) (fun b hb=>by simp[cZ] at hb) (oF ⟨bO,[],⟨by simp,.inl ⟨rfl,.inr ⟨_,rfl⟩⟩⟩,fun i el hi=>by simp at hi⟩)
 ·have qU:0<ar.length:=List.length_pos_iff.2 hz;rcases hn.shape with⟨_,_,h1⟩|⟨b2,o2,c2,rfl,_,_,MB⟩
  ·exact(hz h1).elim
  have wE:∀(j:Nat) (u:Value),news[j]?=some u->w.cell? ((⟨b2,o2,none⟩:Addr).add j)=some u:=fun j u hj=>by rw[Addr.add_lit];exact MB j u hj
  have A4:els.length+ar.length<=9223372036854775807:=by simp only[maxLen] at hm;omega
  have fin:∀(qC:Nat),Rel Γ (s.add ob) a
    (w.drew.alloc (.cells (lL.toArray++news.toArray++Builtin.zeroCells d.zero.cells (grownCap w (els.length+ar.length) qC e-(els.length+ar.length))) e))
    (η++[.slice (some ⟨w.heap.size,0,none⟩) (els.length+ar.length) (grownCap w (els.length+ar.length) qC e)]):=by
   intro qC;have hs:bD w (w.drew.alloc (.cells (lL.toArray++news.toArray++Builtin.zeroCells d.zero.cells (grownCap w (els.length+ar.length) qC e-(els.length+ar.length))) e)):=
    (bD.drew w).trans (bD.alloc _ _)
   have ln:∀b,cZ (.slice (some ⟨w.heap.size,0,none⟩) (els.length+ar.length) (grownCap w (els.length+ar.length) qC e))=some b->w.heap.size<=b:=by
    intro b hb;rw[bX (by have:=grownCap_ge w (els.length+ar.length) qC e;omega)] at hb;obtain rfl:=alj hb;exact alp _
   have he:=rQ (Γ:=Γ) (o:=ob) h.heap.len hs ln;refine h.add al hs ln (oF ⟨bO,lL++news,?_,fun i el hi=>⟨?_,?_⟩⟩)
   ·rw[alA];exact tF lL news ho.len hn.len dZ.IQ qC qU hm
   ·rcases amc.1 (alq hi) with h1|h1
    ·exact hl _ h1
    ·exact zc _ h1
   ·exact fun j x hj=>nh ho.len (ho.ext he.oB) (hn.ext he.oB) i el j x hi hj
  rcases GH with⟨ad,rfl,rfl⟩|⟨b,o,rfl,hc⟩
  ·have:lL=[]:=alS (by simpa using ho.len);subst this
   cases ad with
   |some ad=>
    have:=run_append_grow (P:=Γ.P) w t ty e i d.zero ht iK IU ad 0 0 [] (by simp) (fun j u hj=>by simp at hj) ⟨b2,o2,none⟩ ar.length c2 news (by rw[qD];exact hn.len) wE (by omega)
     (by simp only[al5,alM] at A4 ⊢;omega) (growslice_fits (by omega) (by rw[CU];simpa only[al5] using GG))
    refine⟨_,_,this,?_,rfl⟩;have f0:=fin 0;simpa only[al5,alM,amw] using f0
   |none=>
   have:=run_append_nil (P:=Γ.P) w t ty e i d.zero ht iK IU ⟨b2,o2,none⟩ ar.length c2 news (by rw[qD];exact hn.len) wE qU (by simp only[al5,alM] at A4;omega) (by rw[CU];simp only[al5,alM] at GG;omega);refine⟨_,_,this,?_,rfl⟩;have f0:=fin 0;simpa only[al5,alM,amw,Array.empty_append] using f0
  ·have holds:∀(j:Nat) (u:Value),lL[j]?=some u->w.cell? ((⟨b,o,none⟩:Addr).add j)=some u:=fun j u hj=>by rw[Addr.add_lit];exact hc j u hj
   have:=run_append_grow (P:=Γ.P) w t ty e i d.zero ht iK IU ⟨b,o,none⟩ els.length els.length lL (by rw[qD];exact ho.len) holds ⟨b2,o2,none⟩ ar.length c2 news (by rw[qD];exact hn.len) wE (by omega)
    (by omega) (growslice_fits (by omega) (by rw[CU];exact GG))
   exact⟨_,_,this,fin els.length,rfl⟩
theorem ni {g e z:Nat}:∀(us:List Value) (o:Nat) (cur:Array Value) (w:World),w.heap[g]?=some (.cells cur e (0,z))->o+us.length<=cur.size->
  w.setCells g o us=w.setRow g (cur.toList.take o++us++cur.toList.drop (o+us.length)).toArray:=by
 intro us
 induction us with
 |nil=>
  intro o cur w hg _;simp only[World.setCells,ame,al5,amh,amd];have aq:g<w.heap.size:=(alE.1 hg).1;have hv:w.heap[g]=.cells cur e (0,z):=(alE.1 hg).2;unfold World.setRow
  cases w with
  |mk heap tape drawn os output=>
   congr 1
   apply Array.ext
   ·simp
   ·intro k h1 h2;simp only[Array.getElem_modify];split
    ·rename_i hk;subst hk;simp at hv;simp[hv]
    ·rfl
 |cons u us ih=>
  intro o cur w hg hl;rw[als] at hl;rw[World.setCells,setCell_eq_setRow w g o cur e _ u hg,ih (o+1) _ _ (setRow_heap w g cur _ e _ hg) (by simp;omega),setRow_setRow]
  congr 2
  apply al9;intro k;have e1:(cur.setIfInBounds o u).toList=cur.toList.set o u:=by simp
  rw[e1];have hlen:cur.toList.length=cur.size:=by simp
  rcases Nat.lt_trichotomy k o with h|h|h
  ·rw[al3,al3,alr (by simp;omega),alr (by simp;omega),alz,alz,if_pos (by omega),if_pos h,List.getElem?_set_ne (by omega)]
  ·subst h;have hk:(cur.toList.take k).length=k:=by rw[amf];omega
   rw[al3,al3,alr (by simp;omega),alO (by omega),hk,amO,alz,if_pos (by omega),List.getElem?_set_self (by omega)];rfl
  ·have e2:(cur.toList.take o++(u::us)++cur.toList.drop (o+(us.length+1)))[k]?=(us++cur.toList.drop (o+(us.length+1)))[k-(o+1)]?:=by
    rw[al3,alO (by simp;omega),amR];have:k-(List.take o cur.toList).length=(k-(o+1))+1:=by rw[amf];omega
    rw[this,alP]
   rw[als,e2,al3,alO (by simp;omega)];have:k-(List.take (o+1) (cur.toList.set o u)).length=k-(o+1):=by rw[amf,amA];omega
   rw[this,List.drop_set_of_lt (by omega),show o+1+us.length=o+(us.length+1) by omega]
theorem kE {w:World} {g e z o:Nat} {cur:Array Value} {us:List Value} (hg:w.heap[g]?=some (.cells cur e (0,z))) (hz:z<=o) (hf:o+us.length<=cur.size):
  (∀j,j<us.length->(w.cell? ⟨g,o+j,none⟩).isSome=true)/\∀j,j<us.length->w.frozen? ⟨g,o+j,none⟩=false:=by
 refine⟨fun j hj=>?_,fun j hj=>?_⟩
 ·rw[cell_of_row w g _ cur e _ hg,al4 (by omega)];rfl
 ·simp only[World.frozen?,hg];have:¬(o+j<z):=by omega
  simp[this]
structure wF (P:Program) (w:World) (F:Nat->Nat->Prop) (t u ty e:TypeId) (d:TD) (ar:List AV) (v2:Value) (news:List Value):Prop where
 len:news.length=ar.length*d.size
 one:∀u∈news,u.oneCell'=true
 rep:∀(i:Nat) (e:AV) (j:Nat) (x:AV),ar[i]?=some e->e.cells[j]?=some x->∃u,news[i*d.size+j]?=some u/\ba w F [] [] x u/\u.oneCell'=true
 nothing:ar=[]->∀b n c,n<=c->(Builtin.append_ #[t,u] ty #[.slice b n c,v2]).run P w=.ok (.slice b n c) w
 nil:0<ar.length->(ar.length:Int)<=9223372036854775807->ar.length*d.bytes<=281474976710656->(Builtin.append_ #[t,u] ty #[.slice none 0 0,v2]).run P w=
  .ok (.slice (some ⟨w.heap.size,0,none⟩) ar.length (grownCap w ar.length 0 e)) (w.drew.alloc (.cells (news.toArray++Builtin.zeroCells d.zero.cells (grownCap w ar.length 0 e-ar.length)) e))
 grow:0<ar.length->∀(b:Addr) (jf qo:Nat) (lL:List Value),lL.length=jf*d.size->(∀j v,lL[j]?=some v->w.cell? (b.add j)=some v)->qo<jf+ar.length->((jf+ar.length:Nat):Int)<=9223372036854775807->
  Builtin.nextslicecap (jf+ar.length) qo*d.bytes<=281474976710656->(Builtin.append_ #[t,u] ty #[.slice (some b) jf qo,v2]).run P w=
   .ok (.slice (some ⟨w.heap.size,0,none⟩) (jf+ar.length) (grownCap w (jf+ar.length) qo e)) (w.drew.alloc (.cells (lL.toArray++news.toArray++Builtin.zeroCells d.zero.cells (grownCap w (jf+ar.length) qo e-(jf+ar.length))) e))
 room:0<ar.length->∀(g jf qo:Nat) (cur:Array Value) (hi:Nat),hi<=jf*d.size->w.heap[g]?=some (.cells cur e (0,hi))->jf+ar.length<=qo->jf*d.size+news.length<=cur.size->(Builtin.append_ #[t,u] ty #[.slice (some ⟨g,0,none⟩) jf qo,v2]).run P w=
   .ok (.slice (some ⟨g,0,none⟩) (jf+ar.length) qo) (w.setRow g (cur.toList.take (jf*d.size)++news++cur.toList.drop (jf*d.size+news.length)).toArray)
theorem wF.ext {P:Program} {F F':Nat->Nat->Prop} {t u ty e:TypeId} {d:TD} {ar:List AV} {v2:Value} {news:List Value} (h:wF P w F t u ty e d ar v2 news) (he:MW w F w' F'):
  ∀(i:Nat) (e:AV) (j:Nat) (x:AV),ar[i]?=some e->e.cells[j]?=some x->∃u,news[i*d.size+j]?=some u/\ba w' F' [] [] x u/\u.oneCell'=true:=
 fun i e j x hi hj=>let ⟨u,h1,h2,h3⟩:=h.rep i e j x hi hj;⟨u,h1,h2.ext he.ext,h3⟩
theorem rR {P:Program} {F:Nat->Nat->Prop} {t ty e:TypeId} {d:TD} (ht:P.underlying t=some (.slice e)) (dZ:eZ P e d) (bO:0<d.size) {ar:List AV} {v2:Value} (hx:ba w F η hp (.sl ar) v2)
  (zc:∀x:AV,x∈ar->x.cells.length=d.size):∃news,wF P w F t t ty e d ar v2 news:=by
 obtain⟨i,iK,qD,CU,IU⟩:=dZ.info;obtain⟨news,hn⟩:=hx.vW bO zc;have pos:0<ar.length->∃b2 o2 c2,v2=.slice (some ⟨b2,o2,none⟩) ar.length c2/\∀(j:Nat) (u:Value),news[j]?=some u->w.cell? ((⟨b2,o2,none⟩:Addr).add j)=some u:=fun h0=>by
  rcases hn.shape with⟨_,_,h1⟩|⟨b2,o2,c2,rfl,_,_,MB⟩
  ·rw[h1] at h0;simp at h0
  ·exact⟨b2,o2,c2,rfl,fun j u hj=>by rw[Addr.add_lit];exact MB j u hj⟩
 refine⟨news,hn.len,hn.one,hn.rep,fun h0 b n c Gz=>?_,fun h0 A4 Y4=>?_,fun h0 b jf qo lL oG ho hg A4 rS=>?_,fun h0 g jf qo cur hi V1 hg eA rS=>?_⟩
 ·refine jv ht dZ b n c Gz v2 ?_;subst h0;rcases hn.shape with⟨ad,rfl,_⟩|⟨b,o,c,rfl,_⟩
  ·cases ad with
   |none=>exact .inl rfl
   |some ad=>exact .inr ⟨_,_,rfl⟩
  ·exact .inr ⟨_,_,rfl⟩
 ·obtain⟨b2,o2,c2,rfl,hc⟩:=pos h0;exact run_append_nil (P:=P) w t ty e i d.zero ht iK IU ⟨b2,o2,none⟩ ar.length c2 news (by rw[qD];exact hn.len) hc h0 A4 (by rw[CU];exact Y4)
 ·obtain⟨b2,o2,c2,rfl,hc⟩:=pos h0;exact run_append_grow (P:=P) w t ty e i d.zero ht iK IU b jf qo lL (by rw[qD];exact oG) ho ⟨b2,o2,none⟩ ar.length c2 news (by rw[qD];exact hn.len) hc hg A4 (by rw[CU];exact rS)
 ·obtain⟨b2,o2,c2,rfl,hc⟩:=pos h0;have:=run_append_room_cells (P:=P) w t ty e i ht iK g 0 jf qo ⟨b2,o2,none⟩ ar.length c2 news (by rw[qD];exact hn.len) hc hn.one eA (by rw[qD,alM];exact(kE hg V1 rS).1) (by rw[qD,alM];exact(kE hg V1 rS).2);rw[qD,alM,ni news _ cur w hg rS] at this;exact this
def iB (b:ByteArray):List AV:=b.data.toList.map fun c=>.ae (.int .u8 c.toNat)
theorem tG (b:ByteArray):(iB b).length=b.size:=by simp[iB]
theorem GI {P:Program} {F:Nat->Nat->Prop} {t u ty e:TypeId} {d:TD} (ht:P.underlying t=some (.slice e)) (hu:P.underlying u=some .string) (dZ:eZ P e d) (h1:d.size=1) (hz:d.zero=.int .u8 0) (b:ByteArray):
  wF P w F t u ty e d (iB b) (.string b) (Lib.strCells b):=by
 obtain⟨i,iK,qD,CU,IU⟩:=dZ.info;have hl:=tG b;have e1:(b.data.map fun b=>Value.int .u8 b.toNat)=(Lib.strCells b).toArray:=by
  apply amy;simp[Lib.strCells]
 refine⟨by rw[Lib.strCells_length,hl,h1,amu],Lib.strCells_oneCell b,fun i el j x hi hj=>?_,fun h0 a n c Gz=>?_,fun h0 A4 Y4=>?_,fun h0 a jf qo lL oG ho hg A4 rS=>?_,fun h0 g jf qo cur hi V1 hg eA rS=>?_⟩
 ·simp only[iB,alu,amb] at hi;obtain⟨c,hc,rfl⟩:=hi
  cases j with
  |succ j=>simp[AV.cells] at hj
  |zero=>
   simp only[AV.cells,al8,alh] at hj;subst hj;exact⟨_,by rw[h1,amu,amh,Lib.strCells,alu,hc];rfl,.ae _,rfl⟩
 ·have hb:b.size=0:=by rw[<-hl,h0];rfl
  have hf:=Lib.run_firstCells_string (P:=P) w i.size b;rw[hb] at hf;have MZ:Lib.strCells b=[]:=alS (by rw[Lib.strCells_length];exact hb)
  cases a<;>simp[Builtin.append_,run_underlying ht,run_underlying hu,sizeOf,typeInfo,iK,Builtin.lenOf,hb,Gz,hf,MZ,storeCells]
 ·rw[hl] at *;have:=run_append_nil_string (P:=P) w t u ty e i d.zero ht hu iK IU b h0 A4 (by rw[CU];exact Y4);rw[e1] at this;exact this
 ·rw[hl] at *;exact Lib.run_append_grow_string (P:=P) w t u ty e i d.zero ht hu iK IU a jf qo lL (by rw[qD];exact oG) ho b hg A4 (by rw[CU];exact rS)
 ·rw[hl] at *;rw[h1,amu,Lib.strCells_length] at *;have M0:jf+(Lib.strCells b).length<=cur.size:=by rw[Lib.strCells_length];exact rS
  have hf:=Lib.run_firstCells_string (P:=P) w 1 b;have CV:=run_storeCells_cells (P:=P) g jf (Lib.strCells b) 0 w (kE hg V1 M0).1 (kE hg V1 M0).2 (Lib.strCells_oneCell b);rw[amh,ni _ _ cur w hg M0,Lib.strCells_length] at CV;simp[Builtin.append_,run_underlying ht,run_underlying hu,sizeOf,typeInfo,iK,show i.size=1 by rw[qD],Builtin.lenOf,eA,hf,Addr.add_lit,CV]
def fR (M:Bool) (e size:Nat) (els:List AV):ab:=match M with|false=>.row e size els|true=>.aQ e size els
def kB (M:Bool) (n:Nat):Nat:=match M with|false=>n|true=>0
theorem Y5 (M:Bool) (n:Nat):kB M n<=n:=by cases M<;>simp[kB]
theorem S9 (M:Bool) {n m:Nat} (h:n<=m):kB M n<=kB M m:=by cases M<;>simp[kB,h]
theorem mf {F:Nat->Nat->Prop} {M:Bool} {e size:Nat} {els:List AV} {v:Value}:kA w F η hp (fR M e size els) v↔(0<size/\∃xs:List Value,lu w e size v els.length xs (kB M (els.length*size))/\
   ∀(i:Nat) (el:AV),els[i]?=some el->el.cells.length=size/\
    ∀(j:Nat) (x:AV),el.cells[j]?=some x->∃u,xs[i*size+j]?=some u/\ba w F [] [] x u/\u.oneCell'=true):=by cases M<;>exact Iff.rfl
theorem kF {M:Bool} {e size r n:Nat} {els:List AV} {v:Value} (h:hp[r]?=some (fR M e size els)):aR η hp r n v↔n<=els.length/\(n=els.length->η[r]?=some v):=by
 unfold aR;rw[h]
 cases M<;>exact Iff.rfl
theorem zU {M:Bool} {e size k:Nat} {els:List AV} (h:(fR M e size els).bk k):k<els.length*size:=by cases M<;>first|exact h|exact h.elim
theorem zV {M:Bool} {e size k:Nat} {els ar:List AV} (h:(fR M e size els).bk k):(fR M e size (els++ar)).bk k:=by
 have h':=zU h
 cases M with
 |false=>show k<(els++ar).length*size;rw[alA,amj];omega
 |true=>exact h.elim
theorem tH (M:Bool) (e size:Nat) (els:List AV):(fR M e size els).live:=by cases M<;>exact True.intro
theorem wG (al:Γ.Ok) (h:Rel Γ s a w η) {t u ty e:TypeId} {d:TD} (dZ:eZ Γ.P e d) {M:Bool} {r:Nat} {els ar:List AV} {v0 v2:Value}
  (hr:s.hp[r]?=some (fR M e d.size els)) (hv:aR η s.hp r els.length v0) {news:List Value} (hn:wF Γ.P w (aW Γ w η s.hp) t u ty e d ar v2 news)
  (zc:∀x:AV,x∈ar->x.cells.length=d.size)
  (hm:els.length+ar.length<=maxLen) (GG:(els.length+ar.length)*d.bytes<=140737488355328):
  ∃v' w' aO,(Builtin.append_ #[t,u] ty #[v0,v2]).run Γ.P w=.ok v' w'/\Rel Γ { s with hp:=s.hp.set r (fR M e d.size (els++ar)) } a w' aO/\v'.oneCell'=true/\aO[r]?=some v':=by
 have tI:η[r]?=some v0:=((kF hr).1 hv).2 rfl;obtain⟨bO,xs,ea,fb⟩:=mf.1 (h.heap.obj r _ v0 hr tI);have hold:∀(i:Nat) (e:AV) (j:Nat) (x:AV),els[i]?=some e->e.cells[j]?=some x->∃u,xs[i*d.size+j]?=some u/\ba w (aW Γ w η s.hp) [] [] x u/\u.oneCell'=true:=
  fun i el j x hi hj=>(fb i el hi).2 j x hj
 by_cases hz:ar=[]
 ·subst hz;have jg:s.hp.set r (fR M e d.size (els++[]))=s.hp:=by
   apply al9;intro k
   by_cases hk:r=k
   ·subst hk;rw[ai hr,ame,hr]
   ·rw[getElem?_set_ne hk]
  have M1:∀b n c,v0=.slice b n c->n<=c->∃v' w' aO,(Builtin.append_ #[t,u] ty #[v0,v2]).run Γ.P w=.ok v' w'/\Rel Γ { s with hp:=s.hp.set r (fR M e d.size (els++[])) } a w' aO/\v'.oneCell'=true/\aO[r]?=some v':=by
   intro b n c e1 e2;subst e1;exact⟨_,w,η,hn.nothing rfl b n c e2,by rw[jg];exact h,rfl,tI⟩
  rcases ea.2 with⟨h0,rfl|⟨ad,rfl⟩⟩|⟨g,cap,cur,rfl,h0,_,Gz,_⟩
  ·exact M1 none 0 0 rfl (alp _)
  ·exact M1 _ 0 0 rfl (alp _)
  ·exact M1 _ _ _ rfl Gz
 ·have qU:0<ar.length:=List.length_pos_iff.2 hz;have A4:els.length+ar.length<=9223372036854775807:=by simp only[maxLen] at hm;omega
  have tD:∀v' n u,aR η s.hp r n u->aR (η.set r v') (s.hp.set r (fR M e d.size (els++ar))) r n u:=by
   intro v' n u ho;replace ho:=(kF hr).1 ho;refine(kF (ai hr)).2 ⟨by rw[alA];have:=ho.1;omega,fun Ta=>?_⟩;rw[alA] at Ta;have:=ho.1;omega
  have V2:∀(x:AV),x∈els++ar->x.cells.length=d.size:=by
   intro x mg;rcases amc.1 mg with h1|h1
   ·obtain⟨k,hk⟩:=amz h1;exact(fb k x hk).1
   ·exact zc _ h1
  have grown:∀(qC:Nat),(∀b es c,cZ v0=some b->w.heap[b]?=some (.map es c)->False)->(∀b d,cZ v0=some b->w.heap[b]?=some (.deferred d)->False)->(∀x,v0 ≠ .pointer x)->(∀x,v0 ≠ .map x)->
    Rel Γ { s with hp:=s.hp.set r (fR M e d.size (els++ar)) } a
    (w.drew.alloc (.cells (xs.toArray++news.toArray++Builtin.zeroCells d.zero.cells (grownCap w (els.length+ar.length) qC e-(els.length+ar.length))) e))
    (η.set r (.slice (some ⟨w.heap.size,0,none⟩) (els.length+ar.length) (grownCap w (els.length+ar.length) qC e))):=by
   intro qC W7 aeu iC zj;have hs:bD w (w.drew.alloc (.cells (xs.toArray++news.toArray++Builtin.zeroCells d.zero.cells (grownCap w (els.length+ar.length) qC e-(els.length+ar.length))) e)):=
    (bD.drew w).trans (bD.alloc _ _)
   have ln:∀b,cZ (.slice (some ⟨w.heap.size,0,none⟩) (els.length+ar.length) (grownCap w (els.length+ar.length) qC e))=some b->w.heap.size<=b:=by
    intro b hb;rw[bX (by have:=grownCap_ge w (els.length+ar.length) qC e;omega)] at hb;obtain rfl:=alj hb;exact alp _
   refine h.change al (o':=fR M e d.size (els++ar)) hr (tH _ _ _ _) tI (hs.keeps _) (fun b hb=>.inr (ln b hb)) (fun k hk=>?_) (fun b k u hb _ hc=>?_) (fun b es c hb _ hh=>W7 b es c hb hh) (tD _)
    (fun x mg=>(iC x mg).elim) (fun x mg=>(zj x mg).elim) aeu (fun he=>mf.2 ⟨bO,xs++news,?_,fun i el hi=>⟨V2 _ (alq hi),?_⟩⟩)
   ·exact zV hk
   ·rw[World.cell?_of_block (hs.block b (h.heap.block hr (tH _ _ _ _) tI hb))];exact hc
   ·rw[alA];exact(tF xs news ea.1 hn.len dZ.IQ qC qU hm).more (aly _)
   ·exact fun j x hj=>nh ea.1 (fun i e j x hi hj=>let ⟨u,h1,h2,h3⟩:=hold i e j x hi hj;⟨u,h1,h2.ext he.oB.ext,h3⟩) (hn.ext he.oB) i el j x hi hj
  have A5:∀v',(η.set r v')[r]?=some v':=fun v'=>ai tI;rcases ea.2 with⟨h0,rfl|⟨ad,rfl⟩⟩|⟨g,cap,cur,rfl,h0,⟨hi,V1,hg⟩,Gz,GA,gO,od⟩
  ·have zd:els=[]:=alS h0;have hxs:xs=[]:=alS (by rw[ea.1,h0];simp);have gr:=grown 0 (fun b es c hb=>by simp[cZ] at hb) (fun b d hb=>by simp[cZ] at hb) (fun x mg=>by cases mg) (fun x mg=>by cases mg);subst zd;subst hxs;have:=hn.nil qU (by simp only[al5,alM] at A4;omega) (by simp only[al5,alM] at GG;omega);refine⟨_,_,_,this,?_,rfl,A5 _⟩;simpa only[al5,alM,amw,Array.empty_append] using gr
  ·have zd:els=[]:=alS h0;have hxs:xs=[]:=alS (by rw[ea.1,h0];simp);have gr:=grown 0 (fun b es c hb=>by simp[cZ] at hb) (fun b d hb=>by simp[cZ] at hb) (fun x mg=>by cases mg) (fun x mg=>by cases mg);subst zd;subst hxs;have:=hn.grow qU ad 0 0 [] (by simp) (fun j u hj=>by simp at hj) (by omega)
    (by simp only[al5,alM] at A4 ⊢;omega) (growslice_fits (by omega) (by simpa only[al5] using GG))
   refine⟨_,_,_,this,?_,rfl,A5 _⟩;simpa only[al5,alM,amw] using gr
  ·by_cases eA:els.length+ar.length<=cap
   ·have rS:els.length*d.size+news.length<=cur.size:=by rw[hn.len,gO,<-amj];exact al6 _ eA
    have fY:=hn.room qU g els.length cap cur hi (alT V1 (Y5 _ _)) hg eA rS;refine⟨_,_,_,fY,?_,rfl,A5 _⟩;have uz:cZ (.slice (some ⟨g,0,none⟩) els.length cap)=some g:=bX h0;have aew:cZ (.slice (some ⟨g,0,none⟩) (els.length+ar.length) cap)=some g:=bX h0;have IV:=setRow_heap w g cur (cur.toList.take (els.length*d.size)++news++cur.toList.drop (els.length*d.size+news.length)).toArray e (0,hi) hg;refine h.change al (o':=fR M e d.size (els++ar)) hr (tH _ _ _ _) tI ⟨rfl,rfl,rfl,by simp,fun k hk hb=>setRow_other w g k _ (fun e=>hb (by rw[uz,e]))⟩ (fun b hb=>.inl (by rw[uz];rw[aew] at hb;exact hb)) (fun k hk=>?_) (fun b k u hb hk hc=>?_)
     (fun b es c hb _ hh=>?_) (tD _) (fun x mg=>by cases mg) (fun x mg=>by cases mg) (fun b d hb hh=>?_) (fun he=>mf.2 ⟨bO,xs++news,?_,fun i el hi=>⟨V2 _ (alq hi),?_⟩⟩)
    ·exact zV hk
    ·rw[uz] at hb;obtain rfl:=alj hb;have zi:k<els.length*d.size:=zU hk;rw[cell_of_row w g k cur e _ hg] at hc;rw[cell_of_row _ g k _ e _ IV];have aq:k<cur.size:=(alE.1 hc).1;rw[<-Array.getElem?_toList] at hc;simp only[amP];rw[al3,alr (by simp;omega),alz,if_pos zi];exact hc
    ·rw[uz] at hb;obtain rfl:=alj hb;rw[hg] at hh;cases hh
    ·rw[uz] at hb;obtain rfl:=alj hb;rw[hg] at hh;cases hh
    ·have KR:(xs++news).length=(els.length+ar.length)*d.size:=by rw[alA,ea.1,hn.len,amj]
     rw[alA];refine⟨KR,.inr ⟨g,cap,_,rfl,h0,⟨hi,alT V1 (S9 M (al6 _ (by omega))),IV⟩,eA,GA,?_,?_⟩⟩
     ·simp only[List.size_toArray,alA,amf,alX,alY];have:els.length*d.size<=cur.size:=by omega
      omega
     ·rw[od,<-KR];exact am2
    ·exact fun j x hj=>nh ea.1 (fun i e j x hi hj=>let ⟨u,h1,h2,h3⟩:=hold i e j x hi hj;⟨u,h1,h2.ext he.oB.ext,h3⟩) (hn.ext he.oB) i el j x hi hj
   ·have aA:∀(j:Nat) (u:Value),xs[j]?=some u->w.cell? ((⟨g,0,none⟩:Addr).add j)=some u:=by
     intro j u hj;rw[Addr.add_lit,alM,cell_of_row w g j cur e _ hg];rw[<-od,alz] at hj
     by_cases aq:j<els.length*d.size
     ·rw[if_pos aq] at hj;simpa using hj
     ·rw[if_neg aq] at hj;cases hj
    have uz:cZ (.slice (some ⟨g,0,none⟩) els.length cap)=some g:=bX h0;have:=hn.grow qU ⟨g,0,none⟩ els.length cap xs ea.1 aA (by omega) (by omega) (growslice_fits (by omega) GG);exact⟨_,_,_,this,grown cap (fun b es c hb hh=>by rw[uz] at hb;obtain rfl:=alj hb;rw[hg] at hh;cases hh)
     (fun b d hb hh=>by rw[uz] at hb;obtain rfl:=alj hb;rw[hg] at hh;cases hh) (fun x mg=>by cases mg) (fun x mg=>by cases mg),rfl,A5 _⟩
end
section
variable {G:Type} {Γ:Env G} {s:AS G} {a:Act} {w w':World} {η:List Value} {hp:List ab} {F:Nat->Nat->Prop} {P:Program}
def uB:Value->AV
 | .agg cs=>(match cs.toList.all Value.oneCell' with
  |true=>.agg (cs.toList.map .ae)
  |false=>.ae (.agg cs))
 |v=>.ae v
theorem mh {w:World} {F:Nat->Nat->Prop} {η:List Value} {hp:List ab} (v:Value):ba w F η hp (uB v) v:=by
 unfold uB;split
 ·rename_i cs;split
  ·rename_i h1;refine .agg _ _ (by simp) (fun v hv=>alv.1 h1 v (by simpa using hv)) fun j x v hx hv=>?_;rw[alu,Array.getElem?_toList,hv] at hx;obtain rfl:=alj hx;exact .ae _
  ·exact .ae _
 ·exact .ae _
def AS.ev (s:AS G):Operand->AV
 | .tmp t=>s.tmps t
 | .const v=>uB v
 | .global g=>.ae (.pointer (some ⟨g,0,none⟩))
 | .func f=>.bf f []
theorem Rel.ev (h:Rel Γ s a w η) (x:Operand):ba w (aW Γ w η s.hp) η s.hp (s.ev x) (a.eval x):=by
 cases x with
 |tmp t=>exact h.tmps t
 |const v=>exact mh v
 |global g=>exact .ae _
 |func f=>exact .bf f [] #[] rfl (fun j x v h=>by simp at h)
def AV.dQ (hp:List ab):AV->AV
 | .own r n=>(match (AV.own r n).gN hp with|some els=>.sl els|none=>.top)
 | .clip els=>.sl els
 | .sl els=>.sl els
 | .ae v=>(match v with | .slice none 0 0=>.sl []|v=>.ae v)
 | .fn v=>.fn v
 | .eY es=>.eY es
 | .aJ e o=>.aJ e o
 | .bf f caps=>(match caps with | []=>.bf f []|_=>.top)
 |_=>.top
def AV.fe (hp:List ab):AV->AV
 | .agg cs=>.agg (cs.map (AV.dQ hp))
 |x=>x.dQ hp
def AV.bl (hp:List ab):AV->AV
 | .av vs=>.av (vs.map (AV.fe hp))
 | .bf f caps=>.bf f (caps.map (AV.fe hp))
 |x=>x.fe hp
theorem kj (h:dJ w (aW Γ w η hp) η hp) (hm:vu Γ η hp) {x:AV} {v:Value} (hx:ba w (aW Γ w η hp) η hp x v):ba w (aW Γ w η hp) [] [] (x.dQ hp) v:=by
 cases x with
 |own r n=>
  simp only[AV.dQ];split
  ·rename_i els he;have:=kD h hm hx he
   cases this with
   |oc=>exact .oc _
   |sl size els b o c f hc hm hl aA hr=>exact .sl size els b o c f hc hm hl aA hr
  ·exact .top _
 |clip els=>cases hx.ng with
  |oc=>exact .oc _
  |sl size els b o c f hc hm hl aA hr=>exact .sl size els b o c f hc hm hl aA hr
 |sl els=>cases hx with
  |oc=>exact .oc _
  |sl size els b o c f hc hm hl aA hr=>exact .sl size els b o c f hc hm hl aA hr
 |ae u=>
  simp only[AV.dQ];split
  ·cases hx;exact .oc _
  ·cases hx;exact .ae _
 |fn u=>cases hx;exact .fn _ (by assumption)
 |eY es=>cases hx with|eY b es c h1 h2 _ hl=>exact .eY b es c h1 h2 _ hl
 |aJ e off=>cases hx with|aJ _ _ b o f aA hr=>exact .aJ e off b o f aA hr
 |bf f caps=>
  simp only[AV.dQ];split
  ·cases hx with|bf _ _ vs hl hr=>exact .bf f [] vs hl fun j y u hy _=>by cases hy
  ·exact .top _
 |_=>exact .top _
theorem mj (h:dJ w (aW Γ w η hp) η hp) (hm:vu Γ η hp) {x:AV} {v:Value} (hx:ba w (aW Γ w η hp) η hp x v):ba w (aW Γ w η hp) [] [] (x.fe hp) v:=by
 cases x with
 |agg cs=>
  cases hx with
  |agg _ vs hl h1 hr=>
   refine .agg _ vs (by simpa using hl) h1 fun j y u hy hu=>?_;rw[alu] at hy
   cases hj:cs[j]? with
   |none=>rw[hj] at hy;cases hy
   |some z=>rw[hj] at hy;obtain rfl:=alj hy;exact kj h hm (hr j z u hj hu)
 |_=>exact kj h hm hx
theorem fK (h:dJ w (aW Γ w η hp) η hp) (hm:vu Γ η hp) {x:AV} {v:Value} (hx:ba w (aW Γ w η hp) η hp x v):ba w (aW Γ w η hp) [] [] (x.bl hp) v:=by
 cases x with
 |av cs=>
  cases hx with
  |av _ vs hl hr=>
   refine .av _ vs (by simpa using hl) fun j y u hy hu=>?_;rw[alu] at hy
   cases hj:cs[j]? with
   |none=>rw[hj] at hy;cases hy
   |some z=>rw[hj] at hy;obtain rfl:=alj hy;exact mj h hm (hr j z u hj hu)
 |bf f cs=>
  cases hx with
  |bf _ _ vs hl hr=>
   refine .bf f _ vs (by simpa using hl) fun j y u hy hu=>?_;rw[alu] at hy
   cases hj:cs[j]? with
   |none=>rw[hj] at hy;cases hy
   |some z=>rw[hj] at hy;obtain rfl:=alj hy;exact mj h hm (hr j z u hj hu)
 |_=>exact mj h hm hx
def fieldsOf (tab:Nat->Option TD) (T:Nat):List (Nat×Nat×Bool):=
 match tab T with
 |some d=>(match d.kind with | .bj fs=>fs|_=>[])
 |none=>[]
def AV.isAgg:AV->Bool
 | .agg _=>true
 |_=>false
def fx (agg:Bool) (size:Nat) (cs:List AV) (o:Nat):Option AV:=
 if agg then(if o+size<=cs.length then some (.agg ((cs.drop o).take size)) else none) else cs[o]?
def wH (agg:Bool) (size:Nat) (e:AV) (o:Nat):Option AV:=
 if o=0/\e.cells.length=size/\e.isAgg=agg then some e else fx agg size e.cells o
def A6 (op:BinOp) (k:IntKind) (a b:Int):Option (Prop×AV):=
 match op with
 | .add=>some (True,.ae (.int k (k.wrap (a+b))))
 | .sub=>some (True,.ae (.int k (k.wrap (a-b))))
 | .mul=>some (True,.ae (.int k (k.wrap (a*b))))
 | .eql=>some (True,.ae (.bool (a==b)))
 | .neq=>some (True,.ae (.bool (a != b)))
 | .lss=>some (True,.ae (.bool (decide (a<b))))
 | .leq=>some (True,.ae (.bool (decide (a<=b))))
 | .gtr=>some (True,.ae (.bool (decide (a>b))))
 | .geq=>some (True,.ae (.bool (decide (a>=b))))
 |_=>none
def jw (tab:Nat->Option TD) (T:Nat) (op:BinOp) (x y:AV):Option (Prop×AV):=
 match x,y with
 | .ae (.int k a),.ae (.int k' b)=>if k=k' then A6 op k a b else none
 | .ae (.bool a),.ae (.bool b)=>
  (match tab T with
   |some d=>(match d.kind,op with
    | .bool,.eql=>some (True,.ae (.bool (a==b)))
    | .bool,.neq=>some (True,.ae (.bool (!(a==b))))
    |_,_=>none)
   |none=>none)
 | .agg [.ae (.int .i64 a1),.ae (.int .i64 a2)],.agg [.ae (.int .i64 b1),.ae (.int .i64 b2)]=>
  (match tab T with
   |some d=>if d.flat then(match op with
    | .eql=>some (True,.ae (.bool (a1==b1&&a2==b2)))
    | .neq=>some (True,.ae (.bool (!(a1==b1&&a2==b2))))
    |_=>none) else none
   |none=>none)
 | .agg [.ae (.int .i64 a0),.ae (.int .i64 a1),.ae (.int .i64 a2),.ae (.string s)],.agg [.ae (.int .i64 b0),.ae (.int .i64 b1),.ae (.int .i64 b2),.ae (.string t)]=>
  (match tab T with
   |some d=>if d.four then(match op with
    | .eql=>some (True,.ae (.bool (a0==b0&&((a1==b1&&a2==b2)&&s.toList==t.toList))))
    | .neq=>some (True,.ae (.bool (!(a0==b0&&((a1==b1&&a2==b2)&&s.toList==t.toList)))))
    |_=>none) else none
   |none=>none)
 |_,_=>none
def IW:List Prop->Prop
 | []=>True
 |p::l=>p/\IW l
def M3 (op:BinOp) (k:IntKind) (a b:Int):Option Int:=
 match op with
 | .and=>some (k.wrap (BitVec.ofInt k.bits a &&& BitVec.ofInt k.bits b).toNat)
 | .or=>some (k.wrap (BitVec.ofInt k.bits a ||| BitVec.ofInt k.bits b).toNat)
 | .xor=>some (k.wrap (BitVec.ofInt k.bits a ^^^ BitVec.ofInt k.bits b).toNat)
 | .andNot=>some (k.wrap (BitVec.ofInt k.bits a &&& ~~~ (BitVec.ofInt k.bits b)).toNat)
 |_=>none
def gy (a b:ByteArray):Bool:=a.toList==b.toList
def strLt (a b:ByteArray):Bool:=Op.bytesLess a.toList b.toList
def A7:AV->Option Bool
 | .ptr _ _=>some false
 | .aJ _ _=>some false
 | .ae (.pointer p)=>some p.isNone
 |_=>none
def KS (tab:Nat->Option TD) (T:Nat) (op:BinOp) (x y:AV):Option (List Prop×AV):=
 match y with
 | .ae (.int k' b)=>(match x with
  | .ae (.int k a)=>if k=k' then(match op with
    | .quo=>some ([¬b=0],.ae (.int k (k.wrap (a.tdiv b))))
    | .rem=>some ([¬b=0],.ae (.int k (a.tmod b)))
    |op=>(M3 op k a b).map fun n=>([],.ae (.int k n))) else none
  |_=>none)
 | .ae (.string b)=>(match x with
  | .ae (.string a)=>(match op with
    | .add=>some ([a.size+b.size<=9223372036854775807],.ae (.string (a++b)))
    | .eql=>some ([],.ae (.bool (gy a b)))
    | .neq=>some ([],.ae (.bool (!(gy a b))))
    | .lss=>some ([],.ae (.bool (strLt a b)))
    | .leq=>some ([],.ae (.bool (strLt a b||gy a b)))
    | .gtr=>some ([],.ae (.bool (!(strLt a b||gy a b))))
    | .geq=>some ([],.ae (.bool (!(strLt a b))))
    |_=>none)
  |_=>none)
 | .ae (.pointer none)=>(match A7 x with
  |some b=>(match tab T with
   |some d=>(match d.kind with
    | .ptr _=>(match op with
     | .eql=>some ([],.ae (.bool b))
     | .neq=>some ([],.ae (.bool (!b)))
     |_=>none)
    |_=>none)
   |none=>none)
  |none=>none)
 |_=>none
theorem GJ {tab:Nat->Option TD} {T:Nat} {op:BinOp} {x y:AV} {p:List Prop×AV} (h:KS tab T op x y=some p):jw tab T op x y=none:=by
 unfold KS at h;split at h
 ·split at h
  ·split at h
   ·rename_i hk;subst hk
    cases op<;>simp[M3] at h<;>simp[jw,A6]
   ·cases h
  ·cases h
 ·split at h
  ·simp[jw]
  ·cases h
 ·unfold jw
  split<;>first|rfl|(rename_i e;cases e)
 ·cases h
def W8:Operand->Bool
 | .const .nilIface=>true
 |_=>false
theorem Tb {y:Operand} (h:W8 y=true):y=.const .nilIface:=by
 unfold W8 at h;split at h
 ·rfl
 ·cases h
def Tc (tab:Nat->Option TD) (T:Nat) (op:BinOp) (x:AV) (y:Operand):Option AV:=
 match W8 y with
 |true=>(match tab T,x with
  |some d,.ae .nilIface=>(match d.kind with
   | .ifc=>(match op with
    | .eql=>some (.ae (.bool true))
    | .neq=>some (.ae (.bool false))
    |_=>none)
   |_=>none)
  |_,_=>none)
 |false=>none
def A8 (tab:Nat->Option TD) (T:Nat) (op:BinOp) (x y:AV):Option (Prop×AV):=
 match jw tab T op x y with
 |some r=>some r
 |none=>(KS tab T op x y).map fun p=>(IW p.1,p.2)
def A9 (tab:Nat->Option TD) (S D:Nat) (x:AV):Option AV:=
 match tab S,tab D,x with
 |some _,some d,.ae (.int _ n)=>(match d.kind with
  | .int k=>some (.ae (.int k (k.wrap n)))
  |_=>none)
 |some _,some d,.ae (.string s)=>(match d.kind with
  | .str=>some (.ae (.string s))
  |_=>none)
 |_,_,_=>none
def dm (b:ByteArray) (n:Int):Int:=(((b.data[n.toNat]?).map UInt8.toNat).getD 0:Nat)
def au {κ:Type} [DecidableEq κ]:List (κ×Value)->κ->Option Value
 | [],_=>none
 |(k,v)::r,a=>if a=k then some v else au r a
def AV.zW (hp:List ab):AV->Option ME
 | .eY es=>some es
 | .mp r=>(match hp[r]? with|some (.bW es)=>some es|_=>none)
 |_=>none
def AV.val?:AV->Option Value
 | .ae v=>some v
 | .agg [.ae a,.ae b,.ae c]=>some (.agg #[a,b,c])
 |_=>none
def gP {κ:Type} [DecidableEq κ] (es:List (κ×Value)) (z:Value) (a:κ) (ok:Bool):AV:=
 if ok=true then .av [uB ((au es a).getD z),.ae (.bool (au es a).isSome)] else uB ((au es a).getD z)
def tJ (hp:List ab) (x:AV):Option AV:=
 match x with
 | .ae (.string s)=>some (.ae (.int .i64 s.size))
 |x=>(x.gN hp).map fun els=>.ae (.int .i64 els.length)
def AV.mm:AV->Bool
 | .ae v=>v.oneCell'
 | .top | .av _ | .fq _ _ _ _=>false
 |_=>true
def wI (n:Nat):List (Nat×Nat×Bool):=(List.range n).map fun i=>(i,1,false)
def da (fs:List (Nat×Nat×Bool)) (cs:List AV):List (Nat×AV)->Option (List AV)
 | []=>some cs
 |(i,x)::rest=>
  match fs[i]? with
  |some p=>if x.cells.length=p.2.1/\p.1+p.2.1<=cs.length/\x.mm=true then da fs (setCells cs p.1 x.cells) rest else none
  |none=>none
def rT:Nat->List (Nat×Operand)->Bool
 |_,[]=>true
 |k,(i,_)::r=>i==k&&rT (k+1) r
def qV (size:Nat):List AV->Prop
 | []=>True
 |x::xs=>(x.cells.length=size/\x.mm=true)/\qV size xs
def bI (ρ:Operand->AV) (d:Int):Option Operand->Option Int
 |none=>some d
 |some x=>(match ρ x with | .ae (.int _ n)=>some n|_=>none)
def tK (hp:List ab):AV->Option (Nat×Nat×Nat×Nat×Nat)
 | .own r m=>(match hp[r]? with
  |some (.aQ e size els)=>some (r,m,e,size,els.length)
  |_=>none)
 |_=>none
def bo (tab:Nat->Option TD) (hp:List ab) (ρ:Operand->AV):Op->Option (Prop×AV)
 | .move x=>some (True,ρ x)
 | .assign x=>some (True,ρ x)
 | .nilCheck x=>(match ρ x with
  | .ptr r o=>some (True,.ptr r o)
  | .aJ e o=>some (True,.aJ e o)
  |_=>none)
 | .pick c x y=>(match ρ c with
  | .ae (.bool t)=>some (True,if t=true then ρ x else ρ y)
  |_=>none)
 | .fieldAddr T x f=>(match (fieldsOf tab T)[f]? with
  |some p=>if p.2.1=0 then none else(match ρ x with
   | .ptr r o=>some (True,.ptr r (o+p.1))
   | .aJ e o=>some (True,.aJ e (o+p.1))
   | .fq r m i z=>if p.1=0 then some (True,.fq r m i z) else none
   |_=>none)
  |none=>none)
 | .load T x=>(match tab T with
  |some d=>(match ρ x with
   | .ptr r o=>(match hp[r]? with
    |some (.box cs)=>(fx d.kind.agg d.size cs o).map fun v=>(True,v)
    |_=>none)
   | .aJ e o=>(wH d.kind.agg d.size e o).map fun v=>(True,v)
   | .fq r m i z=>(match hp[r]? with
    |some (.aQ _ z' els)=>if z'=z/\d.size=z then some (m=els.length/\i<els.length/\(els.getD i .top).isAgg=d.kind.agg,els.getD i .top) else none
    |_=>none)
   |_=>none)
  |none=>none)
 | .indexAddr T x i=>(match tab T with
  |some d=>(match d.kind with
   | .kC e=>(match tab e,(ρ x).gN hp,ρ i with
    |some d',some els,.ae (.int _ n)=>some (0<=n/\n<els.length/\(els.getD n.toNat .top).cells.length=d'.size,.aJ (els.getD n.toNat .top) 0)
    |some d',none,.ae (.int _ n)=>(match tK hp (ρ x) with
     |some (r,m,e',size,k)=>if e'=e/\size=d'.size then some (0<=n/\n<m/\m=k,.fq r m n.toNat size) else none
     |none=>none)
    |_,_,_=>none)
   | .arr m=>(match ρ x,ρ i with
    | .ptr r 0,.ae (.int _ n)=>some (0<=n/\n<m,.ptr r n.toNat)
    | .aJ e 0,.ae (.int _ n)=>some (0<=n/\n<m,.aJ e n.toNat)
    |_,_=>none)
   |_=>none)
  |none=>none)
 | .binOp op T x y _=>(match Tc tab T op (ρ x) y with
  |some v=>some (True,v)
  |none=>A8 tab T op (ρ x) (ρ y))
 | .convert S D x=>(A9 tab S D (ρ x)).map fun v=>(True,v)
 | .unOp op _ x=>(match op,ρ x with
  | .not,.ae (.bool b)=>some (True,.ae (.bool (!b)))
  | .neg,.ae (.int k n)=>some (True,.ae (.int k (k.wrap (0-n))))
  |_,_=>none)
 | .build T parts=>(match tab T with
  |some d=>(match d.kind with
   | .bj fs=>(da fs (d.zero.cells.toList.map .ae) (parts.toList.map fun p=>(p.1,ρ p.2))).map fun cs=>(True,.agg cs)
   | .arr n=>(da (wI n) (d.zero.cells.toList.map .ae) (parts.toList.map fun p=>(p.1,ρ p.2))).map fun cs=>(True,.agg cs)
   |_=>none)
  |none=>none)
 | .buildSlice T n parts=>(match tab T with
  |some d=>(match d.kind with
   | .kC e=>(match tab e with
    |some d'=>if n=parts.toList.length/\rT 0 parts.toList=true/\n<=16777216/\n*d'.size<=16777216 then some (qV d'.size (parts.toList.map fun p=>(ρ p.2).bl hp),.clip (parts.toList.map fun p=>(ρ p.2).bl hp)) else none
    |none=>none)
   |_=>none)
  |none=>none)
 | .slice T x lo hi mx=>(match tab T with
  |some d=>(match d.kind,ρ x with
   | .str,.ae (.string b)=>(match mx,bI ρ 0 lo,bI ρ b.size hi with
    |none,some l,some h=>some (0<=l/\l<=h/\h<=b.size,.ae (.string (b.extract l.toNat h.toNat)))
    |_,_,_=>none)
   | .kC e,v=>(match v.gN hp,tab e with
    |some els,some d'=>(match bI ρ 0 lo,bI ρ els.length hi,mx.map fun m=>bI ρ 0 (some m) with
     |some l,some h,none=>some (0<=l/\l<=h/\h<=els.length/\(∀y:AV,y∈els->y.cells.length=d'.size),.sl ((els.take h.toNat).drop l.toNat))
     |some l,some h,some (some m)=>if hi.isSome=true then some (0<=l/\l<=h/\h=m/\h<=els.length/\(∀y:AV,y∈els->y.cells.length=d'.size),.clip ((els.take h.toNat).drop l.toNat)) else none
     |_,_,_=>none)
    |_,_=>none)
   |_,_=>none)
  |none=>none)
 | .field T x f=>(match (fieldsOf tab T)[f]?,ρ x with
  |some p,.agg cs=>if p.2.2=true\/p.2.1=1 then(fx p.2.2 p.2.1 cs p.1).map fun v=>(True,v) else none
  |_,_=>none)
 | .lookup T m k ok=>(match tab T,(ρ m).zW hp,ρ k with
  |some d,some (.i es),.ae (.int .i64 a)=>(match d.kind with
   | .oy kt et=>(match tab kt,tab et with
    |some dk,some de=>(match dk.kind with
     | .int _=>some (True,gP es de.zero a ok)
     |_=>none)
    |_,_=>none)
   |_=>none)
  |some d,some (.s es),.ae (.string a)=>(match d.kind with
   | .oy kt et=>(match tab kt,tab et with
    |some dk,some de=>(match dk.kind with
     | .str=>some (True,gP es de.zero a ok)
     |_=>none)
    |_,_=>none)
   |_=>none)
  |_,_,_=>none)
 | .index T x i=>(match tab T,ρ x,ρ i with
  |some d,.ae (.string b),.ae (.int _ n)=>(match d.kind with
   | .str=>some (0<=n/\n<b.size,.ae (.int .u8 (dm b n)))
   |_=>none)
  |_,_,_=>none)
 | .extract x i=>(match ρ x with
  | .av vs=>(vs[i]?).map fun v=>(True,v)
  |_=>none)
 | .makeFunc (.func f) first caps=>if first.size=0 then some (True,.bf f (caps.toList.map ρ)) else if caps.size=0 then some (True,.cB f (first.toList.map ρ)) else none
 | .call c=>(match c.callee,c.args.toList with
  | .builtin .len,[x]=>(match (c.argTypes[0]?).bind tab with
   |some d=>(match d.kind,ρ x with
    | .kC _,.ae (.string _)=>none
    | .kC _,v=>(match tJ hp v with
     |some u=>some (True,u)
     |none=>(match tK hp v with
      |some (_,m,_,_,k)=>some (m=k,.ae (.int .i64 (m:Nat)))
      |none=>none))
    | .str,.ae (.string b)=>some (True,.ae (.int .i64 b.size))
    |_,_=>none)
   |none=>none)
  | .builtin .min,[x,y]=>(match ρ x,ρ y with
   | .ae (.int k m),.ae (.int _ n)=>some (True,.ae (.int k (if n<m then n else m)))
   |_,_=>none)
  | .builtin .max,[x,y]=>(match ρ x,ρ y with
   | .ae (.int k m),.ae (.int _ n)=>some (True,.ae (.int k (if n>m then n else m)))
   |_,_=>none)
  |_,_=>none)
 |_=>none
def fE (Γ:Env G) (o:Oper) (s:AS G) (r:AV):Prop:=
 ∀a w η,Rel Γ s a w η->∃v w',(execOp a.eval o).run Γ.P w=.ok (.value v) w'/\bD w w'/\ba w' (aW Γ w' η s.hp) η s.hp r v
theorem aH {o:Oper} {r:AV} (h:∀a w η,Rel Γ s a w η->∃v,(execOp a.eval o).run Γ.P w=.ok (.value v) w/\ba w (aW Γ w η s.hp) η s.hp r v):fE Γ o s r:=
 fun a w η hr=>let ⟨v,h1,h2⟩:=h a w η hr;⟨v,w,h1,bD.refl w,h2⟩
theorem ba.aj {u v:Value} (h:ba w F η hp (.ae u) v):v=u:=by cases h;rfl
theorem ba.Td {x:AV} {u v:Value} (h:ba w F η hp x v) (hx:x.val?=some u):v=u:=by
 unfold AV.val? at hx;split at hx
 ·obtain rfl:=alj hx;exact h.aj
 ·obtain rfl:=alj hx
  cases h with
  |agg cs vs hl h1 hr=>
   obtain⟨l⟩:=vs
   match l,hl with
   | [x,y,z],_=>
    obtain rfl:x=_:=(hr 0 _ x rfl rfl).aj;obtain rfl:y=_:=(hr 1 _ y rfl rfl).aj;obtain rfl:z=_:=(hr 2 _ z rfl rfl).aj;rfl
 ·cases hx
theorem eM {agg:Bool} {size:Nat} {cs:List AV} {o:Nat} {r:AV} (bO:agg=false->size=1) {vs:List Value} (hl:vs.length=cs.length) (hr:∀(j:Nat) (x:AV) (u:Value),cs[j]?=some x->vs[j]?=some u->ba w F η hp x u/\u.oneCell'=true)
  (h:fx agg size cs o=some r):o+size<=vs.length/\ba w F η hp r (if agg then .agg ((vs.drop o).take size).toArray else((vs.drop o).take size).headD undef):=by
 unfold fx at h
 cases agg with
 |true=>
  simp only[if_true] at h ⊢;split at h
  ·rename_i hle;obtain rfl:=alj h;refine⟨by omega,.agg _ _ (by simp;omega) (fun v hv=>?_) fun j x v hx hv=>?_⟩
   ·have Mz:v∈(vs.drop o).take size:=by simpa using hv
    obtain⟨k,hk⟩:=amz Mz;rw[alz] at hk;split at hk
    ·rw[amo] at hk;have aq:o+k<vs.length:=(ali.1 hk).1;exact(hr (o+k) (cs[o+k]'(by omega)) v (by simp) hk).2
    ·cases hk
   ·have Mz:((vs.drop o).take size)[j]?=some v:=by simpa using hv
    rw[alz] at hx Mz;split at hx
    ·rename_i hj;rw[if_pos hj,amo] at Mz;rw[amo] at hx;exact(hr (o+j) x v hx Mz).1
    ·cases hx
  ·cases h
 |false=>
  simp only[alx,if_false] at h ⊢;have aq:o<cs.length:=(ali.1 h).1;have h1:=bO rfl;subst h1;refine⟨by omega,?_⟩;have hv:vs[o]?=some (vs[o]'(by omega)):=by simp
  have:((vs.drop o).take 1).headD undef=vs[o]'(by omega):=by
   rw[List.headD_eq_head?_getD,List.head?_eq_getElem?,alz,if_pos (by omega),amo];simp only[amh];rw[hv];rfl
  rw[this];exact(hr o r _ h hv).1
theorem kG {T:TypeId} {d:TD} (ht:eZ P T d) {b o:Nat} {vs:List Value} (hc:∀(j:Nat) (u:Value),vs[j]?=some u->w.cell? ⟨b,j,none⟩=some u) (hle:o+d.size<=vs.length):
  (loadVar T ⟨b,o,none⟩).run P w=.ok (if d.kind.agg then .agg ((vs.drop o).take d.size).toArray else((vs.drop o).take d.size).headD undef) w:=by
 refine ht.run_load (vs:=(vs.drop o).take d.size) (by simp;omega) fun j u hj=>?_;rw[alz] at hj;split at hj
 ·rw[amo] at hj;exact hc _ _ hj
 ·cases hj
theorem tL {b:Nat} {vs:Array Value} {T:TypeId} (hg:w.heap[b]?=some (.cells vs T (0,0))) (j:Nat) (u:Value) (hj:vs.toList[j]?=some u):w.cell? ⟨b,j,none⟩=some u:=by
 rw[cell_of_row w b j vs T (0,0) hg];simpa using hj
theorem aL.sz {tab:Nat->Option TD} (ah:aL P tab) {T:Nat} {d:TD} (h:tab T=some d):d.kind.agg=false->d.size=1:=fun h1=>((ah T d h).V0 h1).1
theorem zX {tab:Nat->Option TD} (ah:aL Γ.P tab) {o:Oper} {T:Nat} {x:Operand} (ho:o.op=.load T x) {d:TD} (hd:tab T=some d) {r:AV}
  (h:(∃n off cs,s.ev x=.ptr n off/\s.hp[n]?=some (.box cs)/\fx d.kind.agg d.size cs off=some r)\/(∃e off,s.ev x=.aJ e off/\wH d.kind.agg d.size e off=some r)):fE Γ o s r:=by
 refine aH fun a w η hr=>?_;have hx:=hr.ev x;have dZ:=ah T d hd;rcases h with⟨n,off,cs,he,hn,YG⟩|⟨e,off,he,YG⟩
 ·rw[he] at hx
  cases wJ:a.eval x<;>rw[wJ] at hx<;>cases hx
  rename_i b eP;obtain⟨b',vs,T',hb,hg,bO,hc⟩:=hr.heap.obj n _ _ hn eP;simp only[Value.pointer.injEq,alh,Addr.mk.injEq,and_true] at hb;subst hb;obtain⟨h1,h2⟩:=eM (w:=w) (F:=aW Γ w η s.hp) (η:=η) (hp:=s.hp) (ah.sz hd) (vs:=vs.toList) (by simpa using bO) (fun j x u hx hu=>hc j x u hx (by simpa using hu)) YG;refine⟨_,?_,h2⟩;simp only[execOp,ho,wJ,Instr.loadAt,Instr.sureAddr,Sem.run_bind,Sem.run_pure,Result.andThen_ok];rw[kG dZ (tL hg) h1];rfl
 ·rw[he] at hx
  cases wJ:a.eval x<;>rw[wJ] at hx<;>cases hx
  rename_i b o f aA dG;have cY:∀(j:Nat) (x:AV) (u:Value),e.cells[j]?=some x->((List.range e.cells.length).map f)[j]?=some u->ba w (aW Γ w η s.hp) η s.hp x u/\u.oneCell'=true:=by
   intro j x u hx hu;have aq:=(ali.1 hx).1;rw[alu,am4 aq] at hu;obtain rfl:=alj hu;exact⟨(dG j x hx).lift,(aA j x hx).2.2⟩
  have gO:∀(j:Nat) (u:Value),((List.range e.cells.length).map f)[j]?=some u->w.cell? ⟨b,o+j,none⟩=some u:=by
   intro j u hj;rw[alu] at hj
   by_cases aq:j<e.cells.length
   ·rw[am4 aq] at hj;obtain rfl:=alj hj;exact(aA j _ (ali.2 ⟨aq,rfl⟩)).1
   ·rw[alU (by simp;omega)] at hj;cases hj
  have key:off+d.size<=e.cells.length/\ba w (aW Γ w η s.hp) η s.hp r (if d.kind.agg then .agg ((((List.range e.cells.length).map f).drop off).take d.size).toArray else((((List.range e.cells.length).map f).drop off).take d.size).headD undef):=by
   unfold wH at YG;split at YG
   ·rename_i hc;obtain⟨rfl,hlen,bY⟩:=hc;obtain rfl:=alj YG;refine⟨by omega,?_⟩
    cases hk:d.kind.agg with
    |true=>
     rw[hk] at bY
     cases e<;>simp only[AV.isAgg] at bY<;>try (cases bY;done)
     rename_i cs;have rU:cs.length=d.size:=hlen;have:=(eM (w:=w) (F:=aW Γ w η s.hp) (η:=η) (hp:=s.hp) (agg:=true) (size:=d.size) (cs:=cs) (o:=0) (r:=.agg cs) (fun h=>by cases h) (vs:=(List.range cs.length).map f) (by simp) cY (by simp[fx,<-rU])).2;simpa [AV.cells] using this
    |false=>
     have h1:=ah.sz hd hk;have GK:e.cells=[e]:=by
      rw[hk] at bY
      cases e<;>first|rfl|(simp[AV.isAgg] at bY)
     have:=(eM (w:=w) (F:=aW Γ w η s.hp) (η:=η) (hp:=s.hp) (agg:=false) (size:=d.size) (cs:=e.cells) (o:=0) (r:=e) (fun _=>h1) (vs:=(List.range e.cells.length).map f) (by simp) cY (by rw[GK];rfl)).2;simpa using this
   ·have:=eM (w:=w) (F:=aW Γ w η s.hp) (η:=η) (hp:=s.hp) (ah.sz hd) (vs:=(List.range e.cells.length).map f) (by simp) cY YG;simpa using this
  refine⟨_,?_,key.2⟩;simp only[execOp,ho,wJ,Instr.loadAt,Instr.sureAddr,Sem.run_bind,Sem.run_pure,Result.andThen_ok];rw[dZ.run_load (vs:=(((List.range e.cells.length).map f).drop off).take d.size) (by simp;omega) (fun j u hj=>by
   rw[alz] at hj;split at hj
   ·rw[amo] at hj;have:=gO _ _ hj;rw[amV];exact this
   ·cases hj)]
  rfl
end
section
variable {G:Type} {Γ:Env G} {s:AS G} {a:Act} {w w':World} {η:List Value} {hp:List ab} {F:Nat->Nat->Prop} {P:Program}
theorem nj {tab:Nat->Option TD} {T:Nat} {f:Nat} {p:Nat×Nat×Bool} (h:(fieldsOf tab T)[f]?=some p):∃d fs,tab T=some d/\d.kind=.bj fs/\fs[f]?=some p:=by
 unfold fieldsOf at h;split at h
 ·rename_i d hd;split at h
  ·rename_i fs hk;exact⟨d,fs,hd,hk,h⟩
  ·simp at h
 ·simp at h
theorem eZ.field {T:Nat} {d:TD} (h:eZ P T d) {fs:List (Nat×Nat×Bool)} (hk:d.kind=.bj fs) {f:Nat} {p:Nat×Nat×Bool} (hf:fs[f]?=some p):
  ∃fields fd i u,P.underlying T=some (.struct fields)/\fields[f]?=some fd/\fd.offset=p.1/\P.info? fd.type=some i/\i.size=p.2.1/\P.underlying fd.type=some u/\MY u=p.2.2:=by
 obtain⟨u,h1,h2⟩:=h.lj;rw[hk] at h2;obtain⟨fields,rfl,h3⟩:=h2;have h4:=congrArg (·[f]?) h3;simp only[alu,hf,alN,Array.getElem?_toList] at h4
 cases hfd:fields[f]? with
 |none=>rw[hfd] at h4;cases h4
 |some fd=>
  rw[hfd] at h4;simp only[alN,alh,alk] at h4;obtain⟨e1,e2,e3⟩:=h4
  cases hi:P.info? fd.type with
  |none=>rw[hi] at e2;cases e2
  |some i=>
   cases hu:P.underlying fd.type with
   |none=>rw[hu] at e3;cases e3
   |some u=>
    rw[hi] at e2;rw[hu] at e3;exact⟨fields,fd,i,u,h1,hfd,e1,hi,by simpa using e2,hu,by simpa using e3⟩
theorem oH {tab:Nat->Option TD} (ah:aL Γ.P tab) {o:Oper} {T f:Nat} {x:Operand} (ho:o.op=.fieldAddr T x f) {p:Nat×Nat×Bool} (hp:(fieldsOf tab T)[f]?=some p) (h0:p.2.1≠0) {r:AV}
  (h:(∃n off,s.ev x=.ptr n off/\r=.ptr n (off+p.1))\/(∃e off,s.ev x=.aJ e off/\r=.aJ e (off+p.1))):fE Γ o s r:=by
 refine aH fun a w η hr=>?_;have hx:=hr.ev x;obtain⟨d,fs,hd,hk,hf⟩:=nj hp;obtain⟨fields,fd,i,u,h1,h2,h3,h4,h5,_⟩:=(ah T d hd).field hk hf;have h6:¬i.size=0:=by rw[h5];exact h0
 rcases h with⟨n,off,he,rfl⟩|⟨e,off,he,rfl⟩<;>rw[he] at hx
 ·cases wJ:a.eval x<;>rw[wJ] at hx<;>cases hx
  rename_i b eP;exact⟨.pointer (some ⟨b,off+p.1,none⟩),by simp[execOp,ho,wJ,Instr.fieldAt,run_underlying h1,h2,Instr.sureAddr,fieldPlace,sizeOf,typeInfo,h4,h6,h3,Addr.add_lit],.ptr n _ b eP⟩
 ·cases wJ:a.eval x<;>rw[wJ] at hx<;>cases hx
  rename_i b o f' aA dG;refine⟨.pointer (some ⟨b,o+off+p.1,none⟩),by simp[execOp,ho,wJ,Instr.fieldAt,run_underlying h1,h2,Instr.sureAddr,fieldPlace,sizeOf,typeInfo,h4,h6,h3,Addr.add_lit],?_⟩;rw[amV];exact .aJ e _ b o f' aA dG
theorem vy {tab:Nat->Option TD} (ah:aL Γ.P tab) {o:Oper} {T f:Nat} {x:Operand} (ho:o.op=.fieldAddr T x f) {p:Nat×Nat×Bool} (hp:(fieldsOf tab T)[f]?=some p) (h0:p.2.1≠0) {r m i z:Nat}
  (he:s.ev x=.fq r m i z) (hz:p.1=0):fE Γ o s (.fq r m i z):=by
 refine aH fun a w η hr=>?_;have hx:=hr.ev x;obtain⟨d,fs,hd,hk,hf⟩:=nj hp;obtain⟨fields,fd,i',u,h1,h2,h3,h4,h5,_⟩:=(ah T d hd).field hk hf;have h6:¬i'.size=0:=by rw[h5];exact h0
 rw[he] at hx
 cases wJ:a.eval x<;>rw[wJ] at hx<;>cases hx
 rename_i b o' c k CW;exact⟨.pointer (some ⟨b,o'+i*z,none⟩),by simp[execOp,ho,wJ,Instr.fieldAt,run_underlying h1,h2,Instr.sureAddr,fieldPlace,sizeOf,typeInfo,h4,h6,h3,Addr.add_lit,hz],.fq r m i z b o' c k CW⟩
theorem GL {tab:Nat->Option TD} (ah:aL Γ.P tab) {o:Oper} {T:Nat} {x:Operand} (ho:o.op=.load T x) {d:TD} (hd:tab T=some d) {r m i z e:Nat} {els:List AV} (he:s.ev x=.fq r m i z) (qp:s.hp[r]?=some (.aQ e z els))
  (hm:m=els.length) (C2:d.size=z) (hi:i<els.length) (bY:els[i].isAgg=d.kind.agg):fE Γ o s els[i]:=by
 refine aH fun a w η hr=>?_;have hx:=hr.ev x;have dZ:=ah T d hd;rw[he] at hx
 cases wJ:a.eval x<;>rw[wJ] at hx<;>cases hx
 rename_i b o' c k CW;have wK:=CW;unfold aR at wK;rw[qp] at wK;have eP:=wK.2 hm;obtain⟨V3,xs,ea,fb⟩:=hr.heap.obj r _ _ qp eP;rcases ea.2 with⟨h0,_⟩|⟨g,cap,cur,hve,h0,⟨C3,zY,hg⟩,Gz,GA,gO,od⟩
 ·omega
 simp only[Value.slice.injEq,alh,Addr.mk.injEq,and_true] at hve;obtain⟨⟨rfl,rfl⟩,W9,rfl⟩:=hve;have zd:=fb i els[i] (alo hi);have aA:(i+1)*z<=els.length*z:=al6 _ hi;rw[amj,Nat.one_mul] at aA;have Te:((xs.drop (i*z)).take z).length=z:=by rw[amf,alX,ea.1];omega
 have dA:∀(j:Nat) (u:Value),((xs.drop (i*z)).take z)[j]?=some u->j<z/\xs[i*z+j]?=some u:=by
  intro j u hj;rw[alz] at hj;split at hj
  ·rename_i aq;rw[amo] at hj;exact⟨aq,hj⟩
  ·cases hj
 have cY:∀(j:Nat) (y:AV) (u:Value),els[i].cells[j]?=some y->((xs.drop (i*z)).take z)[j]?=some u->ba w (aW Γ w η s.hp) η s.hp y u/\u.oneCell'=true:=by
  intro j y u hy hu;obtain⟨_,h2⟩:=dA j u hu;obtain⟨u',q1,q2,q3⟩:=zd.2 j y hy;rw[h2] at q1;obtain rfl:=alj q1;exact⟨q2.lift,q3⟩
 have aey:∀(j:Nat) (u:Value),((xs.drop (i*z)).take z)[j]?=some u->w.cell? ⟨b,0+i*z+j,none⟩=some u:=by
  intro j u hj;obtain⟨h1,h2⟩:=dA j u hj;rw[<-od,alz] at h2;split at h2
  ·rw[cell_of_row w b (0+i*z+j) cur e (0,C3) hg,alM];simpa using h2
  ·cases h2
 have key:ba w (aW Γ w η s.hp) η s.hp els[i] (if d.kind.agg then .agg ((xs.drop (i*z)).take z).toArray else((xs.drop (i*z)).take z).headD undef):=by
  have hlen:=zd.1;generalize els[i]=el at bY hlen cY
  cases hk:d.kind.agg with
  |true=>
   rw[hk] at bY
   cases el<;>simp only[AV.isAgg] at bY<;>try (cases bY;done)
   rename_i cs;have rU:cs.length=z:=hlen;have:=(eM (w:=w) (F:=aW Γ w η s.hp) (η:=η) (hp:=s.hp) (agg:=true) (size:=z) (cs:=cs) (o:=0) (r:=.agg cs) (fun h=>by cases h) (vs:=(xs.drop (i*z)).take z) (by rw[Te,rU]) cY (by simp[fx,<-rU])).2;simpa [List.take_take] using this
  |false=>
   have h1:=ah.sz hd hk;have GK:el.cells=[el]:=by
    rw[hk] at bY
    cases el<;>first|rfl|(simp[AV.isAgg] at bY)
   have:=(eM (w:=w) (F:=aW Γ w η s.hp) (η:=η) (hp:=s.hp) (agg:=false) (size:=z) (cs:=el.cells) (o:=0) (r:=el) (fun _=>by rw[<-C2];exact h1) (vs:=(xs.drop (i*z)).take z) (by rw[Te,hlen]) cY (by rw[GK];rfl)).2;simpa [<-C2,h1,List.take_take] using this
 refine⟨_,?_,key⟩;simp only[execOp,ho,wJ,Instr.loadAt,Instr.sureAddr,Sem.run_bind,Sem.run_pure,Result.andThen_ok];rw[dZ.run_load (vs:=(xs.drop (i*z)).take z) (by rw[Te,C2]) aey];rfl
theorem wL {tab:Nat->Option TD} (ah:aL Γ.P tab) {o:Oper} {T e:Nat} {x i:Operand} (ho:o.op=.indexAddr T x i) {d d':TD} (hd:tab T=some d) (hk:d.kind=.kC e) (dy:tab e=some d') {els:List AV} (fb:(s.ev x).gN s.hp=some els)
  {k:IntKind} {n:Int} (hi:s.ev i=.ae (.int k n)) (h0:0<=n) (h1:n<els.length) (bO:(els.getD n.toNat .top).cells.length=d'.size):fE Γ o s (.aJ (els.getD n.toNat .top) 0):=by
 refine aH fun a w η hr=>?_;have hx:=kD hr.heap hr.bN (hr.ev x) fb;have GM:=hr.ev i;rw[hi] at GM;have Tf:=GM.aj;have hu:Γ.P.underlying T=some (.slice e):=by
  obtain⟨u,h2,h3⟩:=(ah T d hd).lj;rw[hk] at h3;rw[h2];exact congrArg some h3
 have aq:n.toNat<els.length:=by omega
 have dA:els[n.toNat]?=some (els.getD n.toNat .top):=by simp[List.getD,aq]
 generalize tB:a.eval x=vx at hx
 cases hx with
 |oc=>simp at aq
 |sl size els b off c f hc hm hl aA dG=>
  have hs:size=d'.size:=by rw[<-hl _ _ dA];exact bO
  subst hs;obtain⟨i0,C3,iK,_⟩:=(ah e d' dy).info;refine⟨.pointer (some ⟨b,off+n.toNat*d'.size,none⟩),?_,.aJ _ 0 b (off+n.toNat*d'.size) (f n.toNat) (fun j x hj=>aA _ _ _ _ dA hj) (fun j x hj=>dG _ _ _ _ dA hj)⟩;have hb:0<=n/\n<(els.length:Int):=⟨h0,h1⟩;simp[execOp,ho,tB,Tf,Instr.indexAt,asIntOf,run_underlying hu,hb,sizeOf,typeInfo,C3,iK,Addr.add_lit]
theorem vz {tab:Nat->Option TD} (ah:aL Γ.P tab) {o:Oper} {T m:Nat} {x i:Operand} (ho:o.op=.indexAddr T x i) {d:TD} (hd:tab T=some d) (hk:d.kind=.arr m) {r:Nat} (hx:s.ev x=.ptr r 0)
  {k:IntKind} {n:Int} (hi:s.ev i=.ae (.int k n)) (h0:0<=n) (h1:n<m):fE Γ o s (.ptr r n.toNat):=by
 refine aH fun a w η hr=>?_;have eo:=hr.ev x;rw[hx] at eo;have GM:=hr.ev i;rw[hi] at GM;have Tf:=GM.aj;obtain⟨u,h2,h3⟩:=(ah T d hd).lj;rw[hk] at h3;obtain⟨e,i0,rfl,C3,iK⟩:=h3;generalize tB:a.eval x=vx at eo
 cases eo with
 |ptr _ _ b eP=>
  refine⟨.pointer (some ⟨b,n.toNat,none⟩),?_,.ptr _ _ b eP⟩;have hb:0<=n/\n<(m:Int):=⟨h0,h1⟩;simp[execOp,ho,tB,Tf,Instr.indexAt,asIntOf,run_underlying h2,hb,sizeOf,typeInfo,C3,iK,Addr.add_lit,Instr.sureAddr]
theorem vA {tab:Nat->Option TD} (ah:aL Γ.P tab) {o:Oper} {T m:Nat} {x i:Operand} (ho:o.op=.indexAddr T x i) {d:TD} (hd:tab T=some d) (hk:d.kind=.arr m) {e:AV} (hx:s.ev x=.aJ e 0)
  {k:IntKind} {n:Int} (hi:s.ev i=.ae (.int k n)) (h0:0<=n) (h1:n<m):fE Γ o s (.aJ e n.toNat):=by
 refine aH fun a w η hr=>?_;have eo:=hr.ev x;rw[hx] at eo;have GM:=hr.ev i;rw[hi] at GM;have Tf:=GM.aj;obtain⟨u,h2,h3⟩:=(ah T d hd).lj;rw[hk] at h3;obtain⟨e',i0,rfl,C3,iK⟩:=h3;generalize tB:a.eval x=vx at eo
 cases eo with
 |aJ _ _ b q f aA SR=>
  refine⟨.pointer (some ⟨b,q+n.toNat,none⟩),?_,.aJ _ _ b q f aA SR⟩;have hb:0<=n/\n<(m:Int):=⟨h0,h1⟩;simp[execOp,ho,tB,Tf,Instr.indexAt,asIntOf,run_underlying h2,hb,sizeOf,typeInfo,C3,iK,Addr.add_lit,Instr.sureAddr]
theorem pU {hp:List ab} {x:AV} {r m e size k:Nat} (h:tK hp x=some (r,m,e,size,k)):x=.own r m/\∃els,hp[r]?=some (.aQ e size els)/\k=els.length:=by
 unfold tK at h;split at h
 ·split at h
  ·rename_i hr;simp only[alh,alk] at h;obtain⟨rfl,rfl,rfl,rfl,rfl⟩:=h;exact⟨rfl,_,hr,rfl⟩
  ·cases h
 ·cases h
theorem vB {tab:Nat->Option TD} (ah:aL Γ.P tab) {o:Oper} {T e:Nat} {x i:Operand} (ho:o.op=.indexAddr T x i) {d d':TD} (hd:tab T=some d) (hk:d.kind=.kC e) (dy:tab e=some d') {r m:Nat} {els:List AV} (hx:s.ev x=.own r m) (qp:s.hp[r]?=some (.aQ e d'.size els)) (hm:m=els.length)
  {k:IntKind} {n:Int} (hi:s.ev i=.ae (.int k n)) (h0:0<=n) (h1:n<m):fE Γ o s (.fq r m n.toNat d'.size):=by
 refine aH fun a w η hr=>?_;have eo:=hr.ev x;rw[hx] at eo;have GM:=hr.ev i;rw[hi] at GM;have Tf:=GM.aj;have hu:Γ.P.underlying T=some (.slice e):=by
  obtain⟨u,h2,h3⟩:=(ah T d hd).lj;rw[hk] at h3;rw[h2];exact congrArg some h3
 generalize tB:a.eval x=vx at eo
 cases eo with
 |own _ _ _ zk CW=>
  have wK:=CW;unfold aR at wK;rw[qp] at wK;have eP:=wK.2 hm;obtain⟨MC,xs,ea,_⟩:=hr.heap.obj r _ _ qp eP;rcases ea.2 with⟨hz,_⟩|⟨g,cap,cur,rfl,_⟩
  ·omega
  ·rw[<-hm] at CW tB;obtain⟨i0,C3,iK,_⟩:=(ah e d' dy).info;refine⟨.pointer (some ⟨g,0+n.toNat*d'.size,none⟩),?_,.fq r m n.toNat d'.size g 0 cap m CW⟩;have hb:0<=n/\n<(m:Int):=⟨h0,h1⟩;simp[execOp,ho,tB,Tf,Instr.indexAt,asIntOf,run_underlying hu,hb,sizeOf,typeInfo,C3,iK,Addr.add_lit]
theorem GN {tab:Nat->Option TD} (ah:aL Γ.P tab) {o:Oper} {T T':Nat} {op:BinOp} {x y:Operand} (ho:o.op=.binOp op T x y T') {c:Prop} {r:AV} (h:jw tab T op (s.ev x) (s.ev y)=some (c,r)) (_hc:c):fE Γ o s r:=by
 refine aH fun a w η hr=>?_;have hx:=hr.ev x;have hy:=hr.ev y;unfold jw at h;split at h
 ·rename_i k m k' n e1 e2;rw[e1] at hx;rw[e2] at hy;have mg:=hx.aj;have Ba:=hy.aj;split at h
  ·rename_i hkk;subst hkk;unfold A6 at h
   split at h<;>first
    |cases h;done
    |(simp only[alh,alk] at h;obtain⟨_,rfl⟩:=h;exact⟨_,by simp[execOp,ho,mg,Ba,eqGuard,binOp,Op.intArith,Op.intCmp];try rfl,.ae _⟩)
  ·cases h
 ·rename_i b1 b2 e1 e2;rw[e1] at hx;rw[e2] at hy;have mg:=hx.aj;have Ba:=hy.aj;split at h
  ·rename_i d hd;obtain⟨u,h2,h3⟩:=(ah T d hd).lj;split at h
   ·rename_i hk;rw[hk] at h3;have hu:Γ.P.underlying T=some .bool:=by rw[h2];exact congrArg some h3
    simp only[alh,alk] at h;obtain⟨_,rfl⟩:=h;have he:(Op.equal T (.bool b1) (.bool b2)).run Γ.P w=.ok (b1==b2) w:=run_equalIn_bool' w 9999 T b1 b2 hu;refine⟨_,?_,.ae _⟩;simp only[execOp,ho,mg,Ba,eqGuard,binOp,Sem.run_bind,aml,alx,if_false,he,Result.andThen_ok,Sem.run_pure]
   ·rename_i hk;rw[hk] at h3;have hu:Γ.P.underlying T=some .bool:=by rw[h2];exact congrArg some h3
    simp only[alh,alk] at h;obtain⟨_,rfl⟩:=h;have he:(Op.equal T (.bool b1) (.bool b2)).run Γ.P w=.ok (b1==b2) w:=run_equalIn_bool' w 9999 T b1 b2 hu;refine⟨_,?_,.ae _⟩;simp only[execOp,ho,mg,Ba,eqGuard,binOp,Sem.run_bind,aml,alx,if_false,he,Result.andThen_ok,Sem.run_pure]
   ·cases h
  ·cases h
 ·rename_i a1 a2 b1 b2 e1 e2;rw[e1] at hx;rw[e2] at hy;have M4:∀{m1 m2:Int} {v:Value},ba w (aW Γ w η s.hp) η s.hp (.agg [.ae (.int .i64 m1),.ae (.int .i64 m2)]) v->v=.agg #[.int .i64 m1,.int .i64 m2]:=by
   intro m1 m2 v hv
   cases hv with
   |agg cs vs hl h1 hr=>
    obtain⟨vs⟩:=vs
    match vs,hl with
    | [u1,u2],_=>
     have q1:=(hr 0 _ u1 rfl rfl).aj;have q2:=(hr 1 _ u2 rfl rfl).aj;rw[q1,q2]
  have mg:=M4 hx;have Ba:=M4 hy;split at h
  ·rename_i d hd;split at h
   ·rename_i hfl;obtain⟨g1,g2⟩:=(ah T d hd).feq hfl;split at h
    ·simp only[alh,alk] at h;obtain⟨_,rfl⟩:=h;refine⟨.bool (a1==b1&&a2==b2),?_,.ae _⟩;have:=run_eql_struct (P:=Γ.P) w T #[.int .i64 a1,.int .i64 a2] #[.int .i64 b1,.int .i64 b2];rw[g2] at this;simp only[Result.andThen_ok] at this;simp only[execOp,ho,mg,Ba,Sem.run_bind,run_eqGuard_agg (P:=Γ.P) w _ T x y _ _ g1,Result.andThen_ok,this];rfl
    ·simp only[alh,alk] at h;obtain⟨_,rfl⟩:=h;refine⟨.bool (!(a1==b1&&a2==b2)),?_,.ae _⟩;have:=run_neq_struct (P:=Γ.P) w T #[.int .i64 a1,.int .i64 a2] #[.int .i64 b1,.int .i64 b2];rw[g2] at this;simp only[Result.andThen_ok] at this;simp only[execOp,ho,mg,Ba,Sem.run_bind,run_eqGuard_agg (P:=Γ.P) w _ T x y _ _ g1,Result.andThen_ok,this];rfl
    ·cases h
   ·cases h
  ·cases h
 ·rename_i a0 a1 a2 t1 b0 b1 b2 t2 e1 e2;rw[e1] at hx;rw[e2] at hy;have M4:∀{m0 m1 m2:Int} {m3:ByteArray} {v:Value},ba w (aW Γ w η s.hp) η s.hp (.agg [.ae (.int .i64 m0),.ae (.int .i64 m1),.ae (.int .i64 m2),.ae (.string m3)]) v->v=.agg #[.int .i64 m0,.int .i64 m1,.int .i64 m2,.string m3]:=by
   intro m0 m1 m2 m3 v hv
   cases hv with
   |agg cs vs hl h1 hr=>
    obtain⟨vs⟩:=vs
    match vs,hl with
    | [u1,u2,u3,u4],_=>
     have q1:=(hr 0 _ u1 rfl rfl).aj;have q2:=(hr 1 _ u2 rfl rfl).aj;have q3:=(hr 2 _ u3 rfl rfl).aj;have q4:=(hr 3 _ u4 rfl rfl).aj;rw[q1,q2,q3,q4]
  have mg:=M4 hx;have Ba:=M4 hy;split at h
  ·rename_i d hd;split at h
   ·rename_i hfl;obtain⟨g1,g2⟩:=(ah T d hd).aes hfl;split at h
    ·simp only[alh,alk] at h;obtain⟨_,rfl⟩:=h;refine⟨.bool (a0==b0&&((a1==b1&&a2==b2)&&t1.toList==t2.toList)),?_,.ae _⟩;have:=run_eql_struct (P:=Γ.P) w T #[.int .i64 a0,.int .i64 a1,.int .i64 a2,.string t1] #[.int .i64 b0,.int .i64 b1,.int .i64 b2,.string t2];rw[g2] at this;simp only[Result.andThen_ok] at this;simp only[execOp,ho,mg,Ba,Sem.run_bind,run_eqGuard_agg (P:=Γ.P) w _ T x y _ _ g1,Result.andThen_ok,this];rfl
    ·simp only[alh,alk] at h;obtain⟨_,rfl⟩:=h;refine⟨.bool (!(a0==b0&&((a1==b1&&a2==b2)&&t1.toList==t2.toList))),?_,.ae _⟩;have:=run_neq_struct (P:=Γ.P) w T #[.int .i64 a0,.int .i64 a1,.int .i64 a2,.string t1] #[.int .i64 b0,.int .i64 b1,.int .i64 b2,.string t2];rw[g2] at this;simp only[Result.andThen_ok] at this;simp only[execOp,ho,mg,Ba,Sem.run_bind,run_eqGuard_agg (P:=Γ.P) w _ T x y _ _ g1,Result.andThen_ok,this];rfl
    ·cases h
   ·cases h
  ·cases h
 ·cases h
theorem gn (h:Rel Γ s a w η):∀l:List Operand,bS w (aW Γ w η s.hp) η s.hp (l.map s.ev) (l.map a.eval)
 | []=>True.intro
 |x::l=>⟨h.ev x,gn h l⟩
theorem zl {o:Oper} {f:Nat} {first caps:Array Operand} (ho:o.op=.makeFunc (.func f) first caps) (h0:first.size=0):fE Γ o s (.bf f (caps.toList.map s.ev)):=by
 refine aH fun a w η hr=>⟨.func (.func f) #[] (caps.map a.eval),?_,.bf f _ _ (by simp) fun j x v hx hv=>?_⟩
 ·have:first=#[]:=Array.eq_empty_of_size_eq_zero h0
  subst this;simp[execOp,ho,Instr.makeFunc]
 ·exact(gn hr caps.toList).get j x v hx (by simpa using hv)
theorem vC {o:Oper} {f:Nat} {first caps:Array Operand} (ho:o.op=.makeFunc (.func f) first caps) (h0:caps.size=0):fE Γ o s (.cB f (first.toList.map s.ev)):=by
 refine aH fun a w η hr=>⟨.func (.func f) (first.map a.eval) #[],?_,.cB f _ _ (by simp) fun j x v hx hv=>?_⟩
 ·have:caps=#[]:=Array.eq_empty_of_size_eq_zero h0;subst this;simp[execOp,ho,Instr.makeFunc]
 ·exact(gn hr first.toList).get j x v hx (by simpa using hv)
theorem KT {o:Oper} {c x y:Operand} {t:Bool} (ho:o.op=.pick c x y) (hc:s.ev c=.ae (.bool t)):fE Γ o s (if t=true then s.ev x else s.ev y):=by
 refine aH fun a w η hr=>?_;have h:=hr.ev c;rw[hc] at h;have hv:=h.aj
 cases t with
 |true=>exact⟨a.eval x,by simp[execOp,ho,hv,asBool],by simpa using hr.ev x⟩
 |false=>exact⟨a.eval y,by simp[execOp,ho,hv,asBool],by simpa using hr.ev y⟩
theorem pV {w:World} {η:List Value} {hp:List ab} {F:Nat->Nat->Prop} {x:AV} {b:Bool} (h:A7 x=some b) {v:Value} (hx:ba w F η hp x v):∃p,v=.pointer p/\p.isNone=b:=by
 unfold A7 at h;split at h
 ·cases hx;exact⟨_,rfl,by simpa using h⟩
 ·cases hx;exact⟨_,rfl,by simpa using h⟩
 ·cases hx;exact⟨_,rfl,by simpa using h⟩
 ·cases h
theorem KU {tab:Nat->Option TD} (ah:aL Γ.P tab) {o:Oper} {T T':Nat} {op:BinOp} {x y:Operand} (ho:o.op=.binOp op T x y T') {cs:List Prop} {r:AV} (h:KS tab T op (s.ev x) (s.ev y)=some (cs,r)) (hc:IW cs):fE Γ o s r:=by
 unfold KS at h;split at h
 ·rename_i k' b hy;split at h
  ·rename_i k a hx;split at h
   ·rename_i hk;subst hk;refine aH fun ac w η hr=>?_;have h1:=hr.ev x;have h2:=hr.ev y;rw[hx] at h1;rw[hy] at h2;have h1:=h1.aj;have h2:=h2.aj;split at h
    ·simp only[alh,alk] at h;obtain⟨rfl,rfl⟩:=h;exact⟨_,by simp[execOp,ho,h1,h2,eqGuard,binOp,Op.intDiv,hc.1],.ae _⟩
    ·simp only[alh,alk] at h;obtain⟨rfl,rfl⟩:=h;exact⟨_,by simp[execOp,ho,h1,h2,eqGuard,binOp,Op.intDiv,hc.1],.ae _⟩
    ·obtain⟨n,hn,he⟩:=amb.1 h;simp only[alk] at he;obtain⟨rfl,rfl⟩:=he;refine⟨_,?_,.ae _⟩;unfold M3 at hn
     split at hn<;>first|cases hn;done|(obtain rfl:=alj hn;simp[execOp,ho,h1,h2,eqGuard,binOp,Op.intBits])
   ·cases h
  ·cases h
 ·rename_i b hy;split at h
  ·rename_i a hx;refine aH fun ac w η hr=>?_;have h1:=hr.ev x;have h2:=hr.ev y;rw[hx] at h1;rw[hy] at h2;have h1:=h1.aj;have h2:=h2.aj;split at h
   all_goals first|(cases h;done)|skip
   all_goals simp only[alh,alk] at h
   all_goals obtain⟨rfl,rfl⟩:=h
   ·have IX:a.size+b.size<=9223372036854775807:=hc.1;refine⟨_,?_,.ae _⟩;simp[execOp,ho,h1,h2,eqGuard,binOp,Op.stringOp,show IntKind.i64.max=9223372036854775807 from rfl];omega
   all_goals exact⟨_,by simp[execOp,ho,h1,h2,eqGuard,binOp,Op.stringOp,gy,strLt],.ae _⟩
  ·cases h
 ·rename_i hy;split at h
  ·rename_i b hb;split at h
   ·rename_i d hd;split at h
    ·rename_i e hk;have hu:Γ.P.underlying T=some (.pointer (Γ.P.pointee T)):=by
      obtain⟨u,q2,q3⟩:=(ah T d hd).lj;rw[hk] at q3;have:Γ.P.underlying T=some (.pointer e):=by rw[q2];exact congrArg some q3
      rw[this,Program.pointee,this]
     split at h
     ·simp only[alh,alk] at h;obtain⟨rfl,rfl⟩:=h;refine aH fun a w η hr=>?_;obtain⟨p,hp,Tg⟩:=pV hb (hr.ev x);have h2:=hr.ev y;rw[hy] at h2;have h2:=h2.aj;refine⟨.bool b,?_,.ae _⟩;simp only[execOp,ho,hp,h2,eqGuard,aml,alx,if_false,Sem.run_bind,Sem.run_pure,Result.andThen_ok,run_eql_pointer_nil w T p hu,Tg]
     ·simp only[alh,alk] at h;obtain⟨rfl,rfl⟩:=h;refine aH fun a w η hr=>?_;obtain⟨p,hp,Tg⟩:=pV hb (hr.ev x);have h2:=hr.ev y;rw[hy] at h2;have h2:=h2.aj;refine⟨.bool (!b),?_,.ae _⟩;simp only[execOp,ho,hp,h2,eqGuard,aml,alx,if_false,Sem.run_bind,Sem.run_pure,Result.andThen_ok,run_neq_pointer_nil w T p hu,Tg]
     ·cases h
    ·cases h
   ·cases h
  ·cases h
 ·cases h
theorem Bb {P:Program} (w:World) (k:Nat) (T:TypeId) {ms:Array (String×TypeId)} (hu:P.underlying T=some (.interface ms)):(Op.equalIn (k+1) T .nilIface .nilIface).run P w=.ok true w:=by
 simp[Op.equalIn,run_underlying hu]
theorem mo {P:Program} (w:World) (T:TypeId) {ms:Array (String×TypeId)} (hu:P.underlying T=some (.interface ms)):(Op.equal T .nilIface .nilIface).run P w=.ok true w:=Bb w 9999 T hu
theorem M5 {tab:Nat->Option TD} (ah:aL Γ.P tab) {o:Oper} {T T':Nat} {op:BinOp} {x y:Operand} (ho:o.op=.binOp op T x y T') {r:AV} (h:Tc tab T op (s.ev x) y=some r):fE Γ o s r:=by
 unfold Tc at h;split at h
 ·rename_i hy;split at h
  ·rename_i d hd hx;split at h
   ·rename_i hk;obtain⟨u,q2,q3⟩:=(ah T d hd).lj;rw[hk] at q3;obtain⟨ms,rfl⟩:=q3;obtain rfl:=Tb hy;split at h
    ·obtain rfl:=alj h;refine aH fun a w η hr=>?_;have h1:=hr.ev x;rw[hx] at h1;have h1:=h1.aj;have he:a.eval (.const .nilIface)=.nilIface:=rfl;refine⟨.bool true,?_,.ae _⟩;simp only[execOp,ho,h1,he,eqGuard_nil_constR,Sem.run_bind,Sem.run_pure,Result.andThen_ok,binOp,mo w T q2]
    ·obtain rfl:=alj h;refine aH fun a w η hr=>?_;have h1:=hr.ev x;rw[hx] at h1;have h1:=h1.aj;have he:a.eval (.const .nilIface)=.nilIface:=rfl;refine⟨.bool false,?_,.ae _⟩;simp only[execOp,ho,h1,he,eqGuard_nil_constR,Sem.run_bind,Sem.run_pure,Result.andThen_ok,binOp,mo w T q2];rfl
    ·cases h
   ·cases h
  ·cases h
 ·cases h
theorem C4 {tab:Nat->Option TD} (ah:aL Γ.P tab) {o:Oper} {T T':Nat} {op:BinOp} {x y:Operand} (ho:o.op=.binOp op T x y T') {c:Prop} {r:AV} (h:A8 tab T op (s.ev x) (s.ev y)=some (c,r)) (hc:c):fE Γ o s r:=by
 unfold A8 at h;split at h
 ·rename_i r' hr;obtain rfl:=alj h;exact GN ah ho hr hc
 ·obtain⟨⟨cs,r'⟩,h1,h2⟩:=amb.1 h;simp only[alk] at h2;obtain⟨rfl,rfl⟩:=h2;exact KU ah ho h1 hc
theorem M6 {tab:Nat->Option TD} (ah:aL Γ.P tab) {o:Oper} {S D:Nat} {x:Operand} (ho:o.op=.convert S D x) {r:AV} (h:A9 tab S D (s.ev x)=some r):fE Γ o s r:=by
 unfold A9 at h;split at h
 ·rename_i d1 d k n hS hD hx;split at h
  ·rename_i k2 hk;obtain rfl:=alj h;refine aH fun a w η hr=>?_;have h1:=hr.ev x;rw[hx] at h1;have h1:=h1.aj;obtain⟨u1,q1,_⟩:=(ah S d1 hS).lj;have hu:Γ.P.underlying D=some (.int k2):=by
    obtain⟨u,q2,q3⟩:=(ah D d hD).lj;rw[hk] at q3;rw[q2];exact congrArg some q3
   refine⟨.int k2 (k2.wrap n),?_,.ae _⟩;simp only[execOp,ho,h1,convert,Sem.run_bind,run_underlying q1,run_underlying hu,Result.andThen_ok];rfl
  ·cases h
 ·rename_i d1 d t hS hD hx;split at h
  ·rename_i hk;obtain rfl:=alj h;refine aH fun a w η hr=>?_;have h1:=hr.ev x;rw[hx] at h1;have h1:=h1.aj;obtain⟨u1,q1,_⟩:=(ah S d1 hS).lj;have hu:Γ.P.underlying D=some .string:=by
    obtain⟨u,q2,q3⟩:=(ah D d hD).lj;rw[hk] at q3;rw[q2];exact congrArg some q3
   refine⟨.string t,?_,.ae _⟩;simp[execOp,ho,h1,convert,run_underlying hu,run_underlying q1]
  ·cases h
 ·cases h
theorem zZ {o:Oper} {op:UnOp} {T:Nat} {x:Operand} (ho:o.op=.unOp op T x) {r:AV} (h:(∃b,op=.not/\s.ev x=.ae (.bool b)/\r=.ae (.bool (!b)))\/(∃k n,op=.neg/\s.ev x=.ae (.int k n)/\r=.ae (.int k (k.wrap (0-n))))):fE Γ o s r:=by
 refine aH fun a w η hr=>?_;have hx:=hr.ev x;rcases h with⟨b,rfl,he,rfl⟩|⟨k,n,rfl,he,rfl⟩<;>rw[he] at hx
 ·exact⟨_,by simp[execOp,ho,hx.aj,Op.unary],.ae _⟩
 ·exact⟨_,by simp[execOp,ho,hx.aj,Op.unary,Op.intArith],.ae _⟩
theorem Bc {o:Oper} {x:Operand} {i:Nat} (ho:o.op=.extract x i) {vs:List AV} {r:AV} (he:s.ev x=.av vs) (hi:vs[i]?=some r):fE Γ o s r:=by
 refine aH fun a w η hr=>?_;have hx:=hr.ev x;rw[he] at hx;generalize hv:a.eval x=v at hx
 cases hx with
 |av cs us hl dG=>
  have aq:i<us.size:=by rw[hl];exact(ali.1 hi).1
  have hu:us[i]?=some us[i]:=by simp[aq]
  exact⟨us[i],by simp[execOp,ho,hv,Instr.extract,hu],dG i r _ hi hu⟩
theorem GO {tab:Nat->Option TD} (ah:aL Γ.P tab) {o:Oper} {T f:Nat} {x:Operand} (ho:o.op=.field T x f) {p:Nat×Nat×Bool} (hp:(fieldsOf tab T)[f]?=some p) {cs:List AV} (hx:s.ev x=.agg cs) {r:AV}
  (h:fx p.2.2 p.2.1 cs p.1=some r) (h1:p.2.2=false->p.2.1=1):fE Γ o s r:=by
 refine aH fun a w η hr=>?_;have eo:=hr.ev x;rw[hx] at eo;obtain⟨d,fs,hd,hk,hf⟩:=nj hp;obtain⟨fields,fd,i,u,e1,e2,e3,e4,e5,e6,e7⟩:=(ah T d hd).field hk hf;generalize hv:a.eval x=v at eo
 cases eo with
 |agg _ vs hl zk dG=>
  obtain⟨g1,g2⟩:=eM (w:=w) (F:=aW Γ w η s.hp) (η:=η) (hp:=s.hp) h1 (vs:=vs.toList) (by simpa using hl) (fun j x u hx hu=>⟨dG j x u hx (by simpa using hu),zk u (by rw[<-amH];exact alq hu)⟩) h;refine⟨_,?_,g2⟩;have bY:(isAgg fd.type).run Γ.P w=.ok p.2.2 w:=by
   rw[<-e7];simp only[isAgg,Sem.run_bind,run_underlying e6,Result.andThen_ok]
   cases u<;>rfl
  simp only[execOp,ho,hv,Instr.field,Sem.run_bind,run_underlying e1,Result.andThen_ok,e2,asAgg,Sem.run_pure,part,bY]
  cases qE:p.2.2 with
  |true=>
   simp only[if_true,Sem.run_bind,sizeOf,typeInfo,run_program,Result.andThen_ok,e4,Sem.run_pure,e5,e3]
   congr 2
   apply congrArg;apply amy;simp[Array.toList_extract,List.extract_eq_take_drop]
  |false=>
   have hs:=h1 qE;rw[hs] at g1 ⊢;have aq:p.1<vs.size:=by simp at g1;omega
   have hu:vs[p.1]?=some vs[p.1]:=by simp[aq]
   simp only[alx,if_false,e3,hu,Sem.run_pure,Result.andThen_ok]
   congr 2
   have:(vs.toList.drop p.1).take 1=[vs[p.1]]:=by
    apply al9;intro k;rw[alz]
    cases k with
    |zero=>simp[aq]
    |succ k=>simp
   rw[this];rfl
end
section
variable {G:Type} {Γ:Env G} {s:AS G} {a:Act} {w w':World} {η:List Value} {hp:List ab} {F:Nat->Nat->Prop} {P:Program}
theorem ba.M7 {els:List AV} {v:Value} (h:ba w F η hp (.sl els) v):∃a c,v=.slice a els.length c:=by
 cases h with
 |oc a=>exact⟨a,0,rfl⟩
 |sl size els b o c f hc hm hl aA hr=>exact⟨_,c,rfl⟩
theorem jN {o:Oper} {c:Call} {b:Builtin} (ho:o.op=.call c) (hb:c.callee=.builtin b) {l:List Operand} (hl:c.args.toList=l) {r:AV}
  (h:∀a w η,Rel Γ s a w η->∃v w',(builtin b c.argTypes o.type ((c.args.map fun | .const _=>true|_=>false)) (l.map a.eval).toArray).run Γ.P w=.ok (.value v) w'/\bD w w'/\ba w' (aW Γ w' η s.hp) η s.hp r v):fE Γ o s r:=by
 intro a w η hr;obtain⟨v,w',h1,h2,h3⟩:=h a w η hr;refine⟨v,w',?_,h2,h3⟩;have:c.args.map a.eval=(l.map a.eval).toArray:=by rw[<-hl];apply amy;simp
 simp only[execOp,ho,resolve,hb,Sem.run_bind,Sem.run_pure,Result.andThen_ok,invoke,this];exact h1
theorem C5 {tab:Nat->Option TD} (ah:aL Γ.P tab) {o:Oper} {c:Call} (ho:o.op=.call c) (hb:c.callee=.builtin .len) {x:Operand} (hl:c.args.toList=[x]) {T:Nat} (hT:c.argTypes[0]?=some T) {d:TD} (hd:tab T=some d) {r:AV}
  (h:(∃e els,d.kind=.kC e/\(s.ev x).gN s.hp=some els/\r=.ae (.int .i64 els.length))\/(∃b,d.kind=.str/\s.ev x=.ae (.string b)/\r=.ae (.int .i64 b.size))):fE Γ o s r:=by
 refine jN ho hb hl fun a w η hr=>?_;obtain⟨u,h2,h3⟩:=(ah T d hd).lj;rcases h with⟨e,els,hk,fb,rfl⟩|⟨b,hk,he,rfl⟩<;>rw[hk] at h3
 ·have hu:Γ.P.underlying T=some (.slice e):=by rw[h2];exact congrArg some h3
  obtain⟨a0,c0,hv⟩:=(kD hr.heap hr.bN (hr.ev x) fb).M7;exact⟨_,w,by simp[builtin,Builtin.len_,hT,hv,run_underlying hu,goInt],bD.refl w,.ae _⟩
 ·have hu:Γ.P.underlying T=some .string:=by rw[h2];exact congrArg some h3
  have hx:=hr.ev x;rw[he] at hx;exact⟨_,w,by simp[builtin,Builtin.len_,hT,hx.aj,run_underlying hu,goInt],bD.refl w,.ae _⟩
theorem KV {tab:Nat->Option TD} (ah:aL Γ.P tab) {o:Oper} {c:Call} (ho:o.op=.call c) (hb:c.callee=.builtin .len) {x:Operand} (hl:c.args.toList=[x]) {T:Nat} (hT:c.argTypes[0]?=some T) {d:TD} (hd:tab T=some d) {e r m e' z:Nat} {els:List AV}
  (hk:d.kind=.kC e) (he:s.ev x=.own r m) (qp:s.hp[r]?=some (.aQ e' z els)) (hm:m=els.length):fE Γ o s (.ae (.int .i64 (m:Nat))):=by
 refine jN ho hb hl fun a w η hr=>?_;obtain⟨u,h2,h3⟩:=(ah T d hd).lj;rw[hk] at h3;have hu:Γ.P.underlying T=some (.slice e):=by rw[h2];exact congrArg some h3
 have hx:=hr.ev x;rw[he] at hx;generalize hv:a.eval x=v at hx
 cases hx with
 |own _ _ _ h1 CW=>
  unfold aR at CW;rw[qp] at CW;obtain⟨V3,xs,ea,_⟩:=hr.heap.obj r _ _ qp (CW.2 hm);obtain⟨a0,c0,rfl⟩:∃a0 c0,v=.slice a0 m c0:=by
   rcases ea.2 with⟨h0,rfl|⟨ad,rfl⟩⟩|⟨g,cap,cur,rfl,_⟩
   ·exact⟨_,_,by rw[hm,h0]⟩
   ·exact⟨_,_,by rw[hm,h0]⟩
   ·exact⟨_,_,by rw[hm]⟩
  exact⟨_,w,by simp[builtin,Builtin.len_,hT,hv,run_underlying hu,goInt],bD.refl w,.ae _⟩
theorem M8 {o:Oper} {c:Call} (ho:o.op=.call c) (hb:c.callee=.builtin .min) {x y:Operand} (hl:c.args.toList=[x,y]) {k k':IntKind} {m n:Int} (hx:s.ev x=.ae (.int k m)) (hy:s.ev y=.ae (.int k' n)):fE Γ o s (.ae (.int k (if n<m then n else m))):=by
 refine jN ho hb hl fun a w η hr=>?_;have h1:=hr.ev x;have h2:=hr.ev y;rw[hx] at h1;rw[hy] at h2;exact⟨_,w,by simp[builtin,Builtin.min_,h1.aj,h2.aj,Builtin.min2],bD.refl w,.ae _⟩
theorem M9 {o:Oper} {c:Call} (ho:o.op=.call c) (hb:c.callee=.builtin .max) {x y:Operand} (hl:c.args.toList=[x,y]) {k k':IntKind} {m n:Int} (hx:s.ev x=.ae (.int k m)) (hy:s.ev y=.ae (.int k' n)):fE Γ o s (.ae (.int k (if n>m then n else m))):=by
 refine jN ho hb hl fun a w η hr=>?_;have h1:=hr.ev x;have h2:=hr.ev y;rw[hx] at h1;rw[hy] at h2;exact⟨_,w,by simp[builtin,Builtin.max_,h1.aj,h2.aj,Builtin.max2],bD.refl w,.ae _⟩
def fz (cs:List Value) (off:Nat):List Value->List Value
 | []=>cs
 |x::xs=>fz (cs.set off x) (off+1) xs
theorem gQ (xs:List Value):∀(cs:List Value) (off:Nat),(fz cs off xs).length=cs.length:=by
 induction xs with
 |nil=>intro cs off;rfl
 |cons x xs ih=>intro cs off;simp[fz,ih]
def qW (w:World) (F:Nat->Nat->Prop) (η:List Value) (hp:List ab) (cs:List AV) (vs:List Value):Prop:=
 vs.length=cs.length/\∀(j:Nat) (x:AV) (u:Value),cs[j]?=some x->vs[j]?=some u->ba w F η hp x u/\u.oneCell'=true
theorem qW.set {cs:List AV} {vs:List Value} (h:qW w F η hp cs vs) (off:Nat) {x:AV} {u:Value} (hx:ba w F η hp x u) (h1:u.oneCell'=true):qW w F η hp (cs.set off x) (vs.set off u):=by
 refine⟨by simp[h.1],fun j y z hy hz=>?_⟩
 by_cases hj:off=j
 ·subst hj;rw[amr] at hy hz;simp only[if_true] at hy hz;split at hy
  ·rename_i h2;rw[h.1,if_pos h2] at hz;obtain rfl:=alj hy;obtain rfl:=alj hz;exact⟨hx,h1⟩
  ·cases hy
 ·rw[getElem?_set_ne hj] at hy hz;exact h.2 j y z hy hz
theorem qW.Xa (xs:List AV):∀{us:List Value} {cs:List AV} {vs:List Value} (off:Nat),qW w F η hp cs vs->qW w F η hp xs us->qW w F η hp (setCells cs off xs) (fz vs off us):=by
 induction xs with
 |nil=>
  intro us cs vs off h hu;have:us=[]:=alS hu.1;subst this;exact h
 |cons x xs ih=>
  intro us cs vs off h hu
  match us,hu with
  | [],hu=>exact absurd hu.1 (by simp)
  |u::us,hu=>
   have h0:=hu.2 0 x u rfl rfl;exact ih (off+1) (h.set off h0.1 h0.2) ⟨by simpa using hu.1,fun j y z hy hz=>hu.2 (j+1) y z (by simpa using hy) (by simpa using hz)⟩
theorem ba.C6 {x:AV} {v:Value} (h:ba w F η hp x v) (hs:x.mm=true):qW w F η hp x.cells v.cells.toList:=by
 have one:x.isAgg=false->x.MX=true:=by cases x<;>simp_all [AV.mm,AV.isAgg,AV.MX]
 cases h with
 |agg cs vs hl h1 hr=>exact⟨by simpa [AV.cells,Value.cells] using hl,fun j y u hy hu=>⟨hr j y u hy (by simpa [Value.cells] using hu),h1 u (by have:=alq hu;simpa [Value.cells] using this)⟩⟩
 |top v=>simp[AV.mm] at hs
 |av cs vs hl hr=>simp[AV.mm] at hs
 |ae v=>
  have h1:v.oneCell'=true:=hs;refine⟨by cases v<;>simp_all [AV.cells,Value.cells,Value.oneCell'],fun j y u hy hu=>?_⟩;have hv:v.cells=#[v]:=by cases v<;>simp_all [Value.cells,Value.oneCell']
  rw[hv] at hu
  cases j with
  |zero=>simp[AV.cells] at hy hu;subst hy;subst hu;exact⟨.ae _,h1⟩
  |succ j=>simp[AV.cells] at hy
 |own r n v h1 h2=>
  refine⟨by cases v<;>simp_all [AV.cells,Value.cells,Value.oneCell'],fun j y u hy hu=>?_⟩;have hv:v.cells=#[v]:=by cases v<;>simp_all [Value.cells,Value.oneCell']
  rw[hv] at hu
  cases j with
  |zero=>simp[AV.cells] at hy hu;subst hy;subst hu;exact⟨.own r n _ h1 h2,h1⟩
  |succ j=>simp[AV.cells] at hy
 |fn v h1=>
  refine⟨by cases v<;>simp_all [AV.cells,Value.cells,Value.oneCell'],fun j y u hy hu=>?_⟩;have hv:v.cells=#[v]:=by cases v<;>simp_all [Value.cells,Value.oneCell']
  rw[hv] at hu
  cases j with
  |zero=>simp[AV.cells] at hy hu;subst hy;subst hu;exact⟨.fn _ h1,h1⟩
  |succ j=>simp[AV.cells] at hy
 |oc a=>exact⟨rfl,fun j y u hy hu=>by cases j<;>simp[AV.cells,Value.cells] at hy hu;subst hy;subst hu;exact⟨.oc a,rfl⟩⟩
 |jB a=>exact⟨rfl,fun j y u hy hu=>by cases j<;>simp[AV.cells,Value.cells] at hy hu;subst hy;subst hu;exact⟨.jB a,rfl⟩⟩
 |sl size els b o c f hc hm hl aA hr=>exact⟨rfl,fun j y u hy hu=>by cases j<;>simp[AV.cells,Value.cells] at hy hu;subst hy;subst hu;exact⟨.sl size els b o c f hc hm hl aA hr,rfl⟩⟩
 |clip size els b o f hm hl aA hr=>exact⟨rfl,fun j y u hy hu=>by cases j<;>simp[AV.cells,Value.cells] at hy hu;subst hy;subst hu;exact⟨.clip size els b o f hm hl aA hr,rfl⟩⟩
 |ptr r off b h=>exact⟨rfl,fun j y u hy hu=>by cases j<;>simp[AV.cells,Value.cells] at hy hu;subst hy;subst hu;exact⟨.ptr r off b h,rfl⟩⟩
 |aJ e off b o f aA hr=>exact⟨rfl,fun j y u hy hu=>by cases j<;>simp[AV.cells,Value.cells] at hy hu;subst hy;subst hu;exact⟨.aJ e off b o f aA hr,rfl⟩⟩
 |bf fn cs vs hl hr=>exact⟨rfl,fun j y u hy hu=>by cases j<;>simp[AV.cells,Value.cells] at hy hu;subst hy;subst hu;exact⟨.bf fn cs vs hl hr,rfl⟩⟩
 |mp r b h=>exact⟨rfl,fun j y u hy hu=>by cases j<;>simp[AV.cells,Value.cells] at hy hu;subst hy;subst hu;exact⟨.mp r b h,rfl⟩⟩
 |fq r n i size b o c k h=>simp[AV.mm] at hs
 |cB fn cs vs hl hr=>exact⟨rfl,fun j y u hy hu=>by cases j<;>simp[AV.cells,Value.cells] at hy hu;subst hy;subst hu;exact⟨.cB fn cs vs hl hr,rfl⟩⟩
 |eY b es c h hF l hl=>exact⟨rfl,fun j y u hy hu=>by cases j<;>simp[AV.cells,Value.cells] at hy hu;subst hy;subst hu;exact⟨.eY b es c h hF l hl,rfl⟩⟩
theorem wM (v:List Value):∀(cs:Array Value) (off k:Nat),((v.zipIdx k).foldl (fun cs (c,j)=>cs.setIfInBounds (off+j) c) cs).toList=fz cs.toList (off+k) v:=by
 induction v with
 |nil=>intro cs off k;rfl
 |cons x v ih=>
  intro cs off k;simp only[List.zipIdx_cons,List.foldl_cons];rw[ih];simp[fz,Array.toList_setIfInBounds,amV]
theorem IY {fs:List (Nat×Nat×Bool)} {places:Nat->Option (Nat×Nat)} (MD:∀(i:Nat) (p:Nat×Nat×Bool),fs[i]?=some p->places i=some (p.1,p.2.1)):
  ∀(parts:List (Nat×AV)) (lM:List (Nat×Value)) (cs:List AV) (vs:Array Value) (r:List AV),da fs cs parts=some r->qW w F η hp cs vs.toList->lM.map (·.1)=parts.map (·.1)->
   (∀(j:Nat) (p:Nat×AV) (q:Nat×Value),parts[j]?=some p->lM[j]?=some q->ba w F η hp p.2 q.2)->∃vr,Instr.fill places vs lM=some vr/\qW w F η hp r vr.toList:=by
 intro parts
 induction parts with
 |nil=>
  intro lM cs vs r h hc hm _;have:lM=[]:=by cases lM<;>simp_all
  subst this;simp only[da,alh] at h;subst h;exact⟨vs,rfl,hc⟩
 |cons p parts ih=>
  intro lM cs vs r h hc hm hr
  cases lM with
  |nil=>simp at hm
  |cons q lM=>
   obtain⟨i,x⟩:=p;obtain⟨i',v⟩:=q;simp only[alQ,List.cons.injEq] at hm;obtain⟨rfl,qX⟩:=hm;have h0:=hr 0 _ _ rfl rfl;simp only at h0;simp only[da] at h;split at h
   ·rename_i p hp;split at h
    ·rename_i mq;have C7:=h0.C6 mq.2.2;have bO:v.cells.size=p.2.1:=by rw[<-mq.1,<-C7.1];simp
     have aeA:=MD _ p hp;have hle:p.1+p.2.1<=vs.size:=by have:=hc.1;simp at this;omega
     have wN:=wM v.cells.toList vs p.1 0;rw[amh] at wN;obtain⟨vr,e1,e2⟩:=ih lM (setCells cs p.1 x.cells) ((v.cells.zipIdx).foldl (fun cs (c,j)=>cs.setIfInBounds (p.1+j) c) vs) r h (by
      have e:((v.cells.zipIdx).foldl (fun cs (c,j)=>cs.setIfInBounds (p.1+j) c) vs).toList=fz vs.toList p.1 v.cells.toList:=by
       rw[<-wN,<-Array.foldl_toList];simp
      rw[e]
      exact qW.Xa x.cells p.1 hc C7) qX (fun j p' q' h1 h2=>hr (j+1) p' q' (by simpa using h1) (by simpa using h2))
     refine⟨vr,?_,e2⟩;simp only[Instr.fill,aeA,bO];rw[if_neg (by simp;omega)];exact e1
    ·cases h
   ·cases h
end
section
variable {G:Type} {Γ:Env G} {s:AS G} {a:Act} {w w':World} {η:List Value} {hp:List ab} {F:Nat->Nat->Prop} {P:Program}
theorem eZ.Bd {T:Nat} {d:TD} (h:eZ P T d):qW w F η hp (d.zero.cells.toList.map .ae) d.zero.cells.toList:=by
 refine⟨by simp,fun j x u hx hu=>?_⟩;rw[alu,hu] at hx;obtain rfl:=alj hx;exact⟨.ae _,h.aer u (by have:=alq hu;simpa using this)⟩
theorem wO (fields:List Field) (w:World) (h:∀f:Field,f∈fields->∃i,P.info? f.type=some i):
  (fields.mapM fun f=>do pure (f.offset,<-sizeOf f.type):Sem (List (Nat×Nat))).run P w=.ok (fields.map fun f=>(f.offset,((P.info? f.type).map (·.size)).getD 0)) w:=by
 induction fields with
 |nil=>rfl
 |cons f fs ih=>
  obtain⟨i,hi⟩:=h f alD;have ih':=ih fun g hg=>h g (alK _ hg);simp only[List.mapM_cons,Sem.run_bind,sizeOf,typeInfo,run_program,Result.andThen_ok,hi,Sem.run_pure,alQ,alN,al1];simp only[sizeOf,typeInfo] at ih';rw[ih'];rfl
theorem GQ {tab:Nat->Option TD} (ah:aL Γ.P tab) {o:Oper} {T:Nat} {parts:Array (Nat×Operand)} (ho:o.op=.build T parts) {d:TD} (hd:tab T=some d) {fs:List (Nat×Nat×Bool)} (hk:d.kind=.bj fs) {r:List AV}
  (h:da fs (d.zero.cells.toList.map .ae) (parts.toList.map fun p=>(p.1,s.ev p.2))=some r):fE Γ o s (.agg r):=by
 refine aH fun a w η hr=>?_;have dZ:=ah T d hd;obtain⟨u,h2,h3⟩:=dZ.lj;rw[hk] at h3;obtain⟨fields,rfl,h3⟩:=h3;have Y6:∀f:Field,f∈fields.toList->∃i,Γ.P.info? f.type=some i:=by
  intro f hf;obtain⟨k,zi⟩:=amz hf;have h4:=congrArg (·[k]?) h3;simp only[alu,zi,alN] at h4
  cases uC:fs[k]? with
  |none=>rw[uC] at h4;cases h4
  |some p=>
   rw[uC] at h4;simp only[alN,alh,alk] at h4
   cases hi:Γ.P.info? f.type with
   |none=>rw[hi] at h4;cases h4.2.1
   |some i=>exact⟨i,rfl⟩
 have MD:∀(i:Nat) (p:Nat×Nat×Bool),fs[i]?=some p->((fields.toList.map fun f=>(f.offset,((Γ.P.info? f.type).map (·.size)).getD 0)).toArray)[i]?=some (p.1,p.2.1):=by
  intro i p hp;have h4:=congrArg (·[i]?) h3;simp only[alu,hp,alN] at h4
  cases hf:fields.toList[i]? with
  |none=>rw[hf] at h4;cases h4
  |some f=>
   rw[hf] at h4;simp only[alN,alh,alk] at h4;simp only[amP,alu,hf,alN,h4.1,h4.2.1,al1]
 obtain⟨vr,e1,e2⟩:=IY (w:=w) (F:=aW Γ w η s.hp) (η:=η) (hp:=s.hp) MD (parts.toList.map fun p=>(p.1,s.ev p.2)) (parts.toList.map fun p=>(p.1,a.eval p.2)) _ d.zero.cells r h dZ.Bd (by simp) (fun j p q h1 h2=>by
  simp only[alu] at h1 h2
  cases hj:parts.toList[j]? with
  |none=>rw[hj] at h1;cases h1
  |some x=>
   rw[hj] at h1 h2;obtain rfl:=alj h1;obtain rfl:=alj h2
   exact hr.ev x.2)
 refine⟨.agg vr,?_,.agg r vr (by have:=e2.1;simpa using this) (fun v hv=>?_) fun j x v hx hv=>(e2.2 j x v hx (by simpa using hv)).1⟩
 ·have hm:=wO (P:=Γ.P) fields.toList w Y6;simp only[execOp,ho,Instr.build,Sem.run_bind,dZ.jd,Result.andThen_ok,run_underlying h2,Array.mapM_eq_mapM_toList,Sem.run_map,hm,amW,e1,Sem.run_pure]
 ·obtain⟨k,zi⟩:=amz (amH.2 hv);have aq:k<r.length:=by rw[<-e2.1];exact(ali.1 zi).1
  exact(e2.2 k r[k] v (by simp[aq]) zi).2
theorem C8 {tab:Nat->Option TD} (ah:aL Γ.P tab) {o:Oper} {T:Nat} {parts:Array (Nat×Operand)} (ho:o.op=.build T parts) {d:TD} (hd:tab T=some d) {n:Nat} (hk:d.kind=.arr n) {r:List AV}
  (h:da (wI n) (d.zero.cells.toList.map .ae) (parts.toList.map fun p=>(p.1,s.ev p.2))=some r):fE Γ o s (.agg r):=by
 refine aH fun a w η hr=>?_;have dZ:=ah T d hd;obtain⟨u,h2,h3⟩:=dZ.lj;rw[hk] at h3;obtain⟨e,i0,rfl,C3,iK⟩:=h3;have MD:∀(i:Nat) (p:Nat×Nat×Bool),(wI n)[i]?=some p->(fun i=>some (i*1,1):Nat->Option (Nat×Nat)) i=some (p.1,p.2.1):=by
  intro i p hp;simp only[wI,alu] at hp;obtain⟨j,hj,rfl⟩:=amb.1 hp;obtain rfl:j=i:=by
   obtain⟨h5,h6⟩:=ali.1 hj;rw[<-h6];simp
  simp
 obtain⟨vr,e1,e2⟩:=IY (w:=w) (F:=aW Γ w η s.hp) (η:=η) (hp:=s.hp) MD (parts.toList.map fun p=>(p.1,s.ev p.2)) (parts.toList.map fun p=>(p.1,a.eval p.2)) _ d.zero.cells r h dZ.Bd (by simp) (fun j p q h1 h2=>by
  simp only[alu] at h1 h2
  cases hj:parts.toList[j]? with
  |none=>rw[hj] at h1;cases h1
  |some x=>
   rw[hj] at h1 h2;obtain rfl:=alj h1;obtain rfl:=alj h2
   exact hr.ev x.2)
 refine⟨.agg vr,?_,.agg r vr (by have:=e2.1;simpa using this) (fun v hv=>?_) fun j x v hx hv=>(e2.2 j x v hx (by simpa using hv)).1⟩
 ·simp only[execOp,ho,Instr.build,Sem.run_bind,dZ.jd,Result.andThen_ok,run_underlying h2,sizeOf,typeInfo,run_program,C3,Sem.run_pure,iK,amW,e1]
 ·obtain⟨k,zi⟩:=amz (amH.2 hv);have aq:k<r.length:=by rw[<-e2.1];exact(ali.1 zi).1
  exact(e2.2 k r[k] v (by simp[aq]) zi).2
theorem cJ (us:List Value):∀(cs:List Value) (off t:Nat),off+us.length<=cs.length->(fz cs off us)[t]?=if off<=t/\t<off+us.length then us[t-off]? else cs[t]?:=by
 induction us with
 |nil=>
  intro cs off t _;simp only[fz,al5,amh];rw[if_neg (by omega)]
 |cons u us ih=>
  intro cs off t h;simp only[als] at h;simp only[fz,als];rw[ih (cs.set off u) (off+1) t (by simp;omega)]
  by_cases h1:off+1<=t/\t<off+1+us.length
  ·rw[if_pos h1,if_pos (by omega)];have:t-off=(t-(off+1))+1:=by omega
   rw[this,alP]
  ·rw[if_neg h1]
   by_cases h2:t=off
   ·subst h2;rw[if_pos (by omega),amO,al8,amr];simp;omega
   ·rw[if_neg (by omega),getElem?_set_ne (fun e=>h2 e.symm)]
theorem zm (v:Array Value) (cs:Array Value) (off:Nat):(v.zipIdx.foldl (fun cs (c,j)=>cs.setIfInBounds (off+j) c) cs).toList=fz cs.toList off v.toList:=by
 have h:=wM v.toList cs off 0;rw[amh] at h;rw[<-h,<-Array.foldl_toList];simp
theorem wP {size:Nat}:∀(l:List Value) (k:Nat) (parts:List (Nat×Value)) (cs:Array Value),parts.map (·.2)=l->(∀(j:Nat) (p:Nat×Value),parts[j]?=some p->p.1=k+j)->(∀v:Value,v∈l->v.cells.size=size)->cs.size=(k+l.length)*size->
  ∃r,Instr.fill (fun i=>some (i*size,size)) cs parts=some r/\r.size=cs.size/\(∀t,t<k*size->r.toList[t]?=cs.toList[t]?)/\
   ∀(i:Nat) (v:Value) (j:Nat) (u:Value),l[i]?=some v->v.cells.toList[j]?=some u->r.toList[(k+i)*size+j]?=some u:=by
 intro l
 induction l with
 |nil=>
  intro k parts cs hm _ _ _;have:parts=[]:=by cases parts<;>simp_all
  subst this;exact⟨cs,rfl,rfl,fun _ _=>rfl,fun i v j u hi=>by simp at hi⟩
 |cons v l ih=>
  intro k parts cs hm jO bO gO
  cases parts with
  |nil=>simp at hm
  |cons p parts=>
   obtain⟨i0,v0⟩:=p;simp only[alQ,List.cons.injEq] at hm;obtain⟨rfl,qX⟩:=hm;have C3:i0=k:=by have:=jO 0 _ rfl;simpa using this
   subst C3;have tI:=bO v0 alD;simp only[als] at gO;have hle:i0*size+size<=cs.size:=by
    rw[gO];have:(i0+(l.length+1))*size=i0*size+size+l.length*size:=by rw[amj,amj];omega
    omega
   have wN:=zm v0.cells cs (i0*size);obtain⟨r,e1,e2,e3,e4⟩:=ih (i0+1) parts (v0.cells.zipIdx.foldl (fun cs (c,j)=>cs.setIfInBounds (i0*size+j) c) cs) qX
    (fun j p hj=>by have:=jO (j+1) p (by simpa using hj);omega) (fun v hv=>bO v (alK _ hv))
    (by rw[<-alY,wN,gQ,alY,gO];congr 1;omega)
   have hlen:(v0.cells.zipIdx.foldl (fun cs (c,j)=>cs.setIfInBounds (i0*size+j) c) cs).size=cs.size:=by
    rw[<-alY,wN,gQ,alY]
   have hmul:(i0+1)*size=i0*size+size:=by rw[amj];omega
   refine⟨r,?_,by rw[e2,hlen],fun t ht=>?_,fun i v j u hi hj=>?_⟩
   ·simp only[Instr.fill,tI];rw[if_neg (by simp;omega)];exact e1
   ·rw[e3 t (by omega),wN,cJ _ _ _ _ (by simp;omega),if_neg (by omega)]
   ·cases i with
    |zero=>
     simp only[al8,alh] at hi;subst hi;have tA:j<size:=by rw[<-tI,<-alY];exact(ali.1 hj).1
     rw[amh,e3 _ (by omega),wN,cJ _ _ _ _ (by simp;omega),if_pos ⟨by omega,by rw[alY,tI];omega⟩];rw[Nat.add_sub_cancel_left];exact hj
    |succ i=>
     have:=e4 i v j u (by simpa using hi) hj;rw[show i0+(i+1)=i0+1+i from by omega];exact this
theorem GR:∀(l:List (Nat×Operand)) (k:Nat),rT k l=true->∀(j:Nat) (p:Nat×Operand),l[j]?=some p->p.1=k+j:=by
 intro l
 induction l with
 |nil=>intro k _ j p h;simp at h
 |cons q l ih=>
  intro k h j p hj;obtain⟨i,x⟩:=q;simp only[rT,aln,beq_iff_eq] at h
  cases j with
  |zero=>simp only[al8,alh] at hj;subst hj;simpa using h.1
  |succ j=>have:=ih (k+1) h.2 j p (by simpa using hj);omega
theorem oI {size:Nat}:∀(l:List AV),qV size l->∀x:AV,x∈l->x.cells.length=size/\x.mm=true:=by
 intro l
 induction l with
 |nil=>intro _ x h;cases h
 |cons y l ih=>
  intro h x hx;rcases alW.1 hx with rfl|h1
  ·exact h.1
  ·exact ih h.2 x h1
theorem IZ {T:TypeId} {cs:Array Value} (h:Rel Γ s a w η) (k:Nat) (hX:∀b o,Γ.No b o->b<Γ.w0.heap.size):aW Γ (w.alloc (.cells cs T)) η s.hp w.heap.size k:=by
 refine⟨.inr (.inl h.keeps.size),by simp,fun hx=>by have:=hX _ _ hx;have:=h.keeps.size;omega,(aS _ _).2 fun r v hv hb=>?_⟩;have fI:r<s.hp.length:=by rw[<-h.heap.len];exact(ali.1 hv).1
 refine⟨s.hp[r],by simp[fI],?_⟩;have ho:s.hp[r]?=some s.hp[r]:=by simp[fI]
 cases hk:s.hp[r] with
 |dead=>exact True.intro
 |_=>
  rw[hk] at ho;have:=h.heap.block ho True.intro hv hb;omega
theorem oe (al:Γ.Ok) {tab:Nat->Option TD} (ah:aL Γ.P tab) {o:Oper} {T n e:Nat} {parts:Array (Nat×Operand)} (ho:o.op=.buildSlice T n parts) {d d':TD} (hd:tab T=some d) (hk:d.kind=.kC e) (dy:tab e=some d')
  (hn:n=parts.toList.length) (jO:rT 0 parts.toList=true) (Th:n<=16777216) (Ti:n*d'.size<=16777216) (hl:qV d'.size (parts.toList.map fun p=>(s.ev p.2).bl s.hp)) (hr:Rel Γ s a w η):
  ∃r:Array Value,(execOp a.eval o).run Γ.P w=.ok (.value (.slice (some ⟨w.heap.size,0,none⟩) n n)) (w.alloc (.cells r e))/\r.size=n*d'.size/\
   (parts.toList.map fun p=>(s.ev p.2).bl s.hp).length=n/\
   ∀(i:Nat) (el:AV) (j:Nat) (x:AV),(parts.toList.map fun p=>(s.ev p.2).bl s.hp)[i]?=some el->el.cells[j]?=some x->∃u,r[i*d'.size+j]?=some u/\ba w (aW Γ w η s.hp) [] [] x u/\u.oneCell'=true:=by
 have dZ:=ah e d' dy;have hu:Γ.P.underlying T=some (.slice e):=by
  obtain⟨u,h2,h3⟩:=(ah T d hd).lj;rw[hk] at h3;rw[h2];exact congrArg some h3
 have YH:=oI _ hl;have dG:∀(j:Nat) (x:AV) (v:Value),(parts.toList.map fun p=>(s.ev p.2).bl s.hp)[j]?=some x->(parts.toList.map fun p=>a.eval p.2)[j]?=some v->ba w (aW Γ w η s.hp) [] [] x v:=by
  intro j x v h1 h2;simp only[alu] at h1 h2
  cases hj:parts.toList[j]? with
  |none=>rw[hj] at h1;cases h1
  |some p=>
   rw[hj] at h1 h2;obtain rfl:=alj h1;obtain rfl:=alj h2;exact fK hr.heap hr.bN (hr.ev p.2)
 have mr:(parts.toList.map fun p=>(s.ev p.2).bl s.hp).length=n:=by simp[hn]
 have Na:(parts.toList.map fun p=>a.eval p.2).length=n:=by simp[hn]
 have C7:∀(j:Nat) (x:AV) (v:Value),(parts.toList.map fun p=>(s.ev p.2).bl s.hp)[j]?=some x->(parts.toList.map fun p=>a.eval p.2)[j]?=some v->qW w (aW Γ w η s.hp) [] [] x.cells v.cells.toList:=
  fun j x v h1 h2=>(dG j x v h1 h2).C6 (YH x (alq h1)).2
 have aeB:∀v:Value,v∈(parts.toList.map fun p=>a.eval p.2)->v.cells.size=d'.size:=by
  intro v hv;obtain⟨j,hj⟩:=amz hv;have aq:j<n:=by rw[<-Na];exact(ali.1 hj).1
  have hx:(parts.toList.map fun p=>(s.ev p.2).bl s.hp)[j]?=some (parts.toList.map fun p=>(s.ev p.2).bl s.hp)[j]:=by rw[alo (by rw[mr];exact aq)]
  have:=(C7 j _ v hx hj).1;rw[alY] at this;rw[this];exact(YH _ (alq hx)).1
 have fin:∀cs0:Array Value,cs0.size=n*d'.size->∃r,Instr.fill (fun i=>some (i*d'.size,d'.size)) cs0 (parts.toList.map fun p=>(p.1,a.eval p.2))=some r/\r.size=n*d'.size/\
   ∀(i:Nat) (el:AV) (j:Nat) (x:AV),(parts.toList.map fun p=>(s.ev p.2).bl s.hp)[i]?=some el->el.cells[j]?=some x->∃u,r[i*d'.size+j]?=some u/\ba w (aW Γ w η s.hp) [] [] x u/\u.oneCell'=true:=by
  intro cs0 gO;obtain⟨r,e1,e2,e3,e4⟩:=wP (parts.toList.map fun p=>a.eval p.2) 0 (parts.toList.map fun p=>(p.1,a.eval p.2)) cs0 (by simp[Function.comp_def]) (fun j p hj=>by
   rw[alu] at hj
   cases tA:parts.toList[j]? with
   |none=>rw[tA] at hj;cases hj
   |some q=>
    rw[tA] at hj;obtain rfl:=alj hj
    exact GR _ _ jO j q tA) aeB (by rw[Na,alM];exact gO)
  refine⟨r,e1,by rw[e2];exact gO,?_⟩;intro i el j x hi hj;have aq:i<n:=by rw[<-mr];exact(ali.1 hi).1
  have hv:(parts.toList.map fun p=>a.eval p.2)[i]?=some (parts.toList.map fun p=>a.eval p.2)[i]:=by rw[alo (by rw[Na];exact aq)]
  have h1:=C7 i el _ hi hv;have tA:j<(parts.toList.map fun p=>a.eval p.2)[i].cells.toList.length:=by rw[h1.1];exact(ali.1 hj).1
  have hu:(parts.toList.map fun p=>a.eval p.2)[i].cells.toList[j]?=some ((parts.toList.map fun p=>a.eval p.2)[i].cells.toList[j]):=by rw[alo tA]
  have h2:=e4 i _ j _ hv hu;rw[alM] at h2;exact⟨_,by simpa using h2,h1.2 j x _ hj hu⟩
 have hb:¬n*d'.size>2 ^ 24:=by omega
 by_cases hz:n*d'.size=0
 ·obtain⟨r,e1,e2,e3⟩:=fin ((Array.range (n*d'.size)).map ((#[]:Array Value)[· % (#[]:Array Value).size]!)) (by simp);refine⟨r,?_,e2,mr,e3⟩;simp only[execOp,ho,Instr.buildSlice,Sem.run_bind,run_underlying hu,Result.andThen_ok,dZ.run_sizeOf,Sem.run_ite,if_neg hb,Sem.run_pure,if_pos hz,amW,e1,newRow,run_newObj];rfl
 ·obtain⟨r,e1,e2,e3⟩:=fin ((Array.range (n*d'.size)).map (d'.zero.cells[· % d'.zero.cells.size]!)) (by simp);refine⟨r,?_,e2,mr,e3⟩;simp only[execOp,ho,Instr.buildSlice,Sem.run_bind,run_underlying hu,Result.andThen_ok,dZ.run_sizeOf,Sem.run_ite,if_neg hb,Sem.run_pure,if_neg hz,dZ.jd,amW,e1,newRow,run_newObj];rfl
theorem vD (al:Γ.Ok) {tab:Nat->Option TD} (ah:aL Γ.P tab) {o:Oper} {T n e:Nat} {parts:Array (Nat×Operand)} (ho:o.op=.buildSlice T n parts) {d d':TD} (hd:tab T=some d) (hk:d.kind=.kC e) (dy:tab e=some d')
  (hn:n=parts.toList.length) (jO:rT 0 parts.toList=true) (Th:n<=16777216) (Ti:n*d'.size<=16777216) (hl:qV d'.size (parts.toList.map fun p=>(s.ev p.2).bl s.hp)):fE Γ o s (.clip (parts.toList.map fun p=>(s.ev p.2).bl s.hp)):=by
 intro a w η hr;obtain⟨r,e1,_,mr,dA⟩:=oe al ah ho hd hk dy hn jO Th Ti hl hr;have YH:=oI _ hl;have he:=oD (Γ:=Γ) (η:=η) (hp:=s.hp) (bD.alloc w (.cells r e)) (fun _ _=>eu);refine⟨_,_,e1,bD.alloc w (.cells r e),?_⟩;have hm:(parts.toList.map fun p=>(s.ev p.2).bl s.hp).length<=maxLen:=by
  rw[mr];simp only[maxLen];omega
 have:=ba.clip (w:=w.alloc (.cells r e)) (F:=aW Γ (w.alloc (.cells r e)) η s.hp) (η:=η) (hp:=s.hp) d'.size (parts.toList.map fun p=>(s.ev p.2).bl s.hp) w.heap.size 0 (fun i j=>(r[i*d'.size+j]?).getD undef) hm
  (fun i el hi=>(YH el (alq hi)).1) (fun i el j x hi hj=>by
   obtain⟨u,h1,_,h3⟩:=dA i el j x hi hj;rw[h1];refine⟨?_,IZ hr _ (fun _ _=>al.no),h3⟩;rw[alM,World.cell?_alloc_new];exact h1) (fun i el j x hi hj=>by
   obtain⟨u,h1,h2,_⟩:=dA i el j x hi hj
   rw[h1];exact h2.ext he.oB.ext)
 rw[mr] at this;exact this
end
section
variable {G:Type} {Γ:Env G} {s:AS G} {a:Act} {w w':World} {η:List Value} {hp:List ab} {F:Nat->Nat->Prop} {P:Program}
theorem gR (h:Rel Γ s a w η) {d n:Int} {x:Operand} (hb:bI s.ev d (some x)=some n):∃k,a.eval x=.int k n:=by
 unfold bI at hb;simp only at hb;split at hb
 ·rename_i k m he;obtain rfl:=alj hb;have hx:=h.ev x;rw[he] at hx;exact⟨k,hx.aj⟩
 ·cases hb
theorem run_sliceBound (w:World) {v:Value} {k:IntKind} {n:Int} (hv:v=.int k n) {y:Nat} (h0:0<=n) (h1:n<=y) (code:BoundsCode):(Instr.sliceBound v y code).run P w=.ok n.toNat w:=by
 subst hv;have:0<=n/\n<=(y:Int):=⟨h0,h1⟩;simp[Instr.sliceBound,asIntOf,this]
theorem ba.Tj {els:List AV} {b o c size:Nat} {x:Value} (bO:∀y:AV,y∈els->y.cells.length=size) (hx:ba w F η hp (.sl els) x) (hv:x=.slice (some ⟨b,o,none⟩) els.length c) {l h m:Nat} (hlh:l<=h) (hh:h<=els.length) (hm:h<=m) (hmc:m<=c):
  ba w F η hp (.sl ((els.take h).drop l)) (.slice (some ⟨b,if m=l then o else o+l*size,none⟩) (h-l) (m-l))/\(h=m->ba w F η hp (.clip ((els.take h).drop l)) (.slice (some ⟨b,if m=l then o else o+l*size,none⟩) (h-l) (h-l))):=by
 have hlen:((els.take h).drop l).length=h-l:=by simp;omega
 cases hx with
 |oc a=>
  simp only[al5,Value.slice.injEq,true_and] at hv;obtain⟨rfl,rfl⟩:=hv;obtain rfl:m=0:=by omega
  obtain rfl:h=0:=by omega
  obtain rfl:l=0:=by omega
  exact⟨.oc _,fun _=>.jB _⟩
 |sl uA _ b' o' c' f hc qX hl aA dG=>
  simp only[Value.slice.injEq,alh,Addr.mk.injEq,and_true,true_and] at hv;obtain⟨⟨rfl,rfl⟩,rfl⟩:=hv;have dA:∀(i:Nat) (e:AV),((els.take h).drop l)[i]?=some e->els[l+i]?=some e/\m≠l/\uA=size:=by
   intro i e hi;have aq:=(ali.1 hi).1;rw[hlen] at aq;rw[amo,alz,if_pos (by omega)] at hi;exact⟨hi,by omega,by rw[<-hl _ _ hi];exact bO e (alq hi)⟩
  have C9:∀(i j:Nat),m≠l->uA=size->(if m=l then o' else o'+l*size)+i*size+j=o'+(l+i)*uA+j:=by
   intro i j h1 h2;rw[if_neg h1,h2,amj];omega
  have key:∀c2,h-l<=c2->c2<=maxLen->ba w F η hp (.sl ((els.take h).drop l)) (.slice (some ⟨b',if m=l then o' else o'+l*size,none⟩) (h-l) c2)/\(c2=h-l->ba w F η hp (.clip ((els.take h).drop l)) (.slice (some ⟨b',if m=l then o' else o'+l*size,none⟩) (h-l) (h-l))):=by
   intro c2 h1 h2;have p1:∀(i:Nat) (e:AV),((els.take h).drop l)[i]?=some e->e.cells.length=size:=fun i e hi=>bO e (alq (dA i e hi).1);have p2:∀(i:Nat) (e:AV) (j:Nat) (x:AV),((els.take h).drop l)[i]?=some e->e.cells[j]?=some x->
     w.cell? ⟨b',(if m=l then o' else o'+l*size)+i*size+j,none⟩=some (f (l+i) j)/\F b' ((if m=l then o' else o'+l*size)+i*size+j)/\(f (l+i) j).oneCell'=true:=by
    intro i e j x hi hj;obtain⟨g1,g2,g3⟩:=dA i e hi;rw[C9 i j g2 g3];exact aA _ _ _ _ g1 hj
   have p3:∀(i:Nat) (e:AV) (j:Nat) (x:AV),((els.take h).drop l)[i]?=some e->e.cells[j]?=some x->ba w F [] [] x (f (l+i) j):=
    fun i e j x hi hj=>dG _ _ _ _ (dA i e hi).1 hj
   have q1:=ba.sl (η:=η) (hp:=hp) size ((els.take h).drop l) b' (if m=l then o' else o'+l*size) c2 (fun i j=>f (l+i) j) (by rw[hlen];exact h1) h2 p1 p2 p3;rw[hlen] at q1;refine⟨q1,fun _=>?_⟩;have q2:=ba.clip (η:=η) (hp:=hp) size ((els.take h).drop l) b' (if m=l then o' else o'+l*size) (fun i j=>f (l+i) j) (by rw[hlen];omega) p1 p2 p3;rw[hlen] at q2;exact q2
  refine⟨(key (m-l) (by omega) (by omega)).1,fun e=>?_⟩;exact(key (m-l) (by omega) (by omega)).2 (by omega)
theorem wQ {tab:Nat->Option TD} (ah:aL Γ.P tab) {o:Oper} {T e:Nat} {x:Operand} {lo hi mx:Option Operand} (ho:o.op=.slice T x lo hi mx) {d d':TD} (hd:tab T=some d) (hk:d.kind=.kC e) (dy:tab e=some d') {els:List AV} (fb:(s.ev x).gN s.hp=some els)
  {l h:Int} (hl:bI s.ev 0 lo=some l) (hh:bI s.ev els.length hi=some h) (h0:0<=l) (h1:l<=h) (h2:h<=els.length) (bO:∀y:AV,y∈els->y.cells.length=d'.size) {r:AV}
  (hr:(mx=none/\r=.sl ((els.take h.toNat).drop l.toNat))\/(∃y m,mx=some y/\hi.isSome/\bI s.ev 0 (some y)=some m/\h=m/\r=.clip ((els.take h.toNat).drop l.toNat))):fE Γ o s r:=by
 refine aH fun a w η hrel=>?_;have hx:=kD hrel.heap hrel.bN (hrel.ev x) fb;have hu:Γ.P.underlying T=some (.slice e):=by
  obtain⟨u,q2,q3⟩:=(ah T d hd).lj;rw[hk] at q3;rw[q2];exact congrArg some q3
 have Da:lo=none/\l=0\/∃y k,lo=some y/\a.eval y=.int k l:=by
  cases lo with
  |none=>simp[bI] at hl;exact .inl ⟨rfl,hl.symm⟩
  |some y=>obtain⟨k,hk⟩:=gR hrel hl;exact .inr ⟨y,k,rfl,hk⟩
 have hhv:hi=none/\h=els.length\/∃y k,hi=some y/\a.eval y=.int k h:=by
  cases hi with
  |none=>simp[bI] at hh;exact .inl ⟨rfl,hh.symm⟩
  |some y=>obtain⟨k,hk⟩:=gR hrel hh;exact .inr ⟨y,k,rfl,hk⟩
 have GH:∃ad c,a.eval x=.slice ad els.length c/\els.length<=c:=by
  generalize a.eval x=v at hx
  cases hx with
  |oc a=>exact⟨a,0,rfl,alp _⟩
  |sl size els b o c f hc hm hl aA hr=>exact⟨_,c,rfl,hc⟩
 obtain⟨ad,c,tB,Xb⟩:=GH;have qF:=(ah e d' dy).run_sizeOf w;have hb:∃m:Nat,(Instr.sliceBounds true els.length c (lo.map a.eval) (hi.map a.eval) (mx.map a.eval)).run Γ.P w=.ok (l.toNat,h.toNat,m) w/\h.toNat<=m/\m<=c/\(mx≠none->m=h.toNat):=by
  rcases hr with⟨rfl,_⟩|⟨y,m,rfl,his,hm,rfl,_⟩
  ·refine⟨c,?_,by omega,alp _,fun h=>(h rfl).elim⟩;rcases hhv with⟨rfl,rfl⟩|⟨y,k,rfl,hv⟩
   ·rcases Da with⟨rfl,rfl⟩|⟨y0,k0,rfl,tI⟩
    ·simp[Instr.sliceBounds]
    ·have MC:=run_sliceBound (P:=Γ.P) w tI (y:=els.length) h0 (by omega) .sliceB;simp[Instr.sliceBounds,MC]
   ·have hs:=run_sliceBound (P:=Γ.P) w hv (y:=c) (by omega) (by omega) .sliceAcap;rcases Da with⟨rfl,rfl⟩|⟨y0,k0,rfl,tI⟩
    ·simp[Instr.sliceBounds,hs]
    ·have MC:=run_sliceBound (P:=Γ.P) w tI (y:=h.toNat) h0 (by omega) .sliceB;simp[Instr.sliceBounds,hs,MC]
  ·obtain⟨k2,hv2⟩:=gR hrel hm;refine⟨h.toNat,?_,alp _,by omega,fun _=>rfl⟩;rcases hhv with⟨rfl,_⟩|⟨y',k,rfl,hv⟩
   ·simp at his
   ·have V4:=run_sliceBound (P:=Γ.P) w hv2 (y:=c) (by omega) (by omega) .slice3Acap;have hs:=run_sliceBound (P:=Γ.P) w hv (y:=h.toNat) (by omega) (by omega) .slice3B;rcases Da with⟨rfl,rfl⟩|⟨y0,k0,rfl,tI⟩
    ·simp[Instr.sliceBounds,hs,V4]
    ·have MC:=run_sliceBound (P:=Γ.P) w tI (y:=h.toNat) h0 (by omega) .slice3C;simp[Instr.sliceBounds,hs,V4,MC]
 obtain⟨m,fY,MF,qU,hm3⟩:=hb;have hex:(execOp a.eval o).run Γ.P w=.ok (.value (.slice (if m=l.toNat then ad else ad.map (·.add (l.toNat*d'.size))) (h.toNat-l.toNat) (m-l.toNat))) w:=by
  simp only[execOp,ho,Instr.sliceAt,Sem.run_bind,run_underlying hu,Result.andThen_ok,Instr.slice,tB,fY,qF,Sem.run_pure]
 refine⟨_,hex,?_⟩;have Nb:(els=[]/\c=0)\/∃b o,ad=some ⟨b,o,none⟩:=by
  have mg:=hx;rw[tB] at mg;generalize hv:Value.slice ad els.length c=v at mg
  cases mg with
  |oc a=>simp at hv;exact .inl ⟨rfl,hv.2⟩
  |sl size els b o c f hc hm hl aA hr=>simp at hv;exact .inr ⟨b,o,hv.1⟩
 rw[tB] at hx;rcases Nb with⟨rfl,rfl⟩|⟨b,o',rfl⟩
 ·have e1:l.toNat=0:=by simp at h2;omega
  have e2:h.toNat=0:=by simp at h2;omega
  have e3:m=0:=by omega
  rw[e1,e2,e3];simp only[if_true,amO];rcases hr with⟨_,rfl⟩|⟨_,_,_,_,_,_,rfl⟩
  ·simpa using ba.oc ad
  ·simpa using ba.jB ad
 ·have tB:=tB;obtain⟨q1,q2⟩:=hx.Tj bO rfl (l:=l.toNat) (h:=h.toNat) (m:=m) (by omega) (by omega) MF qU;have Db:(if m=l.toNat then some (⟨b,o',none⟩:Addr) else(some (⟨b,o',none⟩:Addr)).map (·.add (l.toNat*d'.size)))=some ⟨b,if m=l.toNat then o' else o'+l.toNat*d'.size,none⟩:=by
   split<;>simp[Addr.add_lit]
  rw[Db];rcases hr with⟨_,rfl⟩|⟨y,m',hmx,_,_,_,rfl⟩
  ·exact q1
  ·have:=hm3 (by rw[hmx];simp);subst this;exact q2 rfl
theorem Nc (a b:ByteArray):(a==b)=decide (a=b):=by
 obtain⟨a⟩:=a;obtain⟨b⟩:=b;show (a==b)=_
 by_cases h:a=b
 ·subst h;simp
 ·have:¬(ByteArray.mk a=ByteArray.mk b):=fun e=>h (by injection e);rw[decide_eq_false this];simpa using h
structure KW {κ:Type} [DecidableEq κ] (td:TypeDesc) (kv:κ->Value) (me:List (κ×Value)->ME):Prop where
 me:∀l,KP (me l)=l.map fun p=>(kv p.1,p.2)
 same:∀a b,Instr.sameNow td (kv a) (kv b)=some (decide (a=b))
 check:∀(P:Program) (kt:TypeId) (e:Bool) (v:Value) (w:World),P.underlying kt=some td->(Instr.checkKey e 10000 kt v).run P w=.ok () w
 bits:∀a,Instr.sameBits 10000 (kv a) (kv a)=true
theorem Be {κ:Type} [DecidableEq κ] {td:TypeDesc} {kv:κ->Value} {me:List (κ×Value)->ME} (K:KW td kv me) {a:κ}:∀(es:List MapEntry) (l:List (κ×Value)) (i:Nat),(es.map fun e=>(e.key,e.val))=l.map (fun p=>(kv p.1,p.2))->
  (∃r,Instr.findNow td (kv a) es i=some r/\r.map (·.2)=au l a)/\
   (au l a=none->Instr.findNow td (kv a) es i=some none):=by
 intro es
 induction es with
 |nil=>
  intro l i h
  cases l with
  |nil=>exact⟨⟨none,rfl,rfl⟩,fun _=>rfl⟩
  |cons p l=>simp at h
 |cons e es ih=>
  intro l i h
  cases l with
  |nil=>simp at h
  |cons p l=>
   obtain⟨key,v⟩:=p;simp only[alQ,List.cons.injEq,alk] at h;obtain⟨⟨h1,h2⟩,h3⟩:=h;obtain⟨⟨r,g1,g2⟩,g3⟩:=ih l (i+1) h3;simp only[Instr.findNow,h1,K.same,au]
   by_cases Xc:a=key
   ·subst Xc;simp[h2]
   ·simp only[if_neg Xc,decide_eq_false Xc];exact⟨⟨r,g1,g2⟩,g3⟩
theorem rV {kt:TypeId} {k:IntKind} (hk:P.underlying kt=some (.int k)) (e:Bool) (n:Nat) (v:Value) (w:World):(Instr.checkKey e (n+1) kt v).run P w=.ok () w:=by
 unfold Instr.checkKey;simp only[Sem.run_bind,run_underlying hk,Result.andThen]
 cases v<;>rfl
theorem Y7 (k:IntKind):KW (.int k) (fun a:Int=>.int .i64 a) .i:=
 ⟨fun _=>rfl,fun a b=>by simp[Instr.sameNow];rfl,fun P kt e v w hk=>rV hk e 9999 v w,fun a=>by simp[Instr.sameBits]⟩
theorem Y8:KW .string (fun a:ByteArray=>.string a) .s:=
 ⟨fun _=>rfl,fun a b=>by simp only[Instr.sameNow,Nc],fun P kt e v w hk=>by
  unfold Instr.checkKey;simp only[Sem.run_bind,run_underlying hk,Result.andThen]
  cases v<;>rfl,fun a=>by simp[Instr.sameBits,Nc]⟩
theorem uD {κ:Type} [DecidableEq κ] {td:TypeDesc} {kv:κ->Value} {me:List (κ×Value)->ME} (K:KW td kv me) {tab:Nat->Option TD} (ah:aL Γ.P tab) {o:Oper} {T kt et:Nat} {m key:Operand} {ok:Bool} (ho:o.op=.lookup T m key ok) {d dk de:TD} (hd:tab T=some d) (hk:d.kind=.oy kt et) (ma:tab kt=some dk) (vX:∀u,dk.kind.fits Γ.P u->u=td) (Dc:tab et=some de)
  {es:List (κ×Value)} (hm:(s.ev m).zW s.hp=some (me es)) {a:κ} (aeE:s.ev key=.ae (kv a)):fE Γ o s (gP es de.zero a ok):=by
 refine aH fun act w η hr=>?_;have hu:Γ.P.underlying T=some (.map kt et):=by
  obtain⟨u,q2,q3⟩:=(ah T d hd).lj;rw[hk] at q3;rw[q2];exact congrArg some q3
 have Tl:Γ.P.underlying kt=some td:=by
  obtain⟨u,q2,q3⟩:=(ah kt dk ma).lj;rw[q2];exact congrArg some (vX u q3)
 have Xd:=hr.ev key;rw[aeE] at Xd;have Xe:=Xd.aj;have Tn:=hr.ev m;have W7:∃b en c,act.eval m=.map (some b)/\w.heap[b]?=some (.map en c)/\mc en=KP (me es):=by
  generalize s.ev m=x at hm Tn
  cases x with
  |eY l=>
   simp only[AV.zW,alh] at hm;subst hm;generalize act.eval m=v at Tn
   cases Tn with
   |eY b en c h1 h2 _ hl=>exact⟨b,en,c,rfl,h1,hl⟩
  |mp r=>
   simp only[AV.zW] at hm;split at hm
   ·rename_i es' Tp;obtain rfl:=alj hm;generalize act.eval m=v at Tn
    cases Tn with
    |mp _ b eP=>
     obtain⟨b',en,c,e1,e2,e3⟩:=hr.heap.obj r _ _ Tp eP;simp only[Value.map.injEq,alh] at e1;subst e1;exact⟨b,en,c,rfl,e2,e3⟩
   ·cases hm
  |_=>simp[AV.zW] at hm
 obtain⟨b,en,c,MG,jC,wR⟩:=W7;obtain⟨⟨r,g1,g2⟩,g3⟩:=Be K (a:=a) en.toList es 0 (wR.trans (K.me es));have dA:(getObj b).run Γ.P w=.ok (.map en c) w:=by simp[getObj,Sem.run,jC]
 have oJ:(Instr.findKey kt (kv a) en.toList).run Γ.P w=.ok r w:=by
  simp only[Instr.findKey,Sem.run_bind,run_underlying Tl,Result.andThen_ok,g1,Sem.run_pure]
 have hz:=(ah et de Dc).jd w
 cases r with
 |none=>
  have hg:au es a=none:=g2.symm
  cases ok with
  |true=>
   refine⟨.tuple #[de.zero,.bool false],?_,?_⟩
   ·simp only[execOp,ho,MG,Xe,Instr.lookup,Sem.run_bind,run_underlying hu,Result.andThen_ok,dA,Sem.run_pure,K.check _ _ _ _ _ Tl,oJ,hz,if_true]
   ·simp only[gP,hg,if_true,Option.getD_none,Option.isSome_none];exact .av _ _ rfl fun j x v hx hv=>by
     match j with
     |0=>simp at hx hv;subst hx;subst hv;exact mh _
     |1=>simp at hx hv;subst hx;subst hv;exact .ae _
     |j+2=>simp at hx
  |false=>
   refine⟨de.zero,?_,?_⟩
   ·simp only[execOp,ho,MG,Xe,Instr.lookup,Sem.run_bind,run_underlying hu,Result.andThen_ok,dA,Sem.run_pure,K.check _ _ _ _ _ Tl,oJ,hz,alx,if_false]
   ·simp only[gP,hg,alx,if_false,Option.getD_none];exact mh _
 |some q=>
  obtain⟨i,v⟩:=q;have hg:au es a=some v:=g2.symm
  cases ok with
  |true=>
   refine⟨.tuple #[v,.bool true],?_,?_⟩
   ·simp only[execOp,ho,MG,Xe,Instr.lookup,Sem.run_bind,run_underlying hu,Result.andThen_ok,dA,Sem.run_pure,K.check _ _ _ _ _ Tl,oJ,if_true]
   ·simp only[gP,hg,if_true,al1,Option.isSome_some];exact .av _ _ rfl fun j x v hx hv=>by
     match j with
     |0=>simp at hx hv;subst hx;subst hv;exact mh _
     |1=>simp at hx hv;subst hx;subst hv;exact .ae _
     |j+2=>simp at hx
  |false=>
   refine⟨v,?_,?_⟩
   ·simp only[execOp,ho,MG,Xe,Instr.lookup,Sem.run_bind,run_underlying hu,Result.andThen_ok,dA,Sem.run_pure,K.check _ _ _ _ _ Tl,oJ,alx,if_false]
   ·simp only[gP,hg,alx,if_false,al1];exact mh _
end
section
variable {G:Type} {Γ:Env G} {s:AS G} {a:Act} {w w':World} {η:List Value} {hp:List ab} {F:Nat->Nat->Prop} {P:Program}
theorem zn {tab:Nat->Option TD} (ah:aL Γ.P tab) {o:Oper} {T:Nat} {x:Operand} {lo hi:Option Operand} (ho:o.op=.slice T x lo hi none) {d:TD} (hd:tab T=some d) (hk:d.kind=.str) {b:ByteArray} (hx:s.ev x=.ae (.string b))
  {l h:Int} (hl:bI s.ev 0 lo=some l) (hh:bI s.ev b.size hi=some h) (h0:0<=l) (h1:l<=h) (h2:h<=b.size):fE Γ o s (.ae (.string (b.extract l.toNat h.toNat))):=by
 refine aH fun a w η hrel=>⟨_,?_,.ae _⟩;have eo:=hrel.ev x;rw[hx] at eo;have tB:=eo.aj;have hu:Γ.P.underlying T=some .string:=by
  obtain⟨u,q2,q3⟩:=(ah T d hd).lj;rw[hk] at q3;rw[q2];exact congrArg some q3
 have Da:lo=none/\l=0\/∃y k,lo=some y/\a.eval y=.int k l:=by
  cases lo with
  |none=>simp[bI] at hl;exact .inl ⟨rfl,hl.symm⟩
  |some y=>obtain⟨k,hk⟩:=gR hrel hl;exact .inr ⟨y,k,rfl,hk⟩
 have hhv:hi=none/\h=b.size\/∃y k,hi=some y/\a.eval y=.int k h:=by
  cases hi with
  |none=>simp[bI] at hh;exact .inl ⟨rfl,hh.symm⟩
  |some y=>obtain⟨k,hk⟩:=gR hrel hh;exact .inr ⟨y,k,rfl,hk⟩
 rcases hhv with⟨rfl,rfl⟩|⟨y,k,rfl,hv⟩
 ·rcases Da with⟨rfl,rfl⟩|⟨y0,k0,rfl,tI⟩
  ·simp[execOp,ho,Instr.sliceAt,run_underlying hu,Instr.slice,tB,Instr.sliceBounds]
  ·have MC:=run_sliceBound (P:=Γ.P) w tI (y:=b.size) h0 (by omega) .sliceB;simp[execOp,ho,Instr.sliceAt,run_underlying hu,Instr.slice,tB,Instr.sliceBounds,MC]
 ·have hs:=run_sliceBound (P:=Γ.P) w hv (y:=b.size) (by omega) (by omega) .sliceAlen;rcases Da with⟨rfl,rfl⟩|⟨y0,k0,rfl,tI⟩
  ·simp[execOp,ho,Instr.sliceAt,run_underlying hu,Instr.slice,tB,Instr.sliceBounds,hs]
  ·have MC:=run_sliceBound (P:=Γ.P) w tI (y:=h.toNat) h0 (by omega) .sliceB;simp[execOp,ho,Instr.sliceAt,run_underlying hu,Instr.slice,tB,Instr.sliceBounds,hs,MC]
theorem qY (al:Γ.Ok) {tab:Nat->Option TD} (ah:aL Γ.P tab) {o:Oper} {c:Prop} {r:AV} (h:bo tab s.hp s.ev o.op=some (c,r)) (hc:c):fE Γ o s r:=by
 generalize ho:o.op=op at h
 cases op with
 |move x=>
  simp only[bo,alh,alk] at h;obtain⟨_,rfl⟩:=h;exact aH fun a w η hr=>⟨a.eval x,by simp[execOp,ho],hr.ev x⟩
 |assign x=>
  simp only[bo,alh,alk] at h;obtain⟨_,rfl⟩:=h;exact aH fun a w η hr=>⟨a.eval x,by simp[execOp,ho],hr.ev x⟩
 |nilCheck x=>
  simp only[bo] at h;split at h
  ·rename_i r0 o0 hx;simp only[alh,alk] at h;obtain⟨_,rfl⟩:=h;refine aH fun a w η hr=>?_;have hp:=hr.ev x;rw[hx] at hp;obtain⟨b,hb⟩:∃b,a.eval x=.pointer (some b):=by
    generalize a.eval x=v at hp;cases hp;exact⟨_,rfl⟩
   exact⟨a.eval x,by simp[execOp,ho,hb],hp⟩
  ·rename_i r0 o0 hx;simp only[alh,alk] at h;obtain⟨_,rfl⟩:=h;refine aH fun a w η hr=>?_;have hp:=hr.ev x;rw[hx] at hp;obtain⟨b,hb⟩:∃b,a.eval x=.pointer (some b):=by
    generalize a.eval x=v at hp;cases hp;exact⟨_,rfl⟩
   exact⟨a.eval x,by simp[execOp,ho,hb],hp⟩
  ·cases h
 |pick cc x y=>
  simp only[bo] at h;split at h
  ·rename_i t ht;simp only[alh,alk] at h;obtain⟨_,rfl⟩:=h;exact KT ho ht
  ·cases h
 |fieldAddr T x f=>
  simp only[bo] at h;split at h
  ·rename_i p hp;split at h
   ·cases h
   ·rename_i h0;split at h
    ·rename_i n off he;simp only[alh,alk] at h;exact oH ah ho hp h0 (.inl ⟨n,off,he,h.2.symm⟩)
    ·rename_i e off he;simp only[alh,alk] at h;exact oH ah ho hp h0 (.inr ⟨e,off,he,h.2.symm⟩)
    ·rename_i r0 m0 i0 z0 he;split at h
     ·rename_i hz;simp only[alh,alk] at h;obtain⟨_,rfl⟩:=h;exact vy ah ho hp h0 he hz
     ·cases h
    ·cases h
  ·cases h
 |load T x=>
  simp only[bo] at h;split at h
  ·rename_i d hd;split at h
   ·rename_i n off he;split at h
    ·rename_i cs gO
     cases hl:fx d.kind.agg d.size cs off with
     |none=>rw[hl] at h;cases h
     |some v=>
      rw[hl] at h;simp only[alN,alh,alk] at h;obtain⟨_,rfl⟩:=h;exact zX ah ho hd (.inl ⟨n,off,cs,he,gO,hl⟩)
    ·cases h
   ·rename_i e off he
    cases hl:wH d.kind.agg d.size e off with
    |none=>rw[hl] at h;cases h
    |some v=>
     rw[hl] at h;simp only[alN,alh,alk] at h;obtain⟨_,rfl⟩:=h;exact zX ah ho hd (.inr ⟨e,off,he,hl⟩)
   ·rename_i r0 m0 i0 z0 he;split at h
    ·rename_i e0 z' els qp;split at h
     ·rename_i oK;obtain⟨rfl,C2⟩:=oK;simp only[alh,alk] at h;obtain⟨rfl,rfl⟩:=h;have hg:els.getD i0 .top=els[i0]'hc.2.1:=by simp[List.getD,hc.2.1]
      rw[hg] at hc ⊢;exact GL ah ho hd he qp hc.1 C2 hc.2.1 hc.2.2
     ·cases h
    ·cases h
   ·cases h
  ·cases h
 |indexAddr T x i=>
  simp only[bo] at h;split at h
  ·rename_i d hd;split at h
   ·rename_i e hk;split at h
    ·rename_i d' els k n dy fb hi;simp only[alh,alk] at h;obtain⟨rfl,rfl⟩:=h;exact wL ah ho hd hk dy fb hi hc.1 hc.2.1 hc.2.2
    ·rename_i d' k n dy fb hi;split at h
     ·rename_i r m e' size k' hm;split at h
      ·rename_i oK;simp only[alh,alk] at h;obtain⟨rfl,rfl⟩:=h;obtain⟨hx,els,qp,rfl⟩:=pU hm;obtain⟨rfl,rfl⟩:=oK;exact vB ah ho hd hk dy hx qp hc.2.2 hi hc.1 hc.2.1
      ·cases h
     ·cases h
    ·cases h
   ·rename_i m hk;split at h
    ·rename_i r k n hx hi;simp only[alh,alk] at h;obtain⟨rfl,rfl⟩:=h;exact vz ah ho hd hk hx hi hc.1 hc.2
    ·rename_i e k n hx hi;simp only[alh,alk] at h;obtain⟨rfl,rfl⟩:=h;exact vA ah ho hd hk hx hi hc.1 hc.2
    ·cases h
   ·cases h
  ·cases h
 |binOp op T x y T'=>
  simp only[bo] at h;split at h
  ·rename_i v hv;simp only[alh,alk] at h;obtain⟨_,rfl⟩:=h;exact M5 ah ho hv
  ·exact C4 ah ho h hc
 |convert S D x=>
  simp only[bo] at h;obtain⟨r',h1,h2⟩:=amb.1 h;simp only[alk] at h2;rw[<-h2.2];exact M6 ah ho h1
 |unOp op T x=>
  simp only[bo] at h;split at h
  ·rename_i b he;simp only[alh,alk] at h;exact zZ ho (.inl ⟨b,rfl,he,h.2.symm⟩)
  ·rename_i k n he;simp only[alh,alk] at h;exact zZ ho (.inr ⟨k,n,rfl,he,h.2.symm⟩)
  ·cases h
 |build T parts=>
  simp only[bo] at h;split at h
  ·rename_i d hd;split at h
   ·rename_i fs hk
    cases hl:da fs (d.zero.cells.toList.map .ae) (parts.toList.map fun p=>(p.1,s.ev p.2)) with
    |none=>rw[hl] at h;cases h
    |some cs=>
     rw[hl] at h;simp only[alN,alh,alk] at h;obtain⟨_,rfl⟩:=h;exact GQ ah ho hd hk hl
   ·rename_i n hk
    cases hl:da (wI n) (d.zero.cells.toList.map .ae) (parts.toList.map fun p=>(p.1,s.ev p.2)) with
    |none=>rw[hl] at h;cases h
    |some cs=>
     rw[hl] at h;simp only[alN,alh,alk] at h;obtain⟨_,rfl⟩:=h;exact C8 ah ho hd hk hl
   ·cases h
  ·cases h
 |buildSlice T n parts=>
  simp only[bo] at h;split at h
  ·rename_i d hd;split at h
   ·rename_i e hk;split at h
    ·rename_i d' dy;split at h
     ·rename_i mq;simp only[alh,alk] at h;obtain⟨rfl,rfl⟩:=h;exact vD al ah ho hd hk dy mq.1 mq.2.1 mq.2.2.1 mq.2.2.2 hc
     ·cases h
    ·cases h
   ·cases h
  ·cases h
 |field T x f=>
  simp only[bo] at h;split at h
  ·rename_i p cs hp hx;split at h
   ·rename_i mq
    cases hl:fx p.2.2 p.2.1 cs p.1 with
    |none=>rw[hl] at h;cases h
    |some v=>
     rw[hl] at h;simp only[alN,alh,alk] at h;obtain⟨_,rfl⟩:=h;exact GO ah ho hp hx hl fun hf=>by
      rcases mq with h1|h1
      ·rw[h1] at hf;cases hf
      ·exact h1
   ·cases h
  ·cases h
 |lookup T m k ok=>
  simp only[bo] at h;split at h
  ·rename_i d es a hd hm hk;split at h
   ·rename_i kt et mu;split at h
    ·rename_i dk de ma Dc;split at h
     ·rename_i ik vX;simp only[alh,alk] at h;obtain⟨_,rfl⟩:=h;exact uD (Y7 ik) ah ho hd mu ma (fun u hu=>by rw[vX] at hu;exact hu) Dc hm hk
     ·cases h
    ·cases h
   ·cases h
  ·rename_i d es a hd hm hk;split at h
   ·rename_i kt et mu;split at h
    ·rename_i dk de ma Dc;split at h
     ·rename_i vX;simp only[alh,alk] at h;obtain⟨_,rfl⟩:=h;exact uD Y8 ah ho hd mu ma (fun u hu=>by rw[vX] at hu;exact hu) Dc hm hk
     ·cases h
    ·cases h
   ·cases h
  ·cases h
 |index T x i=>
  simp only[bo] at h;split at h
  ·rename_i d b k n hd hx hi;split at h
   ·rename_i hk;simp only[alh,alk] at h;obtain⟨rfl,rfl⟩:=h;refine aH fun a w η hr=>?_;have h1:=hr.ev x;rw[hx] at h1;have h1:=h1.aj;have h2:=hr.ev i;rw[hi] at h2;have h2:=h2.aj;have hu:Γ.P.underlying T=some .string:=by
     obtain⟨u,q2,q3⟩:=(ah T d hd).lj;rw[hk] at q3;rw[q2];exact congrArg some q3
    obtain⟨h3,h4⟩:=hc;have aq:n.toNat<b.size:=by omega
    refine⟨.int .u8 (dm b n),?_,.ae _⟩;have e:b[n.toNat]?=some b[n.toNat]:=getElem?_pos b n.toNat aq;have e2:dm b n=(b[n.toNat].toNat:Int):=by
     unfold dm;have:b.data[n.toNat]?=some b[n.toNat]:=by
      rw[al4 (by exact aq)];rfl
     rw[this];rfl
    simp only[execOp,ho,h1,h2,Instr.index,asIntOf,Sem.run_bind,Sem.run_pure,Result.andThen_ok,run_underlying hu,if_pos h3,e,e2]
   ·cases h
  ·cases h
 |extract x i=>
  simp only[bo] at h;split at h
  ·rename_i vs he
   cases hl:vs[i]? with
   |none=>rw[hl] at h;cases h
   |some v=>
    rw[hl] at h;simp only[alN,alh,alk] at h;obtain⟨_,rfl⟩:=h;exact Bc ho he hl
  ·cases h
 |makeFunc fn first caps=>
  cases fn with
  |func f=>
   simp only[bo] at h;split at h
   ·rename_i h0;simp only[alh,alk] at h;obtain⟨_,rfl⟩:=h;exact zl ho h0
   ·split at h
    ·rename_i h0;simp only[alh,alk] at h;obtain⟨_,rfl⟩:=h;exact vC ho h0
    ·cases h
  |_=>simp[bo] at h
 |slice T x lo hi mx=>
  simp only[bo] at h;split at h
  ·rename_i d hd;split at h
   ·rename_i b hk hx;split at h
    ·rename_i l h' hl hh;simp only[alh,alk] at h;obtain⟨rfl,rfl⟩:=h;exact zn ah ho hd hk hx hl hh hc.1 hc.2.1 hc.2.2
    ·cases h
   ·rename_i e hk;split at h
    ·rename_i els d' fb dy;split at h
     ·rename_i l h' hl hh hm;simp only[alh,alk] at h;obtain⟨rfl,rfl⟩:=h;have hmx:mx=none:=by cases mx<;>simp_all
      exact wQ ah ho hd hk dy fb hl hh hc.1 hc.2.1 hc.2.2.1 hc.2.2.2 (.inl ⟨hmx,rfl⟩)
     ·rename_i l h' m hl hh hm;split at h
      ·rename_i his;simp only[alh,alk] at h;obtain⟨rfl,rfl⟩:=h
       cases mx with
       |none=>simp at hm
       |some y=>
        simp only[alN,alh] at hm;exact wQ ah ho hd hk dy fb hl hh hc.1 hc.2.1 hc.2.2.2.1 hc.2.2.2.2 (.inr ⟨y,m,rfl,his,hm,hc.2.2.1,rfl⟩)
      ·cases h
     ·cases h
    ·cases h
   ·cases h
  ·cases h
 |call cl=>
  simp only[bo] at h;split at h
  ·rename_i x hb hl;split at h
   ·rename_i d hd;have hT:∃T,cl.argTypes[0]?=some T/\tab T=some d:=by
     cases hT:cl.argTypes[0]? with
     |none=>rw[hT] at hd;cases hd
     |some T=>rw[hT] at hd;exact⟨T,rfl,hd⟩
    obtain⟨T,hT,hd⟩:=hT;split at h
    ·cases h
    ·rename_i e hk hns;split at h
     case h_2=>
      split at h
      ·rename_i r0 m0 e0 z0 k0 hm;simp only[alh,alk] at h;obtain⟨rfl,rfl⟩:=h;obtain⟨hx,els,qp,rfl⟩:=pU hm;exact KV ah ho hb hl hT hd hk hx qp hc
      ·cases h
     rename_i u hu;simp only[alh,alk] at h;obtain⟨_,rfl⟩:=h;have h:(tJ s.hp (s.ev x))=some u:=hu;have Da:∃els,(s.ev x).gN s.hp=some els/\u=.ae (.int .i64 els.length):=by
      unfold tJ at h;split at h
      ·rename_i sb he;exact(hns sb he).elim
      ·cases fb:(s.ev x).gN s.hp with
       |none=>rw[fb] at h;cases h
       |some els=>
        rw[fb] at h;exact⟨els,rfl,(alj h).symm⟩
     obtain⟨els,h1,h2⟩:=Da;exact C5 ah ho hb hl hT hd (.inl ⟨e,els,hk,h1,h2⟩)
    ·rename_i b hk hx;simp only[alh,alk] at h;exact C5 ah ho hb hl hT hd (.inr ⟨b,hk,hx,h.2.symm⟩)
    ·cases h
   ·cases h
  ·rename_i x y hb hl;split at h
   ·rename_i k m k' n hx hy;simp only[alh,alk] at h;obtain⟨_,rfl⟩:=h;exact M8 ho hb hl hx hy
   ·cases h
  ·rename_i x y hb hl;split at h
   ·rename_i k m k' n hx hy;simp only[alh,alk] at h;obtain⟨_,rfl⟩:=h;exact M9 ho hb hl hx hy
   ·cases h
  ·cases h
 |_=>simp[bo] at h
end
section
variable {G:Type} {Γ:Env G} {s:AS G} {a:Act} {w w':World} {η:List Value} {hp:List ab} {F:Nat->Nat->Prop} {P:Program}
def fS (Γ:Env G) (o:Oper) (s:AS G) (r:AV) (hp':List ab):Prop:=
 ∀a w η,Rel Γ s a w η->∃v w' aO,((execOp a.eval o).run Γ.P w=.ok (.value v) w'\/(execOp a.eval o).run Γ.P w=.ok .skip w'/\v=undef)/\
  Rel Γ { s with hp:=hp' } a w' aO/\ba w' (aW Γ w' aO hp') aO hp' r v
def aZ (d:TD) (n:Nat) (els ar:List AV):Prop:=
 (∀x:AV,x∈els->x.cells.length=d.size)/\(∀x:AV,x∈ar->x.cells.length=d.size)/\n<=maxLen/\n*d.bytes<=140737488355328
def cd {κ:Type} [DecidableEq κ]:List (κ×Value)->κ->Value->List (κ×Value)
 | [],a,v=>[(a,v)]
 |(k,u)::r,a,v=>if a=k then(k,v)::r else(k,u)::cd r a v
def vY:Operand->Operand->Bool
 | .tmp a,.tmp b=>Nat.beq a b
 |_,_=>false
theorem GU {l c:Operand} (h:vY l c=true):l=c:=by
 unfold vY at h;split at h
 ·rw[alB h]
 ·cases h
def Dd (d:TD):Option Value:=
 match Nat.beq d.size 1,d.zero.cells.toList with
 |true,[z]=>if z.oneCell'=true then some z else none
 |_,_=>none
theorem Nf {d:TD} {z:Value} (h:Dd d=some z):d.size=1/\d.zero.cells=#[z]/\z.oneCell'=true:=by
 unfold Dd at h;split at h
 ·rename_i z' h1 h2;split at h
  ·rename_i h3;obtain rfl:=alj h;exact⟨alB h1,by apply amy;simpa using h2,h3⟩
  ·cases h
 ·cases h
def dB (tab:Nat->Option TD) (hp:List ab) (ρ:Operand->AV):Op->Option (Prop×AV×List ab)
 | .alloc T=>(match tab T with
  |some d=>some (True,.ptr hp.length 0,hp++[.box (d.zero.cells.toList.map .ae)])
  |none=>none)
 | .box _ x=>if(ρ x).mm=true then some (True,.ptr hp.length 0,hp++[.box (ρ x).cells]) else none
 | .store T p x=>(match tab T,ρ p with
  |some d,.ptr r o=>(match hp[r]? with
   |some (.box cs)=>if(ρ x).mm=true then some ((ρ x).cells.length=d.size/\o+d.size<=cs.length,.top,hp.set r (.box (setCells cs o (ρ x).cells))) else none
   |_=>none)
  |some d,.fq r m i z=>(match hp[r]? with
   |some (.aQ e size els)=>if((ρ x).fe hp).mm=true/\size=z then(if d.size=z then some (((ρ x).fe hp).cells.length=d.size/\m=els.length/\i<els.length,.top,hp.set r (.aQ e size (els.set i ((ρ x).fe hp))))
     else some (((ρ x).fe hp).cells.length=d.size/\d.size<=z/\m=els.length/\i<els.length,.top,hp.set r (.aQ e size (els.set i (.agg (setCells (els.getD i .top).cells 0 ((ρ x).fe hp).cells)))))) else none
   |_=>none)
  |_,_=>none)
 | .makeSlice T l c=>(match tab T with
  |some d=>(match d.kind with
   | .kC e=>(match vY l c with
    |true=>(match tab e,ρ c with
     |some d',.ae (.int _ n)=>(match Dd d' with
      |some z=>some (0<=n/\n<=9223372036854775807/\(d'.bytes:Int)*n<=281474976710656,.own hp.length (List.replicate n.toNat (AV.ae z)).length,hp++[.aQ e 1 (List.replicate n.toNat (.ae z))])
      |none=>none)
     |_,_=>none)
    |false=>(match tab e,ρ l,ρ c with
     |some d',.ae (.int _ 0),.ae (.int _ n)=>some (0<=n/\n<=9223372036854775807/\(d'.bytes:Int)*n<=281474976710656/\0<d'.size,.own hp.length 0,hp++[.row e d'.size []])
     |_,_,_=>none))
   |_=>none)
  |none=>none)
 | .makeMap T none=>(match tab T with
  |some d=>(match d.kind with
   | .oy kt _=>(match tab kt with
    |some dk=>(match dk.kind with
     | .str=>some (True,.mp hp.length,hp++[.bW (.s [])])
     |_=>some (True,.mp hp.length,hp++[.bW (.i [])]))
    |none=>none)
   |_=>none)
  |none=>none)
 | .mapUpdate T m k x=>(match tab T,ρ m,ρ k,(ρ x).val? with
  |some d,.mp r,.ae (.int .i64 a),some v=>(match d.kind,hp[r]? with
   | .oy kt _,some (.bW (.i es))=>(match tab kt with
    |some dk=>(match dk.kind with
     | .int _=>some (True,.top,hp.set r (.bW (.i (cd es a v))))
     |_=>none)
    |none=>none)
   |_,_=>none)
  |some d,.mp r,.ae (.string a),some v=>(match d.kind,hp[r]? with
   | .oy kt _,some (.bW (.s es))=>(match tab kt with
    |some dk=>(match dk.kind with
     | .str=>some (True,.top,hp.set r (.bW (.s (cd es a v))))
     |_=>none)
    |none=>none)
   |_,_=>none)
  |_,_,_,_=>none)
 | .call c=>(match c.callee,c.args.toList,c.argTypes.toList with
  | .builtin .append,[b,x],[T,T']=>if T=T' then(match tab T with
   |some d=>(match d.kind with
    | .kC e=>(match tab e,(ρ x).gN hp with
     |some d',some ar=>(match ρ b with
      | .ae (.slice none 0 0)=>some (0<d'.size/\aZ d' ar.length [] ar,.own hp.length ar.length,hp++[.row e d'.size ar])
      | .clip els=>some (0<d'.size/\(ar=[]->els=[])/\aZ d' (els.length+ar.length) els ar,.own hp.length (els.length+ar.length),hp++[.row e d'.size (els++ar)])
      | .own r n=>(match hp[r]? with
       |some (.row e' size els)=>if e'=e/\size=d'.size/\n=els.length then some (aZ d' (els.length+ar.length) [] ar,.own r (els.length+ar.length),hp.set r (.row e size (els++ar))) else none
       |some (.aQ e' size els)=>if e'=e/\size=d'.size/\n=els.length then some (aZ d' (els.length+ar.length) [] ar,.own r (els.length+ar.length),hp.set r (.aQ e size (els++ar))) else none
       |_=>none)
      |_=>none)
     |_,_=>none)
    |_=>none)
   |none=>none) else none
  |_,_,_=>none)
 |_=>none
theorem Ng (al:Γ.Ok) {o:Oper} {T:Nat} {x:Operand} (ho:o.op=.box T x) (hs:(s.ev x).mm=true):fS Γ o s (.ptr s.hp.length 0) (s.hp++[.box (s.ev x).cells]):=by
 intro a w η hr;have C7:=(hr.ev x).C6 hs;have uE:=bD.alloc w (.cells (a.eval x).cells T);have he:=rQ (Γ:=Γ) (o:=.box (s.ev x).cells) (v:=.pointer (some ⟨w.heap.size,0,none⟩)) hr.heap.len uE (fun b hb=>by simp only[cZ,alh] at hb;omega);refine⟨.pointer (some ⟨w.heap.size,0,none⟩),_,η++[.pointer (some ⟨w.heap.size,0,none⟩)],.inl (by simp[execOp,ho,Instr.box,newVar,newRow];rfl),?_,?_⟩
 ·exact hr.add al uE (fun b hb=>by simp only[cZ,alh] at hb;omega) ⟨w.heap.size,(a.eval x).cells,T,rfl,heap_alloc_new w _,by simpa using C7.1,fun j y u hy hu=>by
   have:=C7.2 j y u hy (by simpa using hu)
   exact⟨this.1.ext he,this.2⟩⟩
 ·exact .ptr _ 0 w.heap.size (by rw[<-hr.heap.len];simp)
theorem GV (al:Γ.Ok) {tab:Nat->Option TD} (ah:aL Γ.P tab) {o:Oper} {T:Nat} (ho:o.op=.alloc T) {d:TD} (hd:tab T=some d):fS Γ o s (.ptr s.hp.length 0) (s.hp++[.box (d.zero.cells.toList.map .ae)]):=by
 intro a w η hr;have dZ:=ah T d hd;have uE:=bD.alloc w (.cells d.zero.cells T);refine⟨.pointer (some ⟨w.heap.size,0,none⟩),_,η++[.pointer (some ⟨w.heap.size,0,none⟩)],.inl (by simp[execOp,ho,Instr.alloc,dZ.jd,newVar,newRow];rfl),?_,?_⟩
 ·refine hr.add al uE (fun b hb=>by simp only[cZ,alh] at hb;omega) ⟨w.heap.size,d.zero.cells,T,rfl,heap_alloc_new w _,by simp,fun j y u hy hu=>?_⟩;exact(dZ.Bd (w:=_) (F:=_) (η:=_) (hp:=_)).2 j y u hy (by simpa using hu)
 ·exact .ptr _ 0 w.heap.size (by rw[<-hr.heap.len];simp)
theorem De (al:Γ.Ok) {b r:Nat}:∀(us:List Value) (xs:List AV) (k off:Nat) (cs:List AV) (s:AS G) (w:World),Rel Γ s a w η->s.hp[r]?=some (.box cs)->η[r]?=some (.pointer (some ⟨b,0,none⟩))->
  qW w (aW Γ w η s.hp) η s.hp xs us->off+k+xs.length<=cs.length->
  ∃w',(storeCells ⟨b,off,none⟩ us k).run Γ.P w=.ok () w'/\Rel Γ { s with hp:=s.hp.set r (.box (setCells cs (off+k) xs)) } a w' η:=by
 intro us
 induction us with
 |nil=>
  intro xs k off cs s w hr hb eP C7 hle;have:xs=[]:=alS (by have:=C7.1;simpa using this.symm);subst this;refine⟨w,rfl,?_⟩;have:s.hp.set r (.box (setCells cs (off+k) []))=s.hp:=by
   apply al9;intro i
   by_cases hi:r=i
   ·subst hi;rw[ai hb,hb];rfl
   ·rw[getElem?_set_ne hi]
  rw[this];exact hr
 |cons u us ih=>
  intro xs k off cs s w hr hb eP C7 hle
  cases xs with
  |nil=>have:=C7.1;simp at this
  |cons x xs=>
   have h0:=C7.2 0 x u rfl rfl;simp only[als] at hle;obtain⟨h1,h2,u',h3⟩:=hr.write al (off:=off+k) hb eP (by omega) h0.2 h0.1;have fF:qW (w.setCell ⟨b,off+k,none⟩ u) (aW Γ (w.setCell ⟨b,off+k,none⟩ u) η (s.hp.set r (.box (cs.set (off+k) x)))) η (s.hp.set r (.box (cs.set (off+k) x))) xs us:=by
    refine⟨by simpa using C7.1,fun j y z hy hz=>?_⟩;have h4:=C7.2 (j+1) y z (by simpa using hy) (by simpa using hz);refine⟨?_,h4.2⟩;refine h4.1.ext ?_;refine⟨fun b' o v hf hc=>?_,fun b' es c hf hc=>?_,fun b' o hf=>?_,fun _ _ h=>h,fun _ _ h=>h,fun r' n v ho=>?_⟩
    ·have bL:b'≠b:=by
      intro e;subst e;obtain⟨o1,q1,q2⟩:=(aS b' o).1 hf.2.2.2 r _ eP rfl;rw[hb] at q1;obtain rfl:=alj q1;exact q2
     rw[World.cell?_of_block (amN w _ b' u (by simpa using bL))];exact hc
    ·have bL:b'≠b:=by
      intro e;subst e;obtain⟨o1,q1,q2⟩:=(aS b' 0).1 hf.2.2.2 r _ eP rfl;rw[hb] at q1;obtain rfl:=alj q1;exact q2
     rw[amN w _ b' u (by simpa using bL)];exact hc
    ·refine⟨hf.1,by simpa using hf.2.1,hf.2.2.1,(aS b' o).2 fun r' v hv oL=>?_⟩;obtain⟨o1,q1,q2⟩:=(aS b' o).1 hf.2.2.2 r' v hv oL
     by_cases KX:r=r'
     ·subst KX;rw[hb] at q1;obtain rfl:=alj q1;exact q2.elim
     ·exact⟨o1,by rw[getElem?_set_ne KX];exact q1,q2⟩
    ·unfold aR at ho ⊢
     by_cases KX:r=r'
     ·subst KX;rw[hb] at ho;exact ho.elim
     ·rw[getElem?_set_ne KX];exact ho
   obtain⟨w',e1,e2⟩:=ih xs (k+1) off (cs.set (off+k) x) { s with hp:=s.hp.set r (.box (cs.set (off+k) x)) } (w.setCell ⟨b,off+k,none⟩ u) h1 (ai hb) eP fF (by simp;omega);refine⟨w',?_,?_⟩
   ·simp only[storeCells,Sem.run_bind,Addr.add_lit];rw[run_store _ _ _ _ _ h0.2,h3];simp only[h2,alx,if_false,Result.andThen_ok];exact e1
   ·have:(s.hp.set r (.box (cs.set (off+k) x))).set r (.box (setCells (cs.set (off+k) x) (off+(k+1)) xs))=s.hp.set r (.box (setCells cs (off+k) (x::xs))):=by
     rw[List.set_set];rfl
    simp only[this] at e2;exact e2
theorem GX (al:Γ.Ok) {tab:Nat->Option TD} (ah:aL Γ.P tab) {o:Oper} {T r off:Nat} {p x:Operand} (ho:o.op=.store T p x) {d:TD} (hd:tab T=some d) (hp:s.ev p=.ptr r off) {cs:List AV} (hb:s.hp[r]?=some (.box cs))
  (hs:(s.ev x).mm=true) (hl:(s.ev x).cells.length=d.size) (hle:off+d.size<=cs.length):fS Γ o s .top (s.hp.set r (.box (setCells cs off (s.ev x).cells))):=by
 intro a w η hr;have qq:=hr.ev p;rw[hp] at qq;have eo:=(hr.ev x).C6 hs;generalize hv:a.eval p=v at qq
 cases qq with
 |ptr _ _ b eP=>
  obtain⟨w',e1,e2⟩:=De al (a.eval x).cells.toList (s.ev x).cells 0 off cs s w hr hb eP eo (by omega);refine⟨undef,w',η,.inr ⟨?_,rfl⟩,by simpa using e2,.top _⟩;have bO:(a.eval x).cells.size=d.size:=by rw[<-hl,<-eo.1];simp
  simp only[execOp,ho,hv,Instr.storeAt,Instr.sureAddr,Sem.run_bind,Sem.run_pure,Result.andThen_ok,storeVar,(ah T d hd).run_sizeOf,bO,ne_eq,not_true_eq_false,if_false,e1]
theorem z6 {b off:Nat} {T:TypeId}:∀(us:List Value) (k:Nat) (cs:Array Value) (w:World),w.heap[b]?=some (.cells cs T (0,0))->off+k+us.length<=cs.size->(∀u∈us,u.oneCell'=true)->
  ∃w' eQ,(storeCells ⟨b,off,none⟩ us k).run P w=.ok () w'/\w'.heap[b]?=some (.cells eQ T (0,0))/\eQ.toList=fz cs.toList (off+k) us/\bZ (fun x=>x=b) w w'
 | [],k,cs,w,hb,_,_=>⟨w,cs,rfl,hb,rfl,bZ.refl _ _⟩
 |u::us,k,cs,w,hb,hle,h1=>by
  simp only[als] at hle;have vw:(w.setCell ⟨b,off+k,none⟩ u).heap[b]?=some (.cells (cs.setIfInBounds (off+k) u) T (0,0)):=Go.heap_setCell_same w b (off+k) cs T u hb;obtain⟨w',eQ,e1,e2,e3,e4⟩:=z6 (off:=off) us (k+1) _ _ vw (by simp;omega) fun v hv=>h1 v (alK _ hv);refine⟨w',eQ,?_,e2,?_,?_⟩
  ·have hc:w.cell? ⟨b,off+k,none⟩=some (cs[off+k]'(by omega)):=by
    rw[cell_of_row w b (off+k) cs T (0,0) hb];simp
   have hf:=frozen_of_row w b (off+k) cs T hb;simp only[storeCells,Sem.run_bind,Addr.add_lit];rw[run_store _ _ _ _ _ (h1 u alD),hc];simp only[hf,alx,if_false,Result.andThen_ok];exact e1
  ·rw[e3];simp[fz,amV]
  ·exact(show bZ (fun x=>x=b) w (w.setCell ⟨b,off+k,none⟩ u) from⟨rfl,rfl,rfl,by simp[World.setCell],fun i _ hi=>amN w _ i u hi⟩).trans e4 fun _ _ h=>h
theorem uF (al:Γ.Ok) {tab:Nat->Option TD} (ah:aL Γ.P tab) {o:Oper} {T r m i z e:Nat} {p x:Operand} (ho:o.op=.store T p x) {d:TD} (hd:tab T=some d) (hp:s.ev p=.fq r m i z) {els:List AV} (hb:s.hp[r]?=some (.aQ e z els))
  (hs:((s.ev x).fe s.hp).mm=true) (hl:((s.ev x).fe s.hp).cells.length=d.size) (hm:m=els.length) (C2:d.size<=z) (hi:i<els.length) {el':AV} (hle:els[i].cells.length=z->el'.cells.length=z)
  (ee:els[i].cells.length=z->∀(j:Nat) (y:AV),el'.cells[j]?=some y->(j<d.size->((s.ev x).fe s.hp).cells[j]?=some y)/\(d.size<=j->els[i].cells[j]?=some y)):fS Γ o s .top (s.hp.set r (.aQ e z (els.set i el'))):=by
 intro a w η hr;have qq:=hr.ev p;rw[hp] at qq;have eo:=(mj hr.heap hr.bN (hr.ev x)).C6 hs;generalize (s.ev x).fe s.hp=el at hs hl eo ee;generalize hv:a.eval p=v at qq
 cases qq with
 |fq _ _ _ _ b o' c k CW=>
  have wK:=CW;unfold aR at wK;rw[hb] at wK;have eP:=wK.2 hm;obtain⟨V3,xs,ea,fb⟩:=hr.heap.obj r _ _ hb eP;rcases ea.2 with⟨h0,_⟩|⟨g,cap,cur,he,h0,⟨C3,zY,hg⟩,Gz,GA,gO,od⟩
  ·omega
  obtain rfl:C3=0:=Nat.le_zero.1 zY
  ·simp only[Value.slice.injEq,alh,Addr.mk.injEq,and_true] at he;obtain⟨⟨rfl,rfl⟩,rfl,rfl⟩:=he;generalize I0:(a.eval x).cells.toList=us at eo;have hul:us.length=d.size:=by rw[eo.1,hl]
   have hold:=fb i els[i] (alo hi);have ee:=ee hold.1;have hle:=hle hold.1;have aA:(i+1)*z<=els.length*z:=al6 _ hi;have GH:els.length*z<=c*z:=al6 _ Gz;rw[amj,Nat.one_mul] at aA;obtain⟨w',eQ,e1,e2,e3,e4⟩:=z6 (P:=Γ.P) (off:=0+i*z) us 0 cur w hg (by omega) fun u hu=>by
    obtain⟨j,hj⟩:=amz hu;have aq:j<el.cells.length:=by rw[<-eo.1];exact(ali.1 hj).1
    exact(eo.2 j _ u (alo aq) hj).2
   have bO:(a.eval x).cells.size=d.size:=by rw[<-hl,<-eo.1,<-I0];simp
   have uz:cZ (.slice (some ⟨b,0,none⟩) els.length c)=some b:=bX h0;have Tq:η.set r (.slice (some ⟨b,0,none⟩) els.length c)=η:=by
    apply al9;intro k
    by_cases hk:r=k
    ·subst hk;rw[ai eP,eP]
    ·rw[getElem?_set_ne hk]
   have:=Rel.change (w':=w') (o':=.aQ e z (els.set i el')) (v':=.slice (some ⟨b,0,none⟩) els.length c) al hr hb True.intro eP
    ⟨e4.os,e4.tape,e4.output,e4.size,fun k hk hkb=>e4.block k hk fun h=>hkb (by rw[uz,h])⟩
    (fun c hc=>.inl hc) (fun k hk=>hk.elim) (fun _ _ _ _ hk=>hk.elim) (fun _ _ _ _ hk=>hk.elim)
    (fun n u ho=>by
     unfold aR at ho ⊢;rw[hb] at ho;rw[ai hb,Tq]
     exact⟨by rw[amA];exact ho.1,fun h=>ho.2 (by rw[amA] at h;exact h)⟩)
    (fun _ _=>rfl) (fun _ hx=>by cases hx)
    (fun b' d' fJ dy=>by rw[uz] at fJ;obtain rfl:=alj fJ;rw[hg] at dy;cases dy)
    (fun he=>⟨V3,fz xs (i*z) us,⟨by rw[gQ,amA];exact ea.1,.inr ⟨b,c,eQ,by rw[amA],h0,⟨0,alp _,e2⟩,by rw[amA];exact Gz,GA,by
      have:eQ.toList.length=cur.toList.length:=by rw[e3,gQ]
      simp only[alY] at this;rw[this,gO],by
      rw[amA];apply al9;intro k;have hlen:i*z+us.length<=cur.toList.length:=by simp only[alY];omega
      have Df:i*z+us.length<=xs.length:=by rw[ea.1];omega
      rw[alz,cJ us xs _ _ Df,e3,amh,alM,cJ us _ _ _ hlen]
      by_cases hk:k<els.length*z
      ·rw[if_pos hk]
       by_cases ee:i*z<=k/\k<i*z+us.length
       ·rw[if_pos ee,if_pos ee]
       ·rw[if_neg ee,if_neg ee,<-od,alz,if_pos hk]
      ·rw[if_neg hk,if_neg (by omega),alU (by rw[ea.1];omega)]⟩⟩,fun i' el2 tE=>by
      have Df:i*z+us.length<=xs.length:=by rw[ea.1];omega
      by_cases GM:i=i'
      ·subst GM;rw[List.getElem?_set_self hi] at tE;obtain rfl:=alj tE;refine⟨hle,fun j x hj=>?_⟩
       by_cases hjd:j<d.size
       ·have hj:=(ee j x hj).1 hjd;have uG:j<us.length:=by omega
        refine⟨us[j],?_,((eo.2 j x _ hj (alo uG)).1).ext he.oB.ext,(eo.2 j x _ hj (alo uG)).2⟩;rw[cJ us xs _ _ Df,if_pos (by omega),show i*z+j-i*z=j from by omega,alo uG]
       ·obtain⟨u,q1,q2,q3⟩:=hold.2 j x ((ee j x hj).2 (by omega));refine⟨u,?_,q2.ext he.oB.ext,q3⟩;rw[cJ us xs _ _ Df,if_neg (by omega)];exact q1
      ·rw[getElem?_set_ne GM] at tE;refine⟨(fb i' el2 tE).1,fun j x hj=>?_⟩;obtain⟨u,q1,q2,q3⟩:=(fb i' el2 tE).2 j x hj;refine⟨u,?_,q2.ext he.oB.ext,q3⟩;have hjz:j<z:=by rw[<-(fb i' el2 tE).1];exact(ali.1 hj).1
       rw[cJ us xs _ _ Df,if_neg ?_]
       ·exact q1
       ·rw[hul];rcases Nat.lt_or_gt_of_ne GM with h|h
        ·have:=al6 z (show i+1<=i' from h);rw[amj,Nat.one_mul] at this;omega
        ·have:=al6 z (show i'+1<=i from h)
         rw[amj,Nat.one_mul] at this;omega⟩)
   rw[Tq] at this;refine⟨undef,w',η,.inr ⟨?_,rfl⟩,this,.top _⟩;simp only[execOp,ho,hv,Instr.storeAt,Instr.sureAddr,Sem.run_bind,Sem.run_pure,Result.andThen_ok,storeVar,(ah T d hd).run_sizeOf,bO,ne_eq,not_true_eq_false,if_false,I0,e1]
theorem Dg (al:Γ.Ok) {tab:Nat->Option TD} (ah:aL Γ.P tab) {o:Oper} {T r m i z e:Nat} {p x:Operand} (ho:o.op=.store T p x) {d:TD} (hd:tab T=some d) (hp:s.ev p=.fq r m i z) {els:List AV} (hb:s.hp[r]?=some (.aQ e z els))
  (hs:((s.ev x).fe s.hp).mm=true) (hl:((s.ev x).fe s.hp).cells.length=d.size) (hm:m=els.length) (C2:d.size=z) (hi:i<els.length):fS Γ o s .top (s.hp.set r (.aQ e z (els.set i ((s.ev x).fe s.hp)))):=
 uF al ah ho hd hp hb hs hl hm (Nat.le_of_eq C2) hi (fun _=>by rw[hl,C2]) fun _ j y hy=>⟨fun _=>hy,fun h=>by have:=(ali.1 hy).1;omega⟩
theorem ly:∀(xs cs:List AV) (k j:Nat),k+xs.length<=cs.length->(setCells cs k xs)[j]?=if k<=j/\j<k+xs.length then xs[j-k]? else cs[j]?
 | [],cs,k,j,_=>by rw[setCells,if_neg (by simp only[al5];omega)]
 |x::xs,cs,k,j,h=>by
  simp only[als] at h;rw[setCells,ly xs _ _ _ (by rw[amA];omega)]
  by_cases e:k=j
  ·subst e;rw[if_neg (by omega),if_pos (by simp only[als];omega),amO,al8,List.getElem?_set_self (by omega)]
  ·rw[getElem?_set_ne e]
   by_cases h2:k+1<=j/\j<k+1+xs.length
   ·rw[if_pos h2,if_pos (by simp only[als];omega),show j-k=j-(k+1)+1 from by omega,alP]
   ·rw[if_neg h2,if_neg (by simp only[als];omega)]
theorem Dh (al:Γ.Ok) {tab:Nat->Option TD} (ah:aL Γ.P tab) {o:Oper} {T r m i z e:Nat} {p x:Operand} (ho:o.op=.store T p x) {d:TD} (hd:tab T=some d) (hp:s.ev p=.fq r m i z) {els:List AV} (hb:s.hp[r]?=some (.aQ e z els))
  (hs:((s.ev x).fe s.hp).mm=true) (hl:((s.ev x).fe s.hp).cells.length=d.size) (hm:m=els.length) (C2:d.size<=z) (hi:i<els.length):fS Γ o s .top (s.hp.set r (.aQ e z (els.set i (.agg (setCells (els.getD i .top).cells 0 ((s.ev x).fe s.hp).cells))))):=by
 have hg:els.getD i .top=els[i]:=by simp[List.getD,hi]
 rw[hg];refine uF al ah ho hd hp hb hs hl hm C2 hi (fun h=>by show (setCells _ 0 _).length=z;rw[vv,h]) fun h j y hy=>?_;have Ba:(setCells els[i].cells 0 ((s.ev x).fe s.hp).cells)[j]?=some y:=hy;rw[ly _ _ _ _ (by rw[hl,h];omega),hl] at Ba;refine⟨fun hj=>?_,fun hj=>?_⟩
 ·rw[if_pos (by omega)] at Ba;exact Ba
 ·rw[if_neg (by omega)] at Ba;exact Ba
theorem wS (al:Γ.Ok) {tab:Nat->Option TD} (ah:aL Γ.P tab) {o:Oper} {T e:Nat} {l c:Operand} (ho:o.op=.makeSlice T l c) {d d':TD} (hd:tab T=some d) (hk:d.kind=.kC e) (dy:tab e=some d')
  {k k':IntKind} {n:Int} (hl:s.ev l=.ae (.int k 0)) (hc:s.ev c=.ae (.int k' n)) (h0:0<=n) (A4:n<=9223372036854775807) (Y4:(d'.bytes:Int)*n<=281474976710656) (bO:0<d'.size):
  fS Γ o s (.own s.hp.length 0) (s.hp++[.row e d'.size []]):=by
 intro a w η hr;have SP:=hr.ev l;have IX:=hr.ev c;rw[hl] at SP;rw[hc] at IX;have dZ:=ah e d' dy;obtain⟨i,iK,qD,CU,IU⟩:=dZ.info;have hu:Γ.P.underlying T=some (.slice e):=by
  obtain⟨u,q2,q3⟩:=(ah T d hd).lj;rw[hk] at q3;rw[q2];exact congrArg some q3
 have hw:IntKind.i64.wrap n=n:=by
  simp only[IntKind.wrap,IntKind.bits,IntKind.signed];simp;omega
 have hw0:IntKind.i64.wrap 0=0:=by decide
 have GY:((decide (n<0)||decide ((d'.bytes:Int)*n>2 ^ 48))||decide ((0:Int)<0)||decide ((0:Int)>n))=false:=by
  simp;omega
 have fY:∃arr:Array Value,arr.size=n.toNat*d'.size/\(execOp a.eval o).run Γ.P w=.ok (.value (.slice (some ⟨w.heap.size,0,none⟩) 0 n.toNat)) (w.alloc (.cells arr e)):=by
  by_cases hz:n.toNat*d'.size=0
  ·refine⟨(Array.range (n.toNat*d'.size)).map ((#[]:Array Value)[· % (#[]:Array Value).size]!),by simp,?_⟩;simp only[execOp,ho,Instr.makeSlice,Sem.run_bind,run_underlying hu,Result.andThen_ok,asInt,SP.aj,IX.aj,asIntOf,Sem.run_pure,typeInfo,run_program,iK,CU,hw,hw0,GY,alx,if_false,run_askRoom,sizeOf,qD,if_pos hz,newRow,run_newObj];rfl
  ·refine⟨(Array.range (n.toNat*d'.size)).map (d'.zero.cells[· % d'.zero.cells.size]!),by simp,?_⟩;simp only[execOp,ho,Instr.makeSlice,Sem.run_bind,run_underlying hu,Result.andThen_ok,asInt,SP.aj,IX.aj,asIntOf,Sem.run_pure,typeInfo,run_program,iK,CU,hw,hw0,GY,alx,if_false,run_askRoom,sizeOf,qD,if_neg hz,dZ.jd,newRow,run_newObj];rfl
 obtain⟨arr,qF,fY⟩:=fY;have uE:=bD.alloc w (.cells arr e);refine⟨_,_,η++[.slice (some ⟨w.heap.size,0,none⟩) 0 n.toNat],.inl fY,?_,?_⟩
 ·refine hr.add al uE (fun b hb=>?_) ⟨bO,[],⟨by simp,?_⟩,fun i el hi=>by simp at hi⟩
  ·simp only[cZ] at hb;split at hb
   ·cases hb
   ·obtain rfl:=alj hb;exact alp _
  ·by_cases hn:n.toNat=0
   ·exact .inl ⟨rfl,.inr ⟨_,by rw[hn]⟩⟩
   ·exact .inr ⟨w.heap.size,n.toNat,arr,rfl,by omega,⟨0,aly _,heap_alloc_new w _⟩,aly _,by simp only[maxLen];omega,qF,by simp⟩
 ·refine .own _ 0 _ rfl ?_;unfold aR;have:(s.hp++[ab.row e d'.size []])[s.hp.length]?=some (.row e d'.size []):=by simp
  rw[this];exact⟨alp _,fun _=>by rw[<-hr.heap.len];simp⟩
theorem GZ (al:Γ.Ok) {tab:Nat->Option TD} (ah:aL Γ.P tab) {o:Oper} {T e:Nat} {l c:Operand} (ho:o.op=.makeSlice T l c) {d d':TD} (hd:tab T=some d) (hk:d.kind=.kC e) (dy:tab e=some d')
  {k k':IntKind} {n:Int} (hl:s.ev l=.ae (.int k n)) (hc:s.ev c=.ae (.int k' n)) (h0:0<=n) (A4:n<=9223372036854775807) (Y4:(d'.bytes:Int)*n<=281474976710656) {z:Value} (hz:Dd d'=some z):
  fS Γ o s (.own s.hp.length (List.replicate n.toNat (AV.ae z)).length) (s.hp++[.aQ e 1 (List.replicate n.toNat (.ae z))]):=by
 intro a w η hr;have SP:=hr.ev l;have IX:=hr.ev c;rw[hl] at SP;rw[hc] at IX;have dZ:=ah e d' dy;obtain⟨i,iK,qD,CU,IU⟩:=dZ.info;obtain⟨hs1,hzc,zk⟩:=Nf hz;have hu:Γ.P.underlying T=some (.slice e):=by
  obtain⟨u,q2,q3⟩:=(ah T d hd).lj;rw[hk] at q3;rw[q2];exact congrArg some q3
 have hw:IntKind.i64.wrap n=n:=by
  simp only[IntKind.wrap,IntKind.bits,IntKind.signed];simp;omega
 have GY:((decide (n<0)||decide ((d'.bytes:Int)*n>2 ^ 48))||decide (n<0)||decide (n>n))=false:=by
  simp;omega
 have fY:∃arr:Array Value,arr.toList=List.replicate n.toNat z/\(execOp a.eval o).run Γ.P w=.ok (.value (.slice (some ⟨w.heap.size,0,none⟩) n.toNat n.toNat)) (w.alloc (.cells arr e)):=by
  by_cases hz:n.toNat*d'.size=0
  ·have nk:n.toNat=0:=by rw[hs1] at hz;omega
   refine⟨(Array.range (n.toNat*d'.size)).map ((#[]:Array Value)[· % (#[]:Array Value).size]!),by rw[hz,nk];simp,?_⟩;simp only[execOp,ho,Instr.makeSlice,Sem.run_bind,run_underlying hu,Result.andThen_ok,asInt,SP.aj,IX.aj,asIntOf,Sem.run_pure,typeInfo,run_program,iK,CU,hw,GY,alx,if_false,run_askRoom,sizeOf,qD,if_pos hz,newRow,run_newObj];rfl
  ·refine⟨(Array.range (n.toNat*d'.size)).map (d'.zero.cells[· % d'.zero.cells.size]!),?_,?_⟩
   ·rw[hs1,hzc,amu];refine List.ext_getElem (by simp) fun j h1 h2=>?_;simp[Nat.mod_one]
   simp only[execOp,ho,Instr.makeSlice,Sem.run_bind,run_underlying hu,Result.andThen_ok,asInt,SP.aj,IX.aj,asIntOf,Sem.run_pure,typeInfo,run_program,iK,CU,hw,GY,alx,if_false,run_askRoom,sizeOf,qD,if_neg hz,dZ.jd,newRow,run_newObj];rfl
 obtain⟨arr,fZ,fY⟩:=fY;have qF:arr.size=n.toNat:=by rw[<-alY,fZ,List.length_replicate]
 have uE:=bD.alloc w (.cells arr e);have hle:=List.length_replicate (n:=n.toNat) (a:=AV.ae z);refine⟨_,_,η++[.slice (some ⟨w.heap.size,0,none⟩) n.toNat n.toNat],.inl fY,?_,?_⟩
 ·refine hr.add al uE (fun b hb=>?_) ⟨Nat.one_pos,List.replicate n.toNat z,⟨by simp,?_⟩,fun i el hi=>?_⟩
  ·simp only[cZ] at hb;split at hb
   ·cases hb
   ·obtain rfl:=alj hb;exact alp _
  ·rw[hle]
   by_cases hn:n.toNat=0
   ·exact .inl ⟨hn,.inr ⟨_,by rw[hn]⟩⟩
   ·exact .inr ⟨w.heap.size,n.toNat,arr,rfl,by omega,⟨0,alp _,heap_alloc_new w _⟩,alp _,by simp only[maxLen];omega,by omega,by rw[fZ,alI (by simp)]⟩
  ·obtain⟨aq,rfl⟩:i<n.toNat/\el=.ae z:=by
    rw[List.getElem?_replicate] at hi;split at hi
    ·rename_i aq;exact⟨aq,(alj hi).symm⟩
    ·cases hi
   refine⟨rfl,fun j x hj=>?_⟩;have tA:[AV.ae z][j]?=some x:=hj
   cases j with
   |zero=>
    obtain rfl:=alj tA;exact⟨z,by rw[List.getElem?_replicate,if_pos (by omega)],.ae z,zk⟩
   |succ j=>simp at tA
 ·refine .own _ _ _ rfl ?_;unfold aR;have:(s.hp++[ab.aQ e 1 (List.replicate n.toNat (.ae z))])[s.hp.length]?=some (.aQ e 1 (List.replicate n.toNat (.ae z))):=by simp
  rw[this];refine⟨alp _,fun _=>?_⟩;have hlen:η.length=s.hp.length:=hr.heap.len;rw[<-hlen];simp
theorem lz (al:Γ.Ok) {tab:Nat->Option TD} (ah:aL Γ.P tab) {o:Oper} {c:Call} (ho:o.op=.call c) (hb:c.callee=.builtin .append) {b x:Operand} (hl:c.args.toList=[b,x]) {T e:Nat} (hT:c.argTypes.toList=[T,T]) {d d':TD} (hd:tab T=some d)
  (hk:d.kind=.kC e) (dy:tab e=some d') {ar:List AV} (hx:(s.ev x).gN s.hp=some ar) {r:AV} {hp':List ab}
  (h:(∃els,(s.ev b=.ae (.slice none 0 0)/\els=[]\/s.ev b=.clip els)/\0<d'.size/\(ar=[]->els=[])/\aZ d' (els.length+ar.length) els ar/\r=.own s.hp.length (els.length+ar.length)/\hp'=s.hp++[.row e d'.size (els++ar)])\/
   (∃M n els,s.ev b=.own n els.length/\s.hp[n]?=some (fR M e d'.size els)/\aZ d' (els.length+ar.length) [] ar/\r=.own n (els.length+ar.length)/\hp'=s.hp.set n (fR M e d'.size (els++ar)))):fS Γ o s r hp':=by
 intro a w η hr;have hu:Γ.P.underlying T=some (.slice e):=by
  obtain⟨u,q2,q3⟩:=(ah T d hd).lj;rw[hk] at q3;rw[q2];exact congrArg some q3
 have eo:=kD hr.heap hr.bN (hr.ev x) hx;have I3:=hr.ev b;have oM:c.argTypes=#[T,T]:=by rw[<-alV (xs:=c.argTypes),hT]
 have aw:c.args=#[b,x]:=by rw[<-alV (xs:=c.args),hl]
 have og:∀v w',(Builtin.append_ #[T,T] o.type #[a.eval b,a.eval x]).run Γ.P w=.ok v w'->(execOp a.eval o).run Γ.P w=.ok (.value v) w':=by
  intro v w' fY;simp only[execOp,ho,resolve,hb,Sem.run_bind,Sem.run_pure,Result.andThen_ok,invoke,builtin,oM,aw,amI,alQ,ama,fY]
 rcases h with⟨els,oL,bO,bL,rW,rfl,rfl⟩|⟨M,n,els,oL,ea,rW,rfl,rfl⟩
 ·have C9:a.eval b=.slice none 0 0/\els=[]\/ba w (aW Γ w η s.hp) η s.hp (.clip els) (a.eval b):=by
   rcases oL with⟨h1,h2⟩|h1
   ·rw[h1] at I3;exact .inl ⟨I3.aj,h2⟩
   ·rw[h1] at I3;exact .inr I3
  obtain⟨v',w',h1,h2,h3⟩:=wD al hr (ty:=o.type) hu (ah e d' dy) bO C9 eo rW.1 rW.2.1 bL rW.2.2.1 rW.2.2.2 (ob:=.row e d'.size (els++ar)) (.inl rfl);refine⟨v',w',η++[v'],.inl (og _ _ h1),h2,.own _ _ _ h3 ?_⟩;unfold aR;have:(s.hp++[ab.row e d'.size (els++ar)])[s.hp.length]?=some (.row e d'.size (els++ar)):=by simp
  rw[this];exact⟨by simp,fun _=>by rw[<-hr.heap.len];simp⟩
 ·rw[oL] at I3;have tD:aR η s.hp n els.length (a.eval b):=by cases I3;assumption
  have tI:η[n]?=some (a.eval b):=((kF ea).1 tD).2 rfl;obtain⟨news,hn⟩:=rR (ty:=o.type) hu (ah e d' dy) (mf.1 (hr.heap.obj n _ _ ea tI)).1 eo rW.2.1;obtain⟨v',w',aO,h1,h2,h3,h4⟩:=wG al hr (ah e d' dy) ea tD hn rW.2.1 rW.2.2.1 rW.2.2.2;exact⟨v',w',aO,.inl (og _ _ h1),h2,.own _ _ _ h3 ((kF (ai ea)).2 ⟨by simp,fun _=>h4⟩)⟩
theorem Bf (al:Γ.Ok) {tab:Nat->Option TD} (ah:aL Γ.P tab) {o:Oper} {c:Call} (ho:o.op=.call c) (hb:c.callee=.builtin .append) {b x:Operand} (hl:c.args.toList=[b,x]) {T e:Nat} (hT:c.argTypes.toList=[T,T]) {d d':TD} (hd:tab T=some d)
  (hk:d.kind=.kC e) (dy:tab e=some d') {ar:List AV} (hx:(s.ev x).gN s.hp=some ar) {els:List AV} (oL:s.ev b=.ae (.slice none 0 0)/\els=[]\/s.ev b=.clip els) (bO:0<d'.size) (bL:ar=[]->els=[]) (rW:aZ d' (els.length+ar.length) els ar):
  fS Γ o s (.own s.hp.length (els++ar).length) (s.hp++[.aQ e d'.size (els++ar)]):=by
 intro a w η hr;have hu:Γ.P.underlying T=some (.slice e):=by
  obtain⟨u,q2,q3⟩:=(ah T d hd).lj;rw[hk] at q3;rw[q2];exact congrArg some q3
 have eo:=kD hr.heap hr.bN (hr.ev x) hx;have I3:=hr.ev b;have oM:c.argTypes=#[T,T]:=by rw[<-alV (xs:=c.argTypes),hT]
 have aw:c.args=#[b,x]:=by rw[<-alV (xs:=c.args),hl]
 have og:∀v w',(Builtin.append_ #[T,T] o.type #[a.eval b,a.eval x]).run Γ.P w=.ok v w'->(execOp a.eval o).run Γ.P w=.ok (.value v) w':=by
  intro v w' fY;simp only[execOp,ho,resolve,hb,Sem.run_bind,Sem.run_pure,Result.andThen_ok,invoke,builtin,oM,aw,amI,alQ,ama,fY]
 have C9:a.eval b=.slice none 0 0/\els=[]\/ba w (aW Γ w η s.hp) η s.hp (.clip els) (a.eval b):=by
  rcases oL with⟨h1,h2⟩|h1
  ·rw[h1] at I3;exact .inl ⟨I3.aj,h2⟩
  ·rw[h1] at I3;exact .inr I3
 obtain⟨v',w',h1,h2,h3⟩:=wD al hr (ty:=o.type) hu (ah e d' dy) bO C9 eo rW.1 rW.2.1 bL rW.2.2.1 rW.2.2.2 (ob:=.aQ e d'.size (els++ar)) (.inr rfl);refine⟨v',w',η++[v'],.inl (og _ _ h1),h2,.own _ _ _ h3 ?_⟩;unfold aR;have:(s.hp++[ab.aQ e d'.size (els++ar)])[s.hp.length]?=some (.aQ e d'.size (els++ar)):=by simp
 rw[this];exact⟨alp _,fun _=>by rw[<-hr.heap.len];simp⟩
theorem rX (al:Γ.Ok) {o:Oper} {T:Nat} (ho:o.op=.makeMap T none) {me:ME} (hme:KP me=[]):fS Γ o s (.mp s.hp.length) (s.hp++[.bW me]):=by
 intro a w η hr;have uE:=bD.alloc w (.map #[] 0);refine⟨.map (some w.heap.size),_,η++[.map (some w.heap.size)],.inl (by simp[execOp,ho,Instr.makeMap];rfl),?_,?_⟩
 ·exact hr.add al uE (fun b hb=>by simp only[cZ,alh] at hb;omega) ⟨w.heap.size,#[],0,rfl,World.alloc_heap_new w _,hme.symm⟩
 ·exact .mp _ w.heap.size (by rw[<-hr.heap.len];simp)
theorem Nh {κ:Type} [DecidableEq κ] {td:TypeDesc} {kv:κ->Value} {me:List (κ×Value)->ME} (K:KW td kv me) {a:κ} {v:Value}:∀(es:List MapEntry) (l:List (κ×Value)) (i:Nat),(es.map fun e=>(e.key,e.val))=l.map (fun p=>(kv p.1,p.2))->
  (∃j u,Instr.findNow td (kv a) es i=some (some (i+j,u))/\(es[j]?).map (·.key)=some (kv a)/\((es.modify j fun e=>{ e with key:=kv a,val:=v }).map fun e=>(e.key,e.val))=(cd l a v).map (fun p=>(kv p.1,p.2)))\/
   (Instr.findNow td (kv a) es i=some none/\(cd l a v).map (fun p=>(kv p.1,p.2))=(es.map fun e=>(e.key,e.val))++[(kv a,v)]):=by
 intro es
 induction es with
 |nil=>
  intro l i h
  cases l with
  |nil=>exact .inr ⟨rfl,rfl⟩
  |cons p l=>simp at h
 |cons e es ih=>
  intro l i h
  cases l with
  |nil=>simp at h
  |cons p l=>
   obtain⟨key,u⟩:=p;simp only[alQ,List.cons.injEq,alk] at h;obtain⟨⟨h1,h2⟩,h3⟩:=h;simp only[Instr.findNow,h1,K.same,cd]
   by_cases Xc:a=key
   ·subst Xc;simp only[decide_true,if_true];refine .inl ⟨0,e.val,rfl,by simp[h1],?_⟩;simp only[List.modify_zero_cons,alQ];rw[h3]
   ·simp only[if_neg Xc,decide_eq_false Xc];rcases ih l (i+1) h3 with⟨j,u',g1,g2,g3⟩|⟨g1,g2⟩
    ·refine .inl ⟨j+1,u',by rw[g1];congr 3;omega,by simpa using g2,?_⟩;simp only[List.modify_succ_cons,alQ,h1,h2];rw[g3]
    ·refine .inr ⟨g1,?_⟩;simp only[alQ,amR,h1,h2] at g2 ⊢;rw[g2]
theorem oN {κ:Type} [DecidableEq κ] {td:TypeDesc} {kv:κ->Value} {me:List (κ×Value)->ME} (K:KW td kv me) (al:Γ.Ok) {tab:Nat->Option TD} (ah:aL Γ.P tab) {o:Oper} {T kt et r:Nat} {m k x:Operand} (ho:o.op=.mapUpdate T m k x) {d dk:TD} (hd:tab T=some d) (mu:d.kind=.oy kt et) (ma:tab kt=some dk) (vX:∀u,dk.kind.fits Γ.P u->u=td)
  (hm:s.ev m=.mp r) {es:List (κ×Value)} (Tp:s.hp[r]?=some (.bW (me es))) {a:κ} (hk:s.ev k=.ae (kv a)) {v:Value} (hx:(s.ev x).val?=some v):fS Γ o s .top (s.hp.set r (.bW (me (cd es a v)))):=by
 intro act w η hr;have hu:Γ.P.underlying T=some (.map kt et):=by
  obtain⟨u,q2,q3⟩:=(ah T d hd).lj;rw[mu] at q3;rw[q2];exact congrArg some q3
 have Tl:Γ.P.underlying kt=some td:=by
  obtain⟨u,q2,q3⟩:=(ah kt dk ma).lj;rw[q2];exact congrArg some (vX u q3)
 have Xd:=hr.ev k;rw[hk] at Xd;have Xe:=Xd.aj;have tB:=(hr.ev x).Td hx;have Tn:=hr.ev m;rw[hm] at Tn;generalize MG:act.eval m=mv at Tn
 cases Tn with
 |mp _ b eP=>
  obtain⟨b',en,c,e1,jC,wR⟩:=hr.heap.obj r _ _ Tp eP;simp only[Value.map.injEq,alh] at e1;subst e1;have aq:=bF jC;have dA:(getObj b).run Γ.P w=.ok (.map en c) w:=by simp[getObj,Sem.run,jC]
  have vw:∀o',(setObj b o').run Γ.P w=.ok () (w.putObj b o'):=fun o'=>by simp[setObj,Sem.run,jC,World.putObj]
  have key:∀Y9 c',mc Y9=KP (me (cd es a v))->Rel Γ { s with hp:=s.hp.set r (.bW (me (cd es a v))) } act (w.putObj b (.map Y9 c')) η:=by
   intro Y9 c' hp';have Tq:η.set r (.map (some b))=η:=by
    apply al9;intro i
    by_cases hi:r=i
    ·subst hi;rw[ai eP,eP]
    ·rw[getElem?_set_ne hi]
   have:=Rel.change (w':=w.putObj b (.map Y9 c')) (o':=.bW (me (cd es a v))) (v':=.map (some b)) al hr Tp True.intro eP
    ⟨rfl,rfl,rfl,by simp,fun q hq hb=>World.putObj_heap_other (fun e=>hb (by rw[e];rfl))⟩
    (fun q hq=>.inl hq) (fun q hq=>hq.elim) (fun _ _ _ _ hq=>hq.elim) (fun _ _ _ _ hq=>hq.elim)
    (fun n u zh=>by simp[aR,Tp] at zh) (fun _ hq=>by cases hq) (fun _ _=>rfl)
    (fun q dd hb hdd=>by simp only[cZ,alh] at hb;subst hb;rw[jC] at hdd;cases hdd)
    (fun _=>⟨b,Y9,c',rfl,World.putObj_heap_same aq,hp'⟩)
   rw[Tq] at this;exact this
  have hfk:∀q,Instr.findNow td (kv a) en.toList 0=some q->(Instr.findKey kt (kv a) en.toList).run Γ.P w=.ok q w:=fun q hq=>by
   simp only[Instr.findKey,Sem.run_bind,run_underlying Tl,Result.andThen_ok,hq,Sem.run_pure]
  rcases Nh K (a:=a) (v:=v) en.toList es 0 (wR.trans (K.me es)) with⟨j,u,g1,g2,g3⟩|⟨g1,g2⟩
  ·rw[alM] at g1;have hj:(en[j]?).map (·.key)=some (kv a):=by simpa using g2
   have aeH:(Instr.keyThatStays (((en[j]?).map (·.key)).getD (kv a)) (kv a)).run Γ.P w=.ok (kv a) w:=by
    rw[hj];simp[Instr.keyThatStays,K.bits]
   refine⟨undef,_,η,.inr ⟨?_,rfl⟩,key (en.modify j fun e=>{ e with key:=kv a,val:=v }) c ?_,.top _⟩
   ·simp only[execOp,ho,MG,Xe,tB,Instr.mapUpdate,Sem.run_bind,run_underlying hu,Result.andThen_ok,dA,K.check _ _ _ _ _ Tl,hfk _ g1,aeH,vw,Sem.run_pure]
   ·unfold mc;rw[Array.toList_modify,K.me];exact g3
  ·refine⟨undef,_,η,.inr ⟨?_,rfl⟩,key (en.push { key:=kv a,val:=v,born:=c }) (c+1) ?_,.top _⟩
   ·simp only[execOp,ho,MG,Xe,tB,Instr.mapUpdate,Sem.run_bind,run_underlying hu,Result.andThen_ok,dA,K.check _ _ _ _ _ Tl,hfk _ g1,vw,Sem.run_pure]
   ·unfold mc;rw[K.me,g2];simp
theorem iL (al:Γ.Ok) {tab:Nat->Option TD} (ah:aL Γ.P tab) {o:Oper} {c:Prop} {r:AV} {hp':List ab} (h:dB tab s.hp s.ev o.op=some (c,r,hp')) (hc:c):fS Γ o s r hp':=by
 generalize ho:o.op=op at h
 cases op with
 |alloc T=>
  simp only[dB] at h;split at h
  ·rename_i d hd;simp only[alh,alk] at h;obtain⟨_,rfl,rfl⟩:=h;exact GV al ah ho hd
  ·cases h
 |box T x=>
  simp only[dB] at h;split at h
  ·rename_i hs;simp only[alh,alk] at h;obtain⟨_,rfl,rfl⟩:=h;exact Ng al ho hs
  ·cases h
 |store T p x=>
  simp only[dB] at h;split at h
  ·rename_i d r' off hd hp;split at h
   ·rename_i cs gO;split at h
    ·rename_i hs;simp only[alh,alk] at h;obtain⟨rfl,rfl,rfl⟩:=h;exact GX al ah ho hd hp gO hs hc.1 hc.2
    ·cases h
   ·cases h
  ·rename_i d r' m i z hd hp;split at h
   ·rename_i e size els gO;split at h
    ·rename_i hs;obtain⟨hs,rfl⟩:=hs;split at h
     ·rename_i C2;simp only[alh,alk] at h;obtain⟨rfl,rfl,rfl⟩:=h;exact Dg al ah ho hd hp gO hs hc.1 hc.2.1 C2 hc.2.2
     ·simp only[alh,alk] at h;obtain⟨rfl,rfl,rfl⟩:=h;exact Dh al ah ho hd hp gO hs hc.1 hc.2.2.1 hc.2.1 hc.2.2.2
    ·cases h
   ·cases h
  ·cases h
 |makeSlice T l c'=>
  simp only[dB] at h;split at h
  ·rename_i d hd;split at h
   ·rename_i e hk;split at h
    ·rename_i Xb;obtain rfl:=GU Xb;split at h
     ·rename_i d' k n dy uH;split at h
      ·rename_i z hz;simp only[alh,alk] at h;obtain⟨rfl,rfl,rfl⟩:=h;exact GZ al ah ho hd hk dy uH uH hc.1 hc.2.1 hc.2.2 hz
      ·cases h
     ·cases h
    split at h
    ·rename_i d' k k' n dy hl uH;simp only[alh,alk] at h;obtain⟨rfl,rfl,rfl⟩:=h;exact wS al ah ho hd hk dy hl uH hc.1 hc.2.1 hc.2.2.1 hc.2.2.2
    ·cases h
   ·cases h
  ·cases h
 |makeMap T r'=>
  cases r' with
  |some r'=>simp[dB] at h
  |none=>
   simp only[dB] at h;split at h
   ·split at h
    ·split at h
     ·split at h
      ·simp only[alh,alk] at h;obtain⟨_,rfl,rfl⟩:=h;exact rX al ho rfl
      ·simp only[alh,alk] at h;obtain⟨_,rfl,rfl⟩:=h;exact rX al ho rfl
     ·cases h
    ·cases h
   ·cases h
 |mapUpdate T m k x=>
  simp only[dB] at h;split at h
  ·rename_i d r' a v hd hm hk hx;split at h
   ·rename_i kt et es mu Tp;split at h
    ·rename_i dk ma;split at h
     ·rename_i ik vX;simp only[alh,alk] at h;obtain⟨_,rfl,rfl⟩:=h;exact oN (Y7 ik) al ah ho hd mu ma (fun u hu=>by rw[vX] at hu;exact hu) hm Tp hk hx
     ·cases h
    ·cases h
   ·cases h
  ·rename_i d r' a v hd hm hk hx;split at h
   ·rename_i kt et es mu Tp;split at h
    ·rename_i dk ma;split at h
     ·rename_i vX;simp only[alh,alk] at h;obtain⟨_,rfl,rfl⟩:=h;exact oN Y8 al ah ho hd mu ma (fun u hu=>by rw[vX] at hu;exact hu) hm Tp hk hx
     ·cases h
    ·cases h
   ·cases h
  ·cases h
 |call cl=>
  simp only[dB] at h;split at h
  ·rename_i b x T T' hb hl hT;split at h
   ·rename_i YI;subst YI;split at h
    ·rename_i d hd;split at h
     ·rename_i e hk;split at h
      ·rename_i d' ar dy hx;split at h
       ·rename_i oL;simp only[alh,alk] at h;obtain⟨rfl,rfl,rfl⟩:=h;exact lz al ah ho hb hl hT hd hk dy hx (.inl ⟨[],.inl ⟨oL,rfl⟩,hc.1,fun _=>rfl,by simpa using hc.2,by simp,by simp⟩)
       ·rename_i els oL;simp only[alh,alk] at h;obtain⟨rfl,rfl,rfl⟩:=h;exact lz al ah ho hb hl hT hd hk dy hx (.inl ⟨els,.inr oL,hc.1,hc.2.1,hc.2.2,rfl,rfl⟩)
       ·rename_i n m oL;split at h
        ·rename_i e' size els ea;split at h
         ·rename_i mq;obtain⟨rfl,rfl,rfl⟩:=mq;simp only[alh,alk] at h;obtain⟨rfl,rfl,rfl⟩:=h;exact lz al ah ho hb hl hT hd hk dy hx (.inr ⟨false,n,els,oL,ea,hc,rfl,rfl⟩)
         ·cases h
        ·rename_i e' size els ea;split at h
         ·rename_i mq;obtain⟨rfl,rfl,rfl⟩:=mq;simp only[alh,alk] at h;obtain⟨rfl,rfl,rfl⟩:=h;exact lz al ah ho hb hl hT hd hk dy hx (.inr ⟨true,n,els,oL,ea,hc,rfl,rfl⟩)
         ·cases h
        ·cases h
       ·cases h
      ·cases h
     ·cases h
    ·cases h
   ·cases h
  ·cases h
 |_=>simp[dB] at h
end
end Go.Proofs.YtnkjkpmbgoehkaaGreat
