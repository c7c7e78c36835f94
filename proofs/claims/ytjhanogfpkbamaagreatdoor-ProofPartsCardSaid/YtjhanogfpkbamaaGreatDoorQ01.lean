/- Texts of ours laid together for a claim: FilA FilB FilC FilD FilE FilF FilG FilH FilI FilJ FilK FilL FilM. -/
import Derived.WalkKit
import Derived.CallsIn
import Derived.RangeFuncRecord
import Derived.Laws.AppendOwn
import Derived.Lib.AppendStr
import Derived.ArgAppend
namespace Go.Proofs.YtjhanogfpkbamaaGreatDoor
open Go
set_option linter.unusedSimpArgs false
set_option linter.unusedVariables false
inductive ME where
 |i (l:List (Int×Value))
 |s (l:List (ByteArray×Value))
def bldT:TypeId:=96
inductive AV where
 |top
 |prim (v:Value)
 |fn (v:Value)
 |sl (els:List AV)
 |clip (els:List AV)
 |own (r n:Nat)
 |ptr (r off:Nat)
 |eptr (e:AV) (off:Nat)
 |agg (cs:List AV)
 |tup (vs:List AV)
 |clo (f:Nat) (caps:List AV)
 |mp (r:Nat)
 |mapv (es:ME)
 |mptr (r n i size:Nat)
 |mclo (f:Nat) (first:List AV)
instance:Inhabited AV:=⟨.top⟩
def AV.cells:AV→List AV
 | .agg cs=>cs
 |v=>[v]
inductive AObj where
 |dead
 |box (cs:List AV)
 |row (e size:Nat) (els:List AV)
 |mapo (es:ME)
 |bld (r n:Nat)
 |mrow (e size:Nat) (els:List AV)
def AObj.live:AObj→Prop
 | .dead=>False
 |_=>True
def blk:Value→Option Nat
 | .pointer (some a)=>some a.block
 | .slice (some a) _ c=>if c=0 then none else some a.block
 | .map (some b)=>some b
 |_=>none
def OwnOk (η:List Value) (hp:List AObj) (r n:Nat) (v:Value):Prop:=
 match hp[r]? with
 |some (.row _ _ els)=>n≤els.length∧(n=els.length→η[r]?=some v)
 |some (.mrow _ _ els)=>n=els.length∧η[r]?=some v
 |some .dead=>True
 |_=>False
def mapPairs (es:Array MapEntry):List (Value×Value):=es.toList.map fun e=>(e.key,e.val)
def imap:ME→List (Value×Value)
 | .i l=>l.map fun p=>(.int .i64 p.1,p.2)
 | .s l=>l.map fun p=>(.string p.1,p.2)
inductive Rep (w:World) (F:Nat→Nat→Prop):List Value→List AObj→AV→Value→Prop
 |top {η:List Value} {hp:List AObj} (v:Value):Rep w F η hp .top v
 |prim {η:List Value} {hp:List AObj} (v:Value):Rep w F η hp (.prim v) v
 |fn {η:List Value} {hp:List AObj} (v:Value) (h1:v.oneCell'=true):Rep w F η hp (.fn v) v
 |sl0 {η:List Value} {hp:List AObj} (a:Option Addr):Rep w F η hp (.sl []) (.slice a 0 0)
 |clip0 {η:List Value} {hp:List AObj} (a:Option Addr):Rep w F η hp (.clip []) (.slice a 0 0)
 |sl {η:List Value} {hp:List AObj} (size:Nat) (els:List AV) (b o c:Nat) (f:Nat→Nat→Value) (hc:els.length≤c) (hm:c≤maxLen)
   (hl:∀(i:Nat) (e:AV),els[i]?=some e→e.cells.length=size)
   (hcell:∀(i:Nat) (e:AV) (j:Nat) (x:AV),els[i]?=some e→e.cells[j]?=some x→w.cell? ⟨b,o+i*size+j,none⟩=some (f i j)∧F b (o+i*size+j)∧(f i j).oneCell'=true)
   (hr:∀(i:Nat) (e:AV) (j:Nat) (x:AV),els[i]?=some e→e.cells[j]?=some x→Rep w F [] [] x (f i j)):
   Rep w F η hp (.sl els) (.slice (some ⟨b,o,none⟩) els.length c)
 |clip {η:List Value} {hp:List AObj} (size:Nat) (els:List AV) (b o:Nat) (f:Nat→Nat→Value) (hm:els.length≤maxLen)
   (hl:∀(i:Nat) (e:AV),els[i]?=some e→e.cells.length=size)
   (hcell:∀(i:Nat) (e:AV) (j:Nat) (x:AV),els[i]?=some e→e.cells[j]?=some x→w.cell? ⟨b,o+i*size+j,none⟩=some (f i j)∧F b (o+i*size+j)∧(f i j).oneCell'=true)
   (hr:∀(i:Nat) (e:AV) (j:Nat) (x:AV),els[i]?=some e→e.cells[j]?=some x→Rep w F [] [] x (f i j)):
   Rep w F η hp (.clip els) (.slice (some ⟨b,o,none⟩) els.length els.length)
 |own {η:List Value} {hp:List AObj} (r n:Nat) (v:Value) (h1:v.oneCell'=true) (h:OwnOk η hp r n v):Rep w F η hp (.own r n) v
 |ptr {η:List Value} {hp:List AObj} (r off b:Nat) (h:η[r]?=some (.pointer (some ⟨b,0,none⟩))):Rep w F η hp (.ptr r off) (.pointer (some ⟨b,off,none⟩))
 |eptr {η:List Value} {hp:List AObj} (e:AV) (off b o:Nat) (f:Nat→Value)
   (hcell:∀(j:Nat) (x:AV),e.cells[j]?=some x→w.cell? ⟨b,o+j,none⟩=some (f j)∧F b (o+j)∧(f j).oneCell'=true)
   (hr:∀(j:Nat) (x:AV),e.cells[j]?=some x→Rep w F [] [] x (f j)):
   Rep w F η hp (.eptr e off) (.pointer (some ⟨b,o+off,none⟩))
 |agg {η:List Value} {hp:List AObj} (cs:List AV) (vs:Array Value) (hl:vs.size=cs.length) (h1:∀v:Value,v∈vs→v.oneCell'=true)
   (hr:∀(j:Nat) (x:AV) (v:Value),cs[j]?=some x→vs[j]?=some v→Rep w F η hp x v):Rep w F η hp (.agg cs) (.agg vs)
 |tup {η:List Value} {hp:List AObj} (cs:List AV) (vs:Array Value) (hl:vs.size=cs.length)
   (hr:∀(j:Nat) (x:AV) (v:Value),cs[j]?=some x→vs[j]?=some v→Rep w F η hp x v):Rep w F η hp (.tup cs) (.tuple vs)
 |clo {η:List Value} {hp:List AObj} (fn:Nat) (cs:List AV) (vs:Array Value) (hl:vs.size=cs.length)
   (hr:∀(j:Nat) (x:AV) (v:Value),cs[j]?=some x→vs[j]?=some v→Rep w F η hp x v):Rep w F η hp (.clo fn cs) (.func (.func fn) #[] vs)
 |mp {η:List Value} {hp:List AObj} (r b:Nat) (h:η[r]?=some (.map (some b))):Rep w F η hp (.mp r) (.map (some b))
 |mapv {η:List Value} {hp:List AObj} (b:Nat) (es:Array MapEntry) (c:Nat) (h:w.heap[b]?=some (.map es c)) (hF:F b 0) (l:ME) (hl:mapPairs es=imap l):Rep w F η hp (.mapv l) (.map (some b))
 |mptr {η:List Value} {hp:List AObj} (r n i size b o c:Nat) (h:OwnOk η hp r n (.slice (some ⟨b,o,none⟩) n c)):Rep w F η hp (.mptr r n i size) (.pointer (some ⟨b,o+i*size,none⟩))
 |mclo {η:List Value} {hp:List AObj} (fn:Nat) (cs:List AV) (vs:Array Value) (hl:vs.size=cs.length)
   (hr:∀(j:Nat) (x:AV) (v:Value),cs[j]?=some x→vs[j]?=some v→Rep w F η hp x v):Rep w F η hp (.mclo fn cs) (.func (.func fn) vs #[])
structure Ext0 (w:World) (F:Nat→Nat→Prop) (w':World) (F':Nat→Nat→Prop):Prop where
 cell:∀b o v,F b o→w.cell? ⟨b,o,none⟩=some v→w'.cell? ⟨b,o,none⟩=some v
 mapb:∀b es c,F b 0→w.heap[b]?=some (.map es c)→w'.heap[b]?=some (.map es c)
 foot:∀b o,F b o→F' b o
structure Ext (w:World) (F:Nat→Nat→Prop) (η:List Value) (hp:List AObj) (w':World) (F':Nat→Nat→Prop) (η':List Value) (hp':List AObj):Prop where
 cell:∀b o v,F b o→w.cell? ⟨b,o,none⟩=some v→w'.cell? ⟨b,o,none⟩=some v
 mapb:∀b es c,F b 0→w.heap[b]?=some (.map es c)→w'.heap[b]?=some (.map es c)
 foot:∀b o,F b o→F' b o
 ptr:∀(r:Nat) a,η[r]?=some (.pointer a)→η'[r]?=some (.pointer a)
 mp:∀(r:Nat) a,η[r]?=some (.map a)→η'[r]?=some (.map a)
 own:∀r n v,OwnOk η hp r n v→OwnOk η' hp' r n v
variable {w w':World} {F F':Nat→Nat→Prop} {η η':List Value} {hp hp':List AObj}
theorem Ext0.ext (h:Ext0 w F w' F'):Ext w F [] [] w' F' [] []:=
 ⟨h.cell,h.mapb,h.foot,fun _ _ h=>h,fun _ _ h=>h,fun _ _ _ h=>h⟩
theorem Ext.ext0 (h:Ext w F η hp w' F' η' hp'):Ext0 w F w' F':=⟨h.cell,h.mapb,h.foot⟩
theorem Rep.ext (h:Ext w F η hp w' F' η' hp') {x:AV} {v:Value} (hx:Rep w F η hp x v):Rep w' F' η' hp' x v:=by
 induction hx generalizing η' hp' with
 |top v=>exact .top v
 |prim v=>exact .prim v
 |fn v h1=>exact .fn v h1
 |sl0 a=>exact .sl0 a
 |clip0 a=>exact .clip0 a
 |sl size els b o c f hc hm hl hcell _ ih=>
  exact .sl size els b o c f hc hm hl (fun i e j x hi hj=>let ⟨h1,h2,h3⟩:=hcell i e j x hi hj;⟨h.cell _ _ _ h2 h1,h.foot _ _ h2,h3⟩) fun i e j x hi hj=>ih i e j x hi hj h.ext0.ext
 |clip size els b o f hm hl hcell _ ih=>
  exact .clip size els b o f hm hl (fun i e j x hi hj=>let ⟨h1,h2,h3⟩:=hcell i e j x hi hj;⟨h.cell _ _ _ h2 h1,h.foot _ _ h2,h3⟩) fun i e j x hi hj=>ih i e j x hi hj h.ext0.ext
 |own r n v h1 h2=>exact .own r n v h1 (h.own _ _ _ h2)
 |ptr r off b h1=>exact .ptr r off b (h.ptr _ _ h1)
 |eptr e off b o f hcell _ ih=>
  exact .eptr e off b o f (fun j x hj=>let ⟨h1,h2,h3⟩:=hcell j x hj;⟨h.cell _ _ _ h2 h1,h.foot _ _ h2,h3⟩) fun j x hj=>ih j x hj h.ext0.ext
 |agg cs vs hl h1 _ ih=>exact .agg cs vs hl h1 fun j x v h1 h2=>ih j x v h1 h2 h
 |tup cs vs hl _ ih=>exact .tup cs vs hl fun j x v h1 h2=>ih j x v h1 h2 h
 |clo fn cs vs hl _ ih=>exact .clo fn cs vs hl fun j x v h1 h2=>ih j x v h1 h2 h
 |mp r b h1=>exact .mp r b (h.mp _ _ h1)
 |mapv b es c h1 h2 l hl=>exact .mapv b es c (h.mapb _ _ _ h2 h1) (h.foot _ _ h2) l hl
 |mptr r n i size b o c h1=>exact .mptr r n i size b o c (h.own _ _ _ h1)
 |mclo fn cs vs hl _ ih=>exact .mclo fn cs vs hl fun j x v h1 h2=>ih j x v h1 h2 h
theorem Rep.lift {x:AV} {v:Value} (hx:Rep w F [] [] x v):Rep w F η hp x v:=
 hx.ext ⟨fun _ _ _ _ h=>h,fun _ _ _ _ h=>h,fun _ _ h=>h,fun _ _ h=>by simp at h,fun _ _ h=>by simp at h,fun _ _ _ h=>by simp[OwnOk] at h⟩
theorem Ext.trans {w1 w2 w3:World} {F1 F2 F3:Nat→Nat→Prop} {η1 η2 η3:List Value} {h1 h2 h3:List AObj} (h:Ext w1 F1 η1 h1 w2 F2 η2 h2) (k:Ext w2 F2 η2 h2 w3 F3 η3 h3):Ext w1 F1 η1 h1 w3 F3 η3 h3:=
 ⟨fun b o v hf hc=>k.cell b o v (h.foot _ _ hf) (h.cell b o v hf hc),fun b es c hf hc=>k.mapb b es c (h.foot _ _ hf) (h.mapb b es c hf hc),fun b o hf=>k.foot _ _ (h.foot _ _ hf),
  fun r a hr=>k.ptr r a (h.ptr r a hr),fun r a hr=>k.mp r a (h.mp r a hr),fun r n v ho=>k.own r n v (h.own r n v ho)⟩
def AV.isCell:AV→Bool
 | .prim v=>v.oneCell'
 | .top | .agg _ | .tup _=>false
 |_=>true
def RepL (w:World) (F:Nat→Nat→Prop) (η:List Value) (hp:List AObj):List AV→List Value→Prop
 | [],[]=>True
 |x::xs,v::vs=>Rep w F η hp x v∧RepL w F η hp xs vs
 |_,_=>False
theorem RepL.length {xs:List AV} {vs:List Value} (h:RepL w F η hp xs vs):vs.length=xs.length:=by
 induction xs generalizing vs with
 |nil=>cases vs<;>simp_all [RepL]
 |cons x xs ih=>cases vs with
  |nil=>simp[RepL] at h
  |cons v vs=>simp only[List.length_cons];rw[ih h.2]
theorem RepL.get {xs:List AV} {vs:List Value} (h:RepL w F η hp xs vs):∀(j:Nat) (x:AV) (v:Value),xs[j]?=some x→vs[j]?=some v→Rep w F η hp x v:=by
 induction xs generalizing vs with
 |nil=>intro j x v hx;simp at hx
 |cons x xs ih=>cases vs with
  |nil=>simp[RepL] at h
  |cons v vs=>
   intro j y u hy hu
   cases j with
   |zero=>simp at hy hu;subst hy;subst hu;exact h.1
   |succ j=>exact ih h.2 j y u (by simpa using hy) (by simpa using hu)
theorem repL_of_get {xs:List AV} {vs:List Value} (hl:vs.length=xs.length) (h:∀(j:Nat) (x:AV) (v:Value),xs[j]?=some x→vs[j]?=some v→Rep w F η hp x v):RepL w F η hp xs vs:=by
 induction xs generalizing vs with
 |nil=>cases vs with
  |nil=>exact True.intro
  |cons v vs=>simp at hl
 |cons x xs ih=>cases vs with
  |nil=>simp at hl
  |cons v vs=>
   exact⟨h 0 x v rfl rfl,ih (by simpa using hl) fun j y u hy hu=>h (j+1) y u (by simpa using hy) (by simpa using hu)⟩
theorem RepL.ext (h:Ext w F η hp w' F' η' hp') {xs:List AV} {vs:List Value} (hx:RepL w F η hp xs vs):RepL w' F' η' hp' xs vs:=
 repL_of_get hx.length fun j x v h1 h2=>(hx.get j x v h1 h2).ext h
def laids:List (Nat×List Value):=[(1,(List.range 20).map fun i=>.int .u64 ((10 ^ i:Nat):Int))]
def IsGlob (b:Nat):Prop:=∃p,p∈laids∧p.1=b
def Glob (w:World):Prop:=∀p,p∈laids→∃T,w.heap[p.1]?=some (.cells p.2.toArray T (0,0))
structure Same (w w':World):Prop where
 os:w'.os=w.os
 tape:w'.tape=w.tape
 output:w'.output=w.output
 size:w.heap.size≤w'.heap.size
 block:∀k,k<w.heap.size→w'.heap[k]?=w.heap[k]?
structure Keeps (X:Nat→Prop) (w w':World):Prop where
 os:w'.os=w.os
 tape:w'.tape=w.tape
 output:w'.output=w.output
 size:w.heap.size≤w'.heap.size
 block:∀k,k<w.heap.size→¬X k→w'.heap[k]?=w.heap[k]?
theorem Rep.of_clip {els:List AV} {v:Value} (h:Rep w F η hp (.clip els) v):Rep w F η hp (.sl els) v:=by
 cases h with
 |clip0 a=>exact .sl0 a
 |clip size els b o f hm hl hcell hr=>exact .sl size els b o _ f (Nat.le_refl _) hm hl hcell hr
def RowOk (w:World) (e:TypeId) (size:Nat) (v:Value) (n:Nat) (xs:List Value) (k:Nat):Prop:=
 xs.length=n*size∧((n=0∧(v=.slice none 0 0∨∃ad:Addr,v=.slice (some ad) 0 0))∨
  ∃g cap cur,v=.slice (some ⟨g,0,none⟩) n cap∧0<cap∧(∃hi,hi≤k∧w.heap[g]?=some (.cells cur e (0,hi)))∧n≤cap∧cap≤maxLen∧cur.size=cap*size∧cur.toList.take (n*size)=xs)
theorem blk_slice {a:Addr} {n c:Nat} (h:0<c):blk (.slice (some a) n c)=some a.block:=by simp[blk];omega
theorem RowOk.lt {w:World} {e size n k:Nat} {v:Value} {xs:List Value} (h:RowOk w e size v n xs k) {b:Nat} (hb:blk v=some b):∃cz:Array Value×Nat,w.heap[b]?=some (.cells cz.1 e (0,cz.2)):=by
 rcases h.2 with⟨_,rfl|⟨ad,rfl⟩⟩|⟨g,cap,cur,rfl,h0,⟨hi,_,h1⟩,_⟩
 ·simp[blk] at hb
 ·simp[blk] at hb
 ·rw[blk_slice h0] at hb;obtain rfl:=Option.some.inj hb;exact⟨(cur,hi),h1⟩
theorem RowOk.keep {w w':World} {e size n k:Nat} {v:Value} {xs:List Value} (h:RowOk w e size v n xs k) (hb:∀b,blk v=some b→b<w.heap.size→w'.heap[b]?=w.heap[b]?):RowOk w' e size v n xs k:=by
 refine⟨h.1,?_⟩
 rcases h.2 with h1|⟨g,cap,cur,rfl,h0,⟨hi,hk,h1⟩,h2⟩
 ·exact .inl h1
 ·exact .inr ⟨g,cap,cur,rfl,h0,⟨hi,hk,by rw[hb g (blk_slice h0) (Array.getElem?_eq_some_iff.1 h1).1];exact h1⟩,h2⟩
theorem RowOk.more {w:World} {e size n k k':Nat} {v:Value} {xs:List Value} (h:RowOk w e size v n xs k) (hk:k≤k'):RowOk w e size v n xs k':=
 ⟨h.1,h.2.imp id fun⟨g,cap,cur,h1,h2,⟨hi,h3,h4⟩,h5⟩=>⟨g,cap,cur,h1,h2,⟨hi,Nat.le_trans h3 hk,h4⟩,h5⟩⟩
theorem Same.refl (w:World):Same w w:=⟨rfl,rfl,rfl,Nat.le_refl _,fun _ _=>rfl⟩
theorem Same.trans {a b c:World} (h:Same a b) (k:Same b c):Same a c:=
 ⟨k.os.trans h.os,k.tape.trans h.tape,k.output.trans h.output,Nat.le_trans h.size k.size,fun i hi=>(k.block i (Nat.lt_of_lt_of_le hi h.size)).trans (h.block i hi)⟩
theorem Same.alloc (w:World) (o:Obj):Same w (w.alloc o):=⟨rfl,rfl,rfl,by simp,fun k hk=>heap_alloc_old w o hk⟩
theorem Same.drew (w:World):Same w w.drew:=⟨rfl,rfl,rfl,Nat.le_refl _,fun _ _=>rfl⟩
theorem Same.keeps {w w':World} (X:Nat→Prop) (h:Same w w'):Keeps X w w':=⟨h.os,h.tape,h.output,h.size,fun k hk _=>h.block k hk⟩
theorem Keeps.same {w w':World} {X:Nat→Prop} (h:Keeps X w w') (hX:∀b,b<w.heap.size→¬X b):Same w w':=⟨h.os,h.tape,h.output,h.size,fun k hk=>h.block k hk (hX k hk)⟩
theorem Keeps.refl (X:Nat→Prop) (w:World):Keeps X w w:=⟨rfl,rfl,rfl,Nat.le_refl _,fun _ _ _=>rfl⟩
theorem Keeps.trans {X Z:Nat→Prop} {a b c:World} (h:Keeps X a b) (k:Keeps Z b c) (hZ:∀i,i<a.heap.size→Z i→X i):Keeps X a c:=
 ⟨k.os.trans h.os,k.tape.trans h.tape,k.output.trans h.output,Nat.le_trans h.size k.size,
  fun i hi hx=>(k.block i (Nat.lt_of_lt_of_le hi h.size) (fun hz=>hx (hZ i hi hz))).trans (h.block i hi hx)⟩
theorem Keeps.cell {X:Nat→Prop} {w w':World} (h:Keeps X w w') {b o:Nat} (hb:b<w.heap.size) (hx:¬X b):w'.cell? ⟨b,o,none⟩=w.cell? ⟨b,o,none⟩:=by
 simp[World.cell?,h.block b hb hx]
theorem Glob.lt {w:World} (h:Glob w) {b:Nat} (hb:IsGlob b):b<w.heap.size:=by
 obtain⟨p,hp,rfl⟩:=hb
 obtain⟨T,h1⟩:=h p hp
 exact(Array.getElem?_eq_some_iff.1 h1).1
theorem Glob.keeps {X:Nat→Prop} {w w':World} (h:Glob w) (k:Keeps X w w') (hx:∀b,IsGlob b→¬X b):Glob w':=fun p hp=>by
 obtain⟨T,h1⟩:=h p hp
 exact⟨T,by rw[k.block p.1 (h.lt ⟨p,hp,rfl⟩) (hx p.1 ⟨p,hp,rfl⟩)];exact h1⟩
theorem Glob.same {w w':World} (h:Glob w) (k:Same w w'):Glob w':=h.keeps (k.keeps fun _=>False) fun _ _=>not_false
theorem block_lt {w:World} {b:Nat} {o:Obj} (h:w.heap[b]?=some o):b<w.heap.size:=(Array.getElem?_eq_some_iff.1 h).1
end Go.Proofs.YtjhanogfpkbamaaGreatDoor

namespace Go.Proofs.YtjhanogfpkbamaaGreatDoor
open Go
set_option linter.unusedSimpArgs false
set_option linter.unusedVariables false
structure Env (G:Type) where
 P:Program
 w0:World
 F0:Nat→Nat→Prop
 X:Nat→Prop
 Y:Nat→Prop
 Inv:G→World→Prop
 nt:Nat
 rnd:Option Nat
 m0:Nat→Prop
 Z:Nat→Nat→Prop
 η0:List Value
 hp0:List AObj
def Env.No {G:Type} (Γ:Env G) (b o:Nat):Prop:=Γ.X b∨Γ.Z b o
structure Env.Ok {G:Type} (Γ:Env G):Prop where
 l0:Γ.η0.length=Γ.hp0.length
 x:∀b,Γ.X b→b<Γ.w0.heap.size
 y:∀b,Γ.Y b→b<Γ.w0.heap.size
 stable:∀g w w',(∀b,Γ.X b→w'.heap[b]?=w.heap[b]?)→w.heap.size≤w'.heap.size→Γ.Inv g w→Γ.Inv g w'
 z:∀b o,Γ.Z b o→b<Γ.w0.heap.size
 glob:Glob Γ.w0
 gx:∀b,IsGlob b→¬(Γ.X b∨Γ.Y b)
def Env.Free {G:Type} (Γ:Env G):Prop:=Γ.rnd=none∧∀r,Γ.w0.heap.size≤r→Γ.m0 r
theorem Env.Ok.no {G:Type} {Γ:Env G} (h:Γ.Ok) {b o:Nat} (hb:Γ.No b o):b<Γ.w0.heap.size:=hb.elim (h.x b) (h.z b o)
structure AS (G:Type) where
 tmps:Nat→AV
 hp:List AObj
 g:G
def ObjF (η:List Value) (hp:List AObj) (b o:Nat):Prop:=
 ∀(r:Nat) (v:Value),η[r]?=some v→blk v=some b→
  match hp[r]? with
  |some (.row _ size els)=>o<els.length*size
  |some .dead=>True
  |_=>False
def Fok {G:Type} (Γ:Env G) (w:World) (η:List Value) (hp:List AObj) (b o:Nat):Prop:=
 (Γ.F0 b o∨Γ.w0.heap.size≤b∨Γ.Y b)∧b<w.heap.size∧¬Γ.No b o∧ObjF η hp b o
def ObjOk (w:World) (F:Nat→Nat→Prop) (η:List Value) (hp:List AObj):AObj→Value→Prop
 | .dead,_=>True
 | .box cs,v=>∃(b:Nat) (vs:Array Value) (T:TypeId),v=.pointer (some ⟨b,0,none⟩)∧w.heap[b]?=some (.cells vs T (0,0))∧vs.size=cs.length∧
   ∀(j:Nat) (x:AV) (u:Value),cs[j]?=some x→vs[j]?=some u→Rep w F η hp x u∧u.oneCell'=true
 | .row e size els,v=>0<size∧∃xs:List Value,RowOk w e size v els.length xs (els.length*size)∧
   ∀(i:Nat) (el:AV),els[i]?=some el→el.cells.length=size∧
    ∀(j:Nat) (x:AV),el.cells[j]?=some x→∃u,xs[i*size+j]?=some u∧Rep w F [] [] x u∧u.oneCell'=true
 | .bld r n,v=>∃(b:Nat) (vs:Array Value),v=.pointer (some ⟨b,0,none⟩)∧w.heap[b]?=some (.cells vs bldT (0,0))∧(vs.size=2∧(n=0→vs[1]?=some (.slice none 0 0)))∧(vs[0]?=some (.pointer none)∨vs[0]?=some v)∧∃u,vs[1]?=some u∧Rep w F η hp (.own r n) u
 | .mapo es,v=>∃(b:Nat) (en:Array MapEntry) (c:Nat),v=.map (some b)∧w.heap[b]?=some (.map en c)∧mapPairs en=imap es
 | .mrow e size els,v=>0<size∧∃xs:List Value,RowOk w e size v els.length xs 0∧
   ∀(i:Nat) (el:AV),els[i]?=some el→el.cells.length=size∧
    ∀(j:Nat) (x:AV),el.cells[j]?=some x→∃u,xs[i*size+j]?=some u∧Rep w F [] [] x u∧u.oneCell'=true
structure HeapOk (w:World) (F:Nat→Nat→Prop) (η:List Value) (hp:List AObj):Prop where
 len:η.length=hp.length
 obj:∀(r:Nat) (o:AObj) (v:Value),hp[r]?=some o→η[r]?=some v→ObjOk w F η hp o v
 sep:∀(r r':Nat) (o o':AObj) (v v':Value) (b:Nat),r≠r'→hp[r]?=some o→hp[r']?=some o'→o.live→o'.live→
  η[r]?=some v→η[r']?=some v'→blk v=some b→blk v'≠some b
def Mine {G:Type} (Γ:Env G) (η:List Value) (hp:List AObj):Prop:=
 ∀(r:Nat) (o:AObj) (v:Value) (b:Nat),hp[r]?=some o→o.live→η[r]?=some v→blk v=some b→(Γ.w0.heap.size≤b∨Γ.Y b)∧∀o,¬Γ.No b o
structure Marks (N:Nat→Prop) (ds:List Deferred) (w:World):Prop where
 all:∀d,d∈ds→∃r,d.target=.collected r∧w.heap[r]?=some (.deferred (some []))∧N r
 apart:ds.Pairwise fun d d'=>d.target≠d'.target
structure Rel {G:Type} (Γ:Env G) (s:AS G) (a:Act) (w:World) (η:List Value):Prop where
 nt:a.tmps.size=Γ.nt
 tmps:∀t,Rep w (Fok Γ w η s.hp) η s.hp (s.tmps t) (a.tmps.getD t undef)
 heap:HeapOk w (Fok Γ w η s.hp) η s.hp
 mine:Mine Γ η s.hp
 keeps:Keeps (fun b=>Γ.X b∨Γ.Y b) Γ.w0 w
 inv:Γ.Inv s.g w
 marks:Marks Γ.m0 a.defers w
 ext:Ext Γ.w0 Γ.F0 Γ.η0 Γ.hp0 w (Fok Γ w η s.hp) η s.hp
def upd (f:Nat→AV) (t:Nat) (x:AV):Nat→AV:=fun u=>if u=t then x else f u
theorem upd_eq (f:Nat→AV) (t:Nat) (x:AV) (u:Nat):upd f t x u=if u=t then x else f u:=rfl
def AS.put {G:Type} (s:AS G) (d:Option Nat) (x:AV):AS G:=
 match d with
 |some d=>{ s with tmps:=upd s.tmps d x }
 |none=>s
variable {G:Type} {Γ:Env G} {s:AS G} {a:Act} {w w':World} {η η':List Value} {hp:List AObj}
theorem Keeps.marks {X:Nat→Prop} {N:Nat→Prop} {ds:List Deferred} (h:Marks N ds w) (k:Keeps X w w') (hX:∀b,X b→¬N b∨∀d,w.heap[b]?≠some (.deferred d)):Marks N ds w':=by
 refine⟨fun d hd=>?_,h.apart⟩
 obtain⟨r,h1,h2,h3⟩:=h.all d hd
 refine⟨r,h1,?_,h3⟩
 rw[k.block r (block_lt h2)]
 ·exact h2
 ·intro hx
  rcases hX r hx with h4|h4
  ·exact h4 h3
  ·exact h4 _ h2
theorem ext_same (hs:Same w w') (hF:∀b o,Fok Γ w η hp b o→b<w.heap.size):Ext w (Fok Γ w η hp) η hp w' (Fok Γ w' η hp) η hp where
 cell b o v hf hc:=by rw[World.cell?_of_block (hs.block b (hF b o hf))];exact hc
 mapb b es c hf hc:=by rw[hs.block b (hF b 0 hf)];exact hc
 foot b o hf:=⟨hf.1,Nat.lt_of_lt_of_le hf.2.1 hs.size,hf.2.2⟩
 ptr _ _ h:=h
 mp _ _ h:=h
 own _ _ _ h:=h
theorem fok_lt {b o:Nat} (h:Fok Γ w η hp b o):b<w.heap.size:=h.2.1
theorem ObjOk.ext {F F':Nat→Nat→Prop} {hp':List AObj} {o:AObj} {v:Value} (h:ObjOk w F η hp o v) (he:Ext w F η hp w' F' η' hp') (hsz:w.heap.size≤w'.heap.size)
  (hb:∀b,blk v=some b→b<w.heap.size→w'.heap[b]?=w.heap[b]?):ObjOk w' F' η' hp' o v:=by
 cases o with
 |dead=>exact True.intro
 |box cs=>
  obtain⟨b,vs,T,rfl,h1,h2,h3⟩:=h
  exact⟨b,vs,T,rfl,by rw[hb b rfl (block_lt h1)];exact h1,h2,fun j x u hx hu=>⟨(h3 j x u hx hu).1.ext he,(h3 j x u hx hu).2⟩⟩
 |row e size els=>
  obtain⟨h0,xs,h1,h2⟩:=h
  refine⟨h0,xs,h1.keep hb,fun i el hi=>⟨(h2 i el hi).1,fun j x hj=>?_⟩⟩
  ·obtain⟨u,h3,h4,h5⟩:=(h2 i el hi).2 j x hj
   exact⟨u,h3,h4.ext he.ext0.ext,h5⟩
 |bld q k=>
  obtain⟨b,vs,rfl,h1,h2,h3,u,h4,h5⟩:=h
  exact⟨b,vs,rfl,by rw[hb b rfl (block_lt h1)];exact h1,h2,h3,u,h4,h5.ext he⟩
 |mapo es=>
  obtain⟨b,en,c,rfl,h1,h2⟩:=h
  exact⟨b,en,c,rfl,by rw[hb b rfl (block_lt h1)];exact h1,h2⟩
 |mrow e size els=>
  obtain⟨h0,xs,h1,h2⟩:=h
  refine⟨h0,xs,h1.keep hb,fun i el hi=>⟨(h2 i el hi).1,fun j x hj=>?_⟩⟩
  ·obtain⟨u,h3,h4,h5⟩:=(h2 i el hi).2 j x hj
   exact⟨u,h3,h4.ext he.ext0.ext,h5⟩
theorem HeapOk.same (h:HeapOk w (Fok Γ w η hp) η hp) (hs:Same w w'):HeapOk w' (Fok Γ w' η hp) η hp:=
 ⟨h.len,fun r o v h1 h2=>(h.obj r o v h1 h2).ext (ext_same hs fun _ _=>fok_lt) hs.size fun b _ hlt=>hs.block b hlt,h.sep⟩
theorem Keeps.addSame {X:Nat→Prop} {w0:World} (h:Keeps X w0 w) (hs:Same w w'):Keeps X w0 w':=
 h.trans (hs.keeps fun _=>False) fun _ _ hf=>hf.elim
theorem Rel.same (hok:Γ.Ok) (h:Rel Γ s a w η) (hs:Same w w'):Rel Γ s a w' η where
 nt:=h.nt
 tmps t:=(h.tmps t).ext (ext_same hs fun _ _=>fok_lt)
 heap:=h.heap.same hs
 mine:=h.mine
 keeps:=h.keeps.addSame hs
 inv:=hok.stable _ _ _ (fun b hb=>hs.block b (Nat.lt_of_lt_of_le (hok.x b hb) h.keeps.size)) hs.size h.inv
 marks:=(hs.keeps fun _=>False).marks h.marks fun _ hf=>hf.elim
 ext:=h.ext.trans (ext_same hs fun _ _=>fok_lt)
theorem Rel.glob (hok:Γ.Ok) (h:Rel Γ s a w η):Glob w:=hok.glob.keeps h.keeps hok.gx
theorem Rel.put (h:Rel Γ s a w η) {d:Option Nat} {x:AV} {v:Value} (hd:∀t,d=some t→t<Γ.nt) (hr:Rep w (Fok Γ w η s.hp) η s.hp x v):Rel Γ (s.put d x) (a.put d v) w η:=by
 cases d with
 |none=>exact h
 |some d=>
  refine⟨by simpa [Act.put] using h.nt,fun t=>?_,h.heap,h.mine,h.keeps,h.inv,h.marks,h.ext⟩
  show Rep w _ η s.hp (upd s.tmps d x t) ((a.tmps.setIfInBounds d v).getD t undef)
  by_cases htd:t=d
  ·subst htd
   have hlt:t<a.tmps.size:=by rw[h.nt];exact hd t rfl
   have e:(a.tmps.setIfInBounds t v).getD t undef=v:=by simp[hlt]
   rw[upd_eq,if_pos rfl,e]
   exact hr
  ·have e:(a.tmps.setIfInBounds d v).getD t undef=a.tmps.getD t undef:=by
    simp only[Array.getD_eq_getD_getElem?]
    rw[Array.getElem?_setIfInBounds_ne (Ne.symm htd)]
   rw[upd_eq,if_neg htd,e]
   exact h.tmps t
def AS.add (s:AS G) (o:AObj):AS G:={ s with hp:=s.hp++[o] }
theorem getElem?_snoc_lt {α:Type} {l:List α} {x y:α} {r:Nat} (h:l[r]?=some y):(l++[x])[r]?=some y:=by
 rw[List.getElem?_append_left (List.getElem?_eq_some_iff.1 h).1];exact h
theorem getElem?_snoc {α:Type} {l:List α} {x y:α} {r:Nat} (h:(l++[x])[r]?=some y):l[r]?=some y∨(r=l.length∧y=x):=by
 rcases Nat.lt_trichotomy r l.length with h1|h1|h1
 ·rw[List.getElem?_append_left h1] at h;exact .inl h
 ·subst h1;simp at h;exact .inr ⟨rfl,h.symm⟩
 ·rw[List.getElem?_append_right (by omega)] at h
  have:r-l.length≠0:=by omega
  cases hk:r-l.length with
  |zero=>omega
  |succ k=>rw[hk] at h;simp at h
theorem ObjF.snoc {o:AObj} {v:Value} {b k:Nat} (hl:η.length=hp.length) (h:ObjF η hp b k) (hv:blk v=some b→False):ObjF (η++[v]) (hp++[o]) b k:=by
 intro r u hu hb
 rcases getElem?_snoc hu with h1|⟨rfl,rfl⟩
 ·have:=h r u h1 hb
  have hr:r<hp.length:=by rw[←hl];exact(List.getElem?_eq_some_iff.1 h1).1
  rw[List.getElem?_append_left hr]
  exact this
 ·exact(hv hb).elim
theorem OwnOk.snoc {o:AObj} {v u:Value} {r n:Nat} (h:OwnOk η hp r n u):OwnOk (η++[v]) (hp++[o]) r n u:=by
 unfold OwnOk at h ⊢
 cases hr:hp[r]? with
 |none=>simp[hr] at h
 |some x=>
  rw[getElem?_snoc_lt hr]
  rw[hr] at h
  cases x with
  |row e size els=>exact⟨h.1,fun hn=>getElem?_snoc_lt (h.2 hn)⟩
  |dead=>exact True.intro
  |box cs=>exact h
  |mapo es=>exact h
  |bld q k=>exact h
  |mrow e size els=>exact⟨h.1,getElem?_snoc_lt h.2⟩
theorem ext_new {o:AObj} {v:Value} (hl:η.length=hp.length) (hs:Same w w') (hv:∀b,blk v=some b→w.heap.size≤b):
  Ext w (Fok Γ w η hp) η hp w' (Fok Γ w' (η++[v]) (hp++[o])) (η++[v]) (hp++[o]) where
 cell b k u hf hc:=by rw[World.cell?_of_block (hs.block b (fok_lt hf))];exact hc
 mapb b es c hf hc:=by rw[hs.block b (fok_lt hf)];exact hc
 foot b k hf:=⟨hf.1,Nat.lt_of_lt_of_le hf.2.1 hs.size,hf.2.2.1,hf.2.2.2.snoc hl fun hb=>by have:=hv b hb;have:=fok_lt hf;omega⟩
 ptr _ _ h:=getElem?_snoc_lt h
 mp _ _ h:=getElem?_snoc_lt h
 own _ _ _ h:=h.snoc
theorem Rel.add (hok:Γ.Ok) (h:Rel Γ s a w η) {o:AObj} {v:Value} (hs:Same w w') (hv:∀b,blk v=some b→w.heap.size≤b)
  (ho:ObjOk w' (Fok Γ w' (η++[v]) (s.hp++[o])) (η++[v]) (s.hp++[o]) o v):Rel Γ (s.add o) a w' (η++[v]):=by
 have he:=ext_new (Γ:=Γ) (o:=o) (v:=v) h.heap.len hs hv
 have hsz:=h.keeps.size
 have hblk:∀(r:Nat) (u:Value) (b:Nat),η[r]?=some u→blk u=some b→b<w.heap.size∨¬∃o:AObj,s.hp[r]?=some o∧o.live:=by
  intro r u b hu hb
  by_cases hlt:b<w.heap.size
  ·exact .inl hlt
  ·refine .inr fun⟨o',ho',hli⟩=>hlt ?_
   have hob:=h.heap.obj r o' u ho' hu
   cases o' with
   |dead=>exact hli.elim
   |box cs=>obtain⟨b',vs,T,rfl,h1,_⟩:=hob;simp only[blk,Option.some.injEq] at hb;subst hb;exact block_lt h1
   |row e size els=>
    obtain⟨_,xs,h1,_⟩:=hob
    obtain⟨cur,h5⟩:=h1.lt hb
    exact block_lt h5
   |mapo es=>obtain⟨b',en,c,rfl,h1,_⟩:=hob;simp only[blk,Option.some.injEq] at hb;subst hb;exact block_lt h1
   |bld q k=>obtain⟨b',vs,rfl,h1,_⟩:=hob;simp only[blk,Option.some.injEq] at hb;subst hb;exact block_lt h1
   |mrow e size els=>
    obtain⟨_,xs,h1,_⟩:=hob
    obtain⟨cur,h5⟩:=h1.lt hb
    exact block_lt h5
 refine⟨h.nt,fun t=>(h.tmps t).ext he,⟨by simp[AS.add,h.heap.len],?_,?_⟩,?_,h.keeps.addSame hs,
  hok.stable _ _ _ (fun b hb=>hs.block b (Nat.lt_of_lt_of_le (hok.x b hb) h.keeps.size)) hs.size h.inv,(hs.keeps fun _=>False).marks h.marks fun _ hf=>hf.elim,h.ext.trans he⟩
 ·intro r o' u h1 h2
  rcases getElem?_snoc h1 with h3|⟨rfl,rfl⟩
  ·rcases getElem?_snoc h2 with h4|⟨rfl,rfl⟩
   ·exact(h.heap.obj r o' u h3 h4).ext he hs.size fun b _ hlt=>hs.block b hlt
   ·have:=(List.getElem?_eq_some_iff.1 h3).1;have:=h.heap.len;omega
  ·have:(η++[v])[s.hp.length]?=some v:=by rw[←h.heap.len];simp
   rw[this] at h2
   obtain rfl:=Option.some.inj h2
   exact ho
 ·intro r r' o1 o2 v1 v2 b hne h1 h2 l1 l2 e1 e2 hb
  rcases getElem?_snoc h1 with h3|⟨rfl,rfl⟩<;>rcases getElem?_snoc h2 with h4|⟨rfl,rfl⟩
  ·have hr:r<η.length:=by rw[h.heap.len];exact(List.getElem?_eq_some_iff.1 h3).1
   have hr':r' < η.length:=by rw[h.heap.len];exact(List.getElem?_eq_some_iff.1 h4).1
   rw[List.getElem?_append_left hr] at e1
   rw[List.getElem?_append_left hr'] at e2
   exact h.heap.sep r r' o1 o2 v1 v2 b hne h3 h4 l1 l2 e1 e2 hb
  ·have hr:r<η.length:=by rw[h.heap.len];exact(List.getElem?_eq_some_iff.1 h3).1
   rw[List.getElem?_append_left hr] at e1
   have:(η++[v])[s.hp.length]?=some v:=by rw[←h.heap.len];simp
   rw[this] at e2
   obtain rfl:=Option.some.inj e2
   intro hb'
   have:=hv b hb'
   rcases hblk r v1 b e1 hb with h5|h5
   ·omega
   ·exact h5 ⟨o1,h3,l1⟩
  ·have hr':r' < η.length:=by rw[h.heap.len];exact(List.getElem?_eq_some_iff.1 h4).1
   rw[List.getElem?_append_left hr'] at e2
   have:(η++[v])[s.hp.length]?=some v:=by rw[←h.heap.len];simp
   rw[this] at e1
   obtain rfl:=Option.some.inj e1
   intro hb'
   have:=hv b hb
   rcases hblk r' v2 b e2 hb' with h5|h5
   ·omega
   ·exact h5 ⟨o2,h4,l2⟩
  ·exact(hne rfl).elim
 ·intro r o' u b h1 hli h2 hb
  rcases getElem?_snoc h1 with h3|⟨rfl,rfl⟩
  ·have hr:r<η.length:=by rw[h.heap.len];exact(List.getElem?_eq_some_iff.1 h3).1
   rw[List.getElem?_append_left hr] at h2
   exact h.mine r o' u b h3 hli h2 hb
  ·have:(η++[v])[s.hp.length]?=some v:=by rw[←h.heap.len];simp
   rw[this] at h2
   obtain rfl:=Option.some.inj h2
   have h5:=hv b hb
   exact⟨.inl (Nat.le_trans hsz h5),fun o hx=>by have:=hok.no hx;omega⟩
end Go.Proofs.YtjhanogfpkbamaaGreatDoor

namespace Go.Proofs.YtjhanogfpkbamaaGreatDoor
open Go
set_option linter.unusedSimpArgs false
set_option linter.unusedVariables false
variable {G:Type} {Γ:Env G} {s:AS G} {a:Act} {w w':World} {η η':List Value} {hp:List AObj}
theorem getElem?_set_ne {α:Type} {l:List α} {r r':Nat} {x:α} (h:r≠r'):(l.set r x)[r']?=l[r']?:=by
 rw[List.getElem?_set];simp[h]
theorem getElem?_set_same {α:Type} {l:List α} {r:Nat} {x y:α} (h:l[r]?=some y):(l.set r x)[r]?=some x:=by
 rw[List.getElem?_set];simp[(List.getElem?_eq_some_iff.1 h).1]
def AObj.foot (k:Nat):AObj→Prop
 | .row _ size els=>k<els.length*size
 | .dead=>True
 |_=>False
theorem objF_iff (b k:Nat):ObjF η hp b k↔∀(r:Nat) (v:Value),η[r]?=some v→blk v=some b→∃o,hp[r]?=some o∧o.foot k:=by
 constructor
 ·intro h r v h1 h2
  have:=h r v h1 h2
  cases hr:hp[r]? with
  |none=>simp[hr] at this
  |some o=>rw[hr] at this;refine⟨o,rfl,?_⟩;cases o<;>exact this
 ·intro h r v h1 h2
  obtain⟨o,h3,h4⟩:=h r v h1 h2
  rw[h3]
  cases o<;>exact h4
theorem HeapOk.block (h:HeapOk w (Fok Γ w η hp) η hp) {r:Nat} {o:AObj} {u:Value} {b:Nat} (ho:hp[r]?=some o) (hl:o.live) (hu:η[r]?=some u) (hb:blk u=some b):b<w.heap.size:=by
 have hob:=h.obj r o u ho hu
 cases o with
 |dead=>exact hl.elim
 |box cs=>obtain⟨b',vs,T,rfl,h1,_⟩:=hob;simp only[blk,Option.some.injEq] at hb;subst hb;exact block_lt h1
 |row e size els=>
  obtain⟨_,xs,h1,_⟩:=hob
  obtain⟨cur,h5⟩:=h1.lt hb
  exact block_lt h5
 |mapo es=>obtain⟨b',en,c,rfl,h1,_⟩:=hob;simp only[blk,Option.some.injEq] at hb;subst hb;exact block_lt h1
 |bld q k=>obtain⟨b',vs,rfl,h1,_⟩:=hob;simp only[blk,Option.some.injEq] at hb;subst hb;exact block_lt h1
 |mrow e size els=>
  obtain⟨_,xs,h1,_⟩:=hob
  obtain⟨cur,h5⟩:=h1.lt hb
  exact block_lt h5
theorem Rel.change (hok:Γ.Ok) (h:Rel Γ s a w η) {r:Nat} {o o':AObj} {v v':Value} (hr:s.hp[r]?=some o) (hlive:o.live) (hv:η[r]?=some v)
  (hk:Keeps (fun k=>blk v=some k) w w') (hv':∀b,blk v'=some b→blk v=some b∨w.heap.size≤b)
  (hfoot:∀k,o.foot k→o'.foot k)
  (hcell:∀b k u,blk v=some b→o.foot k→w.cell? ⟨b,k,none⟩=some u→w'.cell? ⟨b,k,none⟩=some u)
  (hmapb:∀b es c,blk v=some b→o.foot 0→w.heap[b]?=some (.map es c)→False)
  (hown:∀n u,OwnOk η s.hp r n u→OwnOk (η.set r v') (s.hp.set r o') r n u)
  (hptr:∀x,v=.pointer x→v'=v) (hmp:∀x,v=.map x→v'=v)
  (hdefer:∀b d,blk v=some b→w.heap[b]?=some (.deferred d)→False)
  (ho':Ext w (Fok Γ w η s.hp) η s.hp w' (Fok Γ w' (η.set r v') (s.hp.set r o')) (η.set r v') (s.hp.set r o')→ObjOk w' (Fok Γ w' (η.set r v') (s.hp.set r o')) (η.set r v') (s.hp.set r o') o' v'):
  Rel Γ { s with hp:=s.hp.set r o' } a w' (η.set r v'):=by
 have hob:∀b k,Fok Γ w η s.hp b k→blk v=some b→o.foot k:=fun b k hf hb=>by
  obtain⟨o1,h1,h2⟩:=(objF_iff b k).1 hf.2.2.2 r v hv hb
  rw[hr] at h1
  obtain rfl:=Option.some.inj h1
  exact h2
 have he:Ext w (Fok Γ w η s.hp) η s.hp w' (Fok Γ w' (η.set r v') (s.hp.set r o')) (η.set r v') (s.hp.set r o'):=by
  refine⟨fun b k u hf hc=>?_,fun b es c hf hc=>?_,fun b k hf=>?_,fun r1 x h1=>?_,fun r1 x h1=>?_,fun r1 n u h1=>?_⟩
  ·by_cases hb:blk v=some b
   ·exact hcell b k u hb (hob b k hf hb) hc
   ·rw[hk.cell (fok_lt hf) hb];exact hc
  ·by_cases hb:blk v=some b
   ·exact(hmapb b es c hb (hob b 0 hf hb) hc).elim
   ·rw[hk.block b (fok_lt hf) hb];exact hc
  ·refine⟨hf.1,Nat.lt_of_lt_of_le hf.2.1 hk.size,hf.2.2.1,(objF_iff b k).2 fun r1 u h1 hb=>?_⟩
   by_cases hne:r=r1
   ·subst hne
    rw[getElem?_set_same hv] at h1
    obtain rfl:=Option.some.inj h1
    refine⟨o',getElem?_set_same hr,?_⟩
    rcases hv' b hb with h2|h2
    ·exact hfoot k (hob b k hf h2)
    ·have:=fok_lt hf;omega
   ·rw[getElem?_set_ne hne] at h1 ⊢
    exact(objF_iff b k).1 hf.2.2.2 r1 u h1 hb
  ·by_cases hne:r=r1
   ·subst hne
    rw[hv] at h1
    obtain rfl:=Option.some.inj h1
    rw[getElem?_set_same hv,hptr _ rfl]
   ·rw[getElem?_set_ne hne];exact h1
  ·by_cases hne:r=r1
   ·subst hne
    rw[hv] at h1
    obtain rfl:=Option.some.inj h1
    rw[getElem?_set_same hv,hmp _ rfl]
   ·rw[getElem?_set_ne hne];exact h1
  ·by_cases hne:r=r1
   ·subst hne;exact hown n u h1
   ·unfold OwnOk at h1 ⊢
    rw[getElem?_set_ne hne,getElem?_set_ne hne];exact h1
 refine⟨h.nt,fun t=>(h.tmps t).ext he,⟨by simp[h.heap.len],fun r1 o1 u h1 h2=>?_,fun r1 r2 o1 o2 v1 v2 b hne h1 h2 l1 l2 e1 e2 hb=>?_⟩,fun r1 o1 u b h1 hl h2 hb=>?_,?_,?_,?_,h.ext.trans he⟩
 ·simp only at h1
  by_cases hne:r=r1
  ·subst hne
   rw[getElem?_set_same hr] at h1
   rw[getElem?_set_same hv] at h2
   obtain rfl:=Option.some.inj h1
   obtain rfl:=Option.some.inj h2
   exact ho' he
  ·rw[getElem?_set_ne hne] at h1 h2
   by_cases hl1:o1.live
   ·exact(h.heap.obj r1 o1 u h1 h2).ext he hk.size fun b hb hlt=>hk.block b hlt fun hb'=>h.heap.sep r1 r o1 o u v b (Ne.symm hne) h1 hr hl1 hlive h2 hv hb hb'
   ·cases o1<;>first|exact True.intro|exact(hl1 True.intro).elim
 ·simp only at h1 h2
  by_cases n1:r=r1
  ·subst n1
   rw[getElem?_set_same hv] at e1
   obtain rfl:=Option.some.inj e1
   rw[getElem?_set_ne hne] at h2 e2
   intro hb'
   rcases hv' b hb with h3|h3
   ·exact h.heap.sep r r2 o o2 v v2 b hne hr h2 hlive l2 hv e2 h3 hb'
   ·have:=h.heap.block h2 l2 e2 hb';omega
  ·rw[getElem?_set_ne n1] at h1 e1
   by_cases n2:r=r2
   ·subst n2
    rw[getElem?_set_same hv] at e2
    obtain rfl:=Option.some.inj e2
    intro hb'
    rcases hv' b hb' with h3|h3
    ·exact h.heap.sep r r1 o o1 v v1 b (fun e=>n1 e) hr h1 hlive l1 hv e1 h3 hb
    ·have:=h.heap.block h1 l1 e1 hb;omega
   ·rw[getElem?_set_ne n2] at h2 e2
    exact h.heap.sep r1 r2 o1 o2 v1 v2 b hne h1 h2 l1 l2 e1 e2 hb
 ·simp only at h1
  by_cases hne:r=r1
  ·subst hne
   rw[getElem?_set_same hv] at h2
   obtain rfl:=Option.some.inj h2
   rcases hv' b hb with h3|h3
   ·exact h.mine r o v b hr hlive hv h3
   ·exact⟨.inl (Nat.le_trans h.keeps.size h3),fun o hx=>by have:=hok.no hx;have:=h.keeps.size;omega⟩
  ·rw[getElem?_set_ne hne] at h1 h2
   exact h.mine r1 o1 u b h1 hl h2 hb
 ·refine h.keeps.trans hk fun b hb hbk=>?_
  rcases (h.mine r o v b hr hlive hv hbk).1 with h1|h1
  ·omega
  ·exact .inr h1
 ·refine hok.stable _ _ _ (fun b hb=>hk.block b (Nat.lt_of_lt_of_le (hok.x b hb) h.keeps.size) fun hbk=>?_) hk.size h.inv
  exact(h.mine r o v b hr hlive hv hbk).2 0 (.inl hb)
 ·exact hk.marks h.marks fun b hbk=>.inr fun d hd=>hdefer b d hbk hd
def setCells (cs:List AV) (off:Nat):List AV→List AV
 | []=>cs
 |x::xs=>setCells (cs.set off x) (off+1) xs
theorem Rel.write (hok:Γ.Ok) (h:Rel Γ s a w η) {r off b:Nat} {cs:List AV} {x:AV} {v:Value} (hr:s.hp[r]?=some (.box cs)) (hv:η[r]?=some (.pointer (some ⟨b,0,none⟩)))
  (hoff:off<cs.length) (h1:v.oneCell'=true) (hx:Rep w (Fok Γ w η s.hp) η s.hp x v):
  Rel Γ { s with hp:=s.hp.set r (.box (cs.set off x)) } a (w.setCell ⟨b,off,none⟩ v) η∧w.frozen? ⟨b,off,none⟩=false∧∃u,w.cell? ⟨b,off,none⟩=some u:=by
 have hob:=h.heap.obj r _ _ hr hv
 obtain⟨b',vs,T,he,hg,hsz,hc⟩:=hob
 simp only[Value.pointer.injEq,Option.some.injEq,Addr.mk.injEq,and_true] at he
 subst he
 have hset:(w.setCell ⟨b,off,none⟩ v).heap[b]?=some (.cells (vs.setIfInBounds off v) T (0,0)):=Go.heap_setCell_same w b off vs T v hg
 have hη:η.set r (.pointer (some ⟨b,0,none⟩))=η:=by
  apply List.ext_getElem?
  intro i
  by_cases hi:r=i
  ·subst hi;rw[getElem?_set_same hv,hv]
  ·rw[getElem?_set_ne hi]
 refine⟨?_,frozen_of_row w b off vs T hg,?_⟩
 ·have:=Rel.change (w':=w.setCell ⟨b,off,none⟩ v) (o':=.box (cs.set off x)) (v':=.pointer (some ⟨b,0,none⟩)) hok h hr True.intro hv
   ⟨rfl,rfl,rfl,by simp[World.setCell],fun k hk hb=>Go.heap_setCell_other w _ k v (by intro e;exact hb (by rw[e];rfl))⟩
   (fun c hc=>.inl hc) (fun k hk=>hk.elim) (fun _ _ _ _ hk=>hk.elim) (fun _ _ _ _ hk=>hk.elim)
   (fun n u ho=>by simp[OwnOk,hr] at ho)
   (fun _ _=>rfl) (fun _ hx=>by cases hx)
   (fun c d hb hd=>by simp only[blk,Option.some.injEq] at hb;subst hb;rw[hg] at hd;cases hd)
   (fun he=>⟨b,vs.setIfInBounds off v,T,rfl,hset,by simp[hsz],fun j y u hy hu=>by
    by_cases hj:off=j
    ·subst hj
     have hlt:off<vs.size:=by rw[hsz];exact hoff
     have e1:(cs.set off x)[off]?=some x:=by rw[List.getElem?_set];simp[hoff]
     have e2:(vs.setIfInBounds off v)[off]?=some v:=by rw[Array.getElem?_setIfInBounds];simp[hlt]
     rw[e1] at hy
     rw[e2] at hu
     obtain rfl:=Option.some.inj hy
     obtain rfl:=Option.some.inj hu
     exact⟨hx.ext he,h1⟩
    ·rw[getElem?_set_ne hj] at hy
     have e2:(vs.setIfInBounds off v)[j]?=vs[j]?:=by rw[Array.getElem?_setIfInBounds];simp[hj]
     rw[e2] at hu
     exact⟨(hc j y u hy hu).1.ext he,(hc j y u hy hu).2⟩⟩)
  rw[hη] at this
  exact this
 ·rw[cell_of_row w b off vs T (0,0) hg]
  exact⟨vs[off]'(by rw[hsz];exact hoff),by simp[hsz,hoff]⟩
end Go.Proofs.YtjhanogfpkbamaaGreatDoor

namespace Go.Proofs.YtjhanogfpkbamaaGreatDoor
open Go
set_option linter.unusedSimpArgs false
set_option linter.unusedVariables false
inductive TK where
 |other
 |int (k:IntKind)
 |str
 |bool
 |strct (fields:List (Nat×Nat×Bool))
 |slc (e:Nat)
 |mapk (k e:Nat)
 |ptr (e:Nat)
 |arr (n:Nat)
 |ifc
structure TD where
 flat:Bool:=false
 kind:TK
 size:Nat
 bytes:Nat
 zero:Value
def TK.agg:TK→Bool
 | .strct _=>true
 | .arr _=>true
 |_=>false
def aggD:TypeDesc→Bool
 | .struct _ | .array _ _=>true
 |_=>false
def TK.fits (P:Program) (u:TypeDesc):TK→Prop
 | .other=>(match u with | .struct _ | .array _ _=>False|_=>True)
 | .int k=>u=.int k
 | .str=>u=.string
 | .bool=>u=.bool
 | .strct fs=>∃fields,u=.struct fields∧fields.toList.map (fun f=>(f.offset,(P.info? f.type).map (·.size),(P.underlying f.type).map aggD))=fs.map fun p=>(p.1,some p.2.1,some p.2.2)
 | .slc e=>u=.slice e
 | .mapk k e=>u=.map k e
 | .ptr e=>u=.pointer e
 | .ifc=>∃ms,u=.interface ms
 | .arr n=>∃e i,u=.array n e∧P.info? e=some i∧i.size=1
structure TyOk (P:Program) (T:TypeId) (d:TD):Prop where
 info:∃i,P.info? T=some i∧i.size=d.size∧i.bytes=d.bytes∧i.zero=some d.zero
 und:∃u,P.underlying T=some u∧d.kind.fits P u
 zsize:d.zero.cells.size=d.size
 zone:∀v:Value,v∈d.zero.cells→v.oneCell'=true
 zagg:d.kind.agg=true→∃cs,d.zero=.agg cs
 zagg':d.kind.agg=false→d.size=1∧d.zero.oneCell'=true
 feq:d.flat=true→P.eqGuardType P.depth T=false∧∀(w:World) (a1 a2 b1 b2:Int),(Op.equalIn 10000 T (.agg #[.int .i64 a1,.int .i64 a2]) (.agg #[.int .i64 b1,.int .i64 b2])).run P w=.ok (a1==b1&&a2==b2) w
def TabOk (P:Program) (tab:Nat→Option TD):Prop:=∀T d,tab T=some d→TyOk P T d
variable {G:Type} {Γ:Env G} {s:AS G} {a:Act} {w w':World} {η:List Value} {hp:List AObj} {F:Nat→Nat→Prop} {P:Program}
theorem TyOk.run_isAgg {T:TypeId} {d:TD} (h:TyOk P T d) (w:World):(isAgg T).run P w=.ok d.kind.agg w:=by
 obtain⟨u,h1,h2⟩:=h.und
 simp only[isAgg,Sem.run_bind,run_underlying h1,Result.andThen_ok]
 revert h2
 cases hk:d.kind<;>intro h2<;>simp only[TK.fits] at h2
 ·cases u<;>first|rfl|exact h2.elim
 ·subst h2;rfl
 ·subst h2;rfl
 ·subst h2;rfl
 ·obtain⟨f,rfl,_⟩:=h2;rfl
 ·subst h2;rfl
 ·subst h2;rfl
 ·subst h2;rfl
 ·obtain⟨e,i,rfl,_⟩:=h2;rfl
 ·obtain⟨m,rfl⟩:=h2;rfl
theorem TyOk.run_sizeOf {T:TypeId} {d:TD} (h:TyOk P T d) (w:World):(sizeOf T).run P w=.ok d.size w:=by
 obtain⟨i,h1,h2,_⟩:=h.info
 simp[sizeOf,typeInfo,h1,h2]
theorem TyOk.run_zero {T:TypeId} {d:TD} (h:TyOk P T d) (w:World):(zeroValue T).run P w=.ok d.zero w:=by
 obtain⟨i,h1,_,_,h4⟩:=h.info
 simp[zeroValue,typeInfo,h1,h4]
theorem TyOk.run_load {T:TypeId} {d:TD} (h:TyOk P T d) {b o:Nat} {vs:List Value} (hl:vs.length=d.size) (hc:∀(j:Nat) (v:Value),vs[j]?=some v→w.cell? ⟨b,o+j,none⟩=some v):
  (loadVar T ⟨b,o,none⟩).run P w=.ok (if d.kind.agg then .agg vs.toArray else vs.headD undef) w:=by
 simp only[loadVar,Sem.run_bind,h.run_isAgg,Result.andThen_ok]
 cases hk:d.kind.agg with
 |true=>
  simp only[if_true,Sem.run_bind,h.run_sizeOf,Result.andThen_ok]
  rw[←hl,run_loadCells_list (P:=P) w ⟨b,o,none⟩ vs (fun j v hj=>by rw[Addr.add_lit];exact hc j v hj)]
  rfl
 |false=>
  have h1:=(h.zagg' hk).1
  rw[h1] at hl
  match vs,hl with
  | [v],_=>
   have:=hc 0 v rfl
   simp only[Nat.add_zero] at this
   simp[run_load,this]
def AV.asSl (hp:List AObj):AV→Option (List AV)
 | .sl els=>some els
 | .clip els=>some els
 | .prim (.slice none 0 0)=>some []
 | .own r n=>match hp[r]? with
  |some (.row _ _ els)=>if n=els.length then some els else none
  |_=>none
 |_=>none
theorem Rel.row_sl {r:Nat} {e size:Nat} {els:List AV} {v:Value} (hF:∀b k,(∃u,η[r]?=some u∧blk u=some b)→k<els.length*size→F b k)
  (hob:ObjOk w F η hp (.row e size els) v) (hv:η[r]?=some v):Rep w F η hp (.sl els) v:=by
 obtain⟨h0,xs,hrow,hels⟩:=hob
 rcases hrow.2 with⟨hn,rfl|⟨ad,rfl⟩⟩|⟨g,cap,cur,rfl,hc0,⟨hi,_,hg⟩,hnc,hcm,hcs,htake⟩
 ·have:els=[]:=List.eq_nil_of_length_eq_zero hn
  subst this;exact .sl0 _
 ·have:els=[]:=List.eq_nil_of_length_eq_zero hn
  subst this
  exact .sl0 _
 ·have hcell:∀(i:Nat) (el:AV) (j:Nat) (x:AV),els[i]?=some el→el.cells[j]?=some x→∃u,w.cell? ⟨g,0+i*size+j,none⟩=some u∧xs.getD (i*size+j) undef=u∧F g (0+i*size+j)∧u.oneCell'=true∧Rep w F [] [] x u:=by
   intro i el j x hi hj
   obtain⟨hlen,hx⟩:=hels i el hi
   obtain⟨u,hu,hrep,h1⟩:=hx j x hj
   have hi':i<els.length:=(List.getElem?_eq_some_iff.1 hi).1
   have hj':j<size:=by rw[←hlen];exact(List.getElem?_eq_some_iff.1 hj).1
   have hlt:i*size+j<els.length*size:=by
    have:=Nat.mul_le_mul_right size (show i+1≤els.length from hi')
    rw[Nat.add_mul] at this;omega
   refine⟨u,?_,by simp[List.getD,hu],hF _ _ ⟨_,hv,blk_slice hc0⟩ (by omega),h1,hrep⟩
   rw[Nat.zero_add,cell_of_row w g _ cur e _ hg]
   rw[←htake,List.getElem?_take,if_pos hlt] at hu
   simpa using hu
  refine .sl size els g 0 cap (fun i j=>xs.getD (i*size+j) undef) hnc hcm (fun i el hi=>(hels i el hi).1) (fun i el j x hi hj=>?_) (fun i el j x hi hj=>?_)
  ·obtain⟨u,h1,h2,h3,h4,_⟩:=hcell i el j x hi hj
   exact⟨by rw[h2];exact h1,h3,by rw[h2];exact h4⟩
  ·obtain⟨u,h1,h2,h3,h4,h5⟩:=hcell i el j x hi hj
   rw[h2];exact h5
theorem fok_own (h:HeapOk w (Fok Γ w η hp) η hp) (hm:Mine Γ η hp) {r e size:Nat} {els:List AV} {v:Value} (hr:hp[r]?=some (.row e size els)) (hv:η[r]?=some v)
  {b k:Nat} (hb:blk v=some b) (hk':k<els.length*size):Fok Γ w η hp b k:=by
 have h1:=hm r _ v b hr True.intro hv hb
 refine⟨.inr h1.1,h.block hr True.intro hv hb,h1.2 _,(objF_iff b k).2 fun r' u hu hb'=>?_⟩
 ·by_cases hne:r=r'
  ·subst hne
   exact⟨_,hr,hk'⟩
  ·have hr':r' < hp.length:=by rw[←h.len];exact(List.getElem?_eq_some_iff.1 hu).1
   refine⟨hp[r'],by simp[hr'],?_⟩
   cases ho:hp[r'] with
   |dead=>exact True.intro
   |box cs=>exact(h.sep r r' _ (.box cs) v u b hne hr (by rw[←ho];simp[hr']) True.intro True.intro hv hu hb hb').elim
   |row e' s' els'=>exact(h.sep r r' _ (.row e' s' els') v u b hne hr (by rw[←ho];simp[hr']) True.intro True.intro hv hu hb hb').elim
   |mapo es=>exact(h.sep r r' _ (.mapo es) v u b hne hr (by rw[←ho];simp[hr']) True.intro True.intro hv hu hb hb').elim
   |bld q k=>exact(h.sep r r' _ (.bld q k) v u b hne hr (by rw[←ho];simp[hr']) True.intro True.intro hv hu hb hb').elim
   |mrow e' s' els'=>exact(h.sep r r' _ (.mrow e' s' els') v u b hne hr (by rw[←ho];simp[hr']) True.intro True.intro hv hu hb hb').elim
end Go.Proofs.YtjhanogfpkbamaaGreatDoor

namespace Go.Proofs.YtjhanogfpkbamaaGreatDoor
open Go
set_option linter.unusedSimpArgs false
set_option linter.unusedVariables false
variable {G:Type} {Γ:Env G} {s:AS G} {a:Act} {w w':World} {η:List Value} {hp:List AObj} {F:Nat→Nat→Prop} {P:Program}
theorem fok_row (h:HeapOk w (Fok Γ w η hp) η hp) (hm:Mine Γ η hp) {r n e size:Nat} {els:List AV} {v:Value} (hr:hp[r]?=some (.row e size els)) (ho:OwnOk η hp r n v) (hn:n=els.length):
  Rep w (Fok Γ w η hp) η hp (.sl els) v:=by
 have hv:η[r]?=some v:=by
  unfold OwnOk at ho
  rw[hr] at ho
  exact ho.2 hn
 exact Rel.row_sl (fun b k ⟨u,h1,h2⟩ hk=>fok_own h hm hr h1 h2 hk) (h.obj r _ v hr hv) hv
theorem asSl_rep (h:HeapOk w (Fok Γ w η hp) η hp) (hm:Mine Γ η hp) {x:AV} {els:List AV} {v:Value} (hx:Rep w (Fok Γ w η hp) η hp x v) (he:x.asSl hp=some els):
  Rep w (Fok Γ w η hp) η hp (.sl els) v:=by
 cases x with
 |sl l=>simp only[AV.asSl,Option.some.injEq] at he;subst he;exact hx
 |clip l=>simp only[AV.asSl,Option.some.injEq] at he;subst he;exact hx.of_clip
 |prim u=>
  have:u=v:=by cases hx;rfl
  subst this
  unfold AV.asSl at he
  split at he<;>try (simp at he;done)
  ·rename_i h1;cases h1
  ·rename_i h1;cases h1
  ·rename_i h1
   simp only[AV.prim.injEq] at h1
   subst h1
   obtain rfl:=Option.some.inj he
   exact .sl0 _
  ·rename_i h1;cases h1
 |own r n=>
  have ho:OwnOk η hp r n v:=by cases hx;assumption
  simp only[AV.asSl] at he
  cases hr:hp[r]? with
  |none=>simp[hr] at he
  |some o=>
   cases o with
   |row e size l=>
    simp only[hr] at he
    split at he
    ·rename_i hn
     obtain rfl:=Option.some.inj he
     exact fok_row h hm hr ho hn
    ·cases he
   |_=>simp[hr] at he
 |_=>simp[AV.asSl] at he
structure SlCells (w:World) (F:Nat→Nat→Prop) (size:Nat) (els:List AV) (v:Value) (news:List Value):Prop where
 shape:(∃ad:Option Addr,v=.slice ad 0 0∧els=[])∨∃b o c,v=.slice (some ⟨b,o,none⟩) els.length c∧els.length≤c∧c≤maxLen∧∀(k:Nat) (u:Value),news[k]?=some u→w.cell? ⟨b,o+k,none⟩=some u
 len:news.length=els.length*size
 one:∀u:Value,u∈news→u.oneCell'=true
 rep:∀(i:Nat) (e:AV) (j:Nat) (x:AV),els[i]?=some e→e.cells[j]?=some x→∃u,news[i*size+j]?=some u∧Rep w F [] [] x u∧u.oneCell'=true
theorem Rep.slCells {size:Nat} {els:List AV} {v:Value} (h:Rep w F η hp (.sl els) v) (hsz:0<size) (hl:∀e:AV,e∈els→e.cells.length=size):∃news,SlCells w F size els v news:=by
 cases h with
 |sl0 a=>exact⟨[],.inl ⟨a,rfl,rfl⟩,by simp,(fun u hu=>by cases hu),fun i e j x hi=>by simp at hi⟩
 |sl size' els b o c f hc hm hl' hcell hr=>
  have hdec:∀k,k<els.length*size→k / size<els.length∧k % size<size∧k=k / size*size+k % size:=fun k hk=>
   ⟨Nat.div_lt_of_lt_mul (by rw[Nat.mul_comm];exact hk),Nat.mod_lt _ hsz,by rw[Nat.mul_comm];exact(Nat.div_add_mod k size).symm⟩
  have hget:∀k,k<els.length*size→w.cell? ⟨b,o+k,none⟩=some (f (k / size) (k % size))∧(f (k / size) (k % size)).oneCell'=true:=fun k hk=>by
   obtain⟨h1,h2,h3⟩:=hdec k hk
   have he:els[k / size]?=some els[k / size]:=by simp[h1]
   have hlen:=hl _ (List.getElem_mem h1)
   have hj:els[k / size].cells[k % size]?=some (els[k / size].cells[k % size]'(by rw[hlen];exact h2)):=by simp[hlen,h2]
   have hs':size'=size:=by rw[←hl' _ _ he];exact hlen
   have:=hcell _ _ _ _ he hj
   rw[hs',Nat.add_assoc,←h3] at this
   exact⟨this.1,this.2.2⟩
  refine⟨(List.range (els.length*size)).map fun k=>f (k / size) (k % size),.inr ⟨b,o,c,rfl,hc,hm,fun k u hk=>?_⟩,by simp,fun u hu=>?_,fun i e j x hi hj=>?_⟩
  ·rw[List.getElem?_map] at hk
   by_cases hlt:k<els.length*size
   ·rw[List.getElem?_range hlt] at hk
    obtain rfl:=Option.some.inj hk
    exact(hget k hlt).1
   ·rw[List.getElem?_eq_none (by simp;omega)] at hk
    cases hk
  ·obtain⟨k,hk,rfl⟩:=List.mem_map.1 hu
   exact(hget k (List.mem_range.1 hk)).2
  ·have hlen:=hl e (List.mem_of_getElem? hi)
   have hi':i<els.length:=(List.getElem?_eq_some_iff.1 hi).1
   have hj':j<size:=by rw[←hlen];exact(List.getElem?_eq_some_iff.1 hj).1
   have hlt:i*size+j<els.length*size:=by
    have:=Nat.mul_le_mul_right size (show i+1≤els.length from hi')
    rw[Nat.add_mul] at this;omega
   have e1:(i*size+j) / size=i:=by rw[Nat.mul_comm,Nat.mul_add_div hsz,Nat.div_eq_of_lt hj',Nat.add_zero]
   have e2:(i*size+j) % size=j:=by rw[Nat.mul_comm,Nat.mul_add_mod,Nat.mod_eq_of_lt hj']
   refine⟨f i j,?_,hr i e j x hi hj,(hcell i e j x hi hj).2.2⟩
   rw[List.getElem?_map,List.getElem?_range hlt]
   simp[e1,e2]
theorem SlCells.ext {w':World} {F':Nat→Nat→Prop} {size:Nat} {els:List AV} {v:Value} {news:List Value} (h:SlCells w F size els v news) (he:Ext0 w F w' F'):
  ∀(i:Nat) (e:AV) (j:Nat) (x:AV),els[i]?=some e→e.cells[j]?=some x→∃u,news[i*size+j]?=some u∧Rep w' F' [] [] x u∧u.oneCell'=true:=
 fun i e j x hi hj=>let ⟨u,h1,h2,h3⟩:=h.rep i e j x hi hj;⟨u,h1,h2.ext he.ext,h3⟩
theorem cells_append {R:AV→Value→Prop} {size:Nat} {l1 l2:List AV} {x1 x2:List Value} (hx1:x1.length=l1.length*size)
  (h1:∀(i:Nat) (e:AV) (j:Nat) (x:AV),l1[i]?=some e→e.cells[j]?=some x→∃u,x1[i*size+j]?=some u∧R x u∧u.oneCell'=true)
  (h2:∀(i:Nat) (e:AV) (j:Nat) (x:AV),l2[i]?=some e→e.cells[j]?=some x→∃u,x2[i*size+j]?=some u∧R x u∧u.oneCell'=true):
  ∀(i:Nat) (e:AV) (j:Nat) (x:AV),(l1++l2)[i]?=some e→e.cells[j]?=some x→∃u,(x1++x2)[i*size+j]?=some u∧R x u∧u.oneCell'=true:=by
 intro i e j x hi hj
 by_cases hlt:i<l1.length
 ·rw[List.getElem?_append_left hlt] at hi
  obtain⟨u,h3,h4⟩:=h1 i e j x hi hj
  exact⟨u,by rw[List.getElem?_append_left (List.getElem?_eq_some_iff.1 h3).1];exact h3,h4⟩
 ·rw[List.getElem?_append_right (by omega)] at hi
  obtain⟨u,h3,h4⟩:=h2 _ e j x hi hj
  refine⟨u,?_,h4⟩
  have:x1.length≤i*size+j:=by
   rw[hx1]
   have:=Nat.mul_le_mul_right size (show l1.length≤i by omega)
   omega
  rw[List.getElem?_append_right this,hx1,←h3]
  congr 1
  rw[Nat.sub_mul]
  have:=Nat.mul_le_mul_right size (show l1.length≤i by omega)
  omega
theorem run_append_none {t ty e:TypeId} {ed:TD} (ht:P.underlying t=some (.slice e)) (he:TyOk P e ed) (b:Option Addr) (n c:Nat) (hn:n≤c) (x:Value) (hx:x=.slice none 0 0∨∃ad k,x=.slice (some ad) 0 k):
  (Builtin.append_ #[t,t] ty #[.slice b n c,x]).run P w=.ok (.slice b n c) w:=by
 obtain⟨i,h1,h2,_⟩:=he.info
 rcases hx with rfl|⟨ad,k,rfl⟩<;>cases b <;>
  simp[Builtin.append_,run_underlying ht,sizeOf,typeInfo,h1,Builtin.lenOf,hn,Builtin.firstCells,storeCells,loadCells,loadCellsFrom]
theorem rowOk_new {e size:Nat} {n m:Nat} {z:Array Value} (olds news:List Value) (ho:olds.length=n*size) (hnw:news.length=m*size) (hz:z.size=size) (old:Nat) (hm:0<m) (h63:n+m≤maxLen):
  RowOk (w.drew.alloc (.cells (olds.toArray++news.toArray++Builtin.zeroCells z (grownCap w (n+m) old e-(n+m))) e)) e size
   (.slice (some ⟨w.heap.size,0,none⟩) (n+m) (grownCap w (n+m) old e)) (n+m) (olds++news) 0:=by
 have hge:=grownCap_ge w (n+m) old e
 have hcm:grownCap w (n+m) old e≤maxLen:=grownCap_le_maxLen w (n+m) old e h63
 have hlen:(olds++news).length=(n+m)*size:=by rw[List.length_append,ho,hnw,Nat.add_mul]
 refine⟨hlen,.inr ⟨w.heap.size,_,_,rfl,by omega,⟨0,Nat.le_refl _,heap_alloc_new w.drew _⟩,hge,hcm,?_,?_⟩⟩
 ·simp only[Array.size_append,List.size_toArray,size_zeroCells,hz,ho,hnw,←Nat.add_mul]
  congr 1
  omega
 ·simp only[Array.toList_append,List.append_assoc]
  rw[←List.append_assoc,←hlen]
  exact List.take_left
end Go.Proofs.YtjhanogfpkbamaaGreatDoor

namespace Go.Proofs.YtjhanogfpkbamaaGreatDoor
open Go
set_option linter.unusedSimpArgs false
set_option linter.unusedVariables false
variable {G:Type} {Γ:Env G} {s:AS G} {a:Act} {w w':World} {η:List Value} {hp:List AObj} {F:Nat→Nat→Prop} {P:Program}
theorem append_new (hok:Γ.Ok) (h:Rel Γ s a w η) {t ty e:TypeId} {d:TD} (ht:Γ.P.underlying t=some (.slice e)) (hty:TyOk Γ.P e d) (hsz:0<d.size) {els els2:List AV} {v0 v2:Value}
  (hb:v0=.slice none 0 0∧els=[]∨Rep w (Fok Γ w η s.hp) η s.hp (.clip els) v0) (hx:Rep w (Fok Γ w η s.hp) η s.hp (.sl els2) v2)
  (hl:∀x:AV,x∈els→x.cells.length=d.size) (hl2:∀x:AV,x∈els2→x.cells.length=d.size) (hne:els2=[]→els=[])
  (hm:els.length+els2.length≤maxLen) (hby:(els.length+els2.length)*d.bytes≤140737488355328) {ob:AObj} (hob:ob=.row e d.size (els++els2)∨ob=.mrow e d.size (els++els2)):
  ∃v' w',(Builtin.append_ #[t,t] ty #[v0,v2]).run Γ.P w=.ok v' w'∧Rel Γ (s.add ob) a w' (η++[v'])∧v'.oneCell'=true:=by
 have hobj:∀{w:World} {F:Nat→Nat→Prop} {η:List Value} {hp:List AObj} {v:Value},ObjOk w F η hp (.mrow e d.size (els++els2)) v→ObjOk w F η hp ob v:=by
  rcases hob with rfl|rfl
  ·exact fun⟨h1,xs,h2,h3⟩=>⟨h1,xs,h2.more (Nat.zero_le _),h3⟩
  ·exact id
 obtain⟨i,hi1,hi2,hi3,hi4⟩:=hty.info
 have hbs:Rep w (Fok Γ w η s.hp) η s.hp (.sl els) v0:=by
  rcases hb with⟨rfl,rfl⟩|hb
  ·exact .sl0 _
  ·exact hb.of_clip
 obtain⟨olds,ho⟩:=hbs.slCells hsz hl
 obtain⟨news,hn⟩:=hx.slCells hsz hl2
 have hcap:(∃ad:Option Addr,v0=.slice ad 0 0∧els=[])∨∃b o,v0=.slice (some ⟨b,o,none⟩) els.length els.length∧∀(k:Nat) (u:Value),olds[k]?=some u→w.cell? ⟨b,o+k,none⟩=some u:=by
  rcases ho.shape with h1|⟨b,o,c,rfl,_,_,hc⟩
  ·exact .inl h1
  ·rcases hb with⟨hb,_⟩|hb
   ·cases hb
   ·cases hb with
    |clip0=>exact .inl ⟨_,rfl,rfl⟩
    |clip size els b o f hm hl' hcell hr=>exact .inr ⟨_,_,rfl,hc⟩
 by_cases hz:els2=[]
 ·have hz':=hne hz
  subst hz;subst hz'
  have hv2:v2=.slice none 0 0∨∃ad k,v2=.slice (some ad) 0 k:=by
   rcases hn.shape with⟨ad,rfl,_⟩|⟨b,o,c,rfl,_⟩
   ·cases ad with
    |none=>exact .inl rfl
    |some ad=>exact .inr ⟨_,_,rfl⟩
   ·exact .inr ⟨_,_,rfl⟩
  rcases hcap with⟨ad,rfl,_⟩|⟨b,o,rfl,_⟩
  ·refine⟨_,w,run_append_none ht hty ad 0 0 (Nat.le_refl _) v2 hv2,?_,rfl⟩
   exact h.add hok (Same.refl w) (fun b hb=>by cases ad<;>simp[blk] at hb) (hobj ⟨hsz,[],⟨by simp,.inl ⟨rfl,by cases ad with|none=>exact .inl rfl|some ad=>exact .inr ⟨ad,rfl⟩⟩⟩,fun i el hi=>by simp at hi⟩)
  ·refine⟨_,w,run_append_none ht hty (some ⟨b,o,none⟩) 0 0 (Nat.le_refl _) v2 hv2,?_,rfl⟩
   exact h.add hok (Same.refl w) (fun b hb=>by simp[blk] at hb) (hobj ⟨hsz,[],⟨by simp,.inl ⟨rfl,.inr ⟨_,rfl⟩⟩⟩,fun i el hi=>by simp at hi⟩)
 ·have hm2:0<els2.length:=List.length_pos_iff.2 hz
  rcases hn.shape with⟨_,_,h1⟩|⟨b2,o2,c2,rfl,_,_,hc2⟩
  ·exact(hz h1).elim
  have hnews:∀(j:Nat) (u:Value),news[j]?=some u→w.cell? ((⟨b2,o2,none⟩:Addr).add j)=some u:=fun j u hj=>by rw[Addr.add_lit];exact hc2 j u hj
  have h63:els.length+els2.length≤9223372036854775807:=by simp only[maxLen] at hm;omega
  have fin:∀(old:Nat),Rel Γ (s.add ob) a
    (w.drew.alloc (.cells (olds.toArray++news.toArray++Builtin.zeroCells d.zero.cells (grownCap w (els.length+els2.length) old e-(els.length+els2.length))) e))
    (η++[.slice (some ⟨w.heap.size,0,none⟩) (els.length+els2.length) (grownCap w (els.length+els2.length) old e)]):=by
   intro old
   have hs:Same w (w.drew.alloc (.cells (olds.toArray++news.toArray++Builtin.zeroCells d.zero.cells (grownCap w (els.length+els2.length) old e-(els.length+els2.length))) e)):=
    (Same.drew w).trans (Same.alloc _ _)
   have hblk:∀b,blk (.slice (some ⟨w.heap.size,0,none⟩) (els.length+els2.length) (grownCap w (els.length+els2.length) old e))=some b→w.heap.size≤b:=by
    intro b hb
    rw[blk_slice (by have:=grownCap_ge w (els.length+els2.length) old e;omega)] at hb
    obtain rfl:=Option.some.inj hb
    exact Nat.le_refl _
   have he:=ext_new (Γ:=Γ) (o:=ob) h.heap.len hs hblk
   refine h.add hok hs hblk (hobj ⟨hsz,olds++news,?_,fun i el hi=>⟨?_,?_⟩⟩)
   ·rw[List.length_append]
    exact rowOk_new olds news ho.len hn.len hty.zsize old hm2 hm
   ·rcases List.mem_append.1 (List.mem_of_getElem? hi) with h1|h1
    ·exact hl _ h1
    ·exact hl2 _ h1
   ·exact fun j x hj=>cells_append ho.len (ho.ext he.ext0) (hn.ext he.ext0) i el j x hi hj
  rcases hcap with⟨ad,rfl,rfl⟩|⟨b,o,rfl,hc⟩
  ·have:olds=[]:=List.eq_nil_of_length_eq_zero (by simpa using ho.len)
   subst this
   cases ad with
   |some ad=>
    have:=run_append_grow (P:=Γ.P) w t ty e i d.zero ht hi1 hi4 ad 0 0 [] (by simp) (fun j u hj=>by simp at hj) ⟨b2,o2,none⟩ els2.length c2 news (by rw[hi2];exact hn.len) hnews (by omega)
     (by simp only[List.length_nil,Nat.zero_add] at h63 ⊢;omega) (growslice_fits (by omega) (by rw[hi3];simpa only[List.length_nil] using hby))
    refine⟨_,_,this,?_,rfl⟩
    have f0:=fin 0
    simpa only[List.length_nil,Nat.zero_add,List.nil_append] using f0
   |none=>
   have:=run_append_nil (P:=Γ.P) w t ty e i d.zero ht hi1 hi4 ⟨b2,o2,none⟩ els2.length c2 news (by rw[hi2];exact hn.len) hnews hm2 (by simp only[List.length_nil,Nat.zero_add] at h63;omega) (by rw[hi3];simp only[List.length_nil,Nat.zero_add] at hby;omega)
   refine⟨_,_,this,?_,rfl⟩
   have f0:=fin 0
   simpa only[List.length_nil,Nat.zero_add,List.nil_append,Array.empty_append] using f0
  ·have holds:∀(j:Nat) (u:Value),olds[j]?=some u→w.cell? ((⟨b,o,none⟩:Addr).add j)=some u:=fun j u hj=>by rw[Addr.add_lit];exact hc j u hj
   have:=run_append_grow (P:=Γ.P) w t ty e i d.zero ht hi1 hi4 ⟨b,o,none⟩ els.length els.length olds (by rw[hi2];exact ho.len) holds ⟨b2,o2,none⟩ els2.length c2 news (by rw[hi2];exact hn.len) hnews (by omega)
    (by omega) (growslice_fits (by omega) (by rw[hi3];exact hby))
   exact⟨_,_,this,fin els.length,rfl⟩
theorem setCells_row {g e z:Nat}:∀(us:List Value) (o:Nat) (cur:Array Value) (w:World),w.heap[g]?=some (.cells cur e (0,z))→o+us.length≤cur.size→
  w.setCells g o us=w.setRow g (cur.toList.take o++us++cur.toList.drop (o+us.length)).toArray:=by
 intro us
 induction us with
 |nil=>
  intro o cur w hg _
  simp only[World.setCells,List.append_nil,List.length_nil,Nat.add_zero,List.take_append_drop]
  have hlt:g<w.heap.size:=(Array.getElem?_eq_some_iff.1 hg).1
  have hv:w.heap[g]=.cells cur e (0,z):=(Array.getElem?_eq_some_iff.1 hg).2
  unfold World.setRow
  cases w with
  |mk heap tape drawn os output=>
   congr 1
   apply Array.ext
   ·simp
   ·intro k h1 h2
    simp only[Array.getElem_modify]
    split
    ·rename_i hk;subst hk;simp at hv;simp[hv]
    ·rfl
 |cons u us ih=>
  intro o cur w hg hl
  rw[List.length_cons] at hl
  rw[World.setCells,setCell_eq_setRow w g o cur e _ u hg,ih (o+1) _ _ (setRow_heap w g cur _ e _ hg) (by simp;omega),setRow_setRow]
  congr 2
  apply List.ext_getElem?
  intro k
  have e1:(cur.setIfInBounds o u).toList=cur.toList.set o u:=by simp
  rw[e1]
  have hlen:cur.toList.length=cur.size:=by simp
  rcases Nat.lt_trichotomy k o with h|h|h
  ·rw[List.append_assoc,List.append_assoc,List.getElem?_append_left (by simp;omega),List.getElem?_append_left (by simp;omega),List.getElem?_take,List.getElem?_take,if_pos (by omega),if_pos h,List.getElem?_set_ne (by omega)]
  ·subst h
   have hk:(cur.toList.take k).length=k:=by rw[List.length_take];omega
   rw[List.append_assoc,List.append_assoc,List.getElem?_append_left (by simp;omega),List.getElem?_append_right (by omega),hk,Nat.sub_self,List.getElem?_take,if_pos (by omega),List.getElem?_set_self (by omega)]
   rfl
  ·have e2:(cur.toList.take o++(u::us)++cur.toList.drop (o+(us.length+1)))[k]?=(us++cur.toList.drop (o+(us.length+1)))[k-(o+1)]?:=by
    rw[List.append_assoc,List.getElem?_append_right (by simp;omega),List.cons_append]
    have:k-(List.take o cur.toList).length=(k-(o+1))+1:=by rw[List.length_take];omega
    rw[this,List.getElem?_cons_succ]
   rw[List.length_cons,e2,List.append_assoc,List.getElem?_append_right (by simp;omega)]
   have:k-(List.take (o+1) (cur.toList.set o u)).length=k-(o+1):=by rw[List.length_take,List.length_set];omega
   rw[this,List.drop_set_of_lt (by omega),show o+1+us.length=o+(us.length+1) by omega]
theorem room_cells {w:World} {g e z o:Nat} {cur:Array Value} {us:List Value} (hg:w.heap[g]?=some (.cells cur e (0,z))) (hz:z≤o) (hf:o+us.length≤cur.size):
  (∀j,j<us.length→(w.cell? ⟨g,o+j,none⟩).isSome=true)∧∀j,j<us.length→w.frozen? ⟨g,o+j,none⟩=false:=by
 refine⟨fun j hj=>?_,fun j hj=>?_⟩
 ·rw[cell_of_row w g _ cur e _ hg,Array.getElem?_eq_getElem (by omega)];rfl
 ·simp only[World.frozen?,hg]
  have:¬(o+j<z):=by omega
  simp[this]
structure AppSrc (P:Program) (w:World) (F:Nat→Nat→Prop) (t u ty e:TypeId) (d:TD) (els2:List AV) (v2:Value) (news:List Value):Prop where
 len:news.length=els2.length*d.size
 one:∀u∈news,u.oneCell'=true
 rep:∀(i:Nat) (e:AV) (j:Nat) (x:AV),els2[i]?=some e→e.cells[j]?=some x→∃u,news[i*d.size+j]?=some u∧Rep w F [] [] x u∧u.oneCell'=true
 nothing:els2=[]→∀b n c,n≤c→(Builtin.append_ #[t,u] ty #[.slice b n c,v2]).run P w=.ok (.slice b n c) w
 nil:0<els2.length→(els2.length:Int)≤9223372036854775807→els2.length*d.bytes≤281474976710656→(Builtin.append_ #[t,u] ty #[.slice none 0 0,v2]).run P w=
  .ok (.slice (some ⟨w.heap.size,0,none⟩) els2.length (grownCap w els2.length 0 e)) (w.drew.alloc (.cells (news.toArray++Builtin.zeroCells d.zero.cells (grownCap w els2.length 0 e-els2.length)) e))
 grow:0<els2.length→∀(b:Addr) (sLen sCap:Nat) (olds:List Value),olds.length=sLen*d.size→(∀j v,olds[j]?=some v→w.cell? (b.add j)=some v)→sCap<sLen+els2.length→((sLen+els2.length:Nat):Int)≤9223372036854775807→
  Builtin.nextslicecap (sLen+els2.length) sCap*d.bytes≤281474976710656→(Builtin.append_ #[t,u] ty #[.slice (some b) sLen sCap,v2]).run P w=
   .ok (.slice (some ⟨w.heap.size,0,none⟩) (sLen+els2.length) (grownCap w (sLen+els2.length) sCap e)) (w.drew.alloc (.cells (olds.toArray++news.toArray++Builtin.zeroCells d.zero.cells (grownCap w (sLen+els2.length) sCap e-(sLen+els2.length))) e))
 room:0<els2.length→∀(g sLen sCap:Nat) (cur:Array Value) (hi:Nat),hi≤sLen*d.size→w.heap[g]?=some (.cells cur e (0,hi))→sLen+els2.length≤sCap→sLen*d.size+news.length≤cur.size→(Builtin.append_ #[t,u] ty #[.slice (some ⟨g,0,none⟩) sLen sCap,v2]).run P w=
   .ok (.slice (some ⟨g,0,none⟩) (sLen+els2.length) sCap) (w.setRow g (cur.toList.take (sLen*d.size)++news++cur.toList.drop (sLen*d.size+news.length)).toArray)
theorem AppSrc.ext {P:Program} {F F':Nat→Nat→Prop} {t u ty e:TypeId} {d:TD} {els2:List AV} {v2:Value} {news:List Value} (h:AppSrc P w F t u ty e d els2 v2 news) (he:Ext0 w F w' F'):
  ∀(i:Nat) (e:AV) (j:Nat) (x:AV),els2[i]?=some e→e.cells[j]?=some x→∃u,news[i*d.size+j]?=some u∧Rep w' F' [] [] x u∧u.oneCell'=true:=
 fun i e j x hi hj=>let ⟨u,h1,h2,h3⟩:=h.rep i e j x hi hj;⟨u,h1,h2.ext he.ext,h3⟩
theorem appSrc_slice {P:Program} {F:Nat→Nat→Prop} {t ty e:TypeId} {d:TD} (ht:P.underlying t=some (.slice e)) (hty:TyOk P e d) (hsz:0<d.size) {els2:List AV} {v2:Value} (hx:Rep w F η hp (.sl els2) v2)
  (hl2:∀x:AV,x∈els2→x.cells.length=d.size):∃news,AppSrc P w F t t ty e d els2 v2 news:=by
 obtain⟨i,hi1,hi2,hi3,hi4⟩:=hty.info
 obtain⟨news,hn⟩:=hx.slCells hsz hl2
 have pos:0<els2.length→∃b2 o2 c2,v2=.slice (some ⟨b2,o2,none⟩) els2.length c2∧∀(j:Nat) (u:Value),news[j]?=some u→w.cell? ((⟨b2,o2,none⟩:Addr).add j)=some u:=fun h0=>by
  rcases hn.shape with⟨_,_,h1⟩|⟨b2,o2,c2,rfl,_,_,hc2⟩
  ·rw[h1] at h0;simp at h0
  ·exact⟨b2,o2,c2,rfl,fun j u hj=>by rw[Addr.add_lit];exact hc2 j u hj⟩
 refine⟨news,hn.len,hn.one,hn.rep,fun h0 b n c hnc=>?_,fun h0 h63 h48=>?_,fun h0 b sLen sCap olds hlo ho hg h63 hfit=>?_,fun h0 g sLen sCap cur hi hhi hg hroom hfit=>?_⟩
 ·refine run_append_none ht hty b n c hnc v2 ?_
  subst h0
  rcases hn.shape with⟨ad,rfl,_⟩|⟨b,o,c,rfl,_⟩
  ·cases ad with
   |none=>exact .inl rfl
   |some ad=>exact .inr ⟨_,_,rfl⟩
  ·exact .inr ⟨_,_,rfl⟩
 ·obtain⟨b2,o2,c2,rfl,hc⟩:=pos h0
  exact run_append_nil (P:=P) w t ty e i d.zero ht hi1 hi4 ⟨b2,o2,none⟩ els2.length c2 news (by rw[hi2];exact hn.len) hc h0 h63 (by rw[hi3];exact h48)
 ·obtain⟨b2,o2,c2,rfl,hc⟩:=pos h0
  exact run_append_grow (P:=P) w t ty e i d.zero ht hi1 hi4 b sLen sCap olds (by rw[hi2];exact hlo) ho ⟨b2,o2,none⟩ els2.length c2 news (by rw[hi2];exact hn.len) hc hg h63 (by rw[hi3];exact hfit)
 ·obtain⟨b2,o2,c2,rfl,hc⟩:=pos h0
  have:=run_append_room_cells (P:=P) w t ty e i ht hi1 g 0 sLen sCap ⟨b2,o2,none⟩ els2.length c2 news (by rw[hi2];exact hn.len) hc hn.one hroom (by rw[hi2,Nat.zero_add];exact(room_cells hg hhi hfit).1) (by rw[hi2,Nat.zero_add];exact(room_cells hg hhi hfit).2)
  rw[hi2,Nat.zero_add,setCells_row news _ cur w hg hfit] at this
  exact this
def strAV (b:ByteArray):List AV:=b.data.toList.map fun c=>.prim (.int .u8 c.toNat)
theorem strAV_len (b:ByteArray):(strAV b).length=b.size:=by simp[strAV]
theorem appSrc_str {P:Program} {F:Nat→Nat→Prop} {t u ty e:TypeId} {d:TD} (ht:P.underlying t=some (.slice e)) (hu:P.underlying u=some .string) (hty:TyOk P e d) (h1:d.size=1) (hz:d.zero=.int .u8 0) (b:ByteArray):
  AppSrc P w F t u ty e d (strAV b) (.string b) (Lib.strCells b):=by
 obtain⟨i,hi1,hi2,hi3,hi4⟩:=hty.info
 have hl:=strAV_len b
 have e1:(b.data.map fun b=>Value.int .u8 b.toNat)=(Lib.strCells b).toArray:=by
  apply Array.ext'
  simp[Lib.strCells]
 refine⟨by rw[Lib.strCells_length,hl,h1,Nat.mul_one],Lib.strCells_oneCell b,fun i el j x hi hj=>?_,fun h0 a n c hnc=>?_,fun h0 h63 h48=>?_,fun h0 a sLen sCap olds hlo ho hg h63 hfit=>?_,fun h0 g sLen sCap cur hi hhi hg hroom hfit=>?_⟩
 ·simp only[strAV,List.getElem?_map,Option.map_eq_some_iff] at hi
  obtain⟨c,hc,rfl⟩:=hi
  cases j with
  |succ j=>simp[AV.cells] at hj
  |zero=>
   simp only[AV.cells,List.getElem?_cons_zero,Option.some.injEq] at hj
   subst hj
   exact⟨_,by rw[h1,Nat.mul_one,Nat.add_zero,Lib.strCells,List.getElem?_map,hc];rfl,.prim _,rfl⟩
 ·have hb:b.size=0:=by rw[←hl,h0];rfl
  have hf:=Lib.run_firstCells_string (P:=P) w i.size b
  rw[hb] at hf
  have hc0:Lib.strCells b=[]:=List.eq_nil_of_length_eq_zero (by rw[Lib.strCells_length];exact hb)
  cases a<;>simp[Builtin.append_,run_underlying ht,run_underlying hu,sizeOf,typeInfo,hi1,Builtin.lenOf,hb,hnc,hf,hc0,storeCells]
 ·rw[hl] at *
  have:=run_append_nil_string (P:=P) w t u ty e i d.zero ht hu hi1 hi4 b h0 h63 (by rw[hi3];exact h48)
  rw[e1] at this
  exact this
 ·rw[hl] at *
  exact Lib.run_append_grow_string (P:=P) w t u ty e i d.zero ht hu hi1 hi4 a sLen sCap olds (by rw[hi2];exact hlo) ho b hg h63 (by rw[hi3];exact hfit)
 ·rw[hl] at *
  rw[h1,Nat.mul_one,Lib.strCells_length] at *
  have hl0:sLen+(Lib.strCells b).length≤cur.size:=by rw[Lib.strCells_length];exact hfit
  have hf:=Lib.run_firstCells_string (P:=P) w 1 b
  have hst:=run_storeCells_cells (P:=P) g sLen (Lib.strCells b) 0 w (room_cells hg hhi hl0).1 (room_cells hg hhi hl0).2 (Lib.strCells_oneCell b)
  rw[Nat.add_zero,setCells_row _ _ cur w hg hl0,Lib.strCells_length] at hst
  simp[Builtin.append_,run_underlying ht,run_underlying hu,sizeOf,typeInfo,hi1,show i.size=1 by rw[hi2],Builtin.lenOf,hroom,hf,Addr.add_lit,hst]
theorem append_own (hok:Γ.Ok) (h:Rel Γ s a w η) {t u ty e:TypeId} {d:TD} (hty:TyOk Γ.P e d) {r:Nat} {els els2:List AV} {v0 v2:Value}
  (hr:s.hp[r]?=some (.row e d.size els)) (hv:OwnOk η s.hp r els.length v0) {news:List Value} (hn:AppSrc Γ.P w (Fok Γ w η s.hp) t u ty e d els2 v2 news)
  (hl2:∀x:AV,x∈els2→x.cells.length=d.size)
  (hm:els.length+els2.length≤maxLen) (hby:(els.length+els2.length)*d.bytes≤140737488355328):
  ∃v' w' η',(Builtin.append_ #[t,u] ty #[v0,v2]).run Γ.P w=.ok v' w'∧Rel Γ { s with hp:=s.hp.set r (.row e d.size (els++els2)) } a w' η'∧v'.oneCell'=true∧η'[r]?=some v':=by
 have hv0:η[r]?=some v0:=by unfold OwnOk at hv;rw[hr] at hv;exact hv.2 rfl
 obtain⟨hsz,xs,hrow,hels⟩:=h.heap.obj r _ v0 hr hv0
 have hold:∀(i:Nat) (e:AV) (j:Nat) (x:AV),els[i]?=some e→e.cells[j]?=some x→∃u,xs[i*d.size+j]?=some u∧Rep w (Fok Γ w η s.hp) [] [] x u∧u.oneCell'=true:=
  fun i el j x hi hj=>(hels i el hi).2 j x hj
 by_cases hz:els2=[]
 ·subst hz
  have hsame:s.hp.set r (.row e d.size (els++[]))=s.hp:=by
   apply List.ext_getElem?
   intro k
   by_cases hk:r=k
   ·subst hk;rw[getElem?_set_same hr,List.append_nil,hr]
   ·rw[getElem?_set_ne hk]
  have hfin:∀b n c,v0=.slice b n c→n≤c→∃v' w' η',(Builtin.append_ #[t,u] ty #[v0,v2]).run Γ.P w=.ok v' w'∧Rel Γ { s with hp:=s.hp.set r (.row e d.size (els++[])) } a w' η'∧v'.oneCell'=true∧η'[r]?=some v':=by
   intro b n c e1 e2
   subst e1
   exact⟨_,w,η,hn.nothing rfl b n c e2,by rw[hsame];exact h,rfl,hv0⟩
  rcases hrow.2 with⟨h0,rfl|⟨ad,rfl⟩⟩|⟨g,cap,cur,rfl,h0,_,hnc,_⟩
  ·exact hfin none 0 0 rfl (Nat.le_refl _)
  ·exact hfin _ 0 0 rfl (Nat.le_refl _)
  ·exact hfin _ _ _ rfl hnc
 ·have hm2:0<els2.length:=List.length_pos_iff.2 hz
  have h63:els.length+els2.length≤9223372036854775807:=by simp only[maxLen] at hm;omega
  have hown:∀v' n u,OwnOk η s.hp r n u→OwnOk (η.set r v') (s.hp.set r (.row e d.size (els++els2))) r n u:=by
   intro v' n u ho
   unfold OwnOk at ho ⊢
   rw[hr] at ho
   rw[getElem?_set_same hr]
   refine⟨by rw[List.length_append];have:=ho.1;omega,fun hn'=>?_⟩
   rw[List.length_append] at hn'
   have:=ho.1
   omega
  have hlen2:∀(x:AV),x∈els++els2→x.cells.length=d.size:=by
   intro x hx'
   rcases List.mem_append.1 hx' with h1|h1
   ·obtain⟨k,hk⟩:=List.getElem?_of_mem h1
    exact(hels k x hk).1
   ·exact hl2 _ h1
  have grown:∀(old:Nat),(∀b es c,blk v0=some b→w.heap[b]?=some (.map es c)→False)→(∀b d,blk v0=some b→w.heap[b]?=some (.deferred d)→False)→(∀x,v0 ≠ .pointer x)→(∀x,v0 ≠ .map x)→
    Rel Γ { s with hp:=s.hp.set r (.row e d.size (els++els2)) } a
    (w.drew.alloc (.cells (xs.toArray++news.toArray++Builtin.zeroCells d.zero.cells (grownCap w (els.length+els2.length) old e-(els.length+els2.length))) e))
    (η.set r (.slice (some ⟨w.heap.size,0,none⟩) (els.length+els2.length) (grownCap w (els.length+els2.length) old e))):=by
   intro old hmap hdef hp1 hp2
   have hs:Same w (w.drew.alloc (.cells (xs.toArray++news.toArray++Builtin.zeroCells d.zero.cells (grownCap w (els.length+els2.length) old e-(els.length+els2.length))) e)):=
    (Same.drew w).trans (Same.alloc _ _)
   have hblk:∀b,blk (.slice (some ⟨w.heap.size,0,none⟩) (els.length+els2.length) (grownCap w (els.length+els2.length) old e))=some b→w.heap.size≤b:=by
    intro b hb
    rw[blk_slice (by have:=grownCap_ge w (els.length+els2.length) old e;omega)] at hb
    obtain rfl:=Option.some.inj hb
    exact Nat.le_refl _
   refine h.change hok (o':=.row e d.size (els++els2)) hr True.intro hv0 (hs.keeps _) (fun b hb=>.inr (hblk b hb)) (fun k hk=>?_) (fun b k u hb _ hc=>?_) (fun b es c hb _ hh=>hmap b es c hb hh) (hown _)
    (fun x hx'=>(hp1 x hx').elim) (fun x hx'=>(hp2 x hx').elim) hdef (fun he=>⟨hsz,xs++news,?_,fun i el hi=>⟨hlen2 _ (List.mem_of_getElem? hi),?_⟩⟩)
   ·show k<(els++els2).length*d.size
    have hk':k<els.length*d.size:=hk
    rw[List.length_append,Nat.add_mul];omega
   ·rw[World.cell?_of_block (hs.block b (h.heap.block hr True.intro hv0 hb))];exact hc
   ·rw[List.length_append]
    exact(rowOk_new xs news hrow.1 hn.len hty.zsize old hm2 hm).more (Nat.zero_le _)
   ·exact fun j x hj=>cells_append hrow.1 (fun i e j x hi hj=>let ⟨u,h1,h2,h3⟩:=hold i e j x hi hj;⟨u,h1,h2.ext he.ext0.ext,h3⟩) (hn.ext he.ext0) i el j x hi hj
  have hsetη:∀v',(η.set r v')[r]?=some v':=fun v'=>getElem?_set_same hv0
  rcases hrow.2 with⟨h0,rfl|⟨ad,rfl⟩⟩|⟨g,cap,cur,rfl,h0,⟨hi,hhi,hg⟩,hnc,hcm,hcs,htake⟩
  ·have hel:els=[]:=List.eq_nil_of_length_eq_zero h0
   have hxs:xs=[]:=List.eq_nil_of_length_eq_zero (by rw[hrow.1,h0];simp)
   have gr:=grown 0 (fun b es c hb=>by simp[blk] at hb) (fun b d hb=>by simp[blk] at hb) (fun x hx'=>by cases hx') (fun x hx'=>by cases hx')
   subst hel;subst hxs
   have:=hn.nil hm2 (by simp only[List.length_nil,Nat.zero_add] at h63;omega) (by simp only[List.length_nil,Nat.zero_add] at hby;omega)
   refine⟨_,_,_,this,?_,rfl,hsetη _⟩
   simpa only[List.length_nil,Nat.zero_add,List.nil_append,Array.empty_append] using gr
  ·have hel:els=[]:=List.eq_nil_of_length_eq_zero h0
   have hxs:xs=[]:=List.eq_nil_of_length_eq_zero (by rw[hrow.1,h0];simp)
   have gr:=grown 0 (fun b es c hb=>by simp[blk] at hb) (fun b d hb=>by simp[blk] at hb) (fun x hx'=>by cases hx') (fun x hx'=>by cases hx')
   subst hel;subst hxs
   have:=hn.grow hm2 ad 0 0 [] (by simp) (fun j u hj=>by simp at hj) (by omega)
    (by simp only[List.length_nil,Nat.zero_add] at h63 ⊢;omega) (growslice_fits (by omega) (by simpa only[List.length_nil] using hby))
   refine⟨_,_,_,this,?_,rfl,hsetη _⟩
   simpa only[List.length_nil,Nat.zero_add,List.nil_append] using gr
  ·by_cases hroom:els.length+els2.length≤cap
   ·have hfit:els.length*d.size+news.length≤cur.size:=by rw[hn.len,hcs,←Nat.add_mul];exact Nat.mul_le_mul_right _ hroom
    have hrun:=hn.room hm2 g els.length cap cur hi hhi hg hroom hfit
    refine⟨_,_,_,hrun,?_,rfl,hsetη _⟩
    have hbk:blk (.slice (some ⟨g,0,none⟩) els.length cap)=some g:=blk_slice h0
    have hbk':blk (.slice (some ⟨g,0,none⟩) (els.length+els2.length) cap)=some g:=blk_slice h0
    have hrow':=setRow_heap w g cur (cur.toList.take (els.length*d.size)++news++cur.toList.drop (els.length*d.size+news.length)).toArray e (0,hi) hg
    refine h.change hok (o':=.row e d.size (els++els2)) hr True.intro hv0 ⟨rfl,rfl,rfl,by simp,fun k hk hb=>setRow_other w g k _ (fun e=>hb (by rw[hbk,e]))⟩ (fun b hb=>.inl (by rw[hbk];rw[hbk'] at hb;exact hb)) (fun k hk=>?_) (fun b k u hb hk hc=>?_)
     (fun b es c hb _ hh=>?_) (hown _) (fun x hx'=>by cases hx') (fun x hx'=>by cases hx') (fun b d hb hh=>?_) (fun he=>⟨hsz,xs++news,?_,fun i el hi=>⟨hlen2 _ (List.mem_of_getElem? hi),?_⟩⟩)
    ·show k<(els++els2).length*d.size
     have hk':k<els.length*d.size:=hk
     rw[List.length_append,Nat.add_mul];omega
    ·rw[hbk] at hb
     obtain rfl:=Option.some.inj hb
     have hk':k<els.length*d.size:=hk
     rw[cell_of_row w g k cur e _ hg] at hc
     rw[cell_of_row _ g k _ e _ hrow']
     have hlt:k<cur.size:=(Array.getElem?_eq_some_iff.1 hc).1
     rw[←Array.getElem?_toList] at hc
     simp only[List.getElem?_toArray]
     rw[List.append_assoc,List.getElem?_append_left (by simp;omega),List.getElem?_take,if_pos hk']
     exact hc
    ·rw[hbk] at hb
     obtain rfl:=Option.some.inj hb
     rw[hg] at hh;cases hh
    ·rw[hbk] at hb
     obtain rfl:=Option.some.inj hb
     rw[hg] at hh;cases hh
    ·have hlx:(xs++news).length=(els.length+els2.length)*d.size:=by rw[List.length_append,hrow.1,hn.len,Nat.add_mul]
     rw[List.length_append]
     refine⟨hlx,.inr ⟨g,cap,_,rfl,h0,⟨hi,Nat.le_trans hhi (Nat.mul_le_mul_right _ (by omega)),hrow'⟩,hroom,hcm,?_,?_⟩⟩
     ·simp only[List.size_toArray,List.length_append,List.length_take,List.length_drop,Array.length_toList]
      have:els.length*d.size≤cur.size:=by omega
      omega
     ·rw[htake,←hlx]
      exact List.take_left
    ·exact fun j x hj=>cells_append hrow.1 (fun i e j x hi hj=>let ⟨u,h1,h2,h3⟩:=hold i e j x hi hj;⟨u,h1,h2.ext he.ext0.ext,h3⟩) (hn.ext he.ext0) i el j x hi hj
   ·have hcell:∀(j:Nat) (u:Value),xs[j]?=some u→w.cell? ((⟨g,0,none⟩:Addr).add j)=some u:=by
     intro j u hj
     rw[Addr.add_lit,Nat.zero_add,cell_of_row w g j cur e _ hg]
     rw[←htake,List.getElem?_take] at hj
     by_cases hlt:j<els.length*d.size
     ·rw[if_pos hlt] at hj;simpa using hj
     ·rw[if_neg hlt] at hj;cases hj
    have hbk:blk (.slice (some ⟨g,0,none⟩) els.length cap)=some g:=blk_slice h0
    have:=hn.grow hm2 ⟨g,0,none⟩ els.length cap xs hrow.1 hcell (by omega) (by omega) (growslice_fits (by omega) hby)
    exact⟨_,_,_,this,grown cap (fun b es c hb hh=>by rw[hbk] at hb;obtain rfl:=Option.some.inj hb;rw[hg] at hh;cases hh)
     (fun b d hb hh=>by rw[hbk] at hb;obtain rfl:=Option.some.inj hb;rw[hg] at hh;cases hh) (fun x hx'=>by cases hx') (fun x hx'=>by cases hx'),rfl,hsetη _⟩
end Go.Proofs.YtjhanogfpkbamaaGreatDoor

namespace Go.Proofs.YtjhanogfpkbamaaGreatDoor
open Go
set_option linter.unusedSimpArgs false
set_option linter.unusedVariables false
variable {G:Type} {Γ:Env G} {s:AS G} {a:Act} {w w':World} {η:List Value} {hp:List AObj} {F:Nat→Nat→Prop} {P:Program}
def AS.ev (s:AS G):Operand→AV
 | .tmp t=>s.tmps t
 | .const v=>.prim v
 | .global g=>.prim (.pointer (some ⟨g,0,none⟩))
 | .func f=>.clo f []
theorem Rel.ev (h:Rel Γ s a w η) (x:Operand):Rep w (Fok Γ w η s.hp) η s.hp (s.ev x) (a.eval x):=by
 cases x with
 |tmp t=>exact h.tmps t
 |const v=>exact .prim v
 |global g=>exact .prim _
 |func f=>exact .clo f [] #[] rfl (fun j x v h=>by simp at h)
def AV.dataC (hp:List AObj):AV→AV
 | .own r n=>(match (AV.own r n).asSl hp with|some els=>.sl els|none=>.top)
 | .clip els=>.sl els
 | .sl els=>.sl els
 | .prim v=>(match v with | .slice none 0 0=>.sl []|v=>.prim v)
 | .fn v=>.fn v
 | .mapv es=>.mapv es
 | .eptr e o=>.eptr e o
 | .clo f caps=>(match caps with | []=>.clo f []|_=>.top)
 |_=>.top
def AV.dataV (hp:List AObj):AV→AV
 | .agg cs=>.agg (cs.map (AV.dataC hp))
 |x=>x.dataC hp
def AV.toData (hp:List AObj):AV→AV
 | .tup vs=>.tup (vs.map (AV.dataV hp))
 | .clo f caps=>.clo f (caps.map (AV.dataV hp))
 |x=>x.dataV hp
theorem dataC_rep (h:HeapOk w (Fok Γ w η hp) η hp) (hm:Mine Γ η hp) {x:AV} {v:Value} (hx:Rep w (Fok Γ w η hp) η hp x v):Rep w (Fok Γ w η hp) [] [] (x.dataC hp) v:=by
 cases x with
 |own r n=>
  simp only[AV.dataC]
  split
  ·rename_i els he
   have:=asSl_rep h hm hx he
   cases this with
   |sl0=>exact .sl0 _
   |sl size els b o c f hc hm hl hcell hr=>exact .sl size els b o c f hc hm hl hcell hr
  ·exact .top _
 |clip els=>cases hx.of_clip with
  |sl0=>exact .sl0 _
  |sl size els b o c f hc hm hl hcell hr=>exact .sl size els b o c f hc hm hl hcell hr
 |sl els=>cases hx with
  |sl0=>exact .sl0 _
  |sl size els b o c f hc hm hl hcell hr=>exact .sl size els b o c f hc hm hl hcell hr
 |prim u=>
  simp only[AV.dataC]
  split
  ·cases hx;exact .sl0 _
  ·cases hx;exact .prim _
 |fn u=>cases hx;exact .fn _ (by assumption)
 |mapv es=>cases hx with|mapv b es c h1 h2 _ hl=>exact .mapv b es c h1 h2 _ hl
 |eptr e off=>cases hx with|eptr _ _ b o f hcell hr=>exact .eptr e off b o f hcell hr
 |clo f caps=>
  simp only[AV.dataC]
  split
  ·cases hx with|clo _ _ vs hl hr=>exact .clo f [] vs hl fun j y u hy _=>by cases hy
  ·exact .top _
 |_=>exact .top _
theorem dataV_rep (h:HeapOk w (Fok Γ w η hp) η hp) (hm:Mine Γ η hp) {x:AV} {v:Value} (hx:Rep w (Fok Γ w η hp) η hp x v):Rep w (Fok Γ w η hp) [] [] (x.dataV hp) v:=by
 cases x with
 |agg cs=>
  cases hx with
  |agg _ vs hl h1 hr=>
   refine .agg _ vs (by simpa using hl) h1 fun j y u hy hu=>?_
   rw[List.getElem?_map] at hy
   cases hj:cs[j]? with
   |none=>rw[hj] at hy;cases hy
   |some z=>rw[hj] at hy;obtain rfl:=Option.some.inj hy;exact dataC_rep h hm (hr j z u hj hu)
 |_=>exact dataC_rep h hm hx
theorem toData_rep (h:HeapOk w (Fok Γ w η hp) η hp) (hm:Mine Γ η hp) {x:AV} {v:Value} (hx:Rep w (Fok Γ w η hp) η hp x v):Rep w (Fok Γ w η hp) [] [] (x.toData hp) v:=by
 cases x with
 |tup cs=>
  cases hx with
  |tup _ vs hl hr=>
   refine .tup _ vs (by simpa using hl) fun j y u hy hu=>?_
   rw[List.getElem?_map] at hy
   cases hj:cs[j]? with
   |none=>rw[hj] at hy;cases hy
   |some z=>rw[hj] at hy;obtain rfl:=Option.some.inj hy;exact dataV_rep h hm (hr j z u hj hu)
 |clo f cs=>
  cases hx with
  |clo _ _ vs hl hr=>
   refine .clo f _ vs (by simpa using hl) fun j y u hy hu=>?_
   rw[List.getElem?_map] at hy
   cases hj:cs[j]? with
   |none=>rw[hj] at hy;cases hy
   |some z=>rw[hj] at hy;obtain rfl:=Option.some.inj hy;exact dataV_rep h hm (hr j z u hj hu)
 |_=>exact dataV_rep h hm hx
def fieldsOf (tab:Nat→Option TD) (T:Nat):List (Nat×Nat×Bool):=
 match tab T with
 |some d=>(match d.kind with | .strct fs=>fs|_=>[])
 |none=>[]
def AV.isAgg:AV→Bool
 | .agg _=>true
 |_=>false
def ldCells (agg:Bool) (size:Nat) (cs:List AV) (o:Nat):Option AV:=
 if agg then(if o+size≤cs.length then some (.agg ((cs.drop o).take size)) else none) else cs[o]?
def ldElem (agg:Bool) (size:Nat) (e:AV) (o:Nat):Option AV:=
 if o=0∧e.cells.length=size∧e.isAgg=agg then some e else ldCells agg size e.cells o
def bopInt (op:BinOp) (k:IntKind) (a b:Int):Option (Prop×AV):=
 match op with
 | .add=>some (True,.prim (.int k (k.wrap (a+b))))
 | .sub=>some (True,.prim (.int k (k.wrap (a-b))))
 | .mul=>some (True,.prim (.int k (k.wrap (a*b))))
 | .eql=>some (True,.prim (.bool (a==b)))
 | .neq=>some (True,.prim (.bool (a != b)))
 | .lss=>some (True,.prim (.bool (decide (a<b))))
 | .leq=>some (True,.prim (.bool (decide (a≤b))))
 | .gtr=>some (True,.prim (.bool (decide (a>b))))
 | .geq=>some (True,.prim (.bool (decide (a≥b))))
 |_=>none
def bopVal (tab:Nat→Option TD) (T:Nat) (op:BinOp) (x y:AV):Option (Prop×AV):=
 match x,y with
 | .prim (.int k a),.prim (.int k' b)=>if k=k' then bopInt op k a b else none
 | .prim (.bool a),.prim (.bool b)=>
  (match tab T with
   |some d=>(match d.kind,op with
    | .bool,.eql=>some (True,.prim (.bool (a==b)))
    | .bool,.neq=>some (True,.prim (.bool (!(a==b))))
    |_,_=>none)
   |none=>none)
 | .agg [.prim (.int .i64 a1),.prim (.int .i64 a2)],.agg [.prim (.int .i64 b1),.prim (.int .i64 b2)]=>
  (match tab T with
   |some d=>if d.flat then(match op with
    | .eql=>some (True,.prim (.bool (a1==b1&&a2==b2)))
    | .neq=>some (True,.prim (.bool (!(a1==b1&&a2==b2))))
    |_=>none) else none
   |none=>none)
 |_,_=>none
def allP':List Prop→Prop
 | []=>True
 |p::l=>p∧allP' l
def bitsI (op:BinOp) (k:IntKind) (a b:Int):Option Int:=
 match op with
 | .and=>some (k.wrap (BitVec.ofInt k.bits a &&& BitVec.ofInt k.bits b).toNat)
 | .or=>some (k.wrap (BitVec.ofInt k.bits a ||| BitVec.ofInt k.bits b).toNat)
 | .xor=>some (k.wrap (BitVec.ofInt k.bits a ^^^ BitVec.ofInt k.bits b).toNat)
 | .andNot=>some (k.wrap (BitVec.ofInt k.bits a &&& ~~~ (BitVec.ofInt k.bits b)).toNat)
 |_=>none
def strEq (a b:ByteArray):Bool:=a.toList==b.toList
def strLt (a b:ByteArray):Bool:=Op.bytesLess a.toList b.toList
def ptrNil:AV→Option Bool
 | .ptr _ _=>some false
 | .eptr _ _=>some false
 | .prim (.pointer p)=>some p.isNone
 |_=>none
def bopX (tab:Nat→Option TD) (T:Nat) (op:BinOp) (x y:AV):Option (List Prop×AV):=
 match y with
 | .prim (.int k' b)=>(match x with
  | .prim (.int k a)=>if k=k' then(match op with
    | .quo=>some ([¬b=0],.prim (.int k (k.wrap (a.tdiv b))))
    | .rem=>some ([¬b=0],.prim (.int k (a.tmod b)))
    |op=>(bitsI op k a b).map fun n=>([],.prim (.int k n))) else none
  |_=>none)
 | .prim (.string b)=>(match x with
  | .prim (.string a)=>(match op with
    | .add=>some ([a.size+b.size≤9223372036854775807],.prim (.string (a++b)))
    | .eql=>some ([],.prim (.bool (strEq a b)))
    | .neq=>some ([],.prim (.bool (!(strEq a b))))
    | .lss=>some ([],.prim (.bool (strLt a b)))
    | .leq=>some ([],.prim (.bool (strLt a b||strEq a b)))
    | .gtr=>some ([],.prim (.bool (!(strLt a b||strEq a b))))
    | .geq=>some ([],.prim (.bool (!(strLt a b))))
    |_=>none)
  |_=>none)
 | .prim (.pointer none)=>(match ptrNil x with
  |some b=>(match tab T with
   |some d=>(match d.kind with
    | .ptr _=>(match op with
     | .eql=>some ([],.prim (.bool b))
     | .neq=>some ([],.prim (.bool (!b)))
     |_=>none)
    |_=>none)
   |none=>none)
  |none=>none)
 |_=>none
theorem bopX_apart {tab:Nat→Option TD} {T:Nat} {op:BinOp} {x y:AV} {p:List Prop×AV} (h:bopX tab T op x y=some p):bopVal tab T op x y=none:=by
 unfold bopX at h
 split at h
 ·split at h
  ·split at h
   ·rename_i hk
    subst hk
    cases op<;>simp[bitsI] at h<;>simp[bopVal,bopInt]
   ·cases h
  ·cases h
 ·split at h
  ·simp[bopVal]
  ·cases h
 ·unfold bopVal
  split<;>first|rfl|(rename_i e;cases e)
 ·cases h
def nilC:Operand→Bool
 | .const .nilIface=>true
 |_=>false
theorem nilC_eq {y:Operand} (h:nilC y=true):y=.const .nilIface:=by
 unfold nilC at h
 split at h
 ·rfl
 ·cases h
def ifcV (tab:Nat→Option TD) (T:Nat) (op:BinOp) (x:AV) (y:Operand):Option AV:=
 match nilC y with
 |true=>(match tab T,x with
  |some d,.prim .nilIface=>(match d.kind with
   | .ifc=>(match op with
    | .eql=>some (.prim (.bool true))
    | .neq=>some (.prim (.bool false))
    |_=>none)
   |_=>none)
  |_,_=>none)
 |false=>none
def bopAll (tab:Nat→Option TD) (T:Nat) (op:BinOp) (x y:AV):Option (Prop×AV):=
 match bopVal tab T op x y with
 |some r=>some r
 |none=>(bopX tab T op x y).map fun p=>(allP' p.1,p.2)
def cvtVal (tab:Nat→Option TD) (S D:Nat) (x:AV):Option AV:=
 match tab S,tab D,x with
 |some _,some d,.prim (.int _ n)=>(match d.kind with
  | .int k=>some (.prim (.int k (k.wrap n)))
  |_=>none)
 |some _,some d,.prim (.string s)=>(match d.kind with
  | .str=>some (.prim (.string s))
  |_=>none)
 |_,_,_=>none
def strAt (b:ByteArray) (n:Int):Int:=(((b.data[n.toNat]?).map UInt8.toNat).getD 0:Nat)
def mapGet {κ:Type} [DecidableEq κ]:List (κ×Value)→κ→Option Value
 | [],_=>none
 |(k,v)::r,a=>if a=k then some v else mapGet r a
def AV.asMap (hp:List AObj):AV→Option ME
 | .mapv es=>some es
 | .mp r=>(match hp[r]? with|some (.mapo es)=>some es|_=>none)
 |_=>none
def lookVal {κ:Type} [DecidableEq κ] (es:List (κ×Value)) (z:Value) (a:κ) (ok:Bool):AV:=
 if ok=true then .tup [.prim ((mapGet es a).getD z),.prim (.bool (mapGet es a).isSome)] else .prim ((mapGet es a).getD z)
def lenVal (hp:List AObj) (x:AV):Option AV:=
 match x with
 | .prim (.string s)=>some (.prim (.int .i64 s.size))
 |x=>(x.asSl hp).map fun els=>.prim (.int .i64 els.length)
def AV.stor:AV→Bool
 | .prim v=>v.oneCell'
 | .top | .tup _ | .mptr _ _ _ _=>false
 |_=>true
def arrFs (n:Nat):List (Nat×Nat×Bool):=(List.range n).map fun i=>(i,1,false)
def fillCells (fs:List (Nat×Nat×Bool)) (cs:List AV):List (Nat×AV)→Option (List AV)
 | []=>some cs
 |(i,x)::rest=>
  match fs[i]? with
  |some p=>if x.cells.length=p.2.1∧p.1+p.2.1≤cs.length∧x.stor=true then fillCells fs (setCells cs p.1 x.cells) rest else none
  |none=>none
def idxOk:Nat→List (Nat×Operand)→Bool
 |_,[]=>true
 |k,(i,_)::r=>i==k&&idxOk (k+1) r
def lensOk (size:Nat):List AV→Prop
 | []=>True
 |x::xs=>(x.cells.length=size∧x.stor=true)∧lensOk size xs
def boundOf (ρ:Operand→AV) (d:Int):Option Operand→Option Int
 |none=>some d
 |some x=>(match ρ x with | .prim (.int _ n)=>some n|_=>none)
def mrowOf (hp:List AObj):AV→Option (Nat×Nat×Nat×Nat)
 | .own r m=>(match hp[r]? with
  |some (.mrow e size _)=>some (r,m,e,size)
  |_=>none)
 |_=>none
def pval (tab:Nat→Option TD) (hp:List AObj) (ρ:Operand→AV):Op→Option (Prop×AV)
 | .move x=>some (True,ρ x)
 | .assign x=>some (True,ρ x)
 | .nilCheck x=>(match ρ x with
  | .ptr r o=>some (True,.ptr r o)
  | .eptr e o=>some (True,.eptr e o)
  |_=>none)
 | .pick c x y=>(match ρ c with
  | .prim (.bool t)=>some (True,if t=true then ρ x else ρ y)
  |_=>none)
 | .fieldAddr T x f=>(match (fieldsOf tab T)[f]? with
  |some p=>if p.2.1=0 then none else(match ρ x with
   | .ptr r o=>some (True,.ptr r (o+p.1))
   | .eptr e o=>some (True,.eptr e (o+p.1))
   |_=>none)
  |none=>none)
 | .load T x=>(match tab T with
  |some d=>(match ρ x with
   | .ptr r o=>(match hp[r]? with
    |some (.box cs)=>(ldCells d.kind.agg d.size cs o).map fun v=>(True,v)
    |_=>none)
   | .eptr e o=>(ldElem d.kind.agg d.size e o).map fun v=>(True,v)
   |_=>none)
  |none=>none)
 | .indexAddr T x i=>(match tab T with
  |some d=>(match d.kind with
   | .slc e=>(match tab e,(ρ x).asSl hp,ρ i with
    |some d',some els,.prim (.int _ n)=>some (0≤n∧n<els.length∧(els.getD n.toNat .top).cells.length=d'.size,.eptr (els.getD n.toNat .top) 0)
    |some d',none,.prim (.int _ n)=>(match mrowOf hp (ρ x) with
     |some (r,m,e',size)=>if e'=e∧size=d'.size then some (0≤n∧n<m,.mptr r m n.toNat size) else none
     |none=>none)
    |_,_,_=>none)
   | .arr m=>(match ρ x,ρ i with
    | .ptr r 0,.prim (.int _ n)=>some (0≤n∧n<m,.ptr r n.toNat)
    |_,_=>none)
   |_=>none)
  |none=>none)
 | .binOp op T x y _=>(match ifcV tab T op (ρ x) y with
  |some v=>some (True,v)
  |none=>bopAll tab T op (ρ x) (ρ y))
 | .convert S D x=>(cvtVal tab S D (ρ x)).map fun v=>(True,v)
 | .unOp op _ x=>(match op,ρ x with
  | .not,.prim (.bool b)=>some (True,.prim (.bool (!b)))
  | .neg,.prim (.int k n)=>some (True,.prim (.int k (k.wrap (0-n))))
  |_,_=>none)
 | .build T parts=>(match tab T with
  |some d=>(match d.kind with
   | .strct fs=>(fillCells fs (d.zero.cells.toList.map .prim) (parts.toList.map fun p=>(p.1,ρ p.2))).map fun cs=>(True,.agg cs)
   | .arr n=>(fillCells (arrFs n) (d.zero.cells.toList.map .prim) (parts.toList.map fun p=>(p.1,ρ p.2))).map fun cs=>(True,.agg cs)
   |_=>none)
  |none=>none)
 | .buildSlice T n parts=>(match tab T with
  |some d=>(match d.kind with
   | .slc e=>(match tab e with
    |some d'=>if n=parts.toList.length∧idxOk 0 parts.toList=true∧n≤16777216∧n*d'.size≤16777216 then some (lensOk d'.size (parts.toList.map fun p=>(ρ p.2).toData hp),.clip (parts.toList.map fun p=>(ρ p.2).toData hp)) else none
    |none=>none)
   |_=>none)
  |none=>none)
 | .slice T x lo hi mx=>(match tab T with
  |some d=>(match d.kind,ρ x with
   | .str,.prim (.string b)=>(match mx,boundOf ρ 0 lo,boundOf ρ b.size hi with
    |none,some l,some h=>some (0≤l∧l≤h∧h≤b.size,.prim (.string (b.extract l.toNat h.toNat)))
    |_,_,_=>none)
   | .slc e,v=>(match v.asSl hp,tab e with
    |some els,some d'=>(match boundOf ρ 0 lo,boundOf ρ els.length hi,mx.map fun m=>boundOf ρ 0 (some m) with
     |some l,some h,none=>some (0≤l∧l≤h∧h≤els.length∧(∀y:AV,y∈els→y.cells.length=d'.size),.sl ((els.take h.toNat).drop l.toNat))
     |some l,some h,some (some m)=>if hi.isSome=true then some (0≤l∧l≤h∧h=m∧h≤els.length∧(∀y:AV,y∈els→y.cells.length=d'.size),.clip ((els.take h.toNat).drop l.toNat)) else none
     |_,_,_=>none)
    |_,_=>none)
   |_,_=>none)
  |none=>none)
 | .field T x f=>(match (fieldsOf tab T)[f]?,ρ x with
  |some p,.agg cs=>if p.2.2=true∨p.2.1=1 then(ldCells p.2.2 p.2.1 cs p.1).map fun v=>(True,v) else none
  |_,_=>none)
 | .lookup T m k ok=>(match tab T,(ρ m).asMap hp,ρ k with
  |some d,some (.i es),.prim (.int .i64 a)=>(match d.kind with
   | .mapk kt et=>(match tab kt,tab et with
    |some dk,some de=>(match dk.kind with
     | .int _=>some (True,lookVal es de.zero a ok)
     |_=>none)
    |_,_=>none)
   |_=>none)
  |some d,some (.s es),.prim (.string a)=>(match d.kind with
   | .mapk kt et=>(match tab kt,tab et with
    |some dk,some de=>(match dk.kind with
     | .str=>some (True,lookVal es de.zero a ok)
     |_=>none)
    |_,_=>none)
   |_=>none)
  |_,_,_=>none)
 | .index T x i=>(match tab T,ρ x,ρ i with
  |some d,.prim (.string b),.prim (.int _ n)=>(match d.kind with
   | .str=>some (0≤n∧n<b.size,.prim (.int .u8 (strAt b n)))
   |_=>none)
  |_,_,_=>none)
 | .extract x i=>(match ρ x with
  | .tup vs=>(vs[i]?).map fun v=>(True,v)
  |_=>none)
 | .makeFunc (.func f) first caps=>if first.size=0 then some (True,.clo f (caps.toList.map ρ)) else if caps.size=0 then some (True,.mclo f (first.toList.map ρ)) else none
 | .call c=>(match c.callee,c.args.toList with
  | .builtin .len,[x]=>(match (c.argTypes[0]?).bind tab with
   |some d=>(match d.kind,ρ x with
    | .slc _,.prim (.string _)=>none
    | .slc _,v=>(lenVal hp v).map fun v=>(True,v)
    | .str,.prim (.string b)=>some (True,.prim (.int .i64 b.size))
    |_,_=>none)
   |none=>none)
  | .builtin .min,[x,y]=>(match ρ x,ρ y with
   | .prim (.int k m),.prim (.int _ n)=>some (True,.prim (.int k (if n<m then n else m)))
   |_,_=>none)
  | .builtin .max,[x,y]=>(match ρ x,ρ y with
   | .prim (.int k m),.prim (.int _ n)=>some (True,.prim (.int k (if n>m then n else m)))
   |_,_=>none)
  |_,_=>none)
 |_=>none
def VRun (Γ:Env G) (o:Oper) (s:AS G) (r:AV):Prop:=
 ∀a w η,Rel Γ s a w η→∃v w',(execOp a.eval o).run Γ.P w=.ok (.value v) w'∧Same w w'∧Rep w' (Fok Γ w' η s.hp) η s.hp r v
theorem vrun_pure {o:Oper} {r:AV} (h:∀a w η,Rel Γ s a w η→∃v,(execOp a.eval o).run Γ.P w=.ok (.value v) w∧Rep w (Fok Γ w η s.hp) η s.hp r v):VRun Γ o s r:=
 fun a w η hr=>let ⟨v,h1,h2⟩:=h a w η hr;⟨v,w,h1,Same.refl w,h2⟩
theorem Rep.prim_inv {u v:Value} (h:Rep w F η hp (.prim u) v):v=u:=by cases h;rfl
theorem ldCells_rep {agg:Bool} {size:Nat} {cs:List AV} {o:Nat} {r:AV} (hsz:agg=false→size=1) {vs:List Value} (hl:vs.length=cs.length) (hr:∀(j:Nat) (x:AV) (u:Value),cs[j]?=some x→vs[j]?=some u→Rep w F η hp x u∧u.oneCell'=true)
  (h:ldCells agg size cs o=some r):o+size≤vs.length∧Rep w F η hp r (if agg then .agg ((vs.drop o).take size).toArray else((vs.drop o).take size).headD undef):=by
 unfold ldCells at h
 cases agg with
 |true=>
  simp only[if_true] at h ⊢
  split at h
  ·rename_i hle
   obtain rfl:=Option.some.inj h
   refine⟨by omega,.agg _ _ (by simp;omega) (fun v hv=>?_) fun j x v hx hv=>?_⟩
   ·have hv':v∈(vs.drop o).take size:=by simpa using hv
    obtain⟨k,hk⟩:=List.getElem?_of_mem hv'
    rw[List.getElem?_take] at hk
    split at hk
    ·rw[List.getElem?_drop] at hk
     have hlt:o+k<vs.length:=(List.getElem?_eq_some_iff.1 hk).1
     exact(hr (o+k) (cs[o+k]'(by omega)) v (by simp) hk).2
    ·cases hk
   ·have hv':((vs.drop o).take size)[j]?=some v:=by simpa using hv
    rw[List.getElem?_take] at hx hv'
    split at hx
    ·rename_i hj
     rw[if_pos hj,List.getElem?_drop] at hv'
     rw[List.getElem?_drop] at hx
     exact(hr (o+j) x v hx hv').1
    ·cases hx
  ·cases h
 |false=>
  simp only[Bool.false_eq_true,if_false] at h ⊢
  have hlt:o<cs.length:=(List.getElem?_eq_some_iff.1 h).1
  have h1:=hsz rfl
  subst h1
  refine⟨by omega,?_⟩
  have hv:vs[o]?=some (vs[o]'(by omega)):=by simp
  have:((vs.drop o).take 1).headD undef=vs[o]'(by omega):=by
   rw[List.headD_eq_head?_getD,List.head?_eq_getElem?,List.getElem?_take,if_pos (by omega),List.getElem?_drop]
   simp only[Nat.add_zero]
   rw[hv];rfl
  rw[this]
  exact(hr o r _ h hv).1
theorem run_load_cells {T:TypeId} {d:TD} (ht:TyOk P T d) {b o:Nat} {vs:List Value} (hc:∀(j:Nat) (u:Value),vs[j]?=some u→w.cell? ⟨b,j,none⟩=some u) (hle:o+d.size≤vs.length):
  (loadVar T ⟨b,o,none⟩).run P w=.ok (if d.kind.agg then .agg ((vs.drop o).take d.size).toArray else((vs.drop o).take d.size).headD undef) w:=by
 refine ht.run_load (vs:=(vs.drop o).take d.size) (by simp;omega) fun j u hj=>?_
 rw[List.getElem?_take] at hj
 split at hj
 ·rw[List.getElem?_drop] at hj;exact hc _ _ hj
 ·cases hj
theorem box_cells {b:Nat} {vs:Array Value} {T:TypeId} (hg:w.heap[b]?=some (.cells vs T (0,0))) (j:Nat) (u:Value) (hj:vs.toList[j]?=some u):w.cell? ⟨b,j,none⟩=some u:=by
 rw[cell_of_row w b j vs T (0,0) hg];simpa using hj
theorem TabOk.sz {tab:Nat→Option TD} (htab:TabOk P tab) {T:Nat} {d:TD} (h:tab T=some d):d.kind.agg=false→d.size=1:=fun h1=>((htab T d h).zagg' h1).1
theorem vrun_load {tab:Nat→Option TD} (htab:TabOk Γ.P tab) {o:Oper} {T:Nat} {x:Operand} (ho:o.op=.load T x) {d:TD} (hd:tab T=some d) {r:AV}
  (h:(∃n off cs,s.ev x=.ptr n off∧s.hp[n]?=some (.box cs)∧ldCells d.kind.agg d.size cs off=some r)∨(∃e off,s.ev x=.eptr e off∧ldElem d.kind.agg d.size e off=some r)):VRun Γ o s r:=by
 refine vrun_pure fun a w η hr=>?_
 have hx:=hr.ev x
 have hty:=htab T d hd
 rcases h with⟨n,off,cs,he,hn,hld⟩|⟨e,off,he,hld⟩
 ·rw[he] at hx
  cases hev:a.eval x<;>rw[hev] at hx<;>cases hx
  rename_i b hη
  obtain⟨b',vs,T',hb,hg,hsz,hc⟩:=hr.heap.obj n _ _ hn hη
  simp only[Value.pointer.injEq,Option.some.injEq,Addr.mk.injEq,and_true] at hb
  subst hb
  obtain⟨h1,h2⟩:=ldCells_rep (w:=w) (F:=Fok Γ w η s.hp) (η:=η) (hp:=s.hp) (htab.sz hd) (vs:=vs.toList) (by simpa using hsz) (fun j x u hx hu=>hc j x u hx (by simpa using hu)) hld
  refine⟨_,?_,h2⟩
  simp only[execOp,ho,hev,Instr.loadAt,Instr.sureAddr,Sem.run_bind,Sem.run_pure,Result.andThen_ok]
  rw[run_load_cells hty (box_cells hg) h1]
  rfl
 ·rw[he] at hx
  cases hev:a.eval x<;>rw[hev] at hx<;>cases hx
  rename_i b o f hcell hrep
  have hcl:∀(j:Nat) (x:AV) (u:Value),e.cells[j]?=some x→((List.range e.cells.length).map f)[j]?=some u→Rep w (Fok Γ w η s.hp) η s.hp x u∧u.oneCell'=true:=by
   intro j x u hx hu
   have hlt:=(List.getElem?_eq_some_iff.1 hx).1
   rw[List.getElem?_map,List.getElem?_range hlt] at hu
   obtain rfl:=Option.some.inj hu
   exact⟨(hrep j x hx).lift,(hcell j x hx).2.2⟩
  have hcs:∀(j:Nat) (u:Value),((List.range e.cells.length).map f)[j]?=some u→w.cell? ⟨b,o+j,none⟩=some u:=by
   intro j u hj
   rw[List.getElem?_map] at hj
   by_cases hlt:j<e.cells.length
   ·rw[List.getElem?_range hlt] at hj
    obtain rfl:=Option.some.inj hj
    exact(hcell j _ (List.getElem?_eq_some_iff.2 ⟨hlt,rfl⟩)).1
   ·rw[List.getElem?_eq_none (by simp;omega)] at hj;cases hj
  have key:off+d.size≤e.cells.length∧Rep w (Fok Γ w η s.hp) η s.hp r (if d.kind.agg then .agg ((((List.range e.cells.length).map f).drop off).take d.size).toArray else((((List.range e.cells.length).map f).drop off).take d.size).headD undef):=by
   unfold ldElem at hld
   split at hld
   ·rename_i hc
    obtain⟨rfl,hlen,hag⟩:=hc
    obtain rfl:=Option.some.inj hld
    refine⟨by omega,?_⟩
    cases hk:d.kind.agg with
    |true=>
     rw[hk] at hag
     cases e<;>simp only[AV.isAgg] at hag<;>try (cases hag;done)
     rename_i cs
     have hlen':cs.length=d.size:=hlen
     have:=(ldCells_rep (w:=w) (F:=Fok Γ w η s.hp) (η:=η) (hp:=s.hp) (agg:=true) (size:=d.size) (cs:=cs) (o:=0) (r:=.agg cs) (fun h=>by cases h) (vs:=(List.range cs.length).map f) (by simp) hcl (by simp[ldCells,←hlen'])).2
     simpa [AV.cells] using this
    |false=>
     have h1:=htab.sz hd hk
     have hcell0:e.cells=[e]:=by
      rw[hk] at hag
      cases e<;>first|rfl|(simp[AV.isAgg] at hag)
     have:=(ldCells_rep (w:=w) (F:=Fok Γ w η s.hp) (η:=η) (hp:=s.hp) (agg:=false) (size:=d.size) (cs:=e.cells) (o:=0) (r:=e) (fun _=>h1) (vs:=(List.range e.cells.length).map f) (by simp) hcl (by rw[hcell0];rfl)).2
     simpa using this
   ·have:=ldCells_rep (w:=w) (F:=Fok Γ w η s.hp) (η:=η) (hp:=s.hp) (htab.sz hd) (vs:=(List.range e.cells.length).map f) (by simp) hcl hld
    simpa using this
  refine⟨_,?_,key.2⟩
  simp only[execOp,ho,hev,Instr.loadAt,Instr.sureAddr,Sem.run_bind,Sem.run_pure,Result.andThen_ok]
  rw[hty.run_load (vs:=(((List.range e.cells.length).map f).drop off).take d.size) (by simp;omega) (fun j u hj=>by
   rw[List.getElem?_take] at hj
   split at hj
   ·rw[List.getElem?_drop] at hj
    have:=hcs _ _ hj
    rw[Nat.add_assoc];exact this
   ·cases hj)]
  rfl
end Go.Proofs.YtjhanogfpkbamaaGreatDoor

namespace Go.Proofs.YtjhanogfpkbamaaGreatDoor
open Go
set_option linter.unusedSimpArgs false
set_option linter.unusedVariables false
variable {G:Type} {Γ:Env G} {s:AS G} {a:Act} {w w':World} {η:List Value} {hp:List AObj} {F:Nat→Nat→Prop} {P:Program}
theorem fieldsOf_tab {tab:Nat→Option TD} {T:Nat} {f:Nat} {p:Nat×Nat×Bool} (h:(fieldsOf tab T)[f]?=some p):∃d fs,tab T=some d∧d.kind=.strct fs∧fs[f]?=some p:=by
 unfold fieldsOf at h
 split at h
 ·rename_i d hd
  split at h
  ·rename_i fs hk
   exact⟨d,fs,hd,hk,h⟩
  ·simp at h
 ·simp at h
theorem TyOk.field {T:Nat} {d:TD} (h:TyOk P T d) {fs:List (Nat×Nat×Bool)} (hk:d.kind=.strct fs) {f:Nat} {p:Nat×Nat×Bool} (hf:fs[f]?=some p):
  ∃fields fd i u,P.underlying T=some (.struct fields)∧fields[f]?=some fd∧fd.offset=p.1∧P.info? fd.type=some i∧i.size=p.2.1∧P.underlying fd.type=some u∧aggD u=p.2.2:=by
 obtain⟨u,h1,h2⟩:=h.und
 rw[hk] at h2
 obtain⟨fields,rfl,h3⟩:=h2
 have h4:=congrArg (·[f]?) h3
 simp only[List.getElem?_map,hf,Option.map_some,Array.getElem?_toList] at h4
 cases hfd:fields[f]? with
 |none=>rw[hfd] at h4;cases h4
 |some fd=>
  rw[hfd] at h4
  simp only[Option.map_some,Option.some.injEq,Prod.mk.injEq] at h4
  obtain⟨e1,e2,e3⟩:=h4
  cases hi:P.info? fd.type with
  |none=>rw[hi] at e2;cases e2
  |some i=>
   cases hu:P.underlying fd.type with
   |none=>rw[hu] at e3;cases e3
   |some u=>
    rw[hi] at e2;rw[hu] at e3
    exact⟨fields,fd,i,u,h1,hfd,e1,hi,by simpa using e2,hu,by simpa using e3⟩
theorem vrun_fieldAddr {tab:Nat→Option TD} (htab:TabOk Γ.P tab) {o:Oper} {T f:Nat} {x:Operand} (ho:o.op=.fieldAddr T x f) {p:Nat×Nat×Bool} (hp:(fieldsOf tab T)[f]?=some p) (h0:p.2.1≠0) {r:AV}
  (h:(∃n off,s.ev x=.ptr n off∧r=.ptr n (off+p.1))∨(∃e off,s.ev x=.eptr e off∧r=.eptr e (off+p.1))):VRun Γ o s r:=by
 refine vrun_pure fun a w η hr=>?_
 have hx:=hr.ev x
 obtain⟨d,fs,hd,hk,hf⟩:=fieldsOf_tab hp
 obtain⟨fields,fd,i,u,h1,h2,h3,h4,h5,_⟩:=(htab T d hd).field hk hf
 have h6:¬i.size=0:=by rw[h5];exact h0
 rcases h with⟨n,off,he,rfl⟩|⟨e,off,he,rfl⟩<;>rw[he] at hx
 ·cases hev:a.eval x<;>rw[hev] at hx<;>cases hx
  rename_i b hη
  exact⟨.pointer (some ⟨b,off+p.1,none⟩),by simp[execOp,ho,hev,Instr.fieldAt,run_underlying h1,h2,Instr.sureAddr,fieldPlace,sizeOf,typeInfo,h4,h6,h3,Addr.add_lit],.ptr n _ b hη⟩
 ·cases hev:a.eval x<;>rw[hev] at hx<;>cases hx
  rename_i b o f' hcell hrep
  refine⟨.pointer (some ⟨b,o+off+p.1,none⟩),by simp[execOp,ho,hev,Instr.fieldAt,run_underlying h1,h2,Instr.sureAddr,fieldPlace,sizeOf,typeInfo,h4,h6,h3,Addr.add_lit],?_⟩
  rw[Nat.add_assoc]
  exact .eptr e _ b o f' hcell hrep
theorem vrun_indexAddr {tab:Nat→Option TD} (htab:TabOk Γ.P tab) {o:Oper} {T e:Nat} {x i:Operand} (ho:o.op=.indexAddr T x i) {d d':TD} (hd:tab T=some d) (hk:d.kind=.slc e) (hd':tab e=some d') {els:List AV} (hels:(s.ev x).asSl s.hp=some els)
  {k:IntKind} {n:Int} (hi:s.ev i=.prim (.int k n)) (h0:0≤n) (h1:n<els.length) (hsz:(els.getD n.toNat .top).cells.length=d'.size):VRun Γ o s (.eptr (els.getD n.toNat .top) 0):=by
 refine vrun_pure fun a w η hr=>?_
 have hx:=asSl_rep hr.heap hr.mine (hr.ev x) hels
 have hii:=hr.ev i
 rw[hi] at hii
 have hiv:=hii.prim_inv
 have hu:Γ.P.underlying T=some (.slice e):=by
  obtain⟨u,h2,h3⟩:=(htab T d hd).und
  rw[hk] at h3
  rw[h2];exact congrArg some h3
 have hlt:n.toNat<els.length:=by omega
 have hget:els[n.toNat]?=some (els.getD n.toNat .top):=by simp[List.getD,hlt]
 generalize hxv:a.eval x=vx at hx
 cases hx with
 |sl0=>simp at hlt
 |sl size els b off c f hc hm hl hcell hrep=>
  have hs:size=d'.size:=by rw[←hl _ _ hget];exact hsz
  subst hs
  obtain⟨i0,hi0,hi1,_⟩:=(htab e d' hd').info
  refine⟨.pointer (some ⟨b,off+n.toNat*d'.size,none⟩),?_,.eptr _ 0 b (off+n.toNat*d'.size) (f n.toNat) (fun j x hj=>hcell _ _ _ _ hget hj) (fun j x hj=>hrep _ _ _ _ hget hj)⟩
  have hb:0≤n∧n<(els.length:Int):=⟨h0,h1⟩
  simp[execOp,ho,hxv,hiv,Instr.indexAt,asIntOf,run_underlying hu,hb,sizeOf,typeInfo,hi0,hi1,Addr.add_lit]
theorem vrun_indexAddrA {tab:Nat→Option TD} (htab:TabOk Γ.P tab) {o:Oper} {T m:Nat} {x i:Operand} (ho:o.op=.indexAddr T x i) {d:TD} (hd:tab T=some d) (hk:d.kind=.arr m) {r:Nat} (hx:s.ev x=.ptr r 0)
  {k:IntKind} {n:Int} (hi:s.ev i=.prim (.int k n)) (h0:0≤n) (h1:n<m):VRun Γ o s (.ptr r n.toNat):=by
 refine vrun_pure fun a w η hr=>?_
 have hxr:=hr.ev x
 rw[hx] at hxr
 have hii:=hr.ev i
 rw[hi] at hii
 have hiv:=hii.prim_inv
 obtain⟨u,h2,h3⟩:=(htab T d hd).und
 rw[hk] at h3
 obtain⟨e,i0,rfl,hi0,hi1⟩:=h3
 generalize hxv:a.eval x=vx at hxr
 cases hxr with
 |ptr _ _ b hη=>
  refine⟨.pointer (some ⟨b,n.toNat,none⟩),?_,.ptr _ _ b hη⟩
  have hb:0≤n∧n<(m:Int):=⟨h0,h1⟩
  simp[execOp,ho,hxv,hiv,Instr.indexAt,asIntOf,run_underlying h2,hb,sizeOf,typeInfo,hi0,hi1,Addr.add_lit,Instr.sureAddr]
theorem mrowOf_eq {hp:List AObj} {x:AV} {r m e size:Nat} (h:mrowOf hp x=some (r,m,e,size)):x=.own r m∧∃els,hp[r]?=some (.mrow e size els):=by
 unfold mrowOf at h
 split at h
 ·split at h
  ·rename_i hr
   simp only[Option.some.injEq,Prod.mk.injEq] at h
   obtain⟨rfl,rfl,rfl,rfl⟩:=h
   exact⟨rfl,_,hr⟩
  ·cases h
 ·cases h
theorem vrun_indexAddrM {tab:Nat→Option TD} (htab:TabOk Γ.P tab) {o:Oper} {T e:Nat} {x i:Operand} (ho:o.op=.indexAddr T x i) {d d':TD} (hd:tab T=some d) (hk:d.kind=.slc e) (hd':tab e=some d') {r m:Nat} {els:List AV} (hx:s.ev x=.own r m) (hro:s.hp[r]?=some (.mrow e d'.size els))
  {k:IntKind} {n:Int} (hi:s.ev i=.prim (.int k n)) (h0:0≤n) (h1:n<m):VRun Γ o s (.mptr r m n.toNat d'.size):=by
 refine vrun_pure fun a w η hr=>?_
 have hxr:=hr.ev x
 rw[hx] at hxr
 have hii:=hr.ev i
 rw[hi] at hii
 have hiv:=hii.prim_inv
 have hu:Γ.P.underlying T=some (.slice e):=by
  obtain⟨u,h2,h3⟩:=(htab T d hd).und
  rw[hk] at h3
  rw[h2];exact congrArg some h3
 generalize hxv:a.eval x=vx at hxr
 cases hxr with
 |own _ _ _ hone how=>
  have how':=how
  unfold OwnOk at how'
  rw[hro] at how'
  obtain⟨hm,hη⟩:=how'
  obtain⟨hs0,xs,hrow,_⟩:=hr.heap.obj r _ _ hro hη
  rcases hrow.2 with⟨hz,_⟩|⟨g,cap,cur,rfl,_⟩
  ·omega
  ·rw[←hm] at how hxv
   obtain⟨i0,hi0,hi1,_⟩:=(htab e d' hd').info
   refine⟨.pointer (some ⟨g,0+n.toNat*d'.size,none⟩),?_,.mptr r m n.toNat d'.size g 0 cap how⟩
   have hb:0≤n∧n<(m:Int):=⟨h0,h1⟩
   simp[execOp,ho,hxv,hiv,Instr.indexAt,asIntOf,run_underlying hu,hb,sizeOf,typeInfo,hi0,hi1,Addr.add_lit]
theorem vrun_binOp {tab:Nat→Option TD} (htab:TabOk Γ.P tab) {o:Oper} {T T':Nat} {op:BinOp} {x y:Operand} (ho:o.op=.binOp op T x y T') {c:Prop} {r:AV} (h:bopVal tab T op (s.ev x) (s.ev y)=some (c,r)) (_hc:c):VRun Γ o s r:=by
 refine vrun_pure fun a w η hr=>?_
 have hx:=hr.ev x
 have hy:=hr.ev y
 unfold bopVal at h
 split at h
 ·rename_i k m k' n e1 e2
  rw[e1] at hx;rw[e2] at hy
  have hx':=hx.prim_inv
  have hy':=hy.prim_inv
  split at h
  ·rename_i hkk
   subst hkk
   unfold bopInt at h
   split at h<;>first
    |cases h;done
    |(simp only[Option.some.injEq,Prod.mk.injEq] at h;obtain⟨_,rfl⟩:=h;exact⟨_,by simp[execOp,ho,hx',hy',eqGuard,binOp,Op.intArith,Op.intCmp];try rfl,.prim _⟩)
  ·cases h
 ·rename_i b1 b2 e1 e2
  rw[e1] at hx;rw[e2] at hy
  have hx':=hx.prim_inv
  have hy':=hy.prim_inv
  split at h
  ·rename_i d hd
   obtain⟨u,h2,h3⟩:=(htab T d hd).und
   split at h
   ·rename_i hk
    rw[hk] at h3
    have hu:Γ.P.underlying T=some .bool:=by rw[h2];exact congrArg some h3
    simp only[Option.some.injEq,Prod.mk.injEq] at h
    obtain⟨_,rfl⟩:=h
    have he:(Op.equal T (.bool b1) (.bool b2)).run Γ.P w=.ok (b1==b2) w:=run_equalIn_bool' w 9999 T b1 b2 hu
    refine⟨_,?_,.prim _⟩
    simp only[execOp,ho,hx',hy',eqGuard,binOp,Sem.run_bind,Bool.not_true,Bool.false_eq_true,if_false,he,Result.andThen_ok,Sem.run_pure]
   ·rename_i hk
    rw[hk] at h3
    have hu:Γ.P.underlying T=some .bool:=by rw[h2];exact congrArg some h3
    simp only[Option.some.injEq,Prod.mk.injEq] at h
    obtain⟨_,rfl⟩:=h
    have he:(Op.equal T (.bool b1) (.bool b2)).run Γ.P w=.ok (b1==b2) w:=run_equalIn_bool' w 9999 T b1 b2 hu
    refine⟨_,?_,.prim _⟩
    simp only[execOp,ho,hx',hy',eqGuard,binOp,Sem.run_bind,Bool.not_true,Bool.false_eq_true,if_false,he,Result.andThen_ok,Sem.run_pure]
   ·cases h
  ·cases h
 ·rename_i a1 a2 b1 b2 e1 e2
  rw[e1] at hx;rw[e2] at hy
  have hagg:∀{m1 m2:Int} {v:Value},Rep w (Fok Γ w η s.hp) η s.hp (.agg [.prim (.int .i64 m1),.prim (.int .i64 m2)]) v→v=.agg #[.int .i64 m1,.int .i64 m2]:=by
   intro m1 m2 v hv
   cases hv with
   |agg cs vs hl h1 hr=>
    obtain⟨vs⟩:=vs
    match vs,hl with
    | [u1,u2],_=>
     have q1:=(hr 0 _ u1 rfl rfl).prim_inv
     have q2:=(hr 1 _ u2 rfl rfl).prim_inv
     rw[q1,q2]
  have hx':=hagg hx
  have hy':=hagg hy
  split at h
  ·rename_i d hd
   split at h
   ·rename_i hfl
    obtain⟨g1,g2⟩:=(htab T d hd).feq hfl
    split at h
    ·simp only[Option.some.injEq,Prod.mk.injEq] at h
     obtain⟨_,rfl⟩:=h
     refine⟨.bool (a1==b1&&a2==b2),?_,.prim _⟩
     have:=run_eql_struct (P:=Γ.P) w T #[.int .i64 a1,.int .i64 a2] #[.int .i64 b1,.int .i64 b2]
     rw[g2] at this
     simp only[Result.andThen_ok] at this
     simp only[execOp,ho,hx',hy',Sem.run_bind,run_eqGuard_agg (P:=Γ.P) w _ T x y _ _ g1,Result.andThen_ok,this]
     rfl
    ·simp only[Option.some.injEq,Prod.mk.injEq] at h
     obtain⟨_,rfl⟩:=h
     refine⟨.bool (!(a1==b1&&a2==b2)),?_,.prim _⟩
     have:=run_neq_struct (P:=Γ.P) w T #[.int .i64 a1,.int .i64 a2] #[.int .i64 b1,.int .i64 b2]
     rw[g2] at this
     simp only[Result.andThen_ok] at this
     simp only[execOp,ho,hx',hy',Sem.run_bind,run_eqGuard_agg (P:=Γ.P) w _ T x y _ _ g1,Result.andThen_ok,this]
     rfl
    ·cases h
   ·cases h
  ·cases h
 ·cases h
theorem repArgs (h:Rel Γ s a w η):∀l:List Operand,RepL w (Fok Γ w η s.hp) η s.hp (l.map s.ev) (l.map a.eval)
 | []=>True.intro
 |x::l=>⟨h.ev x,repArgs h l⟩
theorem vrun_makeFunc {o:Oper} {f:Nat} {first caps:Array Operand} (ho:o.op=.makeFunc (.func f) first caps) (h0:first.size=0):VRun Γ o s (.clo f (caps.toList.map s.ev)):=by
 refine vrun_pure fun a w η hr=>⟨.func (.func f) #[] (caps.map a.eval),?_,.clo f _ _ (by simp) fun j x v hx hv=>?_⟩
 ·have:first=#[]:=Array.eq_empty_of_size_eq_zero h0
  subst this
  simp[execOp,ho,Instr.makeFunc]
 ·exact(repArgs hr caps.toList).get j x v hx (by simpa using hv)
theorem vrun_makeMethod {o:Oper} {f:Nat} {first caps:Array Operand} (ho:o.op=.makeFunc (.func f) first caps) (h0:caps.size=0):VRun Γ o s (.mclo f (first.toList.map s.ev)):=by
 refine vrun_pure fun a w η hr=>⟨.func (.func f) (first.map a.eval) #[],?_,.mclo f _ _ (by simp) fun j x v hx hv=>?_⟩
 ·have:caps=#[]:=Array.eq_empty_of_size_eq_zero h0
  subst this
  simp[execOp,ho,Instr.makeFunc]
 ·exact(repArgs hr first.toList).get j x v hx (by simpa using hv)
theorem vrun_pick {o:Oper} {c x y:Operand} {t:Bool} (ho:o.op=.pick c x y) (hc:s.ev c=.prim (.bool t)):VRun Γ o s (if t=true then s.ev x else s.ev y):=by
 refine vrun_pure fun a w η hr=>?_
 have h:=hr.ev c
 rw[hc] at h
 have hv:=h.prim_inv
 cases t with
 |true=>exact⟨a.eval x,by simp[execOp,ho,hv,asBool],by simpa using hr.ev x⟩
 |false=>exact⟨a.eval y,by simp[execOp,ho,hv,asBool],by simpa using hr.ev y⟩
theorem ptrNil_ok {w:World} {η:List Value} {hp:List AObj} {F:Nat→Nat→Prop} {x:AV} {b:Bool} (h:ptrNil x=some b) {v:Value} (hx:Rep w F η hp x v):∃p,v=.pointer p∧p.isNone=b:=by
 unfold ptrNil at h
 split at h
 ·cases hx;exact⟨_,rfl,by simpa using h⟩
 ·cases hx;exact⟨_,rfl,by simpa using h⟩
 ·cases hx;exact⟨_,rfl,by simpa using h⟩
 ·cases h
theorem vrun_bopX {tab:Nat→Option TD} (htab:TabOk Γ.P tab) {o:Oper} {T T':Nat} {op:BinOp} {x y:Operand} (ho:o.op=.binOp op T x y T') {cs:List Prop} {r:AV} (h:bopX tab T op (s.ev x) (s.ev y)=some (cs,r)) (hc:allP' cs):VRun Γ o s r:=by
 unfold bopX at h
 split at h
 ·rename_i k' b hy
  split at h
  ·rename_i k a hx
   split at h
   ·rename_i hk
    subst hk
    refine vrun_pure fun ac w η hr=>?_
    have h1:=hr.ev x
    have h2:=hr.ev y
    rw[hx] at h1;rw[hy] at h2
    have h1:=h1.prim_inv
    have h2:=h2.prim_inv
    split at h
    ·simp only[Option.some.injEq,Prod.mk.injEq] at h
     obtain⟨rfl,rfl⟩:=h
     exact⟨_,by simp[execOp,ho,h1,h2,eqGuard,binOp,Op.intDiv,hc.1],.prim _⟩
    ·simp only[Option.some.injEq,Prod.mk.injEq] at h
     obtain⟨rfl,rfl⟩:=h
     exact⟨_,by simp[execOp,ho,h1,h2,eqGuard,binOp,Op.intDiv,hc.1],.prim _⟩
    ·obtain⟨n,hn,he⟩:=Option.map_eq_some_iff.1 h
     simp only[Prod.mk.injEq] at he
     obtain⟨rfl,rfl⟩:=he
     refine⟨_,?_,.prim _⟩
     unfold bitsI at hn
     split at hn<;>first|cases hn;done|(obtain rfl:=Option.some.inj hn;simp[execOp,ho,h1,h2,eqGuard,binOp,Op.intBits])
   ·cases h
  ·cases h
 ·rename_i b hy
  split at h
  ·rename_i a hx
   refine vrun_pure fun ac w η hr=>?_
   have h1:=hr.ev x
   have h2:=hr.ev y
   rw[hx] at h1;rw[hy] at h2
   have h1:=h1.prim_inv
   have h2:=h2.prim_inv
   split at h
   all_goals first|(cases h;done)|skip
   all_goals simp only[Option.some.injEq,Prod.mk.injEq] at h
   all_goals obtain⟨rfl,rfl⟩:=h
   ·have hc':a.size+b.size≤9223372036854775807:=hc.1
    refine⟨_,?_,.prim _⟩
    simp[execOp,ho,h1,h2,eqGuard,binOp,Op.stringOp,show IntKind.i64.max=9223372036854775807 from rfl]
    omega
   all_goals exact⟨_,by simp[execOp,ho,h1,h2,eqGuard,binOp,Op.stringOp,strEq,strLt],.prim _⟩
  ·cases h
 ·rename_i hy
  split at h
  ·rename_i b hb
   split at h
   ·rename_i d hd
    split at h
    ·rename_i e hk
     have hu:Γ.P.underlying T=some (.pointer (Γ.P.pointee T)):=by
      obtain⟨u,q2,q3⟩:=(htab T d hd).und
      rw[hk] at q3
      have:Γ.P.underlying T=some (.pointer e):=by rw[q2];exact congrArg some q3
      rw[this,Program.pointee,this]
     split at h
     ·simp only[Option.some.injEq,Prod.mk.injEq] at h
      obtain⟨rfl,rfl⟩:=h
      refine vrun_pure fun a w η hr=>?_
      obtain⟨p,hp,hpn⟩:=ptrNil_ok hb (hr.ev x)
      have h2:=hr.ev y
      rw[hy] at h2
      have h2:=h2.prim_inv
      refine⟨.bool b,?_,.prim _⟩
      simp only[execOp,ho,hp,h2,eqGuard,Bool.not_true,Bool.false_eq_true,if_false,Sem.run_bind,Sem.run_pure,Result.andThen_ok,run_eql_pointer_nil w T p hu,hpn]
     ·simp only[Option.some.injEq,Prod.mk.injEq] at h
      obtain⟨rfl,rfl⟩:=h
      refine vrun_pure fun a w η hr=>?_
      obtain⟨p,hp,hpn⟩:=ptrNil_ok hb (hr.ev x)
      have h2:=hr.ev y
      rw[hy] at h2
      have h2:=h2.prim_inv
      refine⟨.bool (!b),?_,.prim _⟩
      simp only[execOp,ho,hp,h2,eqGuard,Bool.not_true,Bool.false_eq_true,if_false,Sem.run_bind,Sem.run_pure,Result.andThen_ok,run_neq_pointer_nil w T p hu,hpn]
     ·cases h
    ·cases h
   ·cases h
  ·cases h
 ·cases h
theorem run_eql_nilI {P:Program} (w:World) (k:Nat) (T:TypeId) {ms:Array (String×TypeId)} (hu:P.underlying T=some (.interface ms)):(Op.equalIn (k+1) T .nilIface .nilIface).run P w=.ok true w:=by
 simp[Op.equalIn,run_underlying hu]
theorem run_eql_nilIface {P:Program} (w:World) (T:TypeId) {ms:Array (String×TypeId)} (hu:P.underlying T=some (.interface ms)):(Op.equal T .nilIface .nilIface).run P w=.ok true w:=run_eql_nilI w 9999 T hu
theorem vrun_ifc {tab:Nat→Option TD} (htab:TabOk Γ.P tab) {o:Oper} {T T':Nat} {op:BinOp} {x y:Operand} (ho:o.op=.binOp op T x y T') {r:AV} (h:ifcV tab T op (s.ev x) y=some r):VRun Γ o s r:=by
 unfold ifcV at h
 split at h
 ·rename_i hy
  split at h
  ·rename_i d hd hx
   split at h
   ·rename_i hk
    obtain⟨u,q2,q3⟩:=(htab T d hd).und
    rw[hk] at q3
    obtain⟨ms,rfl⟩:=q3
    obtain rfl:=nilC_eq hy
    split at h
    ·obtain rfl:=Option.some.inj h
     refine vrun_pure fun a w η hr=>?_
     have h1:=hr.ev x
     rw[hx] at h1
     have h1:=h1.prim_inv
     have he:a.eval (.const .nilIface)=.nilIface:=rfl
     refine⟨.bool true,?_,.prim _⟩
     simp only[execOp,ho,h1,he,eqGuard_nil_constR,Sem.run_bind,Sem.run_pure,Result.andThen_ok,binOp,run_eql_nilIface w T q2]
    ·obtain rfl:=Option.some.inj h
     refine vrun_pure fun a w η hr=>?_
     have h1:=hr.ev x
     rw[hx] at h1
     have h1:=h1.prim_inv
     have he:a.eval (.const .nilIface)=.nilIface:=rfl
     refine⟨.bool false,?_,.prim _⟩
     simp only[execOp,ho,h1,he,eqGuard_nil_constR,Sem.run_bind,Sem.run_pure,Result.andThen_ok,binOp,run_eql_nilIface w T q2]
     rfl
    ·cases h
   ·cases h
  ·cases h
 ·cases h
theorem vrun_binAll {tab:Nat→Option TD} (htab:TabOk Γ.P tab) {o:Oper} {T T':Nat} {op:BinOp} {x y:Operand} (ho:o.op=.binOp op T x y T') {c:Prop} {r:AV} (h:bopAll tab T op (s.ev x) (s.ev y)=some (c,r)) (hc:c):VRun Γ o s r:=by
 unfold bopAll at h
 split at h
 ·rename_i r' hr
  obtain rfl:=Option.some.inj h
  exact vrun_binOp htab ho hr hc
 ·obtain⟨⟨cs,r'⟩,h1,h2⟩:=Option.map_eq_some_iff.1 h
  simp only[Prod.mk.injEq] at h2
  obtain⟨rfl,rfl⟩:=h2
  exact vrun_bopX htab ho h1 hc
theorem vrun_cvt {tab:Nat→Option TD} (htab:TabOk Γ.P tab) {o:Oper} {S D:Nat} {x:Operand} (ho:o.op=.convert S D x) {r:AV} (h:cvtVal tab S D (s.ev x)=some r):VRun Γ o s r:=by
 unfold cvtVal at h
 split at h
 ·rename_i d1 d k n hS hD hx
  split at h
  ·rename_i k2 hk
   obtain rfl:=Option.some.inj h
   refine vrun_pure fun a w η hr=>?_
   have h1:=hr.ev x
   rw[hx] at h1
   have h1:=h1.prim_inv
   obtain⟨u1,q1,_⟩:=(htab S d1 hS).und
   have hu:Γ.P.underlying D=some (.int k2):=by
    obtain⟨u,q2,q3⟩:=(htab D d hD).und
    rw[hk] at q3
    rw[q2];exact congrArg some q3
   refine⟨.int k2 (k2.wrap n),?_,.prim _⟩
   simp only[execOp,ho,h1,convert,Sem.run_bind,run_underlying q1,run_underlying hu,Result.andThen_ok]
   rfl
  ·cases h
 ·rename_i d1 d t hS hD hx
  split at h
  ·rename_i hk
   obtain rfl:=Option.some.inj h
   refine vrun_pure fun a w η hr=>?_
   have h1:=hr.ev x
   rw[hx] at h1
   have h1:=h1.prim_inv
   obtain⟨u1,q1,_⟩:=(htab S d1 hS).und
   have hu:Γ.P.underlying D=some .string:=by
    obtain⟨u,q2,q3⟩:=(htab D d hD).und
    rw[hk] at q3
    rw[q2];exact congrArg some q3
   refine⟨.string t,?_,.prim _⟩
   simp[execOp,ho,h1,convert,run_underlying hu,run_underlying q1]
  ·cases h
 ·cases h
theorem vrun_unOp {o:Oper} {op:UnOp} {T:Nat} {x:Operand} (ho:o.op=.unOp op T x) {r:AV} (h:(∃b,op=.not∧s.ev x=.prim (.bool b)∧r=.prim (.bool (!b)))∨(∃k n,op=.neg∧s.ev x=.prim (.int k n)∧r=.prim (.int k (k.wrap (0-n))))):VRun Γ o s r:=by
 refine vrun_pure fun a w η hr=>?_
 have hx:=hr.ev x
 rcases h with⟨b,rfl,he,rfl⟩|⟨k,n,rfl,he,rfl⟩<;>rw[he] at hx
 ·exact⟨_,by simp[execOp,ho,hx.prim_inv,Op.unary],.prim _⟩
 ·exact⟨_,by simp[execOp,ho,hx.prim_inv,Op.unary,Op.intArith],.prim _⟩
theorem vrun_extract {o:Oper} {x:Operand} {i:Nat} (ho:o.op=.extract x i) {vs:List AV} {r:AV} (he:s.ev x=.tup vs) (hi:vs[i]?=some r):VRun Γ o s r:=by
 refine vrun_pure fun a w η hr=>?_
 have hx:=hr.ev x
 rw[he] at hx
 generalize hv:a.eval x=v at hx
 cases hx with
 |tup cs us hl hrep=>
  have hlt:i<us.size:=by rw[hl];exact(List.getElem?_eq_some_iff.1 hi).1
  have hu:us[i]?=some us[i]:=by simp[hlt]
  exact⟨us[i],by simp[execOp,ho,hv,Instr.extract,hu],hrep i r _ hi hu⟩
theorem vrun_field {tab:Nat→Option TD} (htab:TabOk Γ.P tab) {o:Oper} {T f:Nat} {x:Operand} (ho:o.op=.field T x f) {p:Nat×Nat×Bool} (hp:(fieldsOf tab T)[f]?=some p) {cs:List AV} (hx:s.ev x=.agg cs) {r:AV}
  (h:ldCells p.2.2 p.2.1 cs p.1=some r) (h1:p.2.2=false→p.2.1=1):VRun Γ o s r:=by
 refine vrun_pure fun a w η hr=>?_
 have hxr:=hr.ev x
 rw[hx] at hxr
 obtain⟨d,fs,hd,hk,hf⟩:=fieldsOf_tab hp
 obtain⟨fields,fd,i,u,e1,e2,e3,e4,e5,e6,e7⟩:=(htab T d hd).field hk hf
 generalize hv:a.eval x=v at hxr
 cases hxr with
 |agg _ vs hl hone hrep=>
  obtain⟨g1,g2⟩:=ldCells_rep (w:=w) (F:=Fok Γ w η s.hp) (η:=η) (hp:=s.hp) h1 (vs:=vs.toList) (by simpa using hl) (fun j x u hx hu=>⟨hrep j x u hx (by simpa using hu),hone u (by rw[←Array.mem_toList_iff];exact List.mem_of_getElem? hu)⟩) h
  refine⟨_,?_,g2⟩
  have hag:(isAgg fd.type).run Γ.P w=.ok p.2.2 w:=by
   rw[←e7]
   simp only[isAgg,Sem.run_bind,run_underlying e6,Result.andThen_ok]
   cases u<;>rfl
  simp only[execOp,ho,hv,Instr.field,Sem.run_bind,run_underlying e1,Result.andThen_ok,e2,asAgg,Sem.run_pure,part,hag]
  cases hpa:p.2.2 with
  |true=>
   simp only[if_true,Sem.run_bind,sizeOf,typeInfo,run_program,Result.andThen_ok,e4,Sem.run_pure,e5,e3]
   congr 2
   apply congrArg
   apply Array.ext'
   simp[Array.toList_extract,List.extract_eq_take_drop]
  |false=>
   have hs:=h1 hpa
   rw[hs] at g1 ⊢
   have hlt:p.1<vs.size:=by simp at g1;omega
   have hu:vs[p.1]?=some vs[p.1]:=by simp[hlt]
   simp only[Bool.false_eq_true,if_false,e3,hu,Sem.run_pure,Result.andThen_ok]
   congr 2
   have:(vs.toList.drop p.1).take 1=[vs[p.1]]:=by
    apply List.ext_getElem?
    intro k
    rw[List.getElem?_take]
    cases k with
    |zero=>simp[hlt]
    |succ k=>simp
   rw[this];rfl
end Go.Proofs.YtjhanogfpkbamaaGreatDoor

namespace Go.Proofs.YtjhanogfpkbamaaGreatDoor
open Go
set_option linter.unusedSimpArgs false
set_option linter.unusedVariables false
variable {G:Type} {Γ:Env G} {s:AS G} {a:Act} {w w':World} {η:List Value} {hp:List AObj} {F:Nat→Nat→Prop} {P:Program}
theorem Rep.sl_shape {els:List AV} {v:Value} (h:Rep w F η hp (.sl els) v):∃a c,v=.slice a els.length c:=by
 cases h with
 |sl0 a=>exact⟨a,0,rfl⟩
 |sl size els b o c f hc hm hl hcell hr=>exact⟨_,c,rfl⟩
theorem vrun_builtin {o:Oper} {c:Call} {b:Builtin} (ho:o.op=.call c) (hb:c.callee=.builtin b) {l:List Operand} (hl:c.args.toList=l) {r:AV}
  (h:∀a w η,Rel Γ s a w η→∃v w',(builtin b c.argTypes o.type ((c.args.map fun | .const _=>true|_=>false)) (l.map a.eval).toArray).run Γ.P w=.ok (.value v) w'∧Same w w'∧Rep w' (Fok Γ w' η s.hp) η s.hp r v):VRun Γ o s r:=by
 intro a w η hr
 obtain⟨v,w',h1,h2,h3⟩:=h a w η hr
 refine⟨v,w',?_,h2,h3⟩
 have:c.args.map a.eval=(l.map a.eval).toArray:=by rw[←hl];apply Array.ext';simp
 simp only[execOp,ho,resolve,hb,Sem.run_bind,Sem.run_pure,Result.andThen_ok,invoke,this]
 exact h1
theorem vrun_len {tab:Nat→Option TD} (htab:TabOk Γ.P tab) {o:Oper} {c:Call} (ho:o.op=.call c) (hb:c.callee=.builtin .len) {x:Operand} (hl:c.args.toList=[x]) {T:Nat} (hT:c.argTypes[0]?=some T) {d:TD} (hd:tab T=some d) {r:AV}
  (h:(∃e els,d.kind=.slc e∧(s.ev x).asSl s.hp=some els∧r=.prim (.int .i64 els.length))∨(∃b,d.kind=.str∧s.ev x=.prim (.string b)∧r=.prim (.int .i64 b.size))):VRun Γ o s r:=by
 refine vrun_builtin ho hb hl fun a w η hr=>?_
 obtain⟨u,h2,h3⟩:=(htab T d hd).und
 rcases h with⟨e,els,hk,hels,rfl⟩|⟨b,hk,he,rfl⟩<;>rw[hk] at h3
 ·have hu:Γ.P.underlying T=some (.slice e):=by rw[h2];exact congrArg some h3
  obtain⟨a0,c0,hv⟩:=(asSl_rep hr.heap hr.mine (hr.ev x) hels).sl_shape
  exact⟨_,w,by simp[builtin,Builtin.len_,hT,hv,run_underlying hu,goInt],Same.refl w,.prim _⟩
 ·have hu:Γ.P.underlying T=some .string:=by rw[h2];exact congrArg some h3
  have hx:=hr.ev x
  rw[he] at hx
  exact⟨_,w,by simp[builtin,Builtin.len_,hT,hx.prim_inv,run_underlying hu,goInt],Same.refl w,.prim _⟩
theorem vrun_min {o:Oper} {c:Call} (ho:o.op=.call c) (hb:c.callee=.builtin .min) {x y:Operand} (hl:c.args.toList=[x,y]) {k k':IntKind} {m n:Int} (hx:s.ev x=.prim (.int k m)) (hy:s.ev y=.prim (.int k' n)):VRun Γ o s (.prim (.int k (if n<m then n else m))):=by
 refine vrun_builtin ho hb hl fun a w η hr=>?_
 have h1:=hr.ev x
 have h2:=hr.ev y
 rw[hx] at h1;rw[hy] at h2
 exact⟨_,w,by simp[builtin,Builtin.min_,h1.prim_inv,h2.prim_inv,Builtin.min2],Same.refl w,.prim _⟩
theorem vrun_max {o:Oper} {c:Call} (ho:o.op=.call c) (hb:c.callee=.builtin .max) {x y:Operand} (hl:c.args.toList=[x,y]) {k k':IntKind} {m n:Int} (hx:s.ev x=.prim (.int k m)) (hy:s.ev y=.prim (.int k' n)):VRun Γ o s (.prim (.int k (if n>m then n else m))):=by
 refine vrun_builtin ho hb hl fun a w η hr=>?_
 have h1:=hr.ev x
 have h2:=hr.ev y
 rw[hx] at h1;rw[hy] at h2
 exact⟨_,w,by simp[builtin,Builtin.max_,h1.prim_inv,h2.prim_inv,Builtin.max2],Same.refl w,.prim _⟩
def setVals (cs:List Value) (off:Nat):List Value→List Value
 | []=>cs
 |x::xs=>setVals (cs.set off x) (off+1) xs
theorem length_setVals (xs:List Value):∀(cs:List Value) (off:Nat),(setVals cs off xs).length=cs.length:=by
 induction xs with
 |nil=>intro cs off;rfl
 |cons x xs ih=>intro cs off;simp[setVals,ih]
def RepC (w:World) (F:Nat→Nat→Prop) (η:List Value) (hp:List AObj) (cs:List AV) (vs:List Value):Prop:=
 vs.length=cs.length∧∀(j:Nat) (x:AV) (u:Value),cs[j]?=some x→vs[j]?=some u→Rep w F η hp x u∧u.oneCell'=true
theorem RepC.set {cs:List AV} {vs:List Value} (h:RepC w F η hp cs vs) (off:Nat) {x:AV} {u:Value} (hx:Rep w F η hp x u) (h1:u.oneCell'=true):RepC w F η hp (cs.set off x) (vs.set off u):=by
 refine⟨by simp[h.1],fun j y z hy hz=>?_⟩
 by_cases hj:off=j
 ·subst hj
  rw[List.getElem?_set] at hy hz
  simp only[if_true] at hy hz
  split at hy
  ·rename_i h2
   rw[h.1,if_pos h2] at hz
   obtain rfl:=Option.some.inj hy
   obtain rfl:=Option.some.inj hz
   exact⟨hx,h1⟩
  ·cases hy
 ·rw[getElem?_set_ne hj] at hy hz
  exact h.2 j y z hy hz
theorem RepC.setAll (xs:List AV):∀{us:List Value} {cs:List AV} {vs:List Value} (off:Nat),RepC w F η hp cs vs→RepC w F η hp xs us→RepC w F η hp (setCells cs off xs) (setVals vs off us):=by
 induction xs with
 |nil=>
  intro us cs vs off h hu
  have:us=[]:=List.eq_nil_of_length_eq_zero hu.1
  subst this;exact h
 |cons x xs ih=>
  intro us cs vs off h hu
  match us,hu with
  | [],hu=>exact absurd hu.1 (by simp)
  |u::us,hu=>
   have h0:=hu.2 0 x u rfl rfl
   exact ih (off+1) (h.set off h0.1 h0.2) ⟨by simpa using hu.1,fun j y z hy hz=>hu.2 (j+1) y z (by simpa using hy) (by simpa using hz)⟩
theorem Rep.repC {x:AV} {v:Value} (h:Rep w F η hp x v) (hs:x.stor=true):RepC w F η hp x.cells v.cells.toList:=by
 have one:x.isAgg=false→x.isCell=true:=by cases x<;>simp_all [AV.stor,AV.isAgg,AV.isCell]
 cases h with
 |agg cs vs hl h1 hr=>exact⟨by simpa [AV.cells,Value.cells] using hl,fun j y u hy hu=>⟨hr j y u hy (by simpa [Value.cells] using hu),h1 u (by have:=List.mem_of_getElem? hu;simpa [Value.cells] using this)⟩⟩
 |top v=>simp[AV.stor] at hs
 |tup cs vs hl hr=>simp[AV.stor] at hs
 |prim v=>
  have h1:v.oneCell'=true:=hs
  refine⟨by cases v<;>simp_all [AV.cells,Value.cells,Value.oneCell'],fun j y u hy hu=>?_⟩
  have hv:v.cells=#[v]:=by cases v<;>simp_all [Value.cells,Value.oneCell']
  rw[hv] at hu
  cases j with
  |zero=>simp[AV.cells] at hy hu;subst hy;subst hu;exact⟨.prim _,h1⟩
  |succ j=>simp[AV.cells] at hy
 |own r n v h1 h2=>
  refine⟨by cases v<;>simp_all [AV.cells,Value.cells,Value.oneCell'],fun j y u hy hu=>?_⟩
  have hv:v.cells=#[v]:=by cases v<;>simp_all [Value.cells,Value.oneCell']
  rw[hv] at hu
  cases j with
  |zero=>simp[AV.cells] at hy hu;subst hy;subst hu;exact⟨.own r n _ h1 h2,h1⟩
  |succ j=>simp[AV.cells] at hy
 |fn v h1=>
  refine⟨by cases v<;>simp_all [AV.cells,Value.cells,Value.oneCell'],fun j y u hy hu=>?_⟩
  have hv:v.cells=#[v]:=by cases v<;>simp_all [Value.cells,Value.oneCell']
  rw[hv] at hu
  cases j with
  |zero=>simp[AV.cells] at hy hu;subst hy;subst hu;exact⟨.fn _ h1,h1⟩
  |succ j=>simp[AV.cells] at hy
 |sl0 a=>exact⟨rfl,fun j y u hy hu=>by cases j<;>simp[AV.cells,Value.cells] at hy hu;subst hy;subst hu;exact⟨.sl0 a,rfl⟩⟩
 |clip0 a=>exact⟨rfl,fun j y u hy hu=>by cases j<;>simp[AV.cells,Value.cells] at hy hu;subst hy;subst hu;exact⟨.clip0 a,rfl⟩⟩
 |sl size els b o c f hc hm hl hcell hr=>exact⟨rfl,fun j y u hy hu=>by cases j<;>simp[AV.cells,Value.cells] at hy hu;subst hy;subst hu;exact⟨.sl size els b o c f hc hm hl hcell hr,rfl⟩⟩
 |clip size els b o f hm hl hcell hr=>exact⟨rfl,fun j y u hy hu=>by cases j<;>simp[AV.cells,Value.cells] at hy hu;subst hy;subst hu;exact⟨.clip size els b o f hm hl hcell hr,rfl⟩⟩
 |ptr r off b h=>exact⟨rfl,fun j y u hy hu=>by cases j<;>simp[AV.cells,Value.cells] at hy hu;subst hy;subst hu;exact⟨.ptr r off b h,rfl⟩⟩
 |eptr e off b o f hcell hr=>exact⟨rfl,fun j y u hy hu=>by cases j<;>simp[AV.cells,Value.cells] at hy hu;subst hy;subst hu;exact⟨.eptr e off b o f hcell hr,rfl⟩⟩
 |clo fn cs vs hl hr=>exact⟨rfl,fun j y u hy hu=>by cases j<;>simp[AV.cells,Value.cells] at hy hu;subst hy;subst hu;exact⟨.clo fn cs vs hl hr,rfl⟩⟩
 |mp r b h=>exact⟨rfl,fun j y u hy hu=>by cases j<;>simp[AV.cells,Value.cells] at hy hu;subst hy;subst hu;exact⟨.mp r b h,rfl⟩⟩
 |mptr r n i size b o c h=>simp[AV.stor] at hs
 |mclo fn cs vs hl hr=>exact⟨rfl,fun j y u hy hu=>by cases j<;>simp[AV.cells,Value.cells] at hy hu;subst hy;subst hu;exact⟨.mclo fn cs vs hl hr,rfl⟩⟩
 |mapv b es c h hF l hl=>exact⟨rfl,fun j y u hy hu=>by cases j<;>simp[AV.cells,Value.cells] at hy hu;subst hy;subst hu;exact⟨.mapv b es c h hF l hl,rfl⟩⟩
theorem cells_fold (v:List Value):∀(cs:Array Value) (off k:Nat),((v.zipIdx k).foldl (fun cs (c,j)=>cs.setIfInBounds (off+j) c) cs).toList=setVals cs.toList (off+k) v:=by
 induction v with
 |nil=>intro cs off k;rfl
 |cons x v ih=>
  intro cs off k
  simp only[List.zipIdx_cons,List.foldl_cons]
  rw[ih]
  simp[setVals,Array.toList_setIfInBounds,Nat.add_assoc]
theorem fill_ok {fs:List (Nat×Nat×Bool)} {places:Nat→Option (Nat×Nat)} (hpl:∀(i:Nat) (p:Nat×Nat×Bool),fs[i]?=some p→places i=some (p.1,p.2.1)):
  ∀(parts:List (Nat×AV)) (vparts:List (Nat×Value)) (cs:List AV) (vs:Array Value) (r:List AV),fillCells fs cs parts=some r→RepC w F η hp cs vs.toList→vparts.map (·.1)=parts.map (·.1)→
   (∀(j:Nat) (p:Nat×AV) (q:Nat×Value),parts[j]?=some p→vparts[j]?=some q→Rep w F η hp p.2 q.2)→∃vr,Instr.fill places vs vparts=some vr∧RepC w F η hp r vr.toList:=by
 intro parts
 induction parts with
 |nil=>
  intro vparts cs vs r h hc hm _
  have:vparts=[]:=by cases vparts<;>simp_all
  subst this
  simp only[fillCells,Option.some.injEq] at h
  subst h
  exact⟨vs,rfl,hc⟩
 |cons p parts ih=>
  intro vparts cs vs r h hc hm hr
  cases vparts with
  |nil=>simp at hm
  |cons q vparts=>
   obtain⟨i,x⟩:=p
   obtain⟨i',v⟩:=q
   simp only[List.map_cons,List.cons.injEq] at hm
   obtain⟨rfl,hm'⟩:=hm
   have h0:=hr 0 _ _ rfl rfl
   simp only at h0
   simp only[fillCells] at h
   split at h
   ·rename_i p hp
    split at h
    ·rename_i hcond
     have hrc:=h0.repC hcond.2.2
     have hsz:v.cells.size=p.2.1:=by rw[←hcond.1,←hrc.1];simp
     have hpl':=hpl _ p hp
     have hle:p.1+p.2.1≤vs.size:=by have:=hc.1;simp at this;omega
     have hfold:=cells_fold v.cells.toList vs p.1 0
     rw[Nat.add_zero] at hfold
     obtain⟨vr,e1,e2⟩:=ih vparts (setCells cs p.1 x.cells) ((v.cells.zipIdx).foldl (fun cs (c,j)=>cs.setIfInBounds (p.1+j) c) vs) r h (by
      have e:((v.cells.zipIdx).foldl (fun cs (c,j)=>cs.setIfInBounds (p.1+j) c) vs).toList=setVals vs.toList p.1 v.cells.toList:=by
       rw[←hfold,←Array.foldl_toList];simp
      rw[e]
      exact RepC.setAll x.cells p.1 hc hrc) hm' (fun j p' q' h1 h2=>hr (j+1) p' q' (by simpa using h1) (by simpa using h2))
     refine⟨vr,?_,e2⟩
     simp only[Instr.fill,hpl',hsz]
     rw[if_neg (by simp;omega)]
     exact e1
    ·cases h
   ·cases h
end Go.Proofs.YtjhanogfpkbamaaGreatDoor

namespace Go.Proofs.YtjhanogfpkbamaaGreatDoor
open Go
set_option linter.unusedSimpArgs false
set_option linter.unusedVariables false
variable {G:Type} {Γ:Env G} {s:AS G} {a:Act} {w w':World} {η:List Value} {hp:List AObj} {F:Nat→Nat→Prop} {P:Program}
theorem TyOk.repZero {T:Nat} {d:TD} (h:TyOk P T d):RepC w F η hp (d.zero.cells.toList.map .prim) d.zero.cells.toList:=by
 refine⟨by simp,fun j x u hx hu=>?_⟩
 rw[List.getElem?_map,hu] at hx
 obtain rfl:=Option.some.inj hx
 exact⟨.prim _,h.zone u (by have:=List.mem_of_getElem? hu;simpa using this)⟩
theorem run_mapM_field (fields:List Field) (w:World) (h:∀f:Field,f∈fields→∃i,P.info? f.type=some i):
  (fields.mapM fun f=>do pure (f.offset,←sizeOf f.type):Sem (List (Nat×Nat))).run P w=.ok (fields.map fun f=>(f.offset,((P.info? f.type).map (·.size)).getD 0)) w:=by
 induction fields with
 |nil=>rfl
 |cons f fs ih=>
  obtain⟨i,hi⟩:=h f List.mem_cons_self
  have ih':=ih fun g hg=>h g (List.mem_cons_of_mem _ hg)
  simp only[List.mapM_cons,Sem.run_bind,sizeOf,typeInfo,run_program,Result.andThen_ok,hi,Sem.run_pure,List.map_cons,Option.map_some,Option.getD_some]
  simp only[sizeOf,typeInfo] at ih'
  rw[ih']
  rfl
theorem vrun_build {tab:Nat→Option TD} (htab:TabOk Γ.P tab) {o:Oper} {T:Nat} {parts:Array (Nat×Operand)} (ho:o.op=.build T parts) {d:TD} (hd:tab T=some d) {fs:List (Nat×Nat×Bool)} (hk:d.kind=.strct fs) {r:List AV}
  (h:fillCells fs (d.zero.cells.toList.map .prim) (parts.toList.map fun p=>(p.1,s.ev p.2))=some r):VRun Γ o s (.agg r):=by
 refine vrun_pure fun a w η hr=>?_
 have hty:=htab T d hd
 obtain⟨u,h2,h3⟩:=hty.und
 rw[hk] at h3
 obtain⟨fields,rfl,h3⟩:=h3
 have hinfo:∀f:Field,f∈fields.toList→∃i,Γ.P.info? f.type=some i:=by
  intro f hf
  obtain⟨k,hk'⟩:=List.getElem?_of_mem hf
  have h4:=congrArg (·[k]?) h3
  simp only[List.getElem?_map,hk',Option.map_some] at h4
  cases hfs:fs[k]? with
  |none=>rw[hfs] at h4;cases h4
  |some p=>
   rw[hfs] at h4
   simp only[Option.map_some,Option.some.injEq,Prod.mk.injEq] at h4
   cases hi:Γ.P.info? f.type with
   |none=>rw[hi] at h4;cases h4.2.1
   |some i=>exact⟨i,rfl⟩
 have hpl:∀(i:Nat) (p:Nat×Nat×Bool),fs[i]?=some p→((fields.toList.map fun f=>(f.offset,((Γ.P.info? f.type).map (·.size)).getD 0)).toArray)[i]?=some (p.1,p.2.1):=by
  intro i p hp
  have h4:=congrArg (·[i]?) h3
  simp only[List.getElem?_map,hp,Option.map_some] at h4
  cases hf:fields.toList[i]? with
  |none=>rw[hf] at h4;cases h4
  |some f=>
   rw[hf] at h4
   simp only[Option.map_some,Option.some.injEq,Prod.mk.injEq] at h4
   simp only[List.getElem?_toArray,List.getElem?_map,hf,Option.map_some,h4.1,h4.2.1,Option.getD_some]
 obtain⟨vr,e1,e2⟩:=fill_ok (w:=w) (F:=Fok Γ w η s.hp) (η:=η) (hp:=s.hp) hpl (parts.toList.map fun p=>(p.1,s.ev p.2)) (parts.toList.map fun p=>(p.1,a.eval p.2)) _ d.zero.cells r h hty.repZero (by simp) (fun j p q h1 h2=>by
  simp only[List.getElem?_map] at h1 h2
  cases hj:parts.toList[j]? with
  |none=>rw[hj] at h1;cases h1
  |some x=>
   rw[hj] at h1 h2
   obtain rfl:=Option.some.inj h1
   obtain rfl:=Option.some.inj h2
   exact hr.ev x.2)
 refine⟨.agg vr,?_,.agg r vr (by have:=e2.1;simpa using this) (fun v hv=>?_) fun j x v hx hv=>(e2.2 j x v hx (by simpa using hv)).1⟩
 ·have hm:=run_mapM_field (P:=Γ.P) fields.toList w hinfo
  simp only[execOp,ho,Instr.build,Sem.run_bind,hty.run_zero,Result.andThen_ok,run_underlying h2,Array.mapM_eq_mapM_toList,Sem.run_map,hm,Array.toList_map,e1,Sem.run_pure]
 ·obtain⟨k,hk'⟩:=List.getElem?_of_mem (Array.mem_toList_iff.2 hv)
  have hlt:k<r.length:=by rw[←e2.1];exact(List.getElem?_eq_some_iff.1 hk').1
  exact(e2.2 k r[k] v (by simp[hlt]) hk').2
theorem vrun_buildA {tab:Nat→Option TD} (htab:TabOk Γ.P tab) {o:Oper} {T:Nat} {parts:Array (Nat×Operand)} (ho:o.op=.build T parts) {d:TD} (hd:tab T=some d) {n:Nat} (hk:d.kind=.arr n) {r:List AV}
  (h:fillCells (arrFs n) (d.zero.cells.toList.map .prim) (parts.toList.map fun p=>(p.1,s.ev p.2))=some r):VRun Γ o s (.agg r):=by
 refine vrun_pure fun a w η hr=>?_
 have hty:=htab T d hd
 obtain⟨u,h2,h3⟩:=hty.und
 rw[hk] at h3
 obtain⟨e,i0,rfl,hi0,hi1⟩:=h3
 have hpl:∀(i:Nat) (p:Nat×Nat×Bool),(arrFs n)[i]?=some p→(fun i=>some (i*1,1):Nat→Option (Nat×Nat)) i=some (p.1,p.2.1):=by
  intro i p hp
  simp only[arrFs,List.getElem?_map] at hp
  obtain⟨j,hj,rfl⟩:=Option.map_eq_some_iff.1 hp
  obtain rfl:j=i:=by
   obtain⟨h5,h6⟩:=List.getElem?_eq_some_iff.1 hj
   rw[←h6];simp
  simp
 obtain⟨vr,e1,e2⟩:=fill_ok (w:=w) (F:=Fok Γ w η s.hp) (η:=η) (hp:=s.hp) hpl (parts.toList.map fun p=>(p.1,s.ev p.2)) (parts.toList.map fun p=>(p.1,a.eval p.2)) _ d.zero.cells r h hty.repZero (by simp) (fun j p q h1 h2=>by
  simp only[List.getElem?_map] at h1 h2
  cases hj:parts.toList[j]? with
  |none=>rw[hj] at h1;cases h1
  |some x=>
   rw[hj] at h1 h2
   obtain rfl:=Option.some.inj h1
   obtain rfl:=Option.some.inj h2
   exact hr.ev x.2)
 refine⟨.agg vr,?_,.agg r vr (by have:=e2.1;simpa using this) (fun v hv=>?_) fun j x v hx hv=>(e2.2 j x v hx (by simpa using hv)).1⟩
 ·simp only[execOp,ho,Instr.build,Sem.run_bind,hty.run_zero,Result.andThen_ok,run_underlying h2,sizeOf,typeInfo,run_program,hi0,Sem.run_pure,hi1,Array.toList_map,e1]
 ·obtain⟨k,hk'⟩:=List.getElem?_of_mem (Array.mem_toList_iff.2 hv)
  have hlt:k<r.length:=by rw[←e2.1];exact(List.getElem?_eq_some_iff.1 hk').1
  exact(e2.2 k r[k] v (by simp[hlt]) hk').2
theorem getElem?_setVals (us:List Value):∀(cs:List Value) (off t:Nat),off+us.length≤cs.length→(setVals cs off us)[t]?=if off≤t∧t<off+us.length then us[t-off]? else cs[t]?:=by
 induction us with
 |nil=>
  intro cs off t _
  simp only[setVals,List.length_nil,Nat.add_zero]
  rw[if_neg (by omega)]
 |cons u us ih=>
  intro cs off t h
  simp only[List.length_cons] at h
  simp only[setVals,List.length_cons]
  rw[ih (cs.set off u) (off+1) t (by simp;omega)]
  by_cases h1:off+1≤t∧t<off+1+us.length
  ·rw[if_pos h1,if_pos (by omega)]
   have:t-off=(t-(off+1))+1:=by omega
   rw[this,List.getElem?_cons_succ]
  ·rw[if_neg h1]
   by_cases h2:t=off
   ·subst h2
    rw[if_pos (by omega),Nat.sub_self,List.getElem?_cons_zero,List.getElem?_set]
    simp;omega
   ·rw[if_neg (by omega),getElem?_set_ne (fun e=>h2 e.symm)]
theorem foldl_setVals (v:Array Value) (cs:Array Value) (off:Nat):(v.zipIdx.foldl (fun cs (c,j)=>cs.setIfInBounds (off+j) c) cs).toList=setVals cs.toList off v.toList:=by
 have h:=cells_fold v.toList cs off 0
 rw[Nat.add_zero] at h
 rw[←h,←Array.foldl_toList]
 simp
theorem fill_slice {size:Nat}:∀(l:List Value) (k:Nat) (parts:List (Nat×Value)) (cs:Array Value),parts.map (·.2)=l→(∀(j:Nat) (p:Nat×Value),parts[j]?=some p→p.1=k+j)→(∀v:Value,v∈l→v.cells.size=size)→cs.size=(k+l.length)*size→
  ∃r,Instr.fill (fun i=>some (i*size,size)) cs parts=some r∧r.size=cs.size∧(∀t,t<k*size→r.toList[t]?=cs.toList[t]?)∧
   ∀(i:Nat) (v:Value) (j:Nat) (u:Value),l[i]?=some v→v.cells.toList[j]?=some u→r.toList[(k+i)*size+j]?=some u:=by
 intro l
 induction l with
 |nil=>
  intro k parts cs hm _ _ _
  have:parts=[]:=by cases parts<;>simp_all
  subst this
  exact⟨cs,rfl,rfl,fun _ _=>rfl,fun i v j u hi=>by simp at hi⟩
 |cons v l ih=>
  intro k parts cs hm hidx hsz hcs
  cases parts with
  |nil=>simp at hm
  |cons p parts=>
   obtain⟨i0,v0⟩:=p
   simp only[List.map_cons,List.cons.injEq] at hm
   obtain⟨rfl,hm'⟩:=hm
   have hi0:i0=k:=by have:=hidx 0 _ rfl;simpa using this
   subst hi0
   have hv0:=hsz v0 List.mem_cons_self
   simp only[List.length_cons] at hcs
   have hle:i0*size+size≤cs.size:=by
    rw[hcs]
    have:(i0+(l.length+1))*size=i0*size+size+l.length*size:=by rw[Nat.add_mul,Nat.add_mul];omega
    omega
   have hfold:=foldl_setVals v0.cells cs (i0*size)
   obtain⟨r,e1,e2,e3,e4⟩:=ih (i0+1) parts (v0.cells.zipIdx.foldl (fun cs (c,j)=>cs.setIfInBounds (i0*size+j) c) cs) hm'
    (fun j p hj=>by have:=hidx (j+1) p (by simpa using hj);omega) (fun v hv=>hsz v (List.mem_cons_of_mem _ hv))
    (by rw[←Array.length_toList,hfold,length_setVals,Array.length_toList,hcs];congr 1;omega)
   have hlen:(v0.cells.zipIdx.foldl (fun cs (c,j)=>cs.setIfInBounds (i0*size+j) c) cs).size=cs.size:=by
    rw[←Array.length_toList,hfold,length_setVals,Array.length_toList]
   have hmul:(i0+1)*size=i0*size+size:=by rw[Nat.add_mul];omega
   refine⟨r,?_,by rw[e2,hlen],fun t ht=>?_,fun i v j u hi hj=>?_⟩
   ·simp only[Instr.fill,hv0]
    rw[if_neg (by simp;omega)]
    exact e1
   ·rw[e3 t (by omega),hfold,getElem?_setVals _ _ _ _ (by simp;omega),if_neg (by omega)]
   ·cases i with
    |zero=>
     simp only[List.getElem?_cons_zero,Option.some.injEq] at hi
     subst hi
     have hj':j<size:=by rw[←hv0,←Array.length_toList];exact(List.getElem?_eq_some_iff.1 hj).1
     rw[Nat.add_zero,e3 _ (by omega),hfold,getElem?_setVals _ _ _ _ (by simp;omega),if_pos ⟨by omega,by rw[Array.length_toList,hv0];omega⟩]
     rw[Nat.add_sub_cancel_left];exact hj
    |succ i=>
     have:=e4 i v j u (by simpa using hi) hj
     rw[show i0+(i+1)=i0+1+i from by omega]
     exact this
theorem idxOk_spec:∀(l:List (Nat×Operand)) (k:Nat),idxOk k l=true→∀(j:Nat) (p:Nat×Operand),l[j]?=some p→p.1=k+j:=by
 intro l
 induction l with
 |nil=>intro k _ j p h;simp at h
 |cons q l ih=>
  intro k h j p hj
  obtain⟨i,x⟩:=q
  simp only[idxOk,Bool.and_eq_true,beq_iff_eq] at h
  cases j with
  |zero=>simp only[List.getElem?_cons_zero,Option.some.injEq] at hj;subst hj;simpa using h.1
  |succ j=>have:=ih (k+1) h.2 j p (by simpa using hj);omega
theorem lensOk_spec {size:Nat}:∀(l:List AV),lensOk size l→∀x:AV,x∈l→x.cells.length=size∧x.stor=true:=by
 intro l
 induction l with
 |nil=>intro _ x h;cases h
 |cons y l ih=>
  intro h x hx
  rcases List.mem_cons.1 hx with rfl|h1
  ·exact h.1
  ·exact ih h.2 x h1
theorem fok_new {T:TypeId} {cs:Array Value} (h:Rel Γ s a w η) (k:Nat) (hX:∀b o,Γ.No b o→b<Γ.w0.heap.size):Fok Γ (w.alloc (.cells cs T)) η s.hp w.heap.size k:=by
 refine⟨.inr (.inl h.keeps.size),by simp,fun hx=>by have:=hX _ _ hx;have:=h.keeps.size;omega,(objF_iff _ _).2 fun r v hv hb=>?_⟩
 have hr':r<s.hp.length:=by rw[←h.heap.len];exact(List.getElem?_eq_some_iff.1 hv).1
 refine⟨s.hp[r],by simp[hr'],?_⟩
 have ho:s.hp[r]?=some s.hp[r]:=by simp[hr']
 cases hk:s.hp[r] with
 |dead=>exact True.intro
 |_=>
  rw[hk] at ho
  have:=h.heap.block ho True.intro hv hb
  omega
theorem vrun_buildSlice (hok:Γ.Ok) {tab:Nat→Option TD} (htab:TabOk Γ.P tab) {o:Oper} {T n e:Nat} {parts:Array (Nat×Operand)} (ho:o.op=.buildSlice T n parts) {d d':TD} (hd:tab T=some d) (hk:d.kind=.slc e) (hd':tab e=some d')
  (hn:n=parts.toList.length) (hidx:idxOk 0 parts.toList=true) (hn24:n≤16777216) (hbig:n*d'.size≤16777216) (hl:lensOk d'.size (parts.toList.map fun p=>(s.ev p.2).toData s.hp)):VRun Γ o s (.clip (parts.toList.map fun p=>(s.ev p.2).toData s.hp)):=by
 intro a w η hr
 have hty:=htab e d' hd'
 have hu:Γ.P.underlying T=some (.slice e):=by
  obtain⟨u,h2,h3⟩:=(htab T d hd).und
  rw[hk] at h3
  rw[h2];exact congrArg some h3
 have hls:=lensOk_spec _ hl
 have hrep:∀(j:Nat) (x:AV) (v:Value),(parts.toList.map fun p=>(s.ev p.2).toData s.hp)[j]?=some x→(parts.toList.map fun p=>a.eval p.2)[j]?=some v→Rep w (Fok Γ w η s.hp) [] [] x v:=by
  intro j x v h1 h2
  simp only[List.getElem?_map] at h1 h2
  cases hj:parts.toList[j]? with
  |none=>rw[hj] at h1;cases h1
  |some p=>
   rw[hj] at h1 h2
   obtain rfl:=Option.some.inj h1
   obtain rfl:=Option.some.inj h2
   exact toData_rep hr.heap hr.mine (hr.ev p.2)
 have hlenE:(parts.toList.map fun p=>(s.ev p.2).toData s.hp).length=n:=by simp[hn]
 have hlenV:(parts.toList.map fun p=>a.eval p.2).length=n:=by simp[hn]
 have hrc:∀(j:Nat) (x:AV) (v:Value),(parts.toList.map fun p=>(s.ev p.2).toData s.hp)[j]?=some x→(parts.toList.map fun p=>a.eval p.2)[j]?=some v→RepC w (Fok Γ w η s.hp) [] [] x.cells v.cells.toList:=
  fun j x v h1 h2=>(hrep j x v h1 h2).repC (hls x (List.mem_of_getElem? h1)).2
 have hvsz:∀v:Value,v∈(parts.toList.map fun p=>a.eval p.2)→v.cells.size=d'.size:=by
  intro v hv
  obtain⟨j,hj⟩:=List.getElem?_of_mem hv
  have hlt:j<n:=by rw[←hlenV];exact(List.getElem?_eq_some_iff.1 hj).1
  have hx:(parts.toList.map fun p=>(s.ev p.2).toData s.hp)[j]?=some (parts.toList.map fun p=>(s.ev p.2).toData s.hp)[j]:=by rw[List.getElem?_eq_getElem (by rw[hlenE];exact hlt)]
  have:=(hrc j _ v hx hj).1
  rw[Array.length_toList] at this
  rw[this]
  exact(hls _ (List.mem_of_getElem? hx)).1
 have fin:∀cs0:Array Value,cs0.size=n*d'.size→∃r,Instr.fill (fun i=>some (i*d'.size,d'.size)) cs0 (parts.toList.map fun p=>(p.1,a.eval p.2))=some r∧
   Rep (w.alloc (.cells r e)) (Fok Γ (w.alloc (.cells r e)) η s.hp) η s.hp (.clip (parts.toList.map fun p=>(s.ev p.2).toData s.hp)) (.slice (some ⟨w.heap.size,0,none⟩) n n):=by
  intro cs0 hcs
  obtain⟨r,e1,e2,e3,e4⟩:=fill_slice (parts.toList.map fun p=>a.eval p.2) 0 (parts.toList.map fun p=>(p.1,a.eval p.2)) cs0 (by simp[Function.comp_def]) (fun j p hj=>by
   rw[List.getElem?_map] at hj
   cases hj':parts.toList[j]? with
   |none=>rw[hj'] at hj;cases hj
   |some q=>
    rw[hj'] at hj
    obtain rfl:=Option.some.inj hj
    exact idxOk_spec _ _ hidx j q hj') hvsz (by rw[hlenV,Nat.zero_add];exact hcs)
  refine⟨r,e1,?_⟩
  have he:=ext_same (Γ:=Γ) (η:=η) (hp:=s.hp) (Same.alloc w (.cells r e)) (fun _ _=>fok_lt)
  have hget:∀(i:Nat) (el:AV) (j:Nat) (x:AV),(parts.toList.map fun p=>(s.ev p.2).toData s.hp)[i]?=some el→el.cells[j]?=some x→∃u,r[i*d'.size+j]?=some u∧Rep w (Fok Γ w η s.hp) [] [] x u∧u.oneCell'=true:=by
   intro i el j x hi hj
   have hlt:i<n:=by rw[←hlenE];exact(List.getElem?_eq_some_iff.1 hi).1
   have hv:(parts.toList.map fun p=>a.eval p.2)[i]?=some (parts.toList.map fun p=>a.eval p.2)[i]:=by rw[List.getElem?_eq_getElem (by rw[hlenV];exact hlt)]
   have h1:=hrc i el _ hi hv
   have hj':j<(parts.toList.map fun p=>a.eval p.2)[i].cells.toList.length:=by rw[h1.1];exact(List.getElem?_eq_some_iff.1 hj).1
   have hu:(parts.toList.map fun p=>a.eval p.2)[i].cells.toList[j]?=some ((parts.toList.map fun p=>a.eval p.2)[i].cells.toList[j]):=by rw[List.getElem?_eq_getElem hj']
   have h2:=e4 i _ j _ hv hu
   rw[Nat.zero_add] at h2
   exact⟨_,by simpa using h2,h1.2 j x _ hj hu⟩
  have hm:(parts.toList.map fun p=>(s.ev p.2).toData s.hp).length≤maxLen:=by
   rw[hlenE];simp only[maxLen];omega
  have:=Rep.clip (w:=w.alloc (.cells r e)) (F:=Fok Γ (w.alloc (.cells r e)) η s.hp) (η:=η) (hp:=s.hp) d'.size (parts.toList.map fun p=>(s.ev p.2).toData s.hp) w.heap.size 0 (fun i j=>(r[i*d'.size+j]?).getD undef) hm
   (fun i el hi=>(hls el (List.mem_of_getElem? hi)).1) (fun i el j x hi hj=>by
    obtain⟨u,h1,_,h3⟩:=hget i el j x hi hj
    rw[h1]
    refine⟨?_,fok_new hr _ (fun _ _=>hok.no),h3⟩
    rw[Nat.zero_add,World.cell?_alloc_new];exact h1) (fun i el j x hi hj=>by
    obtain⟨u,h1,h2,_⟩:=hget i el j x hi hj
    rw[h1];exact h2.ext he.ext0.ext)
  rw[hlenE] at this
  exact this
 have hb:¬n*d'.size>2 ^ 24:=by omega
 by_cases hz:n*d'.size=0
 ·obtain⟨r,e1,e2⟩:=fin ((Array.range (n*d'.size)).map ((#[]:Array Value)[· % (#[]:Array Value).size]!)) (by simp)
  refine⟨_,_,?_,Same.alloc w (.cells r e),e2⟩
  simp only[execOp,ho,Instr.buildSlice,Sem.run_bind,run_underlying hu,Result.andThen_ok,hty.run_sizeOf,Sem.run_ite,if_neg hb,Sem.run_pure,if_pos hz,Array.toList_map,e1,newRow,run_newObj]
  rfl
 ·obtain⟨r,e1,e2⟩:=fin ((Array.range (n*d'.size)).map (d'.zero.cells[· % d'.zero.cells.size]!)) (by simp)
  refine⟨_,_,?_,Same.alloc w (.cells r e),e2⟩
  simp only[execOp,ho,Instr.buildSlice,Sem.run_bind,run_underlying hu,Result.andThen_ok,hty.run_sizeOf,Sem.run_ite,if_neg hb,Sem.run_pure,if_neg hz,hty.run_zero,Array.toList_map,e1,newRow,run_newObj]
  rfl
end Go.Proofs.YtjhanogfpkbamaaGreatDoor

namespace Go.Proofs.YtjhanogfpkbamaaGreatDoor
open Go
set_option linter.unusedSimpArgs false
set_option linter.unusedVariables false
variable {G:Type} {Γ:Env G} {s:AS G} {a:Act} {w w':World} {η:List Value} {hp:List AObj} {F:Nat→Nat→Prop} {P:Program}
theorem boundOf_eval (h:Rel Γ s a w η) {d n:Int} {x:Operand} (hb:boundOf s.ev d (some x)=some n):∃k,a.eval x=.int k n:=by
 unfold boundOf at hb
 simp only at hb
 split at hb
 ·rename_i k m he
  obtain rfl:=Option.some.inj hb
  have hx:=h.ev x
  rw[he] at hx
  exact⟨k,hx.prim_inv⟩
 ·cases hb
theorem run_sliceBound (w:World) {v:Value} {k:IntKind} {n:Int} (hv:v=.int k n) {y:Nat} (h0:0≤n) (h1:n≤y) (code:BoundsCode):(Instr.sliceBound v y code).run P w=.ok n.toNat w:=by
 subst hv
 have:0≤n∧n≤(y:Int):=⟨h0,h1⟩
 simp[Instr.sliceBound,asIntOf,this]
theorem Rep.sl_part {els:List AV} {b o c size:Nat} {x:Value} (hsz:∀y:AV,y∈els→y.cells.length=size) (hx:Rep w F η hp (.sl els) x) (hv:x=.slice (some ⟨b,o,none⟩) els.length c) {l h m:Nat} (hlh:l≤h) (hh:h≤els.length) (hm:h≤m) (hmc:m≤c):
  Rep w F η hp (.sl ((els.take h).drop l)) (.slice (some ⟨b,if m=l then o else o+l*size,none⟩) (h-l) (m-l))∧(h=m→Rep w F η hp (.clip ((els.take h).drop l)) (.slice (some ⟨b,if m=l then o else o+l*size,none⟩) (h-l) (h-l))):=by
 have hlen:((els.take h).drop l).length=h-l:=by simp;omega
 cases hx with
 |sl0 a=>
  simp only[List.length_nil,Value.slice.injEq,true_and] at hv
  obtain⟨rfl,rfl⟩:=hv
  obtain rfl:m=0:=by omega
  obtain rfl:h=0:=by omega
  obtain rfl:l=0:=by omega
  exact⟨.sl0 _,fun _=>.clip0 _⟩
 |sl size' _ b' o' c' f hc hm' hl hcell hrep=>
  simp only[Value.slice.injEq,Option.some.injEq,Addr.mk.injEq,and_true,true_and] at hv
  obtain⟨⟨rfl,rfl⟩,rfl⟩:=hv
  have hget:∀(i:Nat) (e:AV),((els.take h).drop l)[i]?=some e→els[l+i]?=some e∧m≠l∧size'=size:=by
   intro i e hi
   have hlt:=(List.getElem?_eq_some_iff.1 hi).1
   rw[hlen] at hlt
   rw[List.getElem?_drop,List.getElem?_take,if_pos (by omega)] at hi
   exact⟨hi,by omega,by rw[←hl _ _ hi];exact hsz e (List.mem_of_getElem? hi)⟩
  have hbase:∀(i j:Nat),m≠l→size'=size→(if m=l then o' else o'+l*size)+i*size+j=o'+(l+i)*size'+j:=by
   intro i j h1 h2
   rw[if_neg h1,h2,Nat.add_mul];omega
  have key:∀c2,h-l≤c2→c2≤maxLen→Rep w F η hp (.sl ((els.take h).drop l)) (.slice (some ⟨b',if m=l then o' else o'+l*size,none⟩) (h-l) c2)∧(c2=h-l→Rep w F η hp (.clip ((els.take h).drop l)) (.slice (some ⟨b',if m=l then o' else o'+l*size,none⟩) (h-l) (h-l))):=by
   intro c2 h1 h2
   have p1:∀(i:Nat) (e:AV),((els.take h).drop l)[i]?=some e→e.cells.length=size:=fun i e hi=>hsz e (List.mem_of_getElem? (hget i e hi).1)
   have p2:∀(i:Nat) (e:AV) (j:Nat) (x:AV),((els.take h).drop l)[i]?=some e→e.cells[j]?=some x→
     w.cell? ⟨b',(if m=l then o' else o'+l*size)+i*size+j,none⟩=some (f (l+i) j)∧F b' ((if m=l then o' else o'+l*size)+i*size+j)∧(f (l+i) j).oneCell'=true:=by
    intro i e j x hi hj
    obtain⟨g1,g2,g3⟩:=hget i e hi
    rw[hbase i j g2 g3]
    exact hcell _ _ _ _ g1 hj
   have p3:∀(i:Nat) (e:AV) (j:Nat) (x:AV),((els.take h).drop l)[i]?=some e→e.cells[j]?=some x→Rep w F [] [] x (f (l+i) j):=
    fun i e j x hi hj=>hrep _ _ _ _ (hget i e hi).1 hj
   have q1:=Rep.sl (η:=η) (hp:=hp) size ((els.take h).drop l) b' (if m=l then o' else o'+l*size) c2 (fun i j=>f (l+i) j) (by rw[hlen];exact h1) h2 p1 p2 p3
   rw[hlen] at q1
   refine⟨q1,fun _=>?_⟩
   have q2:=Rep.clip (η:=η) (hp:=hp) size ((els.take h).drop l) b' (if m=l then o' else o'+l*size) (fun i j=>f (l+i) j) (by rw[hlen];omega) p1 p2 p3
   rw[hlen] at q2
   exact q2
  refine⟨(key (m-l) (by omega) (by omega)).1,fun e=>?_⟩
  exact(key (m-l) (by omega) (by omega)).2 (by omega)
theorem vrun_slice {tab:Nat→Option TD} (htab:TabOk Γ.P tab) {o:Oper} {T e:Nat} {x:Operand} {lo hi mx:Option Operand} (ho:o.op=.slice T x lo hi mx) {d d':TD} (hd:tab T=some d) (hk:d.kind=.slc e) (hd':tab e=some d') {els:List AV} (hels:(s.ev x).asSl s.hp=some els)
  {l h:Int} (hl:boundOf s.ev 0 lo=some l) (hh:boundOf s.ev els.length hi=some h) (h0:0≤l) (h1:l≤h) (h2:h≤els.length) (hsz:∀y:AV,y∈els→y.cells.length=d'.size) {r:AV}
  (hr:(mx=none∧r=.sl ((els.take h.toNat).drop l.toNat))∨(∃y m,mx=some y∧hi.isSome∧boundOf s.ev 0 (some y)=some m∧h=m∧r=.clip ((els.take h.toNat).drop l.toNat))):VRun Γ o s r:=by
 refine vrun_pure fun a w η hrel=>?_
 have hx:=asSl_rep hrel.heap hrel.mine (hrel.ev x) hels
 have hu:Γ.P.underlying T=some (.slice e):=by
  obtain⟨u,q2,q3⟩:=(htab T d hd).und
  rw[hk] at q3
  rw[q2];exact congrArg some q3
 have hlv:lo=none∧l=0∨∃y k,lo=some y∧a.eval y=.int k l:=by
  cases lo with
  |none=>simp[boundOf] at hl;exact .inl ⟨rfl,hl.symm⟩
  |some y=>obtain⟨k,hk⟩:=boundOf_eval hrel hl;exact .inr ⟨y,k,rfl,hk⟩
 have hhv:hi=none∧h=els.length∨∃y k,hi=some y∧a.eval y=.int k h:=by
  cases hi with
  |none=>simp[boundOf] at hh;exact .inl ⟨rfl,hh.symm⟩
  |some y=>obtain⟨k,hk⟩:=boundOf_eval hrel hh;exact .inr ⟨y,k,rfl,hk⟩
 have hcap:∃ad c,a.eval x=.slice ad els.length c∧els.length≤c:=by
  generalize a.eval x=v at hx
  cases hx with
  |sl0 a=>exact⟨a,0,rfl,Nat.le_refl _⟩
  |sl size els b o c f hc hm hl hcell hr=>exact⟨_,c,rfl,hc⟩
 obtain⟨ad,c,hxv,hlc⟩:=hcap
 have hsize:=(htab e d' hd').run_sizeOf w
 have hb:∃m:Nat,(Instr.sliceBounds true els.length c (lo.map a.eval) (hi.map a.eval) (mx.map a.eval)).run Γ.P w=.ok (l.toNat,h.toNat,m) w∧h.toNat≤m∧m≤c∧(mx≠none→m=h.toNat):=by
  rcases hr with⟨rfl,_⟩|⟨y,m,rfl,his,hm,rfl,_⟩
  ·refine⟨c,?_,by omega,Nat.le_refl _,fun h=>(h rfl).elim⟩
   rcases hhv with⟨rfl,rfl⟩|⟨y,k,rfl,hv⟩
   ·rcases hlv with⟨rfl,rfl⟩|⟨y0,k0,rfl,hv0⟩
    ·simp[Instr.sliceBounds]
    ·have hs0:=run_sliceBound (P:=Γ.P) w hv0 (y:=els.length) h0 (by omega) .sliceB
     simp[Instr.sliceBounds,hs0]
   ·have hs:=run_sliceBound (P:=Γ.P) w hv (y:=c) (by omega) (by omega) .sliceAcap
    rcases hlv with⟨rfl,rfl⟩|⟨y0,k0,rfl,hv0⟩
    ·simp[Instr.sliceBounds,hs]
    ·have hs0:=run_sliceBound (P:=Γ.P) w hv0 (y:=h.toNat) h0 (by omega) .sliceB
     simp[Instr.sliceBounds,hs,hs0]
  ·obtain⟨k2,hv2⟩:=boundOf_eval hrel hm
   refine⟨h.toNat,?_,Nat.le_refl _,by omega,fun _=>rfl⟩
   rcases hhv with⟨rfl,_⟩|⟨y',k,rfl,hv⟩
   ·simp at his
   ·have hs2:=run_sliceBound (P:=Γ.P) w hv2 (y:=c) (by omega) (by omega) .slice3Acap
    have hs:=run_sliceBound (P:=Γ.P) w hv (y:=h.toNat) (by omega) (by omega) .slice3B
    rcases hlv with⟨rfl,rfl⟩|⟨y0,k0,rfl,hv0⟩
    ·simp[Instr.sliceBounds,hs,hs2]
    ·have hs0:=run_sliceBound (P:=Γ.P) w hv0 (y:=h.toNat) h0 (by omega) .slice3C
     simp[Instr.sliceBounds,hs,hs2,hs0]
 obtain⟨m,hrun,hm1,hm2,hm3⟩:=hb
 have hex:(execOp a.eval o).run Γ.P w=.ok (.value (.slice (if m=l.toNat then ad else ad.map (·.add (l.toNat*d'.size))) (h.toNat-l.toNat) (m-l.toNat))) w:=by
  simp only[execOp,ho,Instr.sliceAt,Sem.run_bind,run_underlying hu,Result.andThen_ok,Instr.slice,hxv,hrun,hsize,Sem.run_pure]
 refine⟨_,hex,?_⟩
 have hcase:(els=[]∧c=0)∨∃b o,ad=some ⟨b,o,none⟩:=by
  have hx':=hx
  rw[hxv] at hx'
  generalize hv:Value.slice ad els.length c=v at hx'
  cases hx' with
  |sl0 a=>simp at hv;exact .inl ⟨rfl,hv.2⟩
  |sl size els b o c f hc hm hl hcell hr=>simp at hv;exact .inr ⟨b,o,hv.1⟩
 rw[hxv] at hx
 rcases hcase with⟨rfl,rfl⟩|⟨b,o',rfl⟩
 ·have e1:l.toNat=0:=by simp at h2;omega
  have e2:h.toNat=0:=by simp at h2;omega
  have e3:m=0:=by omega
  rw[e1,e2,e3]
  simp only[if_true,Nat.sub_self]
  rcases hr with⟨_,rfl⟩|⟨_,_,_,_,_,_,rfl⟩
  ·simpa using Rep.sl0 ad
  ·simpa using Rep.clip0 ad
 ·have hxv:=hxv
  obtain⟨q1,q2⟩:=hx.sl_part hsz rfl (l:=l.toNat) (h:=h.toNat) (m:=m) (by omega) (by omega) hm1 hm2
  have hval:(if m=l.toNat then some (⟨b,o',none⟩:Addr) else(some (⟨b,o',none⟩:Addr)).map (·.add (l.toNat*d'.size)))=some ⟨b,if m=l.toNat then o' else o'+l.toNat*d'.size,none⟩:=by
   split<;>simp[Addr.add_lit]
  rw[hval]
  rcases hr with⟨_,rfl⟩|⟨y,m',hmx,_,_,_,rfl⟩
  ·exact q1
  ·have:=hm3 (by rw[hmx];simp)
   subst this
   exact q2 rfl
theorem ba_beq (a b:ByteArray):(a==b)=decide (a=b):=by
 obtain⟨a⟩:=a;obtain⟨b⟩:=b
 show (a==b)=_
 by_cases h:a=b
 ·subst h;simp
 ·have:¬(ByteArray.mk a=ByteArray.mk b):=fun e=>h (by injection e)
  rw[decide_eq_false this];simpa using h
structure KeyK {κ:Type} [DecidableEq κ] (td:TypeDesc) (kv:κ→Value) (me:List (κ×Value)→ME):Prop where
 me:∀l,imap (me l)=l.map fun p=>(kv p.1,p.2)
 same:∀a b,Instr.sameNow td (kv a) (kv b)=some (decide (a=b))
 check:∀(P:Program) (kt:TypeId) (e:Bool) (v:Value) (w:World),P.underlying kt=some td→(Instr.checkKey e 10000 kt v).run P w=.ok () w
 bits:∀a,Instr.sameBits 10000 (kv a) (kv a)=true
theorem findNow_imap {κ:Type} [DecidableEq κ] {td:TypeDesc} {kv:κ→Value} {me:List (κ×Value)→ME} (K:KeyK td kv me) {a:κ}:∀(es:List MapEntry) (l:List (κ×Value)) (i:Nat),(es.map fun e=>(e.key,e.val))=l.map (fun p=>(kv p.1,p.2))→
  (∃r,Instr.findNow td (kv a) es i=some r∧r.map (·.2)=mapGet l a)∧
   (mapGet l a=none→Instr.findNow td (kv a) es i=some none):=by
 intro es
 induction es with
 |nil=>
  intro l i h
  cases l with
  |nil=>exact⟨⟨none,rfl,rfl⟩,fun _=>rfl⟩
  |cons p l=>simp at h
 |cons e es ih=>
  intro l i h
  cases l with
  |nil=>simp at h
  |cons p l=>
   obtain⟨key,v⟩:=p
   simp only[List.map_cons,List.cons.injEq,Prod.mk.injEq] at h
   obtain⟨⟨h1,h2⟩,h3⟩:=h
   obtain⟨⟨r,g1,g2⟩,g3⟩:=ih l (i+1) h3
   simp only[Instr.findNow,h1,K.same,mapGet]
   by_cases hak:a=key
   ·subst hak
    simp[h2]
   ·simp only[if_neg hak,decide_eq_false hak]
    exact⟨⟨r,g1,g2⟩,g3⟩
theorem run_checkKey_int' {kt:TypeId} {k:IntKind} (hk:P.underlying kt=some (.int k)) (e:Bool) (n:Nat) (v:Value) (w:World):(Instr.checkKey e (n+1) kt v).run P w=.ok () w:=by
 unfold Instr.checkKey
 simp only[Sem.run_bind,run_underlying hk,Result.andThen]
 cases v<;>rfl
theorem keyI (k:IntKind):KeyK (.int k) (fun a:Int=>.int .i64 a) .i:=
 ⟨fun _=>rfl,fun a b=>by simp[Instr.sameNow];rfl,fun P kt e v w hk=>run_checkKey_int' hk e 9999 v w,fun a=>by simp[Instr.sameBits]⟩
theorem keyS:KeyK .string (fun a:ByteArray=>.string a) .s:=
 ⟨fun _=>rfl,fun a b=>by simp only[Instr.sameNow,ba_beq],fun P kt e v w hk=>by
  unfold Instr.checkKey
  simp only[Sem.run_bind,run_underlying hk,Result.andThen]
  cases v<;>rfl,fun a=>by simp[Instr.sameBits,ba_beq]⟩
theorem vrun_lookup {κ:Type} [DecidableEq κ] {td:TypeDesc} {kv:κ→Value} {me:List (κ×Value)→ME} (K:KeyK td kv me) {tab:Nat→Option TD} (htab:TabOk Γ.P tab) {o:Oper} {T kt et:Nat} {m key:Operand} {ok:Bool} (ho:o.op=.lookup T m key ok) {d dk de:TD} (hd:tab T=some d) (hk:d.kind=.mapk kt et) (hdk:tab kt=some dk) (hik:∀u,dk.kind.fits Γ.P u→u=td) (hde:tab et=some de)
  {es:List (κ×Value)} (hm:(s.ev m).asMap s.hp=some (me es)) {a:κ} (hkey:s.ev key=.prim (kv a)):VRun Γ o s (lookVal es de.zero a ok):=by
 refine vrun_pure fun act w η hr=>?_
 have hu:Γ.P.underlying T=some (.map kt et):=by
  obtain⟨u,q2,q3⟩:=(htab T d hd).und
  rw[hk] at q3
  rw[q2];exact congrArg some q3
 have huk:Γ.P.underlying kt=some td:=by
  obtain⟨u,q2,q3⟩:=(htab kt dk hdk).und
  rw[q2];exact congrArg some (hik u q3)
 have hkr:=hr.ev key
 rw[hkey] at hkr
 have hkv:=hkr.prim_inv
 have hmr:=hr.ev m
 have hmap:∃b en c,act.eval m=.map (some b)∧w.heap[b]?=some (.map en c)∧mapPairs en=imap (me es):=by
  generalize s.ev m=x at hm hmr
  cases x with
  |mapv l=>
   simp only[AV.asMap,Option.some.injEq] at hm
   subst hm
   generalize act.eval m=v at hmr
   cases hmr with
   |mapv b en c h1 h2 _ hl=>exact⟨b,en,c,rfl,h1,hl⟩
  |mp r=>
   simp only[AV.asMap] at hm
   split at hm
   ·rename_i es' hes
    obtain rfl:=Option.some.inj hm
    generalize act.eval m=v at hmr
    cases hmr with
    |mp _ b hη=>
     obtain⟨b',en,c,e1,e2,e3⟩:=hr.heap.obj r _ _ hes hη
     simp only[Value.map.injEq,Option.some.injEq] at e1
     subst e1
     exact⟨b,en,c,rfl,e2,e3⟩
   ·cases hm
  |_=>simp[AV.asMap] at hm
 obtain⟨b,en,c,hmv,hheap,hpairs⟩:=hmap
 obtain⟨⟨r,g1,g2⟩,g3⟩:=findNow_imap K (a:=a) en.toList es 0 (hpairs.trans (K.me es))
 have hget:(getObj b).run Γ.P w=.ok (.map en c) w:=by simp[getObj,Sem.run,hheap]
 have hfind:(Instr.findKey kt (kv a) en.toList).run Γ.P w=.ok r w:=by
  simp only[Instr.findKey,Sem.run_bind,run_underlying huk,Result.andThen_ok,g1,Sem.run_pure]
 have hz:=(htab et de hde).run_zero w
 cases r with
 |none=>
  have hg:mapGet es a=none:=g2.symm
  cases ok with
  |true=>
   refine⟨.tuple #[de.zero,.bool false],?_,?_⟩
   ·simp only[execOp,ho,hmv,hkv,Instr.lookup,Sem.run_bind,run_underlying hu,Result.andThen_ok,hget,Sem.run_pure,K.check _ _ _ _ _ huk,hfind,hz,if_true]
   ·simp only[lookVal,hg,if_true,Option.getD_none,Option.isSome_none]
    exact .tup _ _ rfl fun j x v hx hv=>by
     match j with
     |0=>simp at hx hv;subst hx;subst hv;exact .prim _
     |1=>simp at hx hv;subst hx;subst hv;exact .prim _
     |j+2=>simp at hx
  |false=>
   refine⟨de.zero,?_,?_⟩
   ·simp only[execOp,ho,hmv,hkv,Instr.lookup,Sem.run_bind,run_underlying hu,Result.andThen_ok,hget,Sem.run_pure,K.check _ _ _ _ _ huk,hfind,hz,Bool.false_eq_true,if_false]
   ·simp only[lookVal,hg,Bool.false_eq_true,if_false,Option.getD_none]
    exact .prim _
 |some q=>
  obtain⟨i,v⟩:=q
  have hg:mapGet es a=some v:=g2.symm
  cases ok with
  |true=>
   refine⟨.tuple #[v,.bool true],?_,?_⟩
   ·simp only[execOp,ho,hmv,hkv,Instr.lookup,Sem.run_bind,run_underlying hu,Result.andThen_ok,hget,Sem.run_pure,K.check _ _ _ _ _ huk,hfind,if_true]
   ·simp only[lookVal,hg,if_true,Option.getD_some,Option.isSome_some]
    exact .tup _ _ rfl fun j x v hx hv=>by
     match j with
     |0=>simp at hx hv;subst hx;subst hv;exact .prim _
     |1=>simp at hx hv;subst hx;subst hv;exact .prim _
     |j+2=>simp at hx
  |false=>
   refine⟨v,?_,?_⟩
   ·simp only[execOp,ho,hmv,hkv,Instr.lookup,Sem.run_bind,run_underlying hu,Result.andThen_ok,hget,Sem.run_pure,K.check _ _ _ _ _ huk,hfind,Bool.false_eq_true,if_false]
   ·simp only[lookVal,hg,Bool.false_eq_true,if_false,Option.getD_some]
    exact .prim _
end Go.Proofs.YtjhanogfpkbamaaGreatDoor

namespace Go.Proofs.YtjhanogfpkbamaaGreatDoor
open Go
set_option linter.unusedSimpArgs false
set_option linter.unusedVariables false
variable {G:Type} {Γ:Env G} {s:AS G} {a:Act} {w w':World} {η:List Value} {hp:List AObj} {F:Nat→Nat→Prop} {P:Program}
theorem vrun_sliceStr {tab:Nat→Option TD} (htab:TabOk Γ.P tab) {o:Oper} {T:Nat} {x:Operand} {lo hi:Option Operand} (ho:o.op=.slice T x lo hi none) {d:TD} (hd:tab T=some d) (hk:d.kind=.str) {b:ByteArray} (hx:s.ev x=.prim (.string b))
  {l h:Int} (hl:boundOf s.ev 0 lo=some l) (hh:boundOf s.ev b.size hi=some h) (h0:0≤l) (h1:l≤h) (h2:h≤b.size):VRun Γ o s (.prim (.string (b.extract l.toNat h.toNat))):=by
 refine vrun_pure fun a w η hrel=>⟨_,?_,.prim _⟩
 have hxr:=hrel.ev x
 rw[hx] at hxr
 have hxv:=hxr.prim_inv
 have hu:Γ.P.underlying T=some .string:=by
  obtain⟨u,q2,q3⟩:=(htab T d hd).und
  rw[hk] at q3
  rw[q2];exact congrArg some q3
 have hlv:lo=none∧l=0∨∃y k,lo=some y∧a.eval y=.int k l:=by
  cases lo with
  |none=>simp[boundOf] at hl;exact .inl ⟨rfl,hl.symm⟩
  |some y=>obtain⟨k,hk⟩:=boundOf_eval hrel hl;exact .inr ⟨y,k,rfl,hk⟩
 have hhv:hi=none∧h=b.size∨∃y k,hi=some y∧a.eval y=.int k h:=by
  cases hi with
  |none=>simp[boundOf] at hh;exact .inl ⟨rfl,hh.symm⟩
  |some y=>obtain⟨k,hk⟩:=boundOf_eval hrel hh;exact .inr ⟨y,k,rfl,hk⟩
 rcases hhv with⟨rfl,rfl⟩|⟨y,k,rfl,hv⟩
 ·rcases hlv with⟨rfl,rfl⟩|⟨y0,k0,rfl,hv0⟩
  ·simp[execOp,ho,Instr.sliceAt,run_underlying hu,Instr.slice,hxv,Instr.sliceBounds]
  ·have hs0:=run_sliceBound (P:=Γ.P) w hv0 (y:=b.size) h0 (by omega) .sliceB
   simp[execOp,ho,Instr.sliceAt,run_underlying hu,Instr.slice,hxv,Instr.sliceBounds,hs0]
 ·have hs:=run_sliceBound (P:=Γ.P) w hv (y:=b.size) (by omega) (by omega) .sliceAlen
  rcases hlv with⟨rfl,rfl⟩|⟨y0,k0,rfl,hv0⟩
  ·simp[execOp,ho,Instr.sliceAt,run_underlying hu,Instr.slice,hxv,Instr.sliceBounds,hs]
  ·have hs0:=run_sliceBound (P:=Γ.P) w hv0 (y:=h.toNat) h0 (by omega) .sliceB
   simp[execOp,ho,Instr.sliceAt,run_underlying hu,Instr.slice,hxv,Instr.sliceBounds,hs,hs0]
theorem pval_sound (hok:Γ.Ok) {tab:Nat→Option TD} (htab:TabOk Γ.P tab) {o:Oper} {c:Prop} {r:AV} (h:pval tab s.hp s.ev o.op=some (c,r)) (hc:c):VRun Γ o s r:=by
 generalize ho:o.op=op at h
 cases op with
 |move x=>
  simp only[pval,Option.some.injEq,Prod.mk.injEq] at h
  obtain⟨_,rfl⟩:=h
  exact vrun_pure fun a w η hr=>⟨a.eval x,by simp[execOp,ho],hr.ev x⟩
 |assign x=>
  simp only[pval,Option.some.injEq,Prod.mk.injEq] at h
  obtain⟨_,rfl⟩:=h
  exact vrun_pure fun a w η hr=>⟨a.eval x,by simp[execOp,ho],hr.ev x⟩
 |nilCheck x=>
  simp only[pval] at h
  split at h
  ·rename_i r0 o0 hx
   simp only[Option.some.injEq,Prod.mk.injEq] at h
   obtain⟨_,rfl⟩:=h
   refine vrun_pure fun a w η hr=>?_
   have hp:=hr.ev x
   rw[hx] at hp
   obtain⟨b,hb⟩:∃b,a.eval x=.pointer (some b):=by
    generalize a.eval x=v at hp
    cases hp
    exact⟨_,rfl⟩
   exact⟨a.eval x,by simp[execOp,ho,hb],hp⟩
  ·rename_i r0 o0 hx
   simp only[Option.some.injEq,Prod.mk.injEq] at h
   obtain⟨_,rfl⟩:=h
   refine vrun_pure fun a w η hr=>?_
   have hp:=hr.ev x
   rw[hx] at hp
   obtain⟨b,hb⟩:∃b,a.eval x=.pointer (some b):=by
    generalize a.eval x=v at hp
    cases hp
    exact⟨_,rfl⟩
   exact⟨a.eval x,by simp[execOp,ho,hb],hp⟩
  ·cases h
 |pick cc x y=>
  simp only[pval] at h
  split at h
  ·rename_i t ht
   simp only[Option.some.injEq,Prod.mk.injEq] at h
   obtain⟨_,rfl⟩:=h
   exact vrun_pick ho ht
  ·cases h
 |fieldAddr T x f=>
  simp only[pval] at h
  split at h
  ·rename_i p hp
   split at h
   ·cases h
   ·rename_i h0
    split at h
    ·rename_i n off he
     simp only[Option.some.injEq,Prod.mk.injEq] at h
     exact vrun_fieldAddr htab ho hp h0 (.inl ⟨n,off,he,h.2.symm⟩)
    ·rename_i e off he
     simp only[Option.some.injEq,Prod.mk.injEq] at h
     exact vrun_fieldAddr htab ho hp h0 (.inr ⟨e,off,he,h.2.symm⟩)
    ·cases h
  ·cases h
 |load T x=>
  simp only[pval] at h
  split at h
  ·rename_i d hd
   split at h
   ·rename_i n off he
    split at h
    ·rename_i cs hcs
     cases hl:ldCells d.kind.agg d.size cs off with
     |none=>rw[hl] at h;cases h
     |some v=>
      rw[hl] at h
      simp only[Option.map_some,Option.some.injEq,Prod.mk.injEq] at h
      obtain⟨_,rfl⟩:=h
      exact vrun_load htab ho hd (.inl ⟨n,off,cs,he,hcs,hl⟩)
    ·cases h
   ·rename_i e off he
    cases hl:ldElem d.kind.agg d.size e off with
    |none=>rw[hl] at h;cases h
    |some v=>
     rw[hl] at h
     simp only[Option.map_some,Option.some.injEq,Prod.mk.injEq] at h
     obtain⟨_,rfl⟩:=h
     exact vrun_load htab ho hd (.inr ⟨e,off,he,hl⟩)
   ·cases h
  ·cases h
 |indexAddr T x i=>
  simp only[pval] at h
  split at h
  ·rename_i d hd
   split at h
   ·rename_i e hk
    split at h
    ·rename_i d' els k n hd' hels hi
     simp only[Option.some.injEq,Prod.mk.injEq] at h
     obtain⟨rfl,rfl⟩:=h
     exact vrun_indexAddr htab ho hd hk hd' hels hi hc.1 hc.2.1 hc.2.2
    ·rename_i d' k n hd' hels hi
     split at h
     ·rename_i r m e' size hm
      split at h
      ·rename_i hif
       simp only[Option.some.injEq,Prod.mk.injEq] at h
       obtain⟨rfl,rfl⟩:=h
       obtain⟨hx,els,hro⟩:=mrowOf_eq hm
       obtain⟨rfl,rfl⟩:=hif
       exact vrun_indexAddrM htab ho hd hk hd' hx hro hi hc.1 hc.2
      ·cases h
     ·cases h
    ·cases h
   ·rename_i m hk
    split at h
    ·rename_i r k n hx hi
     simp only[Option.some.injEq,Prod.mk.injEq] at h
     obtain⟨rfl,rfl⟩:=h
     exact vrun_indexAddrA htab ho hd hk hx hi hc.1 hc.2
    ·cases h
   ·cases h
  ·cases h
 |binOp op T x y T'=>
  simp only[pval] at h
  split at h
  ·rename_i v hv
   simp only[Option.some.injEq,Prod.mk.injEq] at h
   obtain⟨_,rfl⟩:=h
   exact vrun_ifc htab ho hv
  ·exact vrun_binAll htab ho h hc
 |convert S D x=>
  simp only[pval] at h
  obtain⟨r',h1,h2⟩:=Option.map_eq_some_iff.1 h
  simp only[Prod.mk.injEq] at h2
  rw[←h2.2]
  exact vrun_cvt htab ho h1
 |unOp op T x=>
  simp only[pval] at h
  split at h
  ·rename_i b he
   simp only[Option.some.injEq,Prod.mk.injEq] at h
   exact vrun_unOp ho (.inl ⟨b,rfl,he,h.2.symm⟩)
  ·rename_i k n he
   simp only[Option.some.injEq,Prod.mk.injEq] at h
   exact vrun_unOp ho (.inr ⟨k,n,rfl,he,h.2.symm⟩)
  ·cases h
 |build T parts=>
  simp only[pval] at h
  split at h
  ·rename_i d hd
   split at h
   ·rename_i fs hk
    cases hl:fillCells fs (d.zero.cells.toList.map .prim) (parts.toList.map fun p=>(p.1,s.ev p.2)) with
    |none=>rw[hl] at h;cases h
    |some cs=>
     rw[hl] at h
     simp only[Option.map_some,Option.some.injEq,Prod.mk.injEq] at h
     obtain⟨_,rfl⟩:=h
     exact vrun_build htab ho hd hk hl
   ·rename_i n hk
    cases hl:fillCells (arrFs n) (d.zero.cells.toList.map .prim) (parts.toList.map fun p=>(p.1,s.ev p.2)) with
    |none=>rw[hl] at h;cases h
    |some cs=>
     rw[hl] at h
     simp only[Option.map_some,Option.some.injEq,Prod.mk.injEq] at h
     obtain⟨_,rfl⟩:=h
     exact vrun_buildA htab ho hd hk hl
   ·cases h
  ·cases h
 |buildSlice T n parts=>
  simp only[pval] at h
  split at h
  ·rename_i d hd
   split at h
   ·rename_i e hk
    split at h
    ·rename_i d' hd'
     split at h
     ·rename_i hcond
      simp only[Option.some.injEq,Prod.mk.injEq] at h
      obtain⟨rfl,rfl⟩:=h
      exact vrun_buildSlice hok htab ho hd hk hd' hcond.1 hcond.2.1 hcond.2.2.1 hcond.2.2.2 hc
     ·cases h
    ·cases h
   ·cases h
  ·cases h
 |field T x f=>
  simp only[pval] at h
  split at h
  ·rename_i p cs hp hx
   split at h
   ·rename_i hcond
    cases hl:ldCells p.2.2 p.2.1 cs p.1 with
    |none=>rw[hl] at h;cases h
    |some v=>
     rw[hl] at h
     simp only[Option.map_some,Option.some.injEq,Prod.mk.injEq] at h
     obtain⟨_,rfl⟩:=h
     exact vrun_field htab ho hp hx hl fun hf=>by
      rcases hcond with h1|h1
      ·rw[h1] at hf;cases hf
      ·exact h1
   ·cases h
  ·cases h
 |lookup T m k ok=>
  simp only[pval] at h
  split at h
  ·rename_i d es a hd hm hk
   split at h
   ·rename_i kt et hkind
    split at h
    ·rename_i dk de hdk hde
     split at h
     ·rename_i ik hik
      simp only[Option.some.injEq,Prod.mk.injEq] at h
      obtain⟨_,rfl⟩:=h
      exact vrun_lookup (keyI ik) htab ho hd hkind hdk (fun u hu=>by rw[hik] at hu;exact hu) hde hm hk
     ·cases h
    ·cases h
   ·cases h
  ·rename_i d es a hd hm hk
   split at h
   ·rename_i kt et hkind
    split at h
    ·rename_i dk de hdk hde
     split at h
     ·rename_i hik
      simp only[Option.some.injEq,Prod.mk.injEq] at h
      obtain⟨_,rfl⟩:=h
      exact vrun_lookup keyS htab ho hd hkind hdk (fun u hu=>by rw[hik] at hu;exact hu) hde hm hk
     ·cases h
    ·cases h
   ·cases h
  ·cases h
 |index T x i=>
  simp only[pval] at h
  split at h
  ·rename_i d b k n hd hx hi
   split at h
   ·rename_i hk
    simp only[Option.some.injEq,Prod.mk.injEq] at h
    obtain⟨rfl,rfl⟩:=h
    refine vrun_pure fun a w η hr=>?_
    have h1:=hr.ev x
    rw[hx] at h1
    have h1:=h1.prim_inv
    have h2:=hr.ev i
    rw[hi] at h2
    have h2:=h2.prim_inv
    have hu:Γ.P.underlying T=some .string:=by
     obtain⟨u,q2,q3⟩:=(htab T d hd).und
     rw[hk] at q3
     rw[q2];exact congrArg some q3
    obtain⟨h3,h4⟩:=hc
    have hlt:n.toNat<b.size:=by omega
    refine⟨.int .u8 (strAt b n),?_,.prim _⟩
    have e:b[n.toNat]?=some b[n.toNat]:=getElem?_pos b n.toNat hlt
    have e2:strAt b n=(b[n.toNat].toNat:Int):=by
     unfold strAt
     have:b.data[n.toNat]?=some b[n.toNat]:=by
      rw[Array.getElem?_eq_getElem (by exact hlt)];rfl
     rw[this];rfl
    simp only[execOp,ho,h1,h2,Instr.index,asIntOf,Sem.run_bind,Sem.run_pure,Result.andThen_ok,run_underlying hu,if_pos h3,e,e2]
   ·cases h
  ·cases h
 |extract x i=>
  simp only[pval] at h
  split at h
  ·rename_i vs he
   cases hl:vs[i]? with
   |none=>rw[hl] at h;cases h
   |some v=>
    rw[hl] at h
    simp only[Option.map_some,Option.some.injEq,Prod.mk.injEq] at h
    obtain⟨_,rfl⟩:=h
    exact vrun_extract ho he hl
  ·cases h
 |makeFunc fn first caps=>
  cases fn with
  |func f=>
   simp only[pval] at h
   split at h
   ·rename_i h0
    simp only[Option.some.injEq,Prod.mk.injEq] at h
    obtain⟨_,rfl⟩:=h
    exact vrun_makeFunc ho h0
   ·split at h
    ·rename_i h0
     simp only[Option.some.injEq,Prod.mk.injEq] at h
     obtain⟨_,rfl⟩:=h
     exact vrun_makeMethod ho h0
    ·cases h
  |_=>simp[pval] at h
 |slice T x lo hi mx=>
  simp only[pval] at h
  split at h
  ·rename_i d hd
   split at h
   ·rename_i b hk hx
    split at h
    ·rename_i l h' hl hh
     simp only[Option.some.injEq,Prod.mk.injEq] at h
     obtain⟨rfl,rfl⟩:=h
     exact vrun_sliceStr htab ho hd hk hx hl hh hc.1 hc.2.1 hc.2.2
    ·cases h
   ·rename_i e hk
    split at h
    ·rename_i els d' hels hd'
     split at h
     ·rename_i l h' hl hh hm
      simp only[Option.some.injEq,Prod.mk.injEq] at h
      obtain⟨rfl,rfl⟩:=h
      have hmx:mx=none:=by cases mx<;>simp_all
      exact vrun_slice htab ho hd hk hd' hels hl hh hc.1 hc.2.1 hc.2.2.1 hc.2.2.2 (.inl ⟨hmx,rfl⟩)
     ·rename_i l h' m hl hh hm
      split at h
      ·rename_i his
       simp only[Option.some.injEq,Prod.mk.injEq] at h
       obtain⟨rfl,rfl⟩:=h
       cases mx with
       |none=>simp at hm
       |some y=>
        simp only[Option.map_some,Option.some.injEq] at hm
        exact vrun_slice htab ho hd hk hd' hels hl hh hc.1 hc.2.1 hc.2.2.2.1 hc.2.2.2.2 (.inr ⟨y,m,rfl,his,hm,hc.2.2.1,rfl⟩)
      ·cases h
     ·cases h
    ·cases h
   ·cases h
  ·cases h
 |call cl=>
  simp only[pval] at h
  split at h
  ·rename_i x hb hl
   split at h
   ·rename_i d hd
    have hT:∃T,cl.argTypes[0]?=some T∧tab T=some d:=by
     cases hT:cl.argTypes[0]? with
     |none=>rw[hT] at hd;cases hd
     |some T=>rw[hT] at hd;exact⟨T,rfl,hd⟩
    obtain⟨T,hT,hd⟩:=hT
    split at h
    ·cases h
    ·rename_i e hk hns
     have hlv:∃els,(s.ev x).asSl s.hp=some els∧r=.prim (.int .i64 els.length):=by
      unfold lenVal at h
      split at h
      ·rename_i sb he
       exact(hns sb he).elim
      ·cases hels:(s.ev x).asSl s.hp with
       |none=>rw[hels] at h;cases h
       |some els=>
        rw[hels] at h
        simp only[Option.map_some,Option.some.injEq,Prod.mk.injEq] at h
        exact⟨els,rfl,h.2.symm⟩
     obtain⟨els,h1,h2⟩:=hlv
     exact vrun_len htab ho hb hl hT hd (.inl ⟨e,els,hk,h1,h2⟩)
    ·rename_i b hk hx
     simp only[Option.some.injEq,Prod.mk.injEq] at h
     exact vrun_len htab ho hb hl hT hd (.inr ⟨b,hk,hx,h.2.symm⟩)
    ·cases h
   ·cases h
  ·rename_i x y hb hl
   split at h
   ·rename_i k m k' n hx hy
    simp only[Option.some.injEq,Prod.mk.injEq] at h
    obtain⟨_,rfl⟩:=h
    exact vrun_min ho hb hl hx hy
   ·cases h
  ·rename_i x y hb hl
   split at h
   ·rename_i k m k' n hx hy
    simp only[Option.some.injEq,Prod.mk.injEq] at h
    obtain⟨_,rfl⟩:=h
    exact vrun_max ho hb hl hx hy
   ·cases h
  ·cases h
 |_=>simp[pval] at h
end Go.Proofs.YtjhanogfpkbamaaGreatDoor

namespace Go.Proofs.YtjhanogfpkbamaaGreatDoor
open Go
set_option linter.unusedSimpArgs false
set_option linter.unusedVariables false
variable {G:Type} {Γ:Env G} {s:AS G} {a:Act} {w w':World} {η:List Value} {hp:List AObj} {F:Nat→Nat→Prop} {P:Program}
def ERun (Γ:Env G) (o:Oper) (s:AS G) (r:AV) (hp':List AObj):Prop:=
 ∀a w η,Rel Γ s a w η→∃v w' η',((execOp a.eval o).run Γ.P w=.ok (.value v) w'∨(execOp a.eval o).run Γ.P w=.ok .skip w'∧v=undef)∧
  Rel Γ { s with hp:=hp' } a w' η'∧Rep w' (Fok Γ w' η' hp') η' hp' r v
def appOk (d:TD) (n:Nat) (els els2:List AV):Prop:=
 (∀x:AV,x∈els→x.cells.length=d.size)∧(∀x:AV,x∈els2→x.cells.length=d.size)∧n≤maxLen∧n*d.bytes≤140737488355328
def mapPut {κ:Type} [DecidableEq κ]:List (κ×Value)→κ→Value→List (κ×Value)
 | [],a,v=>[(a,v)]
 |(k,u)::r,a,v=>if a=k then(k,v)::r else(k,u)::mapPut r a v
def heff (tab:Nat→Option TD) (hp:List AObj) (ρ:Operand→AV):Op→Option (Prop×AV×List AObj)
 | .alloc T=>(match tab T with
  |some d=>some (True,.ptr hp.length 0,hp++[.box (d.zero.cells.toList.map .prim)])
  |none=>none)
 | .box _ x=>if(ρ x).stor=true then some (True,.ptr hp.length 0,hp++[.box (ρ x).cells]) else none
 | .store T p x=>(match tab T,ρ p with
  |some d,.ptr r o=>(match hp[r]? with
   |some (.box cs)=>if(ρ x).stor=true then some ((ρ x).cells.length=d.size∧o+d.size≤cs.length,.top,hp.set r (.box (setCells cs o (ρ x).cells))) else none
   |_=>none)
  |some d,.mptr r _ i z=>(match hp[r]? with
   |some (.mrow e size els)=>if((ρ x).dataV hp).stor=true∧size=z then some (((ρ x).dataV hp).cells.length=d.size∧d.size=z∧i<els.length,.top,hp.set r (.mrow e size (els.set i ((ρ x).dataV hp)))) else none
   |_=>none)
  |_,_=>none)
 | .makeSlice T l c=>(match tab T with
  |some d=>(match d.kind with
   | .slc e=>(match tab e,ρ l,ρ c with
    |some d',.prim (.int _ 0),.prim (.int _ n)=>some (0≤n∧n≤9223372036854775807∧(d'.bytes:Int)*n≤281474976710656∧0<d'.size,.own hp.length 0,hp++[.row e d'.size []])
    |_,_,_=>none)
   |_=>none)
  |none=>none)
 | .makeMap T none=>(match tab T with
  |some d=>(match d.kind with
   | .mapk kt _=>(match tab kt with
    |some dk=>(match dk.kind with
     | .str=>some (True,.mp hp.length,hp++[.mapo (.s [])])
     |_=>some (True,.mp hp.length,hp++[.mapo (.i [])]))
    |none=>none)
   |_=>none)
  |none=>none)
 | .mapUpdate T m k x=>(match tab T,ρ m,ρ k,ρ x with
  |some d,.mp r,.prim (.int .i64 a),.prim v=>(match d.kind,hp[r]? with
   | .mapk kt _,some (.mapo (.i es))=>(match tab kt with
    |some dk=>(match dk.kind with
     | .int _=>some (True,.top,hp.set r (.mapo (.i (mapPut es a v))))
     |_=>none)
    |none=>none)
   |_,_=>none)
  |some d,.mp r,.prim (.string a),.prim v=>(match d.kind,hp[r]? with
   | .mapk kt _,some (.mapo (.s es))=>(match tab kt with
    |some dk=>(match dk.kind with
     | .str=>some (True,.top,hp.set r (.mapo (.s (mapPut es a v))))
     |_=>none)
    |none=>none)
   |_,_=>none)
  |_,_,_,_=>none)
 | .call c=>(match c.callee,c.args.toList,c.argTypes.toList with
  | .builtin .append,[b,x],[T,T']=>if T=T' then(match tab T with
   |some d=>(match d.kind with
    | .slc e=>(match tab e,(ρ x).asSl hp with
     |some d',some els2=>(match ρ b with
      | .prim (.slice none 0 0)=>some (0<d'.size∧appOk d' els2.length [] els2,.own hp.length els2.length,hp++[.row e d'.size els2])
      | .clip els=>some (0<d'.size∧(els2=[]→els=[])∧appOk d' (els.length+els2.length) els els2,.own hp.length (els.length+els2.length),hp++[.row e d'.size (els++els2)])
      | .own r n=>(match hp[r]? with
       |some (.row e' size els)=>if e'=e∧size=d'.size∧n=els.length then some (appOk d' (els.length+els2.length) [] els2,.own r (els.length+els2.length),hp.set r (.row e size (els++els2))) else none
       |_=>none)
      |_=>none)
     |_,_=>none)
    |_=>none)
   |none=>none) else none
  |_,_,_=>none)
 |_=>none
theorem erun_box (hok:Γ.Ok) {o:Oper} {T:Nat} {x:Operand} (ho:o.op=.box T x) (hs:(s.ev x).stor=true):ERun Γ o s (.ptr s.hp.length 0) (s.hp++[.box (s.ev x).cells]):=by
 intro a w η hr
 have hrc:=(hr.ev x).repC hs
 have hsm:=Same.alloc w (.cells (a.eval x).cells T)
 have he:=ext_new (Γ:=Γ) (o:=.box (s.ev x).cells) (v:=.pointer (some ⟨w.heap.size,0,none⟩)) hr.heap.len hsm (fun b hb=>by simp only[blk,Option.some.injEq] at hb;omega)
 refine⟨.pointer (some ⟨w.heap.size,0,none⟩),_,η++[.pointer (some ⟨w.heap.size,0,none⟩)],.inl (by simp[execOp,ho,Instr.box,newVar,newRow];rfl),?_,?_⟩
 ·exact hr.add hok hsm (fun b hb=>by simp only[blk,Option.some.injEq] at hb;omega) ⟨w.heap.size,(a.eval x).cells,T,rfl,heap_alloc_new w _,by simpa using hrc.1,fun j y u hy hu=>by
   have:=hrc.2 j y u hy (by simpa using hu)
   exact⟨this.1.ext he,this.2⟩⟩
 ·exact .ptr _ 0 w.heap.size (by rw[←hr.heap.len];simp)
theorem erun_alloc (hok:Γ.Ok) {tab:Nat→Option TD} (htab:TabOk Γ.P tab) {o:Oper} {T:Nat} (ho:o.op=.alloc T) {d:TD} (hd:tab T=some d):ERun Γ o s (.ptr s.hp.length 0) (s.hp++[.box (d.zero.cells.toList.map .prim)]):=by
 intro a w η hr
 have hty:=htab T d hd
 have hsm:=Same.alloc w (.cells d.zero.cells T)
 refine⟨.pointer (some ⟨w.heap.size,0,none⟩),_,η++[.pointer (some ⟨w.heap.size,0,none⟩)],.inl (by simp[execOp,ho,Instr.alloc,hty.run_zero,newVar,newRow];rfl),?_,?_⟩
 ·refine hr.add hok hsm (fun b hb=>by simp only[blk,Option.some.injEq] at hb;omega) ⟨w.heap.size,d.zero.cells,T,rfl,heap_alloc_new w _,by simp,fun j y u hy hu=>?_⟩
  exact(hty.repZero (w:=_) (F:=_) (η:=_) (hp:=_)).2 j y u hy (by simpa using hu)
 ·exact .ptr _ 0 w.heap.size (by rw[←hr.heap.len];simp)
theorem store_cells (hok:Γ.Ok) {b r:Nat}:∀(us:List Value) (xs:List AV) (k off:Nat) (cs:List AV) (s:AS G) (w:World),Rel Γ s a w η→s.hp[r]?=some (.box cs)→η[r]?=some (.pointer (some ⟨b,0,none⟩))→
  RepC w (Fok Γ w η s.hp) η s.hp xs us→off+k+xs.length≤cs.length→
  ∃w',(storeCells ⟨b,off,none⟩ us k).run Γ.P w=.ok () w'∧Rel Γ { s with hp:=s.hp.set r (.box (setCells cs (off+k) xs)) } a w' η:=by
 intro us
 induction us with
 |nil=>
  intro xs k off cs s w hr hb hη hrc hle
  have:xs=[]:=List.eq_nil_of_length_eq_zero (by have:=hrc.1;simpa using this.symm)
  subst this
  refine⟨w,rfl,?_⟩
  have:s.hp.set r (.box (setCells cs (off+k) []))=s.hp:=by
   apply List.ext_getElem?
   intro i
   by_cases hi:r=i
   ·subst hi;rw[getElem?_set_same hb,hb];rfl
   ·rw[getElem?_set_ne hi]
  rw[this];exact hr
 |cons u us ih=>
  intro xs k off cs s w hr hb hη hrc hle
  cases xs with
  |nil=>have:=hrc.1;simp at this
  |cons x xs=>
   have h0:=hrc.2 0 x u rfl rfl
   simp only[List.length_cons] at hle
   obtain⟨h1,h2,u',h3⟩:=hr.write hok (off:=off+k) hb hη (by omega) h0.2 h0.1
   have hext:RepC (w.setCell ⟨b,off+k,none⟩ u) (Fok Γ (w.setCell ⟨b,off+k,none⟩ u) η (s.hp.set r (.box (cs.set (off+k) x)))) η (s.hp.set r (.box (cs.set (off+k) x))) xs us:=by
    refine⟨by simpa using hrc.1,fun j y z hy hz=>?_⟩
    have h4:=hrc.2 (j+1) y z (by simpa using hy) (by simpa using hz)
    refine⟨?_,h4.2⟩
    refine h4.1.ext ?_
    refine⟨fun b' o v hf hc=>?_,fun b' es c hf hc=>?_,fun b' o hf=>?_,fun _ _ h=>h,fun _ _ h=>h,fun r' n v ho=>?_⟩
    ·have hne:b'≠b:=by
      intro e
      subst e
      obtain⟨o1,q1,q2⟩:=(objF_iff b' o).1 hf.2.2.2 r _ hη rfl
      rw[hb] at q1
      obtain rfl:=Option.some.inj q1
      exact q2
     rw[World.cell?_of_block (Go.heap_setCell_other w _ b' u (by simpa using hne))]
     exact hc
    ·have hne:b'≠b:=by
      intro e
      subst e
      obtain⟨o1,q1,q2⟩:=(objF_iff b' 0).1 hf.2.2.2 r _ hη rfl
      rw[hb] at q1
      obtain rfl:=Option.some.inj q1
      exact q2
     rw[Go.heap_setCell_other w _ b' u (by simpa using hne)]
     exact hc
    ·refine⟨hf.1,by simpa using hf.2.1,hf.2.2.1,(objF_iff b' o).2 fun r' v hv hbv=>?_⟩
     obtain⟨o1,q1,q2⟩:=(objF_iff b' o).1 hf.2.2.2 r' v hv hbv
     by_cases hrr:r=r'
     ·subst hrr
      rw[hb] at q1
      obtain rfl:=Option.some.inj q1
      exact q2.elim
     ·exact⟨o1,by rw[getElem?_set_ne hrr];exact q1,q2⟩
    ·unfold OwnOk at ho ⊢
     by_cases hrr:r=r'
     ·subst hrr;rw[hb] at ho;exact ho.elim
     ·rw[getElem?_set_ne hrr];exact ho
   obtain⟨w',e1,e2⟩:=ih xs (k+1) off (cs.set (off+k) x) { s with hp:=s.hp.set r (.box (cs.set (off+k) x)) } (w.setCell ⟨b,off+k,none⟩ u) h1 (getElem?_set_same hb) hη hext (by simp;omega)
   refine⟨w',?_,?_⟩
   ·simp only[storeCells,Sem.run_bind,Addr.add_lit]
    rw[run_store _ _ _ _ _ h0.2,h3]
    simp only[h2,Bool.false_eq_true,if_false,Result.andThen_ok]
    exact e1
   ·have:(s.hp.set r (.box (cs.set (off+k) x))).set r (.box (setCells (cs.set (off+k) x) (off+(k+1)) xs))=s.hp.set r (.box (setCells cs (off+k) (x::xs))):=by
     rw[List.set_set];rfl
    simp only[this] at e2
    exact e2
theorem erun_store (hok:Γ.Ok) {tab:Nat→Option TD} (htab:TabOk Γ.P tab) {o:Oper} {T r off:Nat} {p x:Operand} (ho:o.op=.store T p x) {d:TD} (hd:tab T=some d) (hp:s.ev p=.ptr r off) {cs:List AV} (hb:s.hp[r]?=some (.box cs))
  (hs:(s.ev x).stor=true) (hl:(s.ev x).cells.length=d.size) (hle:off+d.size≤cs.length):ERun Γ o s .top (s.hp.set r (.box (setCells cs off (s.ev x).cells))):=by
 intro a w η hr
 have hpr:=hr.ev p
 rw[hp] at hpr
 have hxr:=(hr.ev x).repC hs
 generalize hv:a.eval p=v at hpr
 cases hpr with
 |ptr _ _ b hη=>
  obtain⟨w',e1,e2⟩:=store_cells hok (a.eval x).cells.toList (s.ev x).cells 0 off cs s w hr hb hη hxr (by omega)
  refine⟨undef,w',η,.inr ⟨?_,rfl⟩,by simpa using e2,.top _⟩
  have hsz:(a.eval x).cells.size=d.size:=by rw[←hl,←hxr.1];simp
  simp only[execOp,ho,hv,Instr.storeAt,Instr.sureAddr,Sem.run_bind,Sem.run_pure,Result.andThen_ok,storeVar,(htab T d hd).run_sizeOf,hsz,ne_eq,not_true_eq_false,if_false,e1]
theorem store_row {b off:Nat} {T:TypeId}:∀(us:List Value) (k:Nat) (cs:Array Value) (w:World),w.heap[b]?=some (.cells cs T (0,0))→off+k+us.length≤cs.size→(∀u∈us,u.oneCell'=true)→
  ∃w' cs',(storeCells ⟨b,off,none⟩ us k).run P w=.ok () w'∧w'.heap[b]?=some (.cells cs' T (0,0))∧cs'.toList=setVals cs.toList (off+k) us∧Keeps (fun x=>x=b) w w'
 | [],k,cs,w,hb,_,_=>⟨w,cs,rfl,hb,rfl,Keeps.refl _ _⟩
 |u::us,k,cs,w,hb,hle,h1=>by
  simp only[List.length_cons] at hle
  have hset:(w.setCell ⟨b,off+k,none⟩ u).heap[b]?=some (.cells (cs.setIfInBounds (off+k) u) T (0,0)):=Go.heap_setCell_same w b (off+k) cs T u hb
  obtain⟨w',cs',e1,e2,e3,e4⟩:=store_row (off:=off) us (k+1) _ _ hset (by simp;omega) fun v hv=>h1 v (List.mem_cons_of_mem _ hv)
  refine⟨w',cs',?_,e2,?_,?_⟩
  ·have hc:w.cell? ⟨b,off+k,none⟩=some (cs[off+k]'(by omega)):=by
    rw[cell_of_row w b (off+k) cs T (0,0) hb];simp
   have hf:=frozen_of_row w b (off+k) cs T hb
   simp only[storeCells,Sem.run_bind,Addr.add_lit]
   rw[run_store _ _ _ _ _ (h1 u List.mem_cons_self),hc]
   simp only[hf,Bool.false_eq_true,if_false,Result.andThen_ok]
   exact e1
  ·rw[e3];simp[setVals,Nat.add_assoc]
  ·exact(show Keeps (fun x=>x=b) w (w.setCell ⟨b,off+k,none⟩ u) from⟨rfl,rfl,rfl,by simp[World.setCell],fun i _ hi=>Go.heap_setCell_other w _ i u hi⟩).trans e4 fun _ _ h=>h
theorem erun_storeM (hok:Γ.Ok) {tab:Nat→Option TD} (htab:TabOk Γ.P tab) {o:Oper} {T r m i z e:Nat} {p x:Operand} (ho:o.op=.store T p x) {d:TD} (hd:tab T=some d) (hp:s.ev p=.mptr r m i z) {els:List AV} (hb:s.hp[r]?=some (.mrow e z els))
  (hs:((s.ev x).dataV s.hp).stor=true) (hl:((s.ev x).dataV s.hp).cells.length=d.size) (hdz:d.size=z) (hi:i<els.length):ERun Γ o s .top (s.hp.set r (.mrow e z (els.set i ((s.ev x).dataV s.hp)))):=by
 intro a w η hr
 have hpr:=hr.ev p
 rw[hp] at hpr
 have hxr:=(dataV_rep hr.heap hr.mine (hr.ev x)).repC hs
 generalize (s.ev x).dataV s.hp=el at hs hl hxr
 generalize hv:a.eval p=v at hpr
 cases hpr with
 |mptr _ _ _ _ b o' c how=>
  have how':=how
  unfold OwnOk at how'
  rw[hb] at how'
  obtain⟨hm,hη⟩:=how'
  obtain⟨hz0,xs,hrow,hels⟩:=hr.heap.obj r _ _ hb hη
  rcases hrow.2 with⟨h0,_⟩|⟨g,cap,cur,he,h0,⟨hi0,hk0,hg⟩,hnc,hcm,hcs,htake⟩
  ·omega
  obtain rfl:hi0=0:=Nat.le_zero.1 hk0
  ·simp only[Value.slice.injEq,Option.some.injEq,Addr.mk.injEq,and_true] at he
   obtain⟨⟨rfl,rfl⟩,rfl,rfl⟩:=he
   generalize hus:(a.eval x).cells.toList=us at hxr
   have hul:us.length=z:=by rw[hxr.1,hl,hdz]
   have hcell:(i+1)*z≤els.length*z:=Nat.mul_le_mul_right _ hi
   have hcap:els.length*z≤c*z:=Nat.mul_le_mul_right _ hnc
   rw[Nat.add_mul,Nat.one_mul] at hcell
   obtain⟨w',cs',e1,e2,e3,e4⟩:=store_row (P:=Γ.P) (off:=0+i*z) us 0 cur w hg (by omega) fun u hu=>by
    obtain⟨j,hj⟩:=List.getElem?_of_mem hu
    have hlt:j<el.cells.length:=by rw[←hxr.1];exact(List.getElem?_eq_some_iff.1 hj).1
    exact(hxr.2 j _ u (List.getElem?_eq_getElem hlt) hj).2
   have hsz:(a.eval x).cells.size=d.size:=by rw[←hl,←hxr.1,←hus];simp
   have hbk:blk (.slice (some ⟨b,0,none⟩) els.length c)=some b:=blk_slice h0
   have hηs:η.set r (.slice (some ⟨b,0,none⟩) els.length c)=η:=by
    apply List.ext_getElem?
    intro k
    by_cases hk:r=k
    ·subst hk;rw[getElem?_set_same hη,hη]
    ·rw[getElem?_set_ne hk]
   have:=Rel.change (w':=w') (o':=.mrow e z (els.set i el)) (v':=.slice (some ⟨b,0,none⟩) els.length c) hok hr hb True.intro hη
    ⟨e4.os,e4.tape,e4.output,e4.size,fun k hk hkb=>e4.block k hk fun h=>hkb (by rw[hbk,h])⟩
    (fun c hc=>.inl hc) (fun k hk=>hk.elim) (fun _ _ _ _ hk=>hk.elim) (fun _ _ _ _ hk=>hk.elim)
    (fun n u ho=>by
     unfold OwnOk at ho ⊢
     rw[hb] at ho
     rw[getElem?_set_same hb,hηs]
     exact⟨by rw[List.length_set];exact ho.1,ho.2⟩)
    (fun _ _=>rfl) (fun _ hx=>by cases hx)
    (fun b' d' hb' hd'=>by rw[hbk] at hb';obtain rfl:=Option.some.inj hb';rw[hg] at hd';cases hd')
    (fun he=>⟨hz0,setVals xs (i*z) us,⟨by rw[length_setVals,List.length_set];exact hrow.1,.inr ⟨b,c,cs',by rw[List.length_set],h0,⟨0,Nat.le_refl _,e2⟩,by rw[List.length_set];exact hnc,hcm,by
      have:cs'.toList.length=cur.toList.length:=by rw[e3,length_setVals]
      simp only[Array.length_toList] at this
      rw[this,hcs],by
      rw[List.length_set]
      apply List.ext_getElem?
      intro k
      have hlen:i*z+us.length≤cur.toList.length:=by simp only[Array.length_toList];omega
      have hlenx:i*z+us.length≤xs.length:=by rw[hrow.1];omega
      rw[List.getElem?_take,getElem?_setVals us xs _ _ hlenx,e3,Nat.add_zero,Nat.zero_add,getElem?_setVals us _ _ _ hlen]
      by_cases hk:k<els.length*z
      ·rw[if_pos hk]
       by_cases hin:i*z≤k∧k<i*z+us.length
       ·rw[if_pos hin,if_pos hin]
       ·rw[if_neg hin,if_neg hin,←htake,List.getElem?_take,if_pos hk]
      ·rw[if_neg hk,if_neg (by omega),List.getElem?_eq_none (by rw[hrow.1];omega)]⟩⟩,fun i' el' hi'=>by
      have hlenx:i*z+us.length≤xs.length:=by rw[hrow.1];omega
      by_cases hii:i=i'
      ·subst hii
       rw[List.getElem?_set_self hi] at hi'
       obtain rfl:=Option.some.inj hi'
       refine⟨by rw[hl,hdz],fun j x hj=>?_⟩
       have hjl:j<us.length:=by rw[hxr.1];exact(List.getElem?_eq_some_iff.1 hj).1
       refine⟨us[j],?_,((hxr.2 j x _ hj (List.getElem?_eq_getElem hjl)).1).ext he.ext0.ext,(hxr.2 j x _ hj (List.getElem?_eq_getElem hjl)).2⟩
       rw[getElem?_setVals us xs _ _ hlenx,if_pos (by omega),show i*z+j-i*z=j from by omega,List.getElem?_eq_getElem hjl]
      ·rw[getElem?_set_ne hii] at hi'
       refine⟨(hels i' el' hi').1,fun j x hj=>?_⟩
       obtain⟨u,q1,q2,q3⟩:=(hels i' el' hi').2 j x hj
       refine⟨u,?_,q2.ext he.ext0.ext,q3⟩
       have hjz:j<z:=by rw[←(hels i' el' hi').1];exact(List.getElem?_eq_some_iff.1 hj).1
       rw[getElem?_setVals us xs _ _ hlenx,if_neg ?_]
       ·exact q1
       ·rw[hul]
        rcases Nat.lt_or_gt_of_ne hii with h|h
        ·have:=Nat.mul_le_mul_right z (show i+1≤i' from h)
         rw[Nat.add_mul,Nat.one_mul] at this;omega
        ·have:=Nat.mul_le_mul_right z (show i'+1≤i from h)
         rw[Nat.add_mul,Nat.one_mul] at this;omega⟩)
   rw[hηs] at this
   refine⟨undef,w',η,.inr ⟨?_,rfl⟩,this,.top _⟩
   simp only[execOp,ho,hv,Instr.storeAt,Instr.sureAddr,Sem.run_bind,Sem.run_pure,Result.andThen_ok,storeVar,(htab T d hd).run_sizeOf,hsz,ne_eq,not_true_eq_false,if_false,hus,e1]
theorem erun_makeSlice (hok:Γ.Ok) {tab:Nat→Option TD} (htab:TabOk Γ.P tab) {o:Oper} {T e:Nat} {l c:Operand} (ho:o.op=.makeSlice T l c) {d d':TD} (hd:tab T=some d) (hk:d.kind=.slc e) (hd':tab e=some d')
  {k k':IntKind} {n:Int} (hl:s.ev l=.prim (.int k 0)) (hc:s.ev c=.prim (.int k' n)) (h0:0≤n) (h63:n≤9223372036854775807) (h48:(d'.bytes:Int)*n≤281474976710656) (hsz:0<d'.size):
  ERun Γ o s (.own s.hp.length 0) (s.hp++[.row e d'.size []]):=by
 intro a w η hr
 have hl':=hr.ev l
 have hc':=hr.ev c
 rw[hl] at hl';rw[hc] at hc'
 have hty:=htab e d' hd'
 obtain⟨i,hi1,hi2,hi3,hi4⟩:=hty.info
 have hu:Γ.P.underlying T=some (.slice e):=by
  obtain⟨u,q2,q3⟩:=(htab T d hd).und
  rw[hk] at q3
  rw[q2];exact congrArg some q3
 have hw:IntKind.i64.wrap n=n:=by
  simp only[IntKind.wrap,IntKind.bits,IntKind.signed];simp;omega
 have hw0:IntKind.i64.wrap 0=0:=by decide
 have hc1:((decide (n<0)||decide ((d'.bytes:Int)*n>2 ^ 48))||decide ((0:Int)<0)||decide ((0:Int)>n))=false:=by
  simp;omega
 have hrun:∃arr:Array Value,arr.size=n.toNat*d'.size∧(execOp a.eval o).run Γ.P w=.ok (.value (.slice (some ⟨w.heap.size,0,none⟩) 0 n.toNat)) (w.alloc (.cells arr e)):=by
  by_cases hz:n.toNat*d'.size=0
  ·refine⟨(Array.range (n.toNat*d'.size)).map ((#[]:Array Value)[· % (#[]:Array Value).size]!),by simp,?_⟩
   simp only[execOp,ho,Instr.makeSlice,Sem.run_bind,run_underlying hu,Result.andThen_ok,asInt,hl'.prim_inv,hc'.prim_inv,asIntOf,Sem.run_pure,typeInfo,run_program,hi1,hi3,hw,hw0,hc1,Bool.false_eq_true,if_false,run_askRoom,sizeOf,hi2,if_pos hz,newRow,run_newObj]
   rfl
  ·refine⟨(Array.range (n.toNat*d'.size)).map (d'.zero.cells[· % d'.zero.cells.size]!),by simp,?_⟩
   simp only[execOp,ho,Instr.makeSlice,Sem.run_bind,run_underlying hu,Result.andThen_ok,asInt,hl'.prim_inv,hc'.prim_inv,asIntOf,Sem.run_pure,typeInfo,run_program,hi1,hi3,hw,hw0,hc1,Bool.false_eq_true,if_false,run_askRoom,sizeOf,hi2,if_neg hz,hty.run_zero,newRow,run_newObj]
   rfl
 obtain⟨arr,hsize,hrun⟩:=hrun
 have hsm:=Same.alloc w (.cells arr e)
 refine⟨_,_,η++[.slice (some ⟨w.heap.size,0,none⟩) 0 n.toNat],.inl hrun,?_,?_⟩
 ·refine hr.add hok hsm (fun b hb=>?_) ⟨hsz,[],⟨by simp,?_⟩,fun i el hi=>by simp at hi⟩
  ·simp only[blk] at hb
   split at hb
   ·cases hb
   ·obtain rfl:=Option.some.inj hb;exact Nat.le_refl _
  ·by_cases hn:n.toNat=0
   ·exact .inl ⟨rfl,.inr ⟨_,by rw[hn]⟩⟩
   ·exact .inr ⟨w.heap.size,n.toNat,arr,rfl,by omega,⟨0,Nat.zero_le _,heap_alloc_new w _⟩,Nat.zero_le _,by simp only[maxLen];omega,hsize,by simp⟩
 ·refine .own _ 0 _ rfl ?_
  unfold OwnOk
  have:(s.hp++[AObj.row e d'.size []])[s.hp.length]?=some (.row e d'.size []):=by simp
  rw[this]
  exact⟨Nat.le_refl _,fun _=>by rw[←hr.heap.len];simp⟩
theorem erun_append (hok:Γ.Ok) {tab:Nat→Option TD} (htab:TabOk Γ.P tab) {o:Oper} {c:Call} (ho:o.op=.call c) (hb:c.callee=.builtin .append) {b x:Operand} (hl:c.args.toList=[b,x]) {T e:Nat} (hT:c.argTypes.toList=[T,T]) {d d':TD} (hd:tab T=some d)
  (hk:d.kind=.slc e) (hd':tab e=some d') {els2:List AV} (hx:(s.ev x).asSl s.hp=some els2) {r:AV} {hp':List AObj}
  (h:(∃els,(s.ev b=.prim (.slice none 0 0)∧els=[]∨s.ev b=.clip els)∧0<d'.size∧(els2=[]→els=[])∧appOk d' (els.length+els2.length) els els2∧r=.own s.hp.length (els.length+els2.length)∧hp'=s.hp++[.row e d'.size (els++els2)])∨
   (∃n els,s.ev b=.own n els.length∧s.hp[n]?=some (.row e d'.size els)∧appOk d' (els.length+els2.length) [] els2∧r=.own n (els.length+els2.length)∧hp'=s.hp.set n (.row e d'.size (els++els2)))):ERun Γ o s r hp':=by
 intro a w η hr
 have hu:Γ.P.underlying T=some (.slice e):=by
  obtain⟨u,q2,q3⟩:=(htab T d hd).und
  rw[hk] at q3
  rw[q2];exact congrArg some q3
 have hxr:=asSl_rep hr.heap hr.mine (hr.ev x) hx
 have hbr:=hr.ev b
 have hargT:c.argTypes=#[T,T]:=by rw[←Array.toArray_toList (xs:=c.argTypes),hT]
 have hargs:c.args=#[b,x]:=by rw[←Array.toArray_toList (xs:=c.args),hl]
 have hexec:∀v w',(Builtin.append_ #[T,T] o.type #[a.eval b,a.eval x]).run Γ.P w=.ok v w'→(execOp a.eval o).run Γ.P w=.ok (.value v) w':=by
  intro v w' hrun
  simp only[execOp,ho,resolve,hb,Sem.run_bind,Sem.run_pure,Result.andThen_ok,invoke,builtin,hargT,hargs,List.map_toArray,List.map_cons,List.map_nil,hrun]
 rcases h with⟨els,hbv,hsz,hne,happ,rfl,rfl⟩|⟨n,els,hbv,hrow,happ,rfl,rfl⟩
 ·have hbase:a.eval b=.slice none 0 0∧els=[]∨Rep w (Fok Γ w η s.hp) η s.hp (.clip els) (a.eval b):=by
   rcases hbv with⟨h1,h2⟩|h1
   ·rw[h1] at hbr;exact .inl ⟨hbr.prim_inv,h2⟩
   ·rw[h1] at hbr;exact .inr hbr
  obtain⟨v',w',h1,h2,h3⟩:=append_new hok hr (ty:=o.type) hu (htab e d' hd') hsz hbase hxr happ.1 happ.2.1 hne happ.2.2.1 happ.2.2.2 (ob:=.row e d'.size (els++els2)) (.inl rfl)
  refine⟨v',w',η++[v'],.inl (hexec _ _ h1),h2,.own _ _ _ h3 ?_⟩
  unfold OwnOk
  have:(s.hp++[AObj.row e d'.size (els++els2)])[s.hp.length]?=some (.row e d'.size (els++els2)):=by simp
  rw[this]
  exact⟨by simp,fun _=>by rw[←hr.heap.len];simp⟩
 ·rw[hbv] at hbr
  have hown:OwnOk η s.hp n els.length (a.eval b):=by cases hbr;assumption
  have hv0:η[n]?=some (a.eval b):=by(unfold OwnOk at hown;rw[hrow] at hown;exact hown.2 rfl)
  obtain⟨news,hn⟩:=appSrc_slice (ty:=o.type) hu (htab e d' hd') (hr.heap.obj n _ _ hrow hv0).1 hxr happ.2.1
  obtain⟨v',w',η',h1,h2,h3,h4⟩:=append_own hok hr (htab e d' hd') hrow hown hn happ.2.1 happ.2.2.1 happ.2.2.2
  refine⟨v',w',η',.inl (hexec _ _ h1),h2,.own _ _ _ h3 ?_⟩
  unfold OwnOk
  rw[getElem?_set_same hrow]
  exact⟨by simp,fun _=>h4⟩
theorem erun_appendM (hok:Γ.Ok) {tab:Nat→Option TD} (htab:TabOk Γ.P tab) {o:Oper} {c:Call} (ho:o.op=.call c) (hb:c.callee=.builtin .append) {b x:Operand} (hl:c.args.toList=[b,x]) {T e:Nat} (hT:c.argTypes.toList=[T,T]) {d d':TD} (hd:tab T=some d)
  (hk:d.kind=.slc e) (hd':tab e=some d') {els2:List AV} (hx:(s.ev x).asSl s.hp=some els2) {els:List AV} (hbv:s.ev b=.prim (.slice none 0 0)∧els=[]∨s.ev b=.clip els) (hsz:0<d'.size) (hne:els2=[]→els=[]) (happ:appOk d' (els.length+els2.length) els els2):
  ERun Γ o s (.own s.hp.length (els++els2).length) (s.hp++[.mrow e d'.size (els++els2)]):=by
 intro a w η hr
 have hu:Γ.P.underlying T=some (.slice e):=by
  obtain⟨u,q2,q3⟩:=(htab T d hd).und
  rw[hk] at q3
  rw[q2];exact congrArg some q3
 have hxr:=asSl_rep hr.heap hr.mine (hr.ev x) hx
 have hbr:=hr.ev b
 have hargT:c.argTypes=#[T,T]:=by rw[←Array.toArray_toList (xs:=c.argTypes),hT]
 have hargs:c.args=#[b,x]:=by rw[←Array.toArray_toList (xs:=c.args),hl]
 have hexec:∀v w',(Builtin.append_ #[T,T] o.type #[a.eval b,a.eval x]).run Γ.P w=.ok v w'→(execOp a.eval o).run Γ.P w=.ok (.value v) w':=by
  intro v w' hrun
  simp only[execOp,ho,resolve,hb,Sem.run_bind,Sem.run_pure,Result.andThen_ok,invoke,builtin,hargT,hargs,List.map_toArray,List.map_cons,List.map_nil,hrun]
 have hbase:a.eval b=.slice none 0 0∧els=[]∨Rep w (Fok Γ w η s.hp) η s.hp (.clip els) (a.eval b):=by
  rcases hbv with⟨h1,h2⟩|h1
  ·rw[h1] at hbr;exact .inl ⟨hbr.prim_inv,h2⟩
  ·rw[h1] at hbr;exact .inr hbr
 obtain⟨v',w',h1,h2,h3⟩:=append_new hok hr (ty:=o.type) hu (htab e d' hd') hsz hbase hxr happ.1 happ.2.1 hne happ.2.2.1 happ.2.2.2 (ob:=.mrow e d'.size (els++els2)) (.inr rfl)
 refine⟨v',w',η++[v'],.inl (hexec _ _ h1),h2,.own _ _ _ h3 ?_⟩
 unfold OwnOk
 have:(s.hp++[AObj.mrow e d'.size (els++els2)])[s.hp.length]?=some (.mrow e d'.size (els++els2)):=by simp
 rw[this]
 exact⟨rfl,by rw[←hr.heap.len];simp⟩
theorem erun_makeMap (hok:Γ.Ok) {o:Oper} {T:Nat} (ho:o.op=.makeMap T none) {me:ME} (hme:imap me=[]):ERun Γ o s (.mp s.hp.length) (s.hp++[.mapo me]):=by
 intro a w η hr
 have hsm:=Same.alloc w (.map #[] 0)
 refine⟨.map (some w.heap.size),_,η++[.map (some w.heap.size)],.inl (by simp[execOp,ho,Instr.makeMap];rfl),?_,?_⟩
 ·exact hr.add hok hsm (fun b hb=>by simp only[blk,Option.some.injEq] at hb;omega) ⟨w.heap.size,#[],0,rfl,World.alloc_heap_new w _,hme.symm⟩
 ·exact .mp _ w.heap.size (by rw[←hr.heap.len];simp)
theorem put_imap {κ:Type} [DecidableEq κ] {td:TypeDesc} {kv:κ→Value} {me:List (κ×Value)→ME} (K:KeyK td kv me) {a:κ} {v:Value}:∀(es:List MapEntry) (l:List (κ×Value)) (i:Nat),(es.map fun e=>(e.key,e.val))=l.map (fun p=>(kv p.1,p.2))→
  (∃j u,Instr.findNow td (kv a) es i=some (some (i+j,u))∧(es[j]?).map (·.key)=some (kv a)∧((es.modify j fun e=>{ e with key:=kv a,val:=v }).map fun e=>(e.key,e.val))=(mapPut l a v).map (fun p=>(kv p.1,p.2)))∨
   (Instr.findNow td (kv a) es i=some none∧(mapPut l a v).map (fun p=>(kv p.1,p.2))=(es.map fun e=>(e.key,e.val))++[(kv a,v)]):=by
 intro es
 induction es with
 |nil=>
  intro l i h
  cases l with
  |nil=>exact .inr ⟨rfl,rfl⟩
  |cons p l=>simp at h
 |cons e es ih=>
  intro l i h
  cases l with
  |nil=>simp at h
  |cons p l=>
   obtain⟨key,u⟩:=p
   simp only[List.map_cons,List.cons.injEq,Prod.mk.injEq] at h
   obtain⟨⟨h1,h2⟩,h3⟩:=h
   simp only[Instr.findNow,h1,K.same,mapPut]
   by_cases hak:a=key
   ·subst hak
    simp only[decide_true,if_true]
    refine .inl ⟨0,e.val,rfl,by simp[h1],?_⟩
    simp only[List.modify_zero_cons,List.map_cons]
    rw[h3]
   ·simp only[if_neg hak,decide_eq_false hak]
    rcases ih l (i+1) h3 with⟨j,u',g1,g2,g3⟩|⟨g1,g2⟩
    ·refine .inl ⟨j+1,u',by rw[g1];congr 3;omega,by simpa using g2,?_⟩
     simp only[List.modify_succ_cons,List.map_cons,h1,h2]
     rw[g3]
    ·refine .inr ⟨g1,?_⟩
     simp only[List.map_cons,List.cons_append,h1,h2] at g2 ⊢
     rw[g2]
theorem erun_mapUpdate {κ:Type} [DecidableEq κ] {td:TypeDesc} {kv:κ→Value} {me:List (κ×Value)→ME} (K:KeyK td kv me) (hok:Γ.Ok) {tab:Nat→Option TD} (htab:TabOk Γ.P tab) {o:Oper} {T kt et r:Nat} {m k x:Operand} (ho:o.op=.mapUpdate T m k x) {d dk:TD} (hd:tab T=some d) (hkind:d.kind=.mapk kt et) (hdk:tab kt=some dk) (hik:∀u,dk.kind.fits Γ.P u→u=td)
  (hm:s.ev m=.mp r) {es:List (κ×Value)} (hes:s.hp[r]?=some (.mapo (me es))) {a:κ} (hk:s.ev k=.prim (kv a)) {v:Value} (hx:s.ev x=.prim v):ERun Γ o s .top (s.hp.set r (.mapo (me (mapPut es a v)))):=by
 intro act w η hr
 have hu:Γ.P.underlying T=some (.map kt et):=by
  obtain⟨u,q2,q3⟩:=(htab T d hd).und
  rw[hkind] at q3
  rw[q2];exact congrArg some q3
 have huk:Γ.P.underlying kt=some td:=by
  obtain⟨u,q2,q3⟩:=(htab kt dk hdk).und
  rw[q2];exact congrArg some (hik u q3)
 have hkr:=hr.ev k
 rw[hk] at hkr
 have hkv:=hkr.prim_inv
 have hxr:=hr.ev x
 rw[hx] at hxr
 have hxv:=hxr.prim_inv
 have hmr:=hr.ev m
 rw[hm] at hmr
 generalize hmv:act.eval m=mv at hmr
 cases hmr with
 |mp _ b hη=>
  obtain⟨b',en,c,e1,hheap,hpairs⟩:=hr.heap.obj r _ _ hes hη
  simp only[Value.map.injEq,Option.some.injEq] at e1
  subst e1
  have hlt:=block_lt hheap
  have hget:(getObj b).run Γ.P w=.ok (.map en c) w:=by simp[getObj,Sem.run,hheap]
  have hset:∀o',(setObj b o').run Γ.P w=.ok () (w.putObj b o'):=fun o'=>by simp[setObj,Sem.run,hheap,World.putObj]
  have key:∀en' c',mapPairs en'=imap (me (mapPut es a v))→Rel Γ { s with hp:=s.hp.set r (.mapo (me (mapPut es a v))) } act (w.putObj b (.map en' c')) η:=by
   intro en' c' hp'
   have hηs:η.set r (.map (some b))=η:=by
    apply List.ext_getElem?
    intro i
    by_cases hi:r=i
    ·subst hi;rw[getElem?_set_same hη,hη]
    ·rw[getElem?_set_ne hi]
   have:=Rel.change (w':=w.putObj b (.map en' c')) (o':=.mapo (me (mapPut es a v))) (v':=.map (some b)) hok hr hes True.intro hη
    ⟨rfl,rfl,rfl,by simp,fun q hq hb=>World.putObj_heap_other (fun e=>hb (by rw[e];rfl))⟩
    (fun q hq=>.inl hq) (fun q hq=>hq.elim) (fun _ _ _ _ hq=>hq.elim) (fun _ _ _ _ hq=>hq.elim)
    (fun n u ho'=>by simp[OwnOk,hes] at ho') (fun _ hq=>by cases hq) (fun _ _=>rfl)
    (fun q dd hb hdd=>by simp only[blk,Option.some.injEq] at hb;subst hb;rw[hheap] at hdd;cases hdd)
    (fun _=>⟨b,en',c',rfl,World.putObj_heap_same hlt,hp'⟩)
   rw[hηs] at this
   exact this
  have hfk:∀q,Instr.findNow td (kv a) en.toList 0=some q→(Instr.findKey kt (kv a) en.toList).run Γ.P w=.ok q w:=fun q hq=>by
   simp only[Instr.findKey,Sem.run_bind,run_underlying huk,Result.andThen_ok,hq,Sem.run_pure]
  rcases put_imap K (a:=a) (v:=v) en.toList es 0 (hpairs.trans (K.me es)) with⟨j,u,g1,g2,g3⟩|⟨g1,g2⟩
  ·rw[Nat.zero_add] at g1
   have hj:(en[j]?).map (·.key)=some (kv a):=by simpa using g2
   have hkts:(Instr.keyThatStays (((en[j]?).map (·.key)).getD (kv a)) (kv a)).run Γ.P w=.ok (kv a) w:=by
    rw[hj]
    simp[Instr.keyThatStays,K.bits]
   refine⟨undef,_,η,.inr ⟨?_,rfl⟩,key (en.modify j fun e=>{ e with key:=kv a,val:=v }) c ?_,.top _⟩
   ·simp only[execOp,ho,hmv,hkv,hxv,Instr.mapUpdate,Sem.run_bind,run_underlying hu,Result.andThen_ok,hget,K.check _ _ _ _ _ huk,hfk _ g1,hkts,hset,Sem.run_pure]
   ·unfold mapPairs;rw[Array.toList_modify,K.me];exact g3
  ·refine⟨undef,_,η,.inr ⟨?_,rfl⟩,key (en.push { key:=kv a,val:=v,born:=c }) (c+1) ?_,.top _⟩
   ·simp only[execOp,ho,hmv,hkv,hxv,Instr.mapUpdate,Sem.run_bind,run_underlying hu,Result.andThen_ok,hget,K.check _ _ _ _ _ huk,hfk _ g1,hset,Sem.run_pure]
   ·unfold mapPairs;rw[K.me,g2];simp
theorem heff_sound (hok:Γ.Ok) {tab:Nat→Option TD} (htab:TabOk Γ.P tab) {o:Oper} {c:Prop} {r:AV} {hp':List AObj} (h:heff tab s.hp s.ev o.op=some (c,r,hp')) (hc:c):ERun Γ o s r hp':=by
 generalize ho:o.op=op at h
 cases op with
 |alloc T=>
  simp only[heff] at h
  split at h
  ·rename_i d hd
   simp only[Option.some.injEq,Prod.mk.injEq] at h
   obtain⟨_,rfl,rfl⟩:=h
   exact erun_alloc hok htab ho hd
  ·cases h
 |box T x=>
  simp only[heff] at h
  split at h
  ·rename_i hs
   simp only[Option.some.injEq,Prod.mk.injEq] at h
   obtain⟨_,rfl,rfl⟩:=h
   exact erun_box hok ho hs
  ·cases h
 |store T p x=>
  simp only[heff] at h
  split at h
  ·rename_i d r' off hd hp
   split at h
   ·rename_i cs hcs
    split at h
    ·rename_i hs
     simp only[Option.some.injEq,Prod.mk.injEq] at h
     obtain⟨rfl,rfl,rfl⟩:=h
     exact erun_store hok htab ho hd hp hcs hs hc.1 hc.2
    ·cases h
   ·cases h
  ·rename_i d r' m i z hd hp
   split at h
   ·rename_i e size els hcs
    split at h
    ·rename_i hs
     simp only[Option.some.injEq,Prod.mk.injEq] at h
     obtain⟨rfl,rfl,rfl⟩:=h
     obtain⟨hs,rfl⟩:=hs
     exact erun_storeM hok htab ho hd hp hcs hs hc.1 hc.2.1 hc.2.2
    ·cases h
   ·cases h
  ·cases h
 |makeSlice T l c'=>
  simp only[heff] at h
  split at h
  ·rename_i d hd
   split at h
   ·rename_i e hk
    split at h
    ·rename_i d' k k' n hd' hl hcc
     simp only[Option.some.injEq,Prod.mk.injEq] at h
     obtain⟨rfl,rfl,rfl⟩:=h
     exact erun_makeSlice hok htab ho hd hk hd' hl hcc hc.1 hc.2.1 hc.2.2.1 hc.2.2.2
    ·cases h
   ·cases h
  ·cases h
 |makeMap T r'=>
  cases r' with
  |some r'=>simp[heff] at h
  |none=>
   simp only[heff] at h
   split at h
   ·split at h
    ·split at h
     ·split at h
      ·simp only[Option.some.injEq,Prod.mk.injEq] at h
       obtain⟨_,rfl,rfl⟩:=h
       exact erun_makeMap hok ho rfl
      ·simp only[Option.some.injEq,Prod.mk.injEq] at h
       obtain⟨_,rfl,rfl⟩:=h
       exact erun_makeMap hok ho rfl
     ·cases h
    ·cases h
   ·cases h
 |mapUpdate T m k x=>
  simp only[heff] at h
  split at h
  ·rename_i d r' a v hd hm hk hx
   split at h
   ·rename_i kt et es hkind hes
    split at h
    ·rename_i dk hdk
     split at h
     ·rename_i ik hik
      simp only[Option.some.injEq,Prod.mk.injEq] at h
      obtain⟨_,rfl,rfl⟩:=h
      exact erun_mapUpdate (keyI ik) hok htab ho hd hkind hdk (fun u hu=>by rw[hik] at hu;exact hu) hm hes hk hx
     ·cases h
    ·cases h
   ·cases h
  ·rename_i d r' a v hd hm hk hx
   split at h
   ·rename_i kt et es hkind hes
    split at h
    ·rename_i dk hdk
     split at h
     ·rename_i hik
      simp only[Option.some.injEq,Prod.mk.injEq] at h
      obtain⟨_,rfl,rfl⟩:=h
      exact erun_mapUpdate keyS hok htab ho hd hkind hdk (fun u hu=>by rw[hik] at hu;exact hu) hm hes hk hx
     ·cases h
    ·cases h
   ·cases h
  ·cases h
 |call cl=>
  simp only[heff] at h
  split at h
  ·rename_i b x T T' hb hl hT
   split at h
   ·rename_i hTT
    subst hTT
    split at h
    ·rename_i d hd
     split at h
     ·rename_i e hk
      split at h
      ·rename_i d' els2 hd' hx
       split at h
       ·rename_i hbv
        simp only[Option.some.injEq,Prod.mk.injEq] at h
        obtain⟨rfl,rfl,rfl⟩:=h
        exact erun_append hok htab ho hb hl hT hd hk hd' hx (.inl ⟨[],.inl ⟨hbv,rfl⟩,hc.1,fun _=>rfl,by simpa using hc.2,by simp,by simp⟩)
       ·rename_i els hbv
        simp only[Option.some.injEq,Prod.mk.injEq] at h
        obtain⟨rfl,rfl,rfl⟩:=h
        exact erun_append hok htab ho hb hl hT hd hk hd' hx (.inl ⟨els,.inr hbv,hc.1,hc.2.1,hc.2.2,rfl,rfl⟩)
       ·rename_i n m hbv
        split at h
        ·rename_i e' size els hrow
         split at h
         ·rename_i hcond
          obtain⟨rfl,rfl,rfl⟩:=hcond
          simp only[Option.some.injEq,Prod.mk.injEq] at h
          obtain⟨rfl,rfl,rfl⟩:=h
          exact erun_append hok htab ho hb hl hT hd hk hd' hx (.inr ⟨n,els,hbv,hrow,hc,rfl,rfl⟩)
         ·cases h
        ·cases h
       ·cases h
      ·cases h
     ·cases h
    ·cases h
   ·cases h
  ·cases h
 |_=>simp[heff] at h
end Go.Proofs.YtjhanogfpkbamaaGreatDoor
