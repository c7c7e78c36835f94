/- Texts of ours laid together for a claim: FilA FilB FilC FilD FilE FilF FilG FilH FilI FilJ FilK FilL FilM. -/
import Derived.WalkKit
import Derived.CallsIn
import Derived.RangeFuncRecord
import Derived.Laws.AppendOwn
import Derived.Lib.AppendStr
import Derived.ArgAppend
namespace Go.Proofs.YtdcikhleahfknaaGreatDoor
open Go
set_option linter.unusedSimpArgs false
set_option linter.unusedVariables false
section
inductive ME where
 |i (l:List (Int×Value))
 |s (l:List (ByteArray×Value))
def s8:TypeId:=200
inductive AV where
 |top
 |ae (v:Value)
 |fn (v:Value)
 |sl (els:List AV)
 |clip (els:List AV)
 |own (r n:Nat)
 |ptr (r off:Nat)
 |aH (e:AV) (off:Nat)
 |agg (cs:List AV)
 |bc (vs:List AV)
 |aS (f:Nat) (caps:List AV)
 |mp (r:Nat)
 |dL (es:ME)
 |ea (r n i size:Nat)
 |cH (f:Nat) (first:List AV)
instance:Inhabited AV:=⟨.top⟩
def AV.cells:AV→List AV
 | .agg cs=>cs
 |v=>[v]
inductive af where
 |dead
 |box (cs:List AV)
 |row (e size:Nat) (els:List AV)
 |aP (es:ME)
 |cA (r n:Nat)
 |aF (e size:Nat) (els:List AV)
 |dh (e m:Nat) (ns:List Int)
def af.live:af→Prop
 | .dead=>False
 |_=>True
def bT:Value→Option Nat
 | .pointer (some a)=>some a.block
 | .slice (some a) _ c=>if c=0 then none else some a.block
 | .map (some b)=>some b
 |_=>none
def aQ (η:List Value) (hp:List af) (r n:Nat) (v:Value):Prop:=
 match hp[r]? with
 |some (.row _ _ els)=>n≤els.length∧(n=els.length→η[r]?=some v)
 |some (.aF _ _ els)=>n≤els.length∧(n=els.length→η[r]?=some v)
 |some (.dh _ m _)=>n≤m∧(n=m→η[r]?=some v)
 |some .dead=>True
 |_=>False
def jO (es:Array MapEntry):List (Value×Value):=es.toList.map fun e=>(e.key,e.val)
def FG:ME→List (Value×Value)
 | .i l=>l.map fun p=>(.int .i64 p.1,p.2)
 | .s l=>l.map fun p=>(.string p.1,p.2)
inductive aV (w:World) (F:Nat→Nat→Prop):List Value→List af→AV→Value→Prop
 |top {η:List Value} {hp:List af} (v:Value):aV w F η hp .top v
 |ae {η:List Value} {hp:List af} (v:Value):aV w F η hp (.ae v) v
 |fn {η:List Value} {hp:List af} (v:Value) (h1:v.oneCell'=true):aV w F η hp (.fn v) v
 |jN {η:List Value} {hp:List af} (a:Option Addr):aV w F η hp (.sl []) (.slice a 0 0)
 |gR {η:List Value} {hp:List af} (a:Option Addr):aV w F η hp (.clip []) (.slice a 0 0)
 |sl {η:List Value} {hp:List af} (size:Nat) (els:List AV) (b o c:Nat) (f:Nat→Nat→Value) (hc:els.length≤c) (hm:c≤maxLen)
   (hl:∀(i:Nat) (e:AV),els[i]?=some e→e.cells.length=size)
   (aw:∀(i:Nat) (e:AV) (j:Nat) (x:AV),els[i]?=some e→e.cells[j]?=some x→w.cell? ⟨b,o+i*size+j,none⟩=some (f i j)∧F b (o+i*size+j)∧(f i j).oneCell'=true)
   (hr:∀(i:Nat) (e:AV) (j:Nat) (x:AV),els[i]?=some e→e.cells[j]?=some x→aV w F [] [] x (f i j)):
   aV w F η hp (.sl els) (.slice (some ⟨b,o,none⟩) els.length c)
 |clip {η:List Value} {hp:List af} (size:Nat) (els:List AV) (b o:Nat) (f:Nat→Nat→Value) (hm:els.length≤maxLen)
   (hl:∀(i:Nat) (e:AV),els[i]?=some e→e.cells.length=size)
   (aw:∀(i:Nat) (e:AV) (j:Nat) (x:AV),els[i]?=some e→e.cells[j]?=some x→w.cell? ⟨b,o+i*size+j,none⟩=some (f i j)∧F b (o+i*size+j)∧(f i j).oneCell'=true)
   (hr:∀(i:Nat) (e:AV) (j:Nat) (x:AV),els[i]?=some e→e.cells[j]?=some x→aV w F [] [] x (f i j)):
   aV w F η hp (.clip els) (.slice (some ⟨b,o,none⟩) els.length els.length)
 |own {η:List Value} {hp:List af} (r n:Nat) (v:Value) (h1:v.oneCell'=true) (h:aQ η hp r n v):aV w F η hp (.own r n) v
 |ptr {η:List Value} {hp:List af} (r off b:Nat) (h:η[r]?=some (.pointer (some ⟨b,0,none⟩))):aV w F η hp (.ptr r off) (.pointer (some ⟨b,off,none⟩))
 |aH {η:List Value} {hp:List af} (e:AV) (off b o:Nat) (f:Nat→Value)
   (aw:∀(j:Nat) (x:AV),e.cells[j]?=some x→w.cell? ⟨b,o+j,none⟩=some (f j)∧F b (o+j)∧(f j).oneCell'=true)
   (hr:∀(j:Nat) (x:AV),e.cells[j]?=some x→aV w F [] [] x (f j)):
   aV w F η hp (.aH e off) (.pointer (some ⟨b,o+off,none⟩))
 |agg {η:List Value} {hp:List af} (cs:List AV) (vs:Array Value) (hl:vs.size=cs.length) (h1:∀v:Value,v∈vs→v.oneCell'=true)
   (hr:∀(j:Nat) (x:AV) (v:Value),cs[j]?=some x→vs[j]?=some v→aV w F η hp x v):aV w F η hp (.agg cs) (.agg vs)
 |bc {η:List Value} {hp:List af} (cs:List AV) (vs:Array Value) (hl:vs.size=cs.length)
   (hr:∀(j:Nat) (x:AV) (v:Value),cs[j]?=some x→vs[j]?=some v→aV w F η hp x v):aV w F η hp (.bc cs) (.tuple vs)
 |aS {η:List Value} {hp:List af} (fn:Nat) (cs:List AV) (vs:Array Value) (hl:vs.size=cs.length)
   (hr:∀(j:Nat) (x:AV) (v:Value),cs[j]?=some x→vs[j]?=some v→aV w F η hp x v):aV w F η hp (.aS fn cs) (.func (.func fn) #[] vs)
 |mp {η:List Value} {hp:List af} (r b:Nat) (h:η[r]?=some (.map (some b))):aV w F η hp (.mp r) (.map (some b))
 |dL {η:List Value} {hp:List af} (b:Nat) (es:Array MapEntry) (c:Nat) (h:w.heap[b]?=some (.map es c)) (hF:F b 0) (l:ME) (hl:jO es=FG l):aV w F η hp (.dL l) (.map (some b))
 |ea {η:List Value} {hp:List af} (r n i size b o c k:Nat) (h:aQ η hp r n (.slice (some ⟨b,o,none⟩) k c)):aV w F η hp (.ea r n i size) (.pointer (some ⟨b,o+i*size,none⟩))
 |cH {η:List Value} {hp:List af} (fn:Nat) (cs:List AV) (vs:Array Value) (hl:vs.size=cs.length)
   (hr:∀(j:Nat) (x:AV) (v:Value),cs[j]?=some x→vs[j]?=some v→aV w F η hp x v):aV w F η hp (.cH fn cs) (.func (.func fn) vs #[])
structure Hn (w:World) (F:Nat→Nat→Prop) (w':World) (F':Nat→Nat→Prop):Prop where
 cell:∀b o v,F b o→w.cell? ⟨b,o,none⟩=some v→w'.cell? ⟨b,o,none⟩=some v
 fQ:∀b es c,F b 0→w.heap[b]?=some (.map es c)→w'.heap[b]?=some (.map es c)
 aY:∀b o,F b o→F' b o
structure Ext (w:World) (F:Nat→Nat→Prop) (η:List Value) (hp:List af) (w':World) (F':Nat→Nat→Prop) (aM:List Value) (hp':List af):Prop where
 cell:∀b o v,F b o→w.cell? ⟨b,o,none⟩=some v→w'.cell? ⟨b,o,none⟩=some v
 fQ:∀b es c,F b 0→w.heap[b]?=some (.map es c)→w'.heap[b]?=some (.map es c)
 aY:∀b o,F b o→F' b o
 ptr:∀(r:Nat) a,η[r]?=some (.pointer a)→aM[r]?=some (.pointer a)
 mp:∀(r:Nat) a,η[r]?=some (.map a)→aM[r]?=some (.map a)
 own:∀r n v,aQ η hp r n v→aQ aM hp' r n v
variable {w w':World} {F F':Nat→Nat→Prop} {η aM:List Value} {hp hp':List af}
theorem Hn.ext (h:Hn w F w' F'):Ext w F [] [] w' F' [] []:=
 ⟨h.cell,h.fQ,h.aY,fun _ _ h=>h,fun _ _ h=>h,fun _ _ _ h=>h⟩
theorem Ext.jP (h:Ext w F η hp w' F' aM hp'):Hn w F w' F':=⟨h.cell,h.fQ,h.aY⟩
theorem aV.ext (h:Ext w F η hp w' F' aM hp') {x:AV} {v:Value} (hx:aV w F η hp x v):aV w' F' aM hp' x v:=by
 induction hx generalizing aM hp' with
 |top v=>exact .top v
 |ae v=>exact .ae v
 |fn v h1=>exact .fn v h1
 |jN a=>exact .jN a
 |gR a=>exact .gR a
 |sl size els b o c f hc hm hl aw _ ih=>
  exact .sl size els b o c f hc hm hl (fun i e j x hi hj=>let ⟨h1,h2,h3⟩:=aw i e j x hi hj;⟨h.cell _ _ _ h2 h1,h.aY _ _ h2,h3⟩) fun i e j x hi hj=>ih i e j x hi hj h.jP.ext
 |clip size els b o f hm hl aw _ ih=>
  exact .clip size els b o f hm hl (fun i e j x hi hj=>let ⟨h1,h2,h3⟩:=aw i e j x hi hj;⟨h.cell _ _ _ h2 h1,h.aY _ _ h2,h3⟩) fun i e j x hi hj=>ih i e j x hi hj h.jP.ext
 |own r n v h1 h2=>exact .own r n v h1 (h.own _ _ _ h2)
 |ptr r off b h1=>exact .ptr r off b (h.ptr _ _ h1)
 |aH e off b o f aw _ ih=>
  exact .aH e off b o f (fun j x hj=>let ⟨h1,h2,h3⟩:=aw j x hj;⟨h.cell _ _ _ h2 h1,h.aY _ _ h2,h3⟩) fun j x hj=>ih j x hj h.jP.ext
 |agg cs vs hl h1 _ ih=>exact .agg cs vs hl h1 fun j x v h1 h2=>ih j x v h1 h2 h
 |bc cs vs hl _ ih=>exact .bc cs vs hl fun j x v h1 h2=>ih j x v h1 h2 h
 |aS fn cs vs hl _ ih=>exact .aS fn cs vs hl fun j x v h1 h2=>ih j x v h1 h2 h
 |mp r b h1=>exact .mp r b (h.mp _ _ h1)
 |dL b es c h1 h2 l hl=>exact .dL b es c (h.fQ _ _ _ h2 h1) (h.aY _ _ h2) l hl
 |ea r n i size b o c k h1=>exact .ea r n i size b o c k (h.own _ _ _ h1)
 |cH fn cs vs hl _ ih=>exact .cH fn cs vs hl fun j x v h1 h2=>ih j x v h1 h2 h
theorem aV.lift {x:AV} {v:Value} (hx:aV w F [] [] x v):aV w F η hp x v:=
 hx.ext ⟨fun _ _ _ _ h=>h,fun _ _ _ _ h=>h,fun _ _ h=>h,fun _ _ h=>by simp at h,fun _ _ h=>by simp at h,fun _ _ _ h=>by simp[aQ] at h⟩
theorem Ext.trans {w1 w2 w3:World} {F1 F2 F3:Nat→Nat→Prop} {iq lY G9:List Value} {h1 h2 h3:List af} (h:Ext w1 F1 iq h1 w2 F2 lY h2) (k:Ext w2 F2 lY h2 w3 F3 G9 h3):Ext w1 F1 iq h1 w3 F3 G9 h3:=
 ⟨fun b o v hf hc=>k.cell b o v (h.aY _ _ hf) (h.cell b o v hf hc),fun b es c hf hc=>k.fQ b es c (h.aY _ _ hf) (h.fQ b es c hf hc),fun b o hf=>k.aY _ _ (h.aY _ _ hf),
  fun r a hr=>k.ptr r a (h.ptr r a hr),fun r a hr=>k.mp r a (h.mp r a hr),fun r n v ho=>k.own r n v (h.own r n v ho)⟩
def AV.Ho:AV→Bool
 | .ae v=>v.oneCell'
 | .top | .agg _ | .bc _=>false
 |_=>true
def bF (w:World) (F:Nat→Nat→Prop) (η:List Value) (hp:List af):List AV→List Value→Prop
 | [],[]=>True
 |x::xs,v::vs=>aV w F η hp x v∧bF w F η hp xs vs
 |_,_=>False
theorem bF.length {xs:List AV} {vs:List Value} (h:bF w F η hp xs vs):vs.length=xs.length:=by
 induction xs generalizing vs with
 |nil=>cases vs<;>simp_all [bF]
 |cons x xs ih=>cases vs with
  |nil=>simp[bF] at h
  |cons v vs=>simp only[List.length_cons];rw[ih h.2]
theorem bF.get {xs:List AV} {vs:List Value} (h:bF w F η hp xs vs):∀(j:Nat) (x:AV) (v:Value),xs[j]?=some x→vs[j]?=some v→aV w F η hp x v:=by
 induction xs generalizing vs with
 |nil=>intro j x v hx;simp at hx
 |cons x xs ih=>cases vs with
  |nil=>simp[bF] at h
  |cons v vs=>
   intro j y u hy hu
   cases j with
   |zero=>simp at hy hu;subst hy;subst hu;exact h.1
   |succ j=>exact ih h.2 j y u (by simpa using hy) (by simpa using hu)
theorem cd {xs:List AV} {vs:List Value} (hl:vs.length=xs.length) (h:∀(j:Nat) (x:AV) (v:Value),xs[j]?=some x→vs[j]?=some v→aV w F η hp x v):bF w F η hp xs vs:=by
 induction xs generalizing vs with
 |nil=>cases vs with
  |nil=>exact True.intro
  |cons v vs=>simp at hl
 |cons x xs ih=>cases vs with
  |nil=>simp at hl
  |cons v vs=>
   exact⟨h 0 x v rfl rfl,ih (by simpa using hl) fun j y u hy hu=>h (j+1) y u (by simpa using hy) (by simpa using hu)⟩
theorem bF.ext (h:Ext w F η hp w' F' aM hp') {xs:List AV} {vs:List Value} (hx:bF w F η hp xs vs):bF w' F' aM hp' xs vs:=
 cd hx.length fun j x v h1 h2=>(hx.get j x v h1 h2).ext h
def zf:List (Nat×List Value):=[(0,(List.range 20).map fun i=>.int .u64 ((10 ^ i:Nat):Int))]
def kQ (b:Nat):Prop:=∃p,p∈zf∧p.1=b
def lZ (w:World):Prop:=∀p,p∈zf→∃T,w.heap[p.1]?=some (.cells p.2.toArray T (0,0))
structure bt (w w':World):Prop where
 os:w'.os=w.os
 tape:w'.tape=w.tape
 output:w'.output=w.output
 size:w.heap.size≤w'.heap.size
 block:∀k,k<w.heap.size→w'.heap[k]?=w.heap[k]?
structure bo (X:Nat→Prop) (w w':World):Prop where
 os:w'.os=w.os
 tape:w'.tape=w.tape
 output:w'.output=w.output
 size:w.heap.size≤w'.heap.size
 block:∀k,k<w.heap.size→¬X k→w'.heap[k]?=w.heap[k]?
theorem aV.nn {els:List AV} {v:Value} (h:aV w F η hp (.clip els) v):aV w F η hp (.sl els) v:=by
 cases h with
 |gR a=>exact .jN a
 |clip size els b o f hm hl aw hr=>exact .sl size els b o _ f (Nat.le_refl _) hm hl aw hr
def jf (w:World) (e:TypeId) (size:Nat) (v:Value) (n:Nat) (xs:List Value) (k:Nat):Prop:=
 xs.length=n*size∧((n=0∧(v=.slice none 0 0∨∃ad:Addr,v=.slice (some ad) 0 0))∨
  ∃g cap cur,v=.slice (some ⟨g,0,none⟩) n cap∧0<cap∧(∃hi,hi≤k∧w.heap[g]?=some (.cells cur e (0,hi)))∧n≤cap∧cap≤maxLen∧cur.size=cap*size∧cur.toList.take (n*size)=xs)
theorem ba {a:Addr} {n c:Nat} (h:0<c):bT (.slice (some a) n c)=some a.block:=by simp[bT];omega
theorem jf.lt {w:World} {e size n k:Nat} {v:Value} {xs:List Value} (h:jf w e size v n xs k) {b:Nat} (hb:bT v=some b):∃cz:Array Value×Nat,w.heap[b]?=some (.cells cz.1 e (0,cz.2)):=by
 rcases h.2 with⟨_,rfl|⟨ad,rfl⟩⟩|⟨g,cap,cur,rfl,h0,⟨hi,_,h1⟩,_⟩
 ·simp[bT] at hb
 ·simp[bT] at hb
 ·rw[ba h0] at hb;obtain rfl:=Option.some.inj hb;exact⟨(cur,hi),h1⟩
theorem jf.keep {w w':World} {e size n k:Nat} {v:Value} {xs:List Value} (h:jf w e size v n xs k) (hb:∀b,bT v=some b→b<w.heap.size→w'.heap[b]?=w.heap[b]?):jf w' e size v n xs k:=by
 refine⟨h.1,?_⟩
 rcases h.2 with h1|⟨g,cap,cur,rfl,h0,⟨hi,hk,h1⟩,h2⟩
 ·exact .inl h1
 ·exact .inr ⟨g,cap,cur,rfl,h0,⟨hi,hk,by rw[hb g (ba h0) (Array.getElem?_eq_some_iff.1 h1).1];exact h1⟩,h2⟩
theorem jf.more {w:World} {e size n k k':Nat} {v:Value} {xs:List Value} (h:jf w e size v n xs k) (hk:k≤k'):jf w e size v n xs k':=
 ⟨h.1,h.2.imp id fun⟨g,cap,cur,h1,h2,⟨hi,h3,h4⟩,h5⟩=>⟨g,cap,cur,h1,h2,⟨hi,Nat.le_trans h3 hk,h4⟩,h5⟩⟩
def dT (w:World) (e:TypeId) (v:Value) (ns:List Int):Prop:=
 (ns=[]∧∃ad,v=.slice ad 0 0)∨
  ∃g o cap cur,v=.slice (some ⟨g,o,none⟩) ns.length cap∧0<cap∧w.heap[g]?=some (.cells cur e (0,0))∧ns.length≤cap∧cap≤maxLen∧o+cap≤cur.size∧
   ∀(i:Nat) (n:Int),ns[i]?=some n→cur[o+i]?=some (.int .i64 n)
theorem dT.lt {w:World} {e:Nat} {v:Value} {ns:List Int} (h:dT w e v ns) {b:Nat} (hb:bT v=some b):∃cur,w.heap[b]?=some (.cells cur e (0,0)):=by
 rcases h with⟨_,ad,rfl⟩|⟨g,o,cap,cur,rfl,h0,h1,_⟩
 ·cases ad<;>simp[bT] at hb
 ·rw[ba h0] at hb;obtain rfl:=Option.some.inj hb;exact⟨cur,h1⟩
theorem dT.keep {w w':World} {e:Nat} {v:Value} {ns:List Int} (h:dT w e v ns) (hb:∀b,bT v=some b→b<w.heap.size→w'.heap[b]?=w.heap[b]?):dT w' e v ns:=by
 rcases h with h1|⟨g,o,cap,cur,rfl,h0,h1,h2⟩
 ·exact .inl h1
 ·exact .inr ⟨g,o,cap,cur,rfl,h0,by rw[hb g (ba h0) (Array.getElem?_eq_some_iff.1 h1).1];exact h1,h2⟩
theorem bt.refl (w:World):bt w w:=⟨rfl,rfl,rfl,Nat.le_refl _,fun _ _=>rfl⟩
theorem bt.trans {a b c:World} (h:bt a b) (k:bt b c):bt a c:=
 ⟨k.os.trans h.os,k.tape.trans h.tape,k.output.trans h.output,Nat.le_trans h.size k.size,fun i hi=>(k.block i (Nat.lt_of_lt_of_le hi h.size)).trans (h.block i hi)⟩
theorem bt.alloc (w:World) (o:Obj):bt w (w.alloc o):=⟨rfl,rfl,rfl,by simp,fun k hk=>heap_alloc_old w o hk⟩
theorem bt.drew (w:World):bt w w.drew:=⟨rfl,rfl,rfl,Nat.le_refl _,fun _ _=>rfl⟩
theorem bt.keeps {w w':World} (X:Nat→Prop) (h:bt w w'):bo X w w':=⟨h.os,h.tape,h.output,h.size,fun k hk _=>h.block k hk⟩
theorem bo.same {w w':World} {X:Nat→Prop} (h:bo X w w') (hX:∀b,b<w.heap.size→¬X b):bt w w':=⟨h.os,h.tape,h.output,h.size,fun k hk=>h.block k hk (hX k hk)⟩
theorem bo.refl (X:Nat→Prop) (w:World):bo X w w:=⟨rfl,rfl,rfl,Nat.le_refl _,fun _ _ _=>rfl⟩
theorem bo.trans {X Z:Nat→Prop} {a b c:World} (h:bo X a b) (k:bo Z b c) (hZ:∀i,i<a.heap.size→Z i→X i):bo X a c:=
 ⟨k.os.trans h.os,k.tape.trans h.tape,k.output.trans h.output,Nat.le_trans h.size k.size,
  fun i hi hx=>(k.block i (Nat.lt_of_lt_of_le hi h.size) (fun hz=>hx (hZ i hi hz))).trans (h.block i hi hx)⟩
theorem bo.cell {X:Nat→Prop} {w w':World} (h:bo X w w') {b o:Nat} (hb:b<w.heap.size) (hx:¬X b):w'.cell? ⟨b,o,none⟩=w.cell? ⟨b,o,none⟩:=by
 simp[World.cell?,h.block b hb hx]
theorem lZ.lt {w:World} (h:lZ w) {b:Nat} (hb:kQ b):b<w.heap.size:=by
 obtain⟨p,hp,rfl⟩:=hb
 obtain⟨T,h1⟩:=h p hp
 exact(Array.getElem?_eq_some_iff.1 h1).1
theorem lZ.keeps {X:Nat→Prop} {w w':World} (h:lZ w) (k:bo X w w') (hx:∀b,kQ b→¬X b):lZ w':=fun p hp=>by
 obtain⟨T,h1⟩:=h p hp
 exact⟨T,by rw[k.block p.1 (h.lt ⟨p,hp,rfl⟩) (hx p.1 ⟨p,hp,rfl⟩)];exact h1⟩
theorem lZ.same {w w':World} (h:lZ w) (k:bt w w'):lZ w':=h.keeps (k.keeps fun _=>False) fun _ _=>not_false
theorem aX {w:World} {b:Nat} {o:Obj} (h:w.heap[b]?=some o):b<w.heap.size:=(Array.getElem?_eq_some_iff.1 h).1
end
section
structure Env (G:Type) where
 P:Program
 w0:World
 F0:Nat→Nat→Prop
 X:Nat→Prop
 Y:Nat→Prop
 Inv:G→World→Prop
 nt:Nat
 vQ:Option Nat
 m0:Nat→Prop
 Z:Nat→Nat→Prop
 vh:List Value
 ir:List af
def Env.No {G:Type} (Γ:Env G) (b o:Nat):Prop:=Γ.X b∨Γ.Z b o
structure Env.Ok {G:Type} (Γ:Env G):Prop where
 l0:Γ.vh.length=Γ.ir.length
 x:∀b,Γ.X b→b<Γ.w0.heap.size
 y:∀b,Γ.Y b→b<Γ.w0.heap.size
 l8:∀g w w',(∀b,Γ.X b→w'.heap[b]?=w.heap[b]?)→w.heap.size≤w'.heap.size→Γ.Inv g w→Γ.Inv g w'
 z:∀b o,Γ.Z b o→b<Γ.w0.heap.size
 fX:lZ Γ.w0
 gx:∀b,kQ b→¬(Γ.X b∨Γ.Y b)
def Env.zg {G:Type} (Γ:Env G):Prop:=Γ.vQ=none∧∀r,Γ.w0.heap.size≤r→Γ.m0 r
theorem Env.Ok.no {G:Type} {Γ:Env G} (h:Γ.Ok) {b o:Nat} (hb:Γ.No b o):b<Γ.w0.heap.size:=hb.elim (h.x b) (h.z b o)
structure AS (G:Type) where
 tmps:Nat→AV
 hp:List af
 g:G
def gW (η:List Value) (hp:List af) (b o:Nat):Prop:=
 ∀(r:Nat) (v:Value),η[r]?=some v→bT v=some b→
  match hp[r]? with
  |some (.row _ size els)=>o<els.length*size
  |some .dead=>True
  |_=>False
def aU {G:Type} (Γ:Env G) (w:World) (η:List Value) (hp:List af) (b o:Nat):Prop:=
 (Γ.F0 b o∨Γ.w0.heap.size≤b∨Γ.Y b)∧b<w.heap.size∧¬Γ.No b o∧gW η hp b o
def fo (w:World) (F:Nat→Nat→Prop) (η:List Value) (hp:List af):af→Value→Prop
 | .dead,_=>True
 | .box cs,v=>∃(b:Nat) (vs:Array Value) (T:TypeId),v=.pointer (some ⟨b,0,none⟩)∧w.heap[b]?=some (.cells vs T (0,0))∧vs.size=cs.length∧
   ∀(j:Nat) (x:AV) (u:Value),cs[j]?=some x→vs[j]?=some u→aV w F η hp x u∧u.oneCell'=true
 | .row e size els,v=>0<size∧∃xs:List Value,jf w e size v els.length xs (els.length*size)∧
   ∀(i:Nat) (el:AV),els[i]?=some el→el.cells.length=size∧
    ∀(j:Nat) (x:AV),el.cells[j]?=some x→∃u,xs[i*size+j]?=some u∧aV w F [] [] x u∧u.oneCell'=true
 | .cA r n,v=>∃(b:Nat) (vs:Array Value),v=.pointer (some ⟨b,0,none⟩)∧w.heap[b]?=some (.cells vs s8 (0,0))∧(vs.size=2∧(n=0→vs[1]?=some (.slice none 0 0)))∧(vs[0]?=some (.pointer none)∨vs[0]?=some v)∧∃u,vs[1]?=some u∧aV w F η hp (.own r n) u
 | .aP es,v=>∃(b:Nat) (en:Array MapEntry) (c:Nat),v=.map (some b)∧w.heap[b]?=some (.map en c)∧jO en=FG es
 | .aF e size els,v=>0<size∧∃xs:List Value,jf w e size v els.length xs 0∧
   ∀(i:Nat) (el:AV),els[i]?=some el→el.cells.length=size∧
    ∀(j:Nat) (x:AV),el.cells[j]?=some x→∃u,xs[i*size+j]?=some u∧aV w F [] [] x u∧u.oneCell'=true
 | .dh e _ ns,v=>dT w e v ns
structure cT (w:World) (F:Nat→Nat→Prop) (η:List Value) (hp:List af):Prop where
 len:η.length=hp.length
 obj:∀(r:Nat) (o:af) (v:Value),hp[r]?=some o→η[r]?=some v→fo w F η hp o v
 sep:∀(r r':Nat) (o o':af) (v v':Value) (b:Nat),r≠r'→hp[r]?=some o→hp[r']?=some o'→o.live→o'.live→
  η[r]?=some v→η[r']?=some v'→bT v=some b→bT v'≠some b
def se {G:Type} (Γ:Env G) (η:List Value) (hp:List af):Prop:=
 ∀(r:Nat) (o:af) (v:Value) (b:Nat),hp[r]?=some o→o.live→η[r]?=some v→bT v=some b→(Γ.w0.heap.size≤b∨Γ.Y b)∧∀o,¬Γ.No b o
structure Marks (N:Nat→Prop) (ds:List Deferred) (w:World):Prop where
 all:∀d,d∈ds→∃r,d.target=.collected r∧w.heap[r]?=some (.deferred (some []))∧N r
 apart:ds.Pairwise fun d d'=>d.target≠d'.target
structure Rel {G:Type} (Γ:Env G) (s:AS G) (a:Act) (w:World) (η:List Value):Prop where
 nt:a.tmps.size=Γ.nt
 tmps:∀t,aV w (aU Γ w η s.hp) η s.hp (s.tmps t) (a.tmps.getD t undef)
 heap:cT w (aU Γ w η s.hp) η s.hp
 bA:se Γ η s.hp
 keeps:bo (fun b=>Γ.X b∨Γ.Y b) Γ.w0 w
 inv:Γ.Inv s.g w
 marks:Marks Γ.m0 a.defers w
 ext:Ext Γ.w0 Γ.F0 Γ.vh Γ.ir w (aU Γ w η s.hp) η s.hp
def xa (f:Nat→AV) (t:Nat) (x:AV):Nat→AV:=fun u=>if u=t then x else f u
theorem eF (f:Nat→AV) (t:Nat) (x:AV) (u:Nat):xa f t x u=if u=t then x else f u:=rfl
def AS.put {G:Type} (s:AS G) (d:Option Nat) (x:AV):AS G:=
 match d with
 |some d=>{ s with tmps:=xa s.tmps d x }
 |none=>s
variable {G:Type} {Γ:Env G} {s:AS G} {a:Act} {w w':World} {η aM:List Value} {hp:List af}
theorem bo.marks {X:Nat→Prop} {N:Nat→Prop} {ds:List Deferred} (h:Marks N ds w) (k:bo X w w') (hX:∀b,X b→¬N b∨∀d,w.heap[b]?≠some (.deferred d)):Marks N ds w':=by
 refine⟨fun d hd=>?_,h.apart⟩
 obtain⟨r,h1,h2,h3⟩:=h.all d hd
 refine⟨r,h1,?_,h3⟩
 rw[k.block r (aX h2)]
 ·exact h2
 ·intro hx
  rcases hX r hx with h4|h4
  ·exact h4 h3
  ·exact h4 _ h2
theorem l9 (hs:bt w w') (hF:∀b o,aU Γ w η hp b o→b<w.heap.size):Ext w (aU Γ w η hp) η hp w' (aU Γ w' η hp) η hp where
 cell b o v hf hc:=by rw[World.cell?_of_block (hs.block b (hF b o hf))];exact hc
 fQ b es c hf hc:=by rw[hs.block b (hF b 0 hf)];exact hc
 aY b o hf:=⟨hf.1,Nat.lt_of_lt_of_le hf.2.1 hs.size,hf.2.2⟩
 ptr _ _ h:=h
 mp _ _ h:=h
 own _ _ _ h:=h
theorem dy {b o:Nat} (h:aU Γ w η hp b o):b<w.heap.size:=h.2.1
theorem fo.ext {F F':Nat→Nat→Prop} {hp':List af} {o:af} {v:Value} (h:fo w F η hp o v) (he:Ext w F η hp w' F' aM hp') (bE:w.heap.size≤w'.heap.size)
  (hb:∀b,bT v=some b→b<w.heap.size→w'.heap[b]?=w.heap[b]?):fo w' F' aM hp' o v:=by
 cases o with
 |dead=>exact True.intro
 |box cs=>
  obtain⟨b,vs,T,rfl,h1,h2,h3⟩:=h
  exact⟨b,vs,T,rfl,by rw[hb b rfl (aX h1)];exact h1,h2,fun j x u hx hu=>⟨(h3 j x u hx hu).1.ext he,(h3 j x u hx hu).2⟩⟩
 |row e size els=>
  obtain⟨h0,xs,h1,h2⟩:=h
  refine⟨h0,xs,h1.keep hb,fun i el hi=>⟨(h2 i el hi).1,fun j x hj=>?_⟩⟩
  ·obtain⟨u,h3,h4,h5⟩:=(h2 i el hi).2 j x hj
   exact⟨u,h3,h4.ext he.jP.ext,h5⟩
 |cA q k=>
  obtain⟨b,vs,rfl,h1,h2,h3,u,h4,h5⟩:=h
  exact⟨b,vs,rfl,by rw[hb b rfl (aX h1)];exact h1,h2,h3,u,h4,h5.ext he⟩
 |aP es=>
  obtain⟨b,en,c,rfl,h1,h2⟩:=h
  exact⟨b,en,c,rfl,by rw[hb b rfl (aX h1)];exact h1,h2⟩
 |aF e size els=>
  obtain⟨h0,xs,h1,h2⟩:=h
  refine⟨h0,xs,h1.keep hb,fun i el hi=>⟨(h2 i el hi).1,fun j x hj=>?_⟩⟩
  ·obtain⟨u,h3,h4,h5⟩:=(h2 i el hi).2 j x hj
   exact⟨u,h3,h4.ext he.jP.ext,h5⟩
 |dh e m ns=>exact dT.keep h hb
theorem cT.same (h:cT w (aU Γ w η hp) η hp) (hs:bt w w'):cT w' (aU Γ w' η hp) η hp:=
 ⟨h.len,fun r o v h1 h2=>(h.obj r o v h1 h2).ext (l9 hs fun _ _=>dy) hs.size fun b _ al=>hs.block b al,h.sep⟩
theorem bo.xb {X:Nat→Prop} {w0:World} (h:bo X w0 w) (hs:bt w w'):bo X w0 w':=
 h.trans (hs.keeps fun _=>False) fun _ _ hf=>hf.elim
theorem Rel.same (aq:Γ.Ok) (h:Rel Γ s a w η) (hs:bt w w'):Rel Γ s a w' η where
 nt:=h.nt
 tmps t:=(h.tmps t).ext (l9 hs fun _ _=>dy)
 heap:=h.heap.same hs
 bA:=h.bA
 keeps:=h.keeps.xb hs
 inv:=aq.l8 _ _ _ (fun b hb=>hs.block b (Nat.lt_of_lt_of_le (aq.x b hb) h.keeps.size)) hs.size h.inv
 marks:=(hs.keeps fun _=>False).marks h.marks fun _ hf=>hf.elim
 ext:=h.ext.trans (l9 hs fun _ _=>dy)
theorem Rel.fX (aq:Γ.Ok) (h:Rel Γ s a w η):lZ w:=aq.fX.keeps h.keeps aq.gx
theorem Rel.put (h:Rel Γ s a w η) {d:Option Nat} {x:AV} {v:Value} (hd:∀t,d=some t→t<Γ.nt) (hr:aV w (aU Γ w η s.hp) η s.hp x v):Rel Γ (s.put d x) (a.put d v) w η:=by
 cases d with
 |none=>exact h
 |some d=>
  refine⟨by simpa [Act.put] using h.nt,fun t=>?_,h.heap,h.bA,h.keeps,h.inv,h.marks,h.ext⟩
  show aV w _ η s.hp (xa s.tmps d x t) ((a.tmps.setIfInBounds d v).getD t undef)
  by_cases VX:t=d
  ·subst VX
   have al:t<a.tmps.size:=by rw[h.nt];exact hd t rfl
   have e:(a.tmps.setIfInBounds t v).getD t undef=v:=by simp[al]
   rw[eF,if_pos rfl,e]
   exact hr
  ·have e:(a.tmps.setIfInBounds d v).getD t undef=a.tmps.getD t undef:=by
    simp only[Array.getD_eq_getD_getElem?]
    rw[Array.getElem?_setIfInBounds_ne (Ne.symm VX)]
   rw[eF,if_neg VX,e]
   exact h.tmps t
def AS.add (s:AS G) (o:af):AS G:={ s with hp:=s.hp++[o] }
theorem bS {α:Type} {l:List α} {x y:α} {r:Nat} (h:l[r]?=some y):(l++[x])[r]?=some y:=by
 rw[List.getElem?_append_left (List.getElem?_eq_some_iff.1 h).1];exact h
theorem cL {α:Type} {l:List α} {x y:α} {r:Nat} (h:(l++[x])[r]?=some y):l[r]?=some y∨(r=l.length∧y=x):=by
 rcases Nat.lt_trichotomy r l.length with h1|h1|h1
 ·rw[List.getElem?_append_left h1] at h;exact .inl h
 ·subst h1;simp at h;exact .inr ⟨rfl,h.symm⟩
 ·rw[List.getElem?_append_right (by omega)] at h
  have:r-l.length≠0:=by omega
  cases hk:r-l.length with
  |zero=>omega
  |succ k=>rw[hk] at h;simp at h
theorem gW.snoc {o:af} {v:Value} {b k:Nat} (hl:η.length=hp.length) (h:gW η hp b k) (hv:bT v=some b→False):gW (η++[v]) (hp++[o]) b k:=by
 intro r u hu hb
 rcases cL hu with h1|⟨rfl,rfl⟩
 ·have:=h r u h1 hb
  have hr:r<hp.length:=by rw[←hl];exact(List.getElem?_eq_some_iff.1 h1).1
  rw[List.getElem?_append_left hr]
  exact this
 ·exact(hv hb).elim
theorem aQ.snoc {o:af} {v u:Value} {r n:Nat} (h:aQ η hp r n u):aQ (η++[v]) (hp++[o]) r n u:=by
 unfold aQ at h ⊢
 cases hr:hp[r]? with
 |none=>simp[hr] at h
 |some x=>
  rw[bS hr]
  rw[hr] at h
  cases x with
  |row e size els=>exact⟨h.1,fun hn=>bS (h.2 hn)⟩
  |dead=>exact True.intro
  |box cs=>exact h
  |aP es=>exact h
  |cA q k=>exact h
  |aF e size els=>exact⟨h.1,fun hn=>bS (h.2 hn)⟩
  |dh e m ns=>exact⟨h.1,fun hn=>bS (h.2 hn)⟩
theorem o6 {o:af} {v:Value} (hl:η.length=hp.length) (hs:bt w w') (hv:∀b,bT v=some b→w.heap.size≤b):
  Ext w (aU Γ w η hp) η hp w' (aU Γ w' (η++[v]) (hp++[o])) (η++[v]) (hp++[o]) where
 cell b k u hf hc:=by rw[World.cell?_of_block (hs.block b (dy hf))];exact hc
 fQ b es c hf hc:=by rw[hs.block b (dy hf)];exact hc
 aY b k hf:=⟨hf.1,Nat.lt_of_lt_of_le hf.2.1 hs.size,hf.2.2.1,hf.2.2.2.snoc hl fun hb=>by have:=hv b hb;have:=dy hf;omega⟩
 ptr _ _ h:=bS h
 mp _ _ h:=bS h
 own _ _ _ h:=h.snoc
theorem Rel.add (aq:Γ.Ok) (h:Rel Γ s a w η) {o:af} {v:Value} (hs:bt w w') (hv:∀b,bT v=some b→w.heap.size≤b)
  (ho:fo w' (aU Γ w' (η++[v]) (s.hp++[o])) (η++[v]) (s.hp++[o]) o v):Rel Γ (s.add o) a w' (η++[v]):=by
 have he:=o6 (Γ:=Γ) (o:=o) (v:=v) h.heap.len hs hv
 have bE:=h.keeps.size
 have gv:∀(r:Nat) (u:Value) (b:Nat),η[r]?=some u→bT u=some b→b<w.heap.size∨¬∃o:af,s.hp[r]?=some o∧o.live:=by
  intro r u b hu hb
  by_cases al:b<w.heap.size
  ·exact .inl al
  ·refine .inr fun⟨o',s9,VY⟩=>al ?_
   have cR:=h.heap.obj r o' u s9 hu
   cases o' with
   |dead=>exact VY.elim
   |box cs=>obtain⟨b',vs,T,rfl,h1,_⟩:=cR;simp only[bT,Option.some.injEq] at hb;subst hb;exact aX h1
   |row e size els=>
    obtain⟨_,xs,h1,_⟩:=cR
    obtain⟨cur,h5⟩:=h1.lt hb
    exact aX h5
   |aP es=>obtain⟨b',en,c,rfl,h1,_⟩:=cR;simp only[bT,Option.some.injEq] at hb;subst hb;exact aX h1
   |cA q k=>obtain⟨b',vs,rfl,h1,_⟩:=cR;simp only[bT,Option.some.injEq] at hb;subst hb;exact aX h1
   |aF e size els=>
    obtain⟨_,xs,h1,_⟩:=cR
    obtain⟨cur,h5⟩:=h1.lt hb
    exact aX h5
   |dh e m ns=>obtain⟨cur,h5⟩:=dT.lt cR hb;exact aX h5
 refine⟨h.nt,fun t=>(h.tmps t).ext he,⟨by simp[AS.add,h.heap.len],?_,?_⟩,?_,h.keeps.xb hs,
  aq.l8 _ _ _ (fun b hb=>hs.block b (Nat.lt_of_lt_of_le (aq.x b hb) h.keeps.size)) hs.size h.inv,(hs.keeps fun _=>False).marks h.marks fun _ hf=>hf.elim,h.ext.trans he⟩
 ·intro r o' u h1 h2
  rcases cL h1 with h3|⟨rfl,rfl⟩
  ·rcases cL h2 with h4|⟨rfl,rfl⟩
   ·exact(h.heap.obj r o' u h3 h4).ext he hs.size fun b _ al=>hs.block b al
   ·have:=(List.getElem?_eq_some_iff.1 h3).1;have:=h.heap.len;omega
  ·have:(η++[v])[s.hp.length]?=some v:=by rw[←h.heap.len];simp
   rw[this] at h2
   obtain rfl:=Option.some.inj h2
   exact ho
 ·intro r r' o1 o2 v1 v2 b bj h1 h2 l1 l2 e1 e2 hb
  rcases cL h1 with h3|⟨rfl,rfl⟩<;>rcases cL h2 with h4|⟨rfl,rfl⟩
  ·have hr:r<η.length:=by rw[h.heap.len];exact(List.getElem?_eq_some_iff.1 h3).1
   have dM:r' < η.length:=by rw[h.heap.len];exact(List.getElem?_eq_some_iff.1 h4).1
   rw[List.getElem?_append_left hr] at e1
   rw[List.getElem?_append_left dM] at e2
   exact h.heap.sep r r' o1 o2 v1 v2 b bj h3 h4 l1 l2 e1 e2 hb
  ·have hr:r<η.length:=by rw[h.heap.len];exact(List.getElem?_eq_some_iff.1 h3).1
   rw[List.getElem?_append_left hr] at e1
   have:(η++[v])[s.hp.length]?=some v:=by rw[←h.heap.len];simp
   rw[this] at e2
   obtain rfl:=Option.some.inj e2
   intro ec
   have:=hv b ec
   rcases gv r v1 b e1 hb with h5|h5
   ·omega
   ·exact h5 ⟨o1,h3,l1⟩
  ·have dM:r' < η.length:=by rw[h.heap.len];exact(List.getElem?_eq_some_iff.1 h4).1
   rw[List.getElem?_append_left dM] at e2
   have:(η++[v])[s.hp.length]?=some v:=by rw[←h.heap.len];simp
   rw[this] at e1
   obtain rfl:=Option.some.inj e1
   intro ec
   have:=hv b hb
   rcases gv r' v2 b e2 ec with h5|h5
   ·omega
   ·exact h5 ⟨o2,h4,l2⟩
  ·exact(bj rfl).elim
 ·intro r o' u b h1 VY h2 hb
  rcases cL h1 with h3|⟨rfl,rfl⟩
  ·have hr:r<η.length:=by rw[h.heap.len];exact(List.getElem?_eq_some_iff.1 h3).1
   rw[List.getElem?_append_left hr] at h2
   exact h.bA r o' u b h3 VY h2 hb
  ·have:(η++[v])[s.hp.length]?=some v:=by rw[←h.heap.len];simp
   rw[this] at h2
   obtain rfl:=Option.some.inj h2
   have h5:=hv b hb
   exact⟨.inl (Nat.le_trans bE h5),fun o hx=>by have:=aq.no hx;omega⟩
end
section
variable {G:Type} {Γ:Env G} {s:AS G} {a:Act} {w w':World} {η aM:List Value} {hp:List af}
theorem getElem?_set_ne {α:Type} {l:List α} {r r':Nat} {x:α} (h:r≠r'):(l.set r x)[r']?=l[r']?:=by
 rw[List.getElem?_set];simp[h]
theorem ai {α:Type} {l:List α} {r:Nat} {x y:α} (h:l[r]?=some y):(l.set r x)[r]?=some x:=by
 rw[List.getElem?_set];simp[(List.getElem?_eq_some_iff.1 h).1]
def af.aY (k:Nat):af→Prop
 | .row _ size els=>k<els.length*size
 | .dead=>True
 |_=>False
theorem aN (b k:Nat):gW η hp b k↔∀(r:Nat) (v:Value),η[r]?=some v→bT v=some b→∃o,hp[r]?=some o∧o.aY k:=by
 constructor
 ·intro h r v h1 h2
  have:=h r v h1 h2
  cases hr:hp[r]? with
  |none=>simp[hr] at this
  |some o=>rw[hr] at this;refine⟨o,rfl,?_⟩;cases o<;>exact this
 ·intro h r v h1 h2
  obtain⟨o,h3,h4⟩:=h r v h1 h2
  rw[h3]
  cases o<;>exact h4
theorem cT.block (h:cT w (aU Γ w η hp) η hp) {r:Nat} {o:af} {u:Value} {b:Nat} (ho:hp[r]?=some o) (hl:o.live) (hu:η[r]?=some u) (hb:bT u=some b):b<w.heap.size:=by
 have cR:=h.obj r o u ho hu
 cases o with
 |dead=>exact hl.elim
 |box cs=>obtain⟨b',vs,T,rfl,h1,_⟩:=cR;simp only[bT,Option.some.injEq] at hb;subst hb;exact aX h1
 |row e size els=>
  obtain⟨_,xs,h1,_⟩:=cR
  obtain⟨cur,h5⟩:=h1.lt hb
  exact aX h5
 |aP es=>obtain⟨b',en,c,rfl,h1,_⟩:=cR;simp only[bT,Option.some.injEq] at hb;subst hb;exact aX h1
 |cA q k=>obtain⟨b',vs,rfl,h1,_⟩:=cR;simp only[bT,Option.some.injEq] at hb;subst hb;exact aX h1
 |aF e size els=>
  obtain⟨_,xs,h1,_⟩:=cR
  obtain⟨cur,h5⟩:=h1.lt hb
  exact aX h5
 |dh e m ns=>obtain⟨cur,h5⟩:=dT.lt cR hb;exact aX h5
theorem Rel.change (aq:Γ.Ok) (h:Rel Γ s a w η) {r:Nat} {o o':af} {v v':Value} (hr:s.hp[r]?=some o) (cX:o.live) (hv:η[r]?=some v)
  (hk:bo (fun k=>bT v=some k) w w') (Ha:∀b,bT v'=some b→bT v=some b∨w.heap.size≤b)
  (dF:∀k,o.aY k→o'.aY k)
  (aw:∀b k u,bT v=some b→o.aY k→w.cell? ⟨b,k,none⟩=some u→w'.cell? ⟨b,k,none⟩=some u)
  (RW:∀b es c,bT v=some b→o.aY 0→w.heap[b]?=some (.map es c)→False)
  (qy:∀n u,aQ η s.hp r n u→aQ (η.set r v') (s.hp.set r o') r n u)
  (VZ:∀x,v=.pointer x→v'=v) (ZU:∀x,v=.map x→v'=v)
  (PS:∀b d,bT v=some b→w.heap[b]?=some (.deferred d)→False)
  (s9:Ext w (aU Γ w η s.hp) η s.hp w' (aU Γ w' (η.set r v') (s.hp.set r o')) (η.set r v') (s.hp.set r o')→fo w' (aU Γ w' (η.set r v') (s.hp.set r o')) (η.set r v') (s.hp.set r o') o' v'):
  Rel Γ { s with hp:=s.hp.set r o' } a w' (η.set r v'):=by
 have cR:∀b k,aU Γ w η s.hp b k→bT v=some b→o.aY k:=fun b k hf hb=>by
  obtain⟨o1,h1,h2⟩:=(aN b k).1 hf.2.2.2 r v hv hb
  rw[hr] at h1
  obtain rfl:=Option.some.inj h1
  exact h2
 have he:Ext w (aU Γ w η s.hp) η s.hp w' (aU Γ w' (η.set r v') (s.hp.set r o')) (η.set r v') (s.hp.set r o'):=by
  refine⟨fun b k u hf hc=>?_,fun b es c hf hc=>?_,fun b k hf=>?_,fun r1 x h1=>?_,fun r1 x h1=>?_,fun r1 n u h1=>?_⟩
  ·by_cases hb:bT v=some b
   ·exact aw b k u hb (cR b k hf hb) hc
   ·rw[hk.cell (dy hf) hb];exact hc
  ·by_cases hb:bT v=some b
   ·exact(RW b es c hb (cR b 0 hf hb) hc).elim
   ·rw[hk.block b (dy hf) hb];exact hc
  ·refine⟨hf.1,Nat.lt_of_lt_of_le hf.2.1 hk.size,hf.2.2.1,(aN b k).2 fun r1 u h1 hb=>?_⟩
   by_cases bj:r=r1
   ·subst bj
    rw[ai hv] at h1
    obtain rfl:=Option.some.inj h1
    refine⟨o',ai hr,?_⟩
    rcases Ha b hb with h2|h2
    ·exact dF k (cR b k hf h2)
    ·have:=dy hf;omega
   ·rw[getElem?_set_ne bj] at h1 ⊢
    exact(aN b k).1 hf.2.2.2 r1 u h1 hb
  ·by_cases bj:r=r1
   ·subst bj
    rw[hv] at h1
    obtain rfl:=Option.some.inj h1
    rw[ai hv,VZ _ rfl]
   ·rw[getElem?_set_ne bj];exact h1
  ·by_cases bj:r=r1
   ·subst bj
    rw[hv] at h1
    obtain rfl:=Option.some.inj h1
    rw[ai hv,ZU _ rfl]
   ·rw[getElem?_set_ne bj];exact h1
  ·by_cases bj:r=r1
   ·subst bj;exact qy n u h1
   ·unfold aQ at h1 ⊢
    rw[getElem?_set_ne bj,getElem?_set_ne bj];exact h1
 refine⟨h.nt,fun t=>(h.tmps t).ext he,⟨by simp[h.heap.len],fun r1 o1 u h1 h2=>?_,fun r1 r2 o1 o2 v1 v2 b bj h1 h2 l1 l2 e1 e2 hb=>?_⟩,fun r1 o1 u b h1 hl h2 hb=>?_,?_,?_,?_,h.ext.trans he⟩
 ·simp only at h1
  by_cases bj:r=r1
  ·subst bj
   rw[ai hr] at h1
   rw[ai hv] at h2
   obtain rfl:=Option.some.inj h1
   obtain rfl:=Option.some.inj h2
   exact s9 he
  ·rw[getElem?_set_ne bj] at h1 h2
   by_cases zh:o1.live
   ·exact(h.heap.obj r1 o1 u h1 h2).ext he hk.size fun b hb al=>hk.block b al fun ec=>h.heap.sep r1 r o1 o u v b (Ne.symm bj) h1 hr zh cX h2 hv hb ec
   ·cases o1<;>first|exact True.intro|exact(zh True.intro).elim
 ·simp only at h1 h2
  by_cases n1:r=r1
  ·subst n1
   rw[ai hv] at e1
   obtain rfl:=Option.some.inj e1
   rw[getElem?_set_ne bj] at h2 e2
   intro ec
   rcases Ha b hb with h3|h3
   ·exact h.heap.sep r r2 o o2 v v2 b bj hr h2 cX l2 hv e2 h3 ec
   ·have:=h.heap.block h2 l2 e2 ec;omega
  ·rw[getElem?_set_ne n1] at h1 e1
   by_cases n2:r=r2
   ·subst n2
    rw[ai hv] at e2
    obtain rfl:=Option.some.inj e2
    intro ec
    rcases Ha b ec with h3|h3
    ·exact h.heap.sep r r1 o o1 v v1 b (fun e=>n1 e) hr h1 cX l1 hv e1 h3 hb
    ·have:=h.heap.block h1 l1 e1 hb;omega
   ·rw[getElem?_set_ne n2] at h2 e2
    exact h.heap.sep r1 r2 o1 o2 v1 v2 b bj h1 h2 l1 l2 e1 e2 hb
 ·simp only at h1
  by_cases bj:r=r1
  ·subst bj
   rw[ai hv] at h2
   obtain rfl:=Option.some.inj h2
   rcases Ha b hb with h3|h3
   ·exact h.bA r o v b hr cX hv h3
   ·exact⟨.inl (Nat.le_trans h.keeps.size h3),fun o hx=>by have:=aq.no hx;have:=h.keeps.size;omega⟩
  ·rw[getElem?_set_ne bj] at h1 h2
   exact h.bA r1 o1 u b h1 hl h2 hb
 ·refine h.keeps.trans hk fun b hb np=>?_
  rcases (h.bA r o v b hr cX hv np).1 with h1|h1
  ·omega
  ·exact .inr h1
 ·refine aq.l8 _ _ _ (fun b hb=>hk.block b (Nat.lt_of_lt_of_le (aq.x b hb) h.keeps.size) fun np=>?_) hk.size h.inv
  exact(h.bA r o v b hr cX hv np).2 0 (.inl hb)
 ·exact hk.marks h.marks fun b np=>.inr fun d hd=>PS b d np hd
def setCells (cs:List AV) (off:Nat):List AV→List AV
 | []=>cs
 |x::xs=>setCells (cs.set off x) (off+1) xs
theorem sf (xs:List AV):∀(cs:List AV) (off:Nat),(setCells cs off xs).length=cs.length:=by
 induction xs with
 |nil=>intro cs off;rfl
 |cons x xs ih=>intro cs off;simp[setCells,ih]
theorem Rel.write (aq:Γ.Ok) (h:Rel Γ s a w η) {r off b:Nat} {cs:List AV} {x:AV} {v:Value} (hr:s.hp[r]?=some (.box cs)) (hv:η[r]?=some (.pointer (some ⟨b,0,none⟩)))
  (LK:off<cs.length) (h1:v.oneCell'=true) (hx:aV w (aU Γ w η s.hp) η s.hp x v):
  Rel Γ { s with hp:=s.hp.set r (.box (cs.set off x)) } a (w.setCell ⟨b,off,none⟩ v) η∧w.frozen? ⟨b,off,none⟩=false∧∃u,w.cell? ⟨b,off,none⟩=some u:=by
 have cR:=h.heap.obj r _ _ hr hv
 obtain⟨b',vs,T,he,hg,bE,hc⟩:=cR
 simp only[Value.pointer.injEq,Option.some.injEq,Addr.mk.injEq,and_true] at he
 subst he
 have nO:(w.setCell ⟨b,off,none⟩ v).heap[b]?=some (.cells (vs.setIfInBounds off v) T (0,0)):=Go.heap_setCell_same w b off vs T v hg
 have dn:η.set r (.pointer (some ⟨b,0,none⟩))=η:=by
  apply List.ext_getElem?
  intro i
  by_cases hi:r=i
  ·subst hi;rw[ai hv,hv]
  ·rw[getElem?_set_ne hi]
 refine⟨?_,frozen_of_row w b off vs T hg,?_⟩
 ·have:=Rel.change (w':=w.setCell ⟨b,off,none⟩ v) (o':=.box (cs.set off x)) (v':=.pointer (some ⟨b,0,none⟩)) aq h hr True.intro hv
   ⟨rfl,rfl,rfl,by simp[World.setCell],fun k hk hb=>Go.heap_setCell_other w _ k v (by intro e;exact hb (by rw[e];rfl))⟩
   (fun c hc=>.inl hc) (fun k hk=>hk.elim) (fun _ _ _ _ hk=>hk.elim) (fun _ _ _ _ hk=>hk.elim)
   (fun n u ho=>by simp[aQ,hr] at ho)
   (fun _ _=>rfl) (fun _ hx=>by cases hx)
   (fun c d hb hd=>by simp only[bT,Option.some.injEq] at hb;subst hb;rw[hg] at hd;cases hd)
   (fun he=>⟨b,vs.setIfInBounds off v,T,rfl,nO,by simp[bE],fun j y u hy hu=>by
    by_cases hj:off=j
    ·subst hj
     have al:off<vs.size:=by rw[bE];exact LK
     have e1:(cs.set off x)[off]?=some x:=by rw[List.getElem?_set];simp[LK]
     have e2:(vs.setIfInBounds off v)[off]?=some v:=by rw[Array.getElem?_setIfInBounds];simp[al]
     rw[e1] at hy
     rw[e2] at hu
     obtain rfl:=Option.some.inj hy
     obtain rfl:=Option.some.inj hu
     exact⟨hx.ext he,h1⟩
    ·rw[getElem?_set_ne hj] at hy
     have e2:(vs.setIfInBounds off v)[j]?=vs[j]?:=by rw[Array.getElem?_setIfInBounds];simp[hj]
     rw[e2] at hu
     exact⟨(hc j y u hy hu).1.ext he,(hc j y u hy hu).2⟩⟩)
  rw[dn] at this
  exact this
 ·rw[cell_of_row w b off vs T (0,0) hg]
  exact⟨vs[off]'(by rw[bE];exact LK),by simp[bE,LK]⟩
end
section
inductive TK where
 |other
 |int (k:IntKind)
 |str
 |bool
 |bP (fields:List (Nat×Nat×Bool))
 |iu (e:Nat)
 |l5 (k e:Nat)
 |ptr (e:Nat)
 |arr (n:Nat)
 |Vv
structure TD where
 flat:Bool:=false
 kind:TK
 size:Nat
 bytes:Nat
 zero:Value
def TK.agg:TK→Bool
 | .bP _=>true
 | .arr _=>true
 |_=>false
def Hp:TypeDesc→Bool
 | .struct _ | .array _ _=>true
 |_=>false
def TK.fits (P:Program) (u:TypeDesc):TK→Prop
 | .other=>(match u with | .struct _ | .array _ _=>False|_=>True)
 | .int k=>u=.int k
 | .str=>u=.string
 | .bool=>u=.bool
 | .bP fs=>∃fields,u=.struct fields∧fields.toList.map (fun f=>(f.offset,(P.info? f.type).map (·.size),(P.underlying f.type).map Hp))=fs.map fun p=>(p.1,some p.2.1,some p.2.2)
 | .iu e=>u=.slice e
 | .l5 k e=>u=.map k e
 | .ptr e=>u=.pointer e
 | .Vv=>∃ms,u=.interface ms
 | .arr n=>∃e i,u=.array n e∧P.info? e=some i∧i.size=1
structure eK (P:Program) (T:TypeId) (d:TD):Prop where
 info:∃i,P.info? T=some i∧i.size=d.size∧i.bytes=d.bytes∧i.zero=some d.zero
 iS:∃u,P.underlying T=some u∧d.kind.fits P u
 Ei:d.zero.cells.size=d.size
 V0:∀v:Value,v∈d.zero.cells→v.oneCell'=true
 ZV:d.kind.agg=true→∃cs,d.zero=.agg cs
 OY:d.kind.agg=false→d.size=1∧d.zero.oneCell'=true
 ZW:d.flat=true→P.eqGuardType P.depth T=false∧∀(w:World) (a1 a2 b1 b2:Int),(Op.equalIn 10000 T (.agg #[.int .i64 a1,.int .i64 a2]) (.agg #[.int .i64 b1,.int .i64 b2])).run P w=.ok (a1==b1&&a2==b2) w
def aL (P:Program) (tab:Nat→Option TD):Prop:=∀T d,tab T=some d→eK P T d
variable {G:Type} {Γ:Env G} {s:AS G} {a:Act} {w w':World} {η:List Value} {hp:List af} {F:Nat→Nat→Prop} {P:Program}
theorem eK.FH {T:TypeId} {d:TD} (h:eK P T d) (w:World):(isAgg T).run P w=.ok d.kind.agg w:=by
 obtain⟨u,h1,h2⟩:=h.iS
 simp only[isAgg,Sem.run_bind,run_underlying h1,Result.andThen_ok]
 revert h2
 cases hk:d.kind<;>intro h2<;>simp only[TK.fits] at h2
 ·cases u<;>first|rfl|exact h2.elim
 ·subst h2;rfl
 ·subst h2;rfl
 ·subst h2;rfl
 ·obtain⟨f,rfl,_⟩:=h2;rfl
 ·subst h2;rfl
 ·subst h2;rfl
 ·subst h2;rfl
 ·obtain⟨e,i,rfl,_⟩:=h2;rfl
 ·obtain⟨m,rfl⟩:=h2;rfl
theorem eK.run_sizeOf {T:TypeId} {d:TD} (h:eK P T d) (w:World):(sizeOf T).run P w=.ok d.size w:=by
 obtain⟨i,h1,h2,_⟩:=h.info
 simp[sizeOf,typeInfo,h1,h2]
theorem eK.fp {T:TypeId} {d:TD} (h:eK P T d) (w:World):(zeroValue T).run P w=.ok d.zero w:=by
 obtain⟨i,h1,_,_,h4⟩:=h.info
 simp[zeroValue,typeInfo,h1,h4]
theorem eK.run_load {T:TypeId} {d:TD} (h:eK P T d) {b o:Nat} {vs:List Value} (hl:vs.length=d.size) (hc:∀(j:Nat) (v:Value),vs[j]?=some v→w.cell? ⟨b,o+j,none⟩=some v):
  (loadVar T ⟨b,o,none⟩).run P w=.ok (if d.kind.agg then .agg vs.toArray else vs.headD undef) w:=by
 simp only[loadVar,Sem.run_bind,h.FH,Result.andThen_ok]
 cases hk:d.kind.agg with
 |true=>
  simp only[if_true,Sem.run_bind,h.run_sizeOf,Result.andThen_ok]
  rw[←hl,run_loadCells_list (P:=P) w ⟨b,o,none⟩ vs (fun j v hj=>by rw[Addr.add_lit];exact hc j v hj)]
  rfl
 |false=>
  have h1:=(h.OY hk).1
  rw[h1] at hl
  match vs,hl with
  | [v],_=>
   have:=hc 0 v rfl
   simp only[Nat.add_zero] at this
   simp[run_load,this]
def AV.fq (hp:List af):AV→Option (List AV)
 | .sl els=>some els
 | .clip els=>some els
 | .ae (.slice none 0 0)=>some []
 | .own r n=>match hp[r]? with
  |some (.row _ _ els)=>if n=els.length then some els else none
  |_=>none
 |_=>none
theorem Rel.PT {r:Nat} {e size:Nat} {els:List AV} {v:Value} (hF:∀b k,(∃u,η[r]?=some u∧bT u=some b)→k<els.length*size→F b k)
  (cR:fo w F η hp (.row e size els) v) (hv:η[r]?=some v):aV w F η hp (.sl els) v:=by
 obtain⟨h0,xs,bU,cy⟩:=cR
 rcases bU.2 with⟨hn,rfl|⟨ad,rfl⟩⟩|⟨g,cap,cur,rfl,FI,⟨hi,_,hg⟩,zi,Cn,eS,jg⟩
 ·have:els=[]:=List.eq_nil_of_length_eq_zero hn
  subst this;exact .jN _
 ·have:els=[]:=List.eq_nil_of_length_eq_zero hn
  subst this
  exact .jN _
 ·have aw:∀(i:Nat) (el:AV) (j:Nat) (x:AV),els[i]?=some el→el.cells[j]?=some x→∃u,w.cell? ⟨g,0+i*size+j,none⟩=some u∧xs.getD (i*size+j) undef=u∧F g (0+i*size+j)∧u.oneCell'=true∧aV w F [] [] x u:=by
   intro i el j x hi hj
   obtain⟨hlen,hx⟩:=cy i el hi
   obtain⟨u,hu,cD,h1⟩:=hx j x hj
   have n6:i<els.length:=(List.getElem?_eq_some_iff.1 hi).1
   have o5:j<size:=by rw[←hlen];exact(List.getElem?_eq_some_iff.1 hj).1
   have al:i*size+j<els.length*size:=by
    have:=Nat.mul_le_mul_right size (show i+1≤els.length from n6)
    rw[Nat.add_mul] at this;omega
   refine⟨u,?_,by simp[List.getD,hu],hF _ _ ⟨_,hv,ba FI⟩ (by omega),h1,cD⟩
   rw[Nat.zero_add,cell_of_row w g _ cur e _ hg]
   rw[←jg,List.getElem?_take,if_pos al] at hu
   simpa using hu
  refine .sl size els g 0 cap (fun i j=>xs.getD (i*size+j) undef) zi Cn (fun i el hi=>(cy i el hi).1) (fun i el j x hi hj=>?_) (fun i el j x hi hj=>?_)
  ·obtain⟨u,h1,h2,h3,h4,_⟩:=aw i el j x hi hj
   exact⟨by rw[h2];exact h1,h3,by rw[h2];exact h4⟩
  ·obtain⟨u,h1,h2,h3,h4,h5⟩:=aw i el j x hi hj
   rw[h2];exact h5
theorem LL (h:cT w (aU Γ w η hp) η hp) (hm:se Γ η hp) {r e size:Nat} {els:List AV} {v:Value} (hr:hp[r]?=some (.row e size els)) (hv:η[r]?=some v)
  {b k:Nat} (hb:bT v=some b) (vk:k<els.length*size):aU Γ w η hp b k:=by
 have h1:=hm r _ v b hr True.intro hv hb
 refine⟨.inr h1.1,h.block hr True.intro hv hb,h1.2 _,(aN b k).2 fun r' u hu ec=>?_⟩
 ·by_cases bj:r=r'
  ·subst bj
   exact⟨_,hr,vk⟩
  ·have dM:r' < hp.length:=by rw[←h.len];exact(List.getElem?_eq_some_iff.1 hu).1
   refine⟨hp[r'],by simp[dM],?_⟩
   cases ho:hp[r'] with
   |dead=>exact True.intro
   |box cs=>exact(h.sep r r' _ (.box cs) v u b bj hr (by rw[←ho];simp[dM]) True.intro True.intro hv hu hb ec).elim
   |row e' s' jQ=>exact(h.sep r r' _ (.row e' s' jQ) v u b bj hr (by rw[←ho];simp[dM]) True.intro True.intro hv hu hb ec).elim
   |aP es=>exact(h.sep r r' _ (.aP es) v u b bj hr (by rw[←ho];simp[dM]) True.intro True.intro hv hu hb ec).elim
   |cA q k=>exact(h.sep r r' _ (.cA q k) v u b bj hr (by rw[←ho];simp[dM]) True.intro True.intro hv hu hb ec).elim
   |aF e' s' jQ=>exact(h.sep r r' _ (.aF e' s' jQ) v u b bj hr (by rw[←ho];simp[dM]) True.intro True.intro hv hu hb ec).elim
   |dh e' m' RX=>exact(h.sep r r' _ (.dh e' m' RX) v u b bj hr (by rw[←ho];simp[dM]) True.intro True.intro hv hu hb ec).elim
end
section
variable {G:Type} {Γ:Env G} {s:AS G} {a:Act} {w w':World} {η:List Value} {hp:List af} {F:Nat→Nat→Prop} {P:Program}
theorem LM (h:cT w (aU Γ w η hp) η hp) (hm:se Γ η hp) {r n e size:Nat} {els:List AV} {v:Value} (hr:hp[r]?=some (.row e size els)) (ho:aQ η hp r n v) (hn:n=els.length):
  aV w (aU Γ w η hp) η hp (.sl els) v:=by
 have hv:η[r]?=some v:=by
  unfold aQ at ho
  rw[hr] at ho
  exact ho.2 hn
 exact Rel.PT (fun b k ⟨u,h1,h2⟩ hk=>LL h hm hr h1 h2 hk) (h.obj r _ v hr hv) hv
theorem iv (h:cT w (aU Γ w η hp) η hp) (hm:se Γ η hp) {x:AV} {els:List AV} {v:Value} (hx:aV w (aU Γ w η hp) η hp x v) (he:x.fq hp=some els):
  aV w (aU Γ w η hp) η hp (.sl els) v:=by
 cases x with
 |sl l=>simp only[AV.fq,Option.some.injEq] at he;subst he;exact hx
 |clip l=>simp only[AV.fq,Option.some.injEq] at he;subst he;exact hx.nn
 |ae u=>
  have:u=v:=by cases hx;rfl
  subst this
  unfold AV.fq at he
  split at he<;>try (simp at he;done)
  ·rename_i h1;cases h1
  ·rename_i h1;cases h1
  ·rename_i h1
   simp only[AV.ae.injEq] at h1
   subst h1
   obtain rfl:=Option.some.inj he
   exact .jN _
  ·rename_i h1;cases h1
 |own r n=>
  have ho:aQ η hp r n v:=by cases hx;assumption
  simp only[AV.fq] at he
  cases hr:hp[r]? with
  |none=>simp[hr] at he
  |some o=>
   cases o with
   |row e size l=>
    simp only[hr] at he
    split at he
    ·rename_i hn
     obtain rfl:=Option.some.inj he
     exact LM h hm hr ho hn
    ·cases he
   |_=>simp[hr] at he
 |_=>simp[AV.fq] at he
structure xc (w:World) (F:Nat→Nat→Prop) (size:Nat) (els:List AV) (v:Value) (news:List Value):Prop where
 shape:(∃ad:Option Addr,v=.slice ad 0 0∧els=[])∨∃b o c,v=.slice (some ⟨b,o,none⟩) els.length c∧els.length≤c∧c≤maxLen∧∀(k:Nat) (u:Value),news[k]?=some u→w.cell? ⟨b,o+k,none⟩=some u
 len:news.length=els.length*size
 one:∀u:Value,u∈news→u.oneCell'=true
 rep:∀(i:Nat) (e:AV) (j:Nat) (x:AV),els[i]?=some e→e.cells[j]?=some x→∃u,news[i*size+j]?=some u∧aV w F [] [] x u∧u.oneCell'=true
theorem aV.sH {size:Nat} {els:List AV} {v:Value} (h:aV w F η hp (.sl els) v) (bE:0<size) (hl:∀e:AV,e∈els→e.cells.length=size):∃news,xc w F size els v news:=by
 cases h with
 |jN a=>exact⟨[],.inl ⟨a,rfl,rfl⟩,by simp,(fun u hu=>by cases hu),fun i e j x hi=>by simp at hi⟩
 |sl rl els b o c f hc hm Co aw hr=>
  have V1:∀k,k<els.length*size→k / size<els.length∧k % size<size∧k=k / size*size+k % size:=fun k hk=>
   ⟨Nat.div_lt_of_lt_mul (by rw[Nat.mul_comm];exact hk),Nat.mod_lt _ bE,by rw[Nat.mul_comm];exact(Nat.div_add_mod k size).symm⟩
  have bO:∀k,k<els.length*size→w.cell? ⟨b,o+k,none⟩=some (f (k / size) (k % size))∧(f (k / size) (k % size)).oneCell'=true:=fun k hk=>by
   obtain⟨h1,h2,h3⟩:=V1 k hk
   have he:els[k / size]?=some els[k / size]:=by simp[h1]
   have hlen:=hl _ (List.getElem_mem h1)
   have hj:els[k / size].cells[k % size]?=some (els[k / size].cells[k % size]'(by rw[hlen];exact h2)):=by simp[hlen,h2]
   have OZ:rl=size:=by rw[←Co _ _ he];exact hlen
   have:=aw _ _ _ _ he hj
   rw[OZ,Nat.add_assoc,←h3] at this
   exact⟨this.1,this.2.2⟩
  refine⟨(List.range (els.length*size)).map fun k=>f (k / size) (k % size),.inr ⟨b,o,c,rfl,hc,hm,fun k u hk=>?_⟩,by simp,fun u hu=>?_,fun i e j x hi hj=>?_⟩
  ·rw[List.getElem?_map] at hk
   by_cases al:k<els.length*size
   ·rw[List.getElem?_range al] at hk
    obtain rfl:=Option.some.inj hk
    exact(bO k al).1
   ·rw[List.getElem?_eq_none (by simp;omega)] at hk
    cases hk
  ·obtain⟨k,hk,rfl⟩:=List.mem_map.1 hu
   exact(bO k (List.mem_range.1 hk)).2
  ·have hlen:=hl e (List.mem_of_getElem? hi)
   have n6:i<els.length:=(List.getElem?_eq_some_iff.1 hi).1
   have o5:j<size:=by rw[←hlen];exact(List.getElem?_eq_some_iff.1 hj).1
   have al:i*size+j<els.length*size:=by
    have:=Nat.mul_le_mul_right size (show i+1≤els.length from n6)
    rw[Nat.add_mul] at this;omega
   have e1:(i*size+j) / size=i:=by rw[Nat.mul_comm,Nat.mul_add_div bE,Nat.div_eq_of_lt o5,Nat.add_zero]
   have e2:(i*size+j) % size=j:=by rw[Nat.mul_comm,Nat.mul_add_mod,Nat.mod_eq_of_lt o5]
   refine⟨f i j,?_,hr i e j x hi hj,(aw i e j x hi hj).2.2⟩
   rw[List.getElem?_map,List.getElem?_range al]
   simp[e1,e2]
theorem xc.ext {w':World} {F':Nat→Nat→Prop} {size:Nat} {els:List AV} {v:Value} {news:List Value} (h:xc w F size els v news) (he:Hn w F w' F'):
  ∀(i:Nat) (e:AV) (j:Nat) (x:AV),els[i]?=some e→e.cells[j]?=some x→∃u,news[i*size+j]?=some u∧aV w' F' [] [] x u∧u.oneCell'=true:=
 fun i e j x hi hj=>let ⟨u,h1,h2,h3⟩:=h.rep i e j x hi hj;⟨u,h1,h2.ext he.ext,h3⟩
theorem kR {R:AV→Value→Prop} {size:Nat} {l1 l2:List AV} {x1 x2:List Value} (Y1:x1.length=l1.length*size)
  (h1:∀(i:Nat) (e:AV) (j:Nat) (x:AV),l1[i]?=some e→e.cells[j]?=some x→∃u,x1[i*size+j]?=some u∧R x u∧u.oneCell'=true)
  (h2:∀(i:Nat) (e:AV) (j:Nat) (x:AV),l2[i]?=some e→e.cells[j]?=some x→∃u,x2[i*size+j]?=some u∧R x u∧u.oneCell'=true):
  ∀(i:Nat) (e:AV) (j:Nat) (x:AV),(l1++l2)[i]?=some e→e.cells[j]?=some x→∃u,(x1++x2)[i*size+j]?=some u∧R x u∧u.oneCell'=true:=by
 intro i e j x hi hj
 by_cases al:i<l1.length
 ·rw[List.getElem?_append_left al] at hi
  obtain⟨u,h3,h4⟩:=h1 i e j x hi hj
  exact⟨u,by rw[List.getElem?_append_left (List.getElem?_eq_some_iff.1 h3).1];exact h3,h4⟩
 ·rw[List.getElem?_append_right (by omega)] at hi
  obtain⟨u,h3,h4⟩:=h2 _ e j x hi hj
  refine⟨u,?_,h4⟩
  have:x1.length≤i*size+j:=by
   rw[Y1]
   have:=Nat.mul_le_mul_right size (show l1.length≤i by omega)
   omega
  rw[List.getElem?_append_right this,Y1,←h3]
  congr 1
  rw[Nat.sub_mul]
  have:=Nat.mul_le_mul_right size (show l1.length≤i by omega)
  omega
theorem gN {t ty e:TypeId} {ed:TD} (ht:P.underlying t=some (.slice e)) (he:eK P e ed) (b:Option Addr) (n c:Nat) (hn:n≤c) (x:Value) (hx:x=.slice none 0 0∨∃ad k,x=.slice (some ad) 0 k):
  (Builtin.append_ #[t,t] ty #[.slice b n c,x]).run P w=.ok (.slice b n c) w:=by
 obtain⟨i,h1,h2,_⟩:=he.info
 rcases hx with rfl|⟨ad,k,rfl⟩<;>cases b <;>
  simp[Builtin.append_,run_underlying ht,sizeOf,typeInfo,h1,Builtin.lenOf,hn,Builtin.firstCells,storeCells,loadCells,loadCellsFrom]
theorem qz {e size:Nat} {n m:Nat} {z:Array Value} (olds news:List Value) (ho:olds.length=n*size) (Y2:news.length=m*size) (hz:z.size=size) (old:Nat) (hm:0<m) (xd:n+m≤maxLen):
  jf (w.drew.alloc (.cells (olds.toArray++news.toArray++Builtin.zeroCells z (grownCap w (n+m) old e-(n+m))) e)) e size
   (.slice (some ⟨w.heap.size,0,none⟩) (n+m) (grownCap w (n+m) old e)) (n+m) (olds++news) 0:=by
 have te:=grownCap_ge w (n+m) old e
 have Cn:grownCap w (n+m) old e≤maxLen:=grownCap_le_maxLen w (n+m) old e xd
 have hlen:(olds++news).length=(n+m)*size:=by rw[List.length_append,ho,Y2,Nat.add_mul]
 refine⟨hlen,.inr ⟨w.heap.size,_,_,rfl,by omega,⟨0,Nat.le_refl _,heap_alloc_new w.drew _⟩,te,Cn,?_,?_⟩⟩
 ·simp only[Array.size_append,List.size_toArray,size_zeroCells,hz,ho,Y2,←Nat.add_mul]
  congr 1
  omega
 ·simp only[Array.toList_append,List.append_assoc]
  rw[←List.append_assoc,←hlen]
  exact List.take_left
end
section
variable {G:Type} {Γ:Env G} {s:AS G} {a:Act} {w w':World} {η:List Value} {hp:List af} {F:Nat→Nat→Prop} {P:Program}
theorem th (aq:Γ.Ok) (h:Rel Γ s a w η) {t ty e:TypeId} {d:TD} (ht:Γ.P.underlying t=some (.slice e)) (ft:eK Γ.P e d) (bE:0<d.size) {els av:List AV} {v0 v2:Value}
  (hb:v0=.slice none 0 0∧els=[]∨aV w (aU Γ w η s.hp) η s.hp (.clip els) v0) (hx:aV w (aU Γ w η s.hp) η s.hp (.sl av) v2)
  (hl:∀x:AV,x∈els→x.cells.length=d.size) (n7:∀x:AV,x∈av→x.cells.length=d.size) (bj:av=[]→els=[])
  (hm:els.length+av.length≤maxLen) (Cp:(els.length+av.length)*d.bytes≤140737488355328) {ob:af} (cR:ob=.row e d.size (els++av)∨ob=.aF e d.size (els++av)):
  ∃v' w',(Builtin.append_ #[t,t] ty #[v0,v2]).run Γ.P w=.ok v' w'∧Rel Γ (s.add ob) a w' (η++[v'])∧v'.oneCell'=true:=by
 have jR:∀{w:World} {F:Nat→Nat→Prop} {η:List Value} {hp:List af} {v:Value},fo w F η hp (.aF e d.size (els++av)) v→fo w F η hp ob v:=by
  rcases cR with rfl|rfl
  ·exact fun⟨h1,xs,h2,h3⟩=>⟨h1,xs,h2.more (Nat.zero_le _),h3⟩
  ·exact id
 obtain⟨i,nq,o7,y8,Ej⟩:=ft.info
 have Vw:aV w (aU Γ w η s.hp) η s.hp (.sl els) v0:=by
  rcases hb with⟨rfl,rfl⟩|hb
  ·exact .jN _
  ·exact hb.nn
 obtain⟨olds,ho⟩:=Vw.sH bE hl
 obtain⟨news,hn⟩:=hx.sH bE n7
 have qA:(∃ad:Option Addr,v0=.slice ad 0 0∧els=[])∨∃b o,v0=.slice (some ⟨b,o,none⟩) els.length els.length∧∀(k:Nat) (u:Value),olds[k]?=some u→w.cell? ⟨b,o+k,none⟩=some u:=by
  rcases ho.shape with h1|⟨b,o,c,rfl,_,_,hc⟩
  ·exact .inl h1
  ·rcases hb with⟨hb,_⟩|hb
   ·cases hb
   ·cases hb with
    |gR=>exact .inl ⟨_,rfl,rfl⟩
    |clip size els b o f hm Co aw hr=>exact .inr ⟨_,_,rfl,hc⟩
 by_cases hz:av=[]
 ·have V2:=bj hz
  subst hz;subst V2
  have Vx:v2=.slice none 0 0∨∃ad k,v2=.slice (some ad) 0 k:=by
   rcases hn.shape with⟨ad,rfl,_⟩|⟨b,o,c,rfl,_⟩
   ·cases ad with
    |none=>exact .inl rfl
    |some ad=>exact .inr ⟨_,_,rfl⟩
   ·exact .inr ⟨_,_,rfl⟩
  rcases qA with⟨ad,rfl,_⟩|⟨b,o,rfl,_⟩
  ·refine⟨_,w,gN ht ft ad 0 0 (Nat.le_refl _) v2 Vx,?_,rfl⟩
   exact h.add aq (bt.refl w) (fun b hb=>by cases ad<;>simp[bT] at hb) (jR ⟨bE,[],⟨by simp,.inl ⟨rfl,by cases ad with|none=>exact .inl rfl|some ad=>exact .inr ⟨ad,rfl⟩⟩⟩,fun i el hi=>by simp at hi⟩)
  ·refine⟨_,w,gN ht ft (some ⟨b,o,none⟩) 0 0 (Nat.le_refl _) v2 Vx,?_,rfl⟩
   exact h.add aq (bt.refl w) (fun b hb=>by simp[bT] at hb) (jR ⟨bE,[],⟨by simp,.inl ⟨rfl,.inr ⟨_,rfl⟩⟩⟩,fun i el hi=>by simp at hi⟩)
 ·have xf:0<av.length:=List.length_pos_iff.2 hz
  rcases hn.shape with⟨_,_,h1⟩|⟨b2,o2,c2,rfl,_,_,Hb⟩
  ·exact(hz h1).elim
  have lG:∀(j:Nat) (u:Value),news[j]?=some u→w.cell? ((⟨b2,o2,none⟩:Addr).add j)=some u:=fun j u hj=>by rw[Addr.add_lit];exact Hb j u hj
  have xd:els.length+av.length≤9223372036854775807:=by simp only[maxLen] at hm;omega
  have fin:∀(old:Nat),Rel Γ (s.add ob) a
    (w.drew.alloc (.cells (olds.toArray++news.toArray++Builtin.zeroCells d.zero.cells (grownCap w (els.length+av.length) old e-(els.length+av.length))) e))
    (η++[.slice (some ⟨w.heap.size,0,none⟩) (els.length+av.length) (grownCap w (els.length+av.length) old e)]):=by
   intro old
   have hs:bt w (w.drew.alloc (.cells (olds.toArray++news.toArray++Builtin.zeroCells d.zero.cells (grownCap w (els.length+av.length) old e-(els.length+av.length))) e)):=
    (bt.drew w).trans (bt.alloc _ _)
   have gv:∀b,bT (.slice (some ⟨w.heap.size,0,none⟩) (els.length+av.length) (grownCap w (els.length+av.length) old e))=some b→w.heap.size≤b:=by
    intro b hb
    rw[ba (by have:=grownCap_ge w (els.length+av.length) old e;omega)] at hb
    obtain rfl:=Option.some.inj hb
    exact Nat.le_refl _
   have he:=o6 (Γ:=Γ) (o:=ob) h.heap.len hs gv
   refine h.add aq hs gv (jR ⟨bE,olds++news,?_,fun i el hi=>⟨?_,?_⟩⟩)
   ·rw[List.length_append]
    exact qz olds news ho.len hn.len ft.Ei old xf hm
   ·rcases List.mem_append.1 (List.mem_of_getElem? hi) with h1|h1
    ·exact hl _ h1
    ·exact n7 _ h1
   ·exact fun j x hj=>kR ho.len (ho.ext he.jP) (hn.ext he.jP) i el j x hi hj
  rcases qA with⟨ad,rfl,rfl⟩|⟨b,o,rfl,hc⟩
  ·have:olds=[]:=List.eq_nil_of_length_eq_zero (by simpa using ho.len)
   subst this
   cases ad with
   |some ad=>
    have:=run_append_grow (P:=Γ.P) w t ty e i d.zero ht nq Ej ad 0 0 [] (by simp) (fun j u hj=>by simp at hj) ⟨b2,o2,none⟩ av.length c2 news (by rw[o7];exact hn.len) lG (by omega)
     (by simp only[List.length_nil,Nat.zero_add] at xd ⊢;omega) (growslice_fits (by omega) (by rw[y8];simpa only[List.length_nil] using Cp))
    refine⟨_,_,this,?_,rfl⟩
    have f0:=fin 0
    simpa only[List.length_nil,Nat.zero_add,List.nil_append] using f0
   |none=>
   have:=run_append_nil (P:=Γ.P) w t ty e i d.zero ht nq Ej ⟨b2,o2,none⟩ av.length c2 news (by rw[o7];exact hn.len) lG xf (by simp only[List.length_nil,Nat.zero_add] at xd;omega) (by rw[y8];simp only[List.length_nil,Nat.zero_add] at Cp;omega)
   refine⟨_,_,this,?_,rfl⟩
   have f0:=fin 0
   simpa only[List.length_nil,Nat.zero_add,List.nil_append,Array.empty_append] using f0
  ·have holds:∀(j:Nat) (u:Value),olds[j]?=some u→w.cell? ((⟨b,o,none⟩:Addr).add j)=some u:=fun j u hj=>by rw[Addr.add_lit];exact hc j u hj
   have:=run_append_grow (P:=Γ.P) w t ty e i d.zero ht nq Ej ⟨b,o,none⟩ els.length els.length olds (by rw[o7];exact ho.len) holds ⟨b2,o2,none⟩ av.length c2 news (by rw[o7];exact hn.len) lG (by omega)
    (by omega) (growslice_fits (by omega) (by rw[y8];exact Cp))
   exact⟨_,_,this,fin els.length,rfl⟩
theorem kS {g e z:Nat}:∀(us:List Value) (o:Nat) (cur:Array Value) (w:World),w.heap[g]?=some (.cells cur e (0,z))→o+us.length≤cur.size→
  w.setCells g o us=w.setRow g (cur.toList.take o++us++cur.toList.drop (o+us.length)).toArray:=by
 intro us
 induction us with
 |nil=>
  intro o cur w hg _
  simp only[World.setCells,List.append_nil,List.length_nil,Nat.add_zero,List.take_append_drop]
  have al:g<w.heap.size:=(Array.getElem?_eq_some_iff.1 hg).1
  have hv:w.heap[g]=.cells cur e (0,z):=(Array.getElem?_eq_some_iff.1 hg).2
  unfold World.setRow
  cases w with
  |mk heap tape drawn os output=>
   congr 1
   apply Array.ext
   ·simp
   ·intro k h1 h2
    simp only[Array.getElem_modify]
    split
    ·rename_i hk;subst hk;simp at hv;simp[hv]
    ·rfl
 |cons u us ih=>
  intro o cur w hg hl
  rw[List.length_cons] at hl
  rw[World.setCells,setCell_eq_setRow w g o cur e _ u hg,ih (o+1) _ _ (setRow_heap w g cur _ e _ hg) (by simp;omega),setRow_setRow]
  congr 2
  apply List.ext_getElem?
  intro k
  have e1:(cur.setIfInBounds o u).toList=cur.toList.set o u:=by simp
  rw[e1]
  have hlen:cur.toList.length=cur.size:=by simp
  rcases Nat.lt_trichotomy k o with h|h|h
  ·rw[List.append_assoc,List.append_assoc,List.getElem?_append_left (by simp;omega),List.getElem?_append_left (by simp;omega),List.getElem?_take,List.getElem?_take,if_pos (by omega),if_pos h,List.getElem?_set_ne (by omega)]
  ·subst h
   have hk:(cur.toList.take k).length=k:=by rw[List.length_take];omega
   rw[List.append_assoc,List.append_assoc,List.getElem?_append_left (by simp;omega),List.getElem?_append_right (by omega),hk,Nat.sub_self,List.getElem?_take,if_pos (by omega),List.getElem?_set_self (by omega)]
   rfl
  ·have e2:(cur.toList.take o++(u::us)++cur.toList.drop (o+(us.length+1)))[k]?=(us++cur.toList.drop (o+(us.length+1)))[k-(o+1)]?:=by
    rw[List.append_assoc,List.getElem?_append_right (by simp;omega),List.cons_append]
    have:k-(List.take o cur.toList).length=(k-(o+1))+1:=by rw[List.length_take];omega
    rw[this,List.getElem?_cons_succ]
   rw[List.length_cons,e2,List.append_assoc,List.getElem?_append_right (by simp;omega)]
   have:k-(List.take (o+1) (cur.toList.set o u)).length=k-(o+1):=by rw[List.length_take,List.length_set];omega
   rw[this,List.drop_set_of_lt (by omega),show o+1+us.length=o+(us.length+1) by omega]
theorem iw {w:World} {g e z o:Nat} {cur:Array Value} {us:List Value} (hg:w.heap[g]?=some (.cells cur e (0,z))) (hz:z≤o) (hf:o+us.length≤cur.size):
  (∀j,j<us.length→(w.cell? ⟨g,o+j,none⟩).isSome=true)∧∀j,j<us.length→w.frozen? ⟨g,o+j,none⟩=false:=by
 refine⟨fun j hj=>?_,fun j hj=>?_⟩
 ·rw[cell_of_row w g _ cur e _ hg,Array.getElem?_eq_getElem (by omega)];rfl
 ·simp only[World.frozen?,hg]
  have:¬(o+j<z):=by omega
  simp[this]
structure tj (P:Program) (w:World) (F:Nat→Nat→Prop) (t u ty e:TypeId) (d:TD) (av:List AV) (v2:Value) (news:List Value):Prop where
 len:news.length=av.length*d.size
 one:∀u∈news,u.oneCell'=true
 rep:∀(i:Nat) (e:AV) (j:Nat) (x:AV),av[i]?=some e→e.cells[j]?=some x→∃u,news[i*d.size+j]?=some u∧aV w F [] [] x u∧u.oneCell'=true
 nothing:av=[]→∀b n c,n≤c→(Builtin.append_ #[t,u] ty #[.slice b n c,v2]).run P w=.ok (.slice b n c) w
 nil:0<av.length→(av.length:Int)≤9223372036854775807→av.length*d.bytes≤281474976710656→(Builtin.append_ #[t,u] ty #[.slice none 0 0,v2]).run P w=
  .ok (.slice (some ⟨w.heap.size,0,none⟩) av.length (grownCap w av.length 0 e)) (w.drew.alloc (.cells (news.toArray++Builtin.zeroCells d.zero.cells (grownCap w av.length 0 e-av.length)) e))
 grow:0<av.length→∀(b:Addr) (gy nP:Nat) (olds:List Value),olds.length=gy*d.size→(∀j v,olds[j]?=some v→w.cell? (b.add j)=some v)→nP<gy+av.length→((gy+av.length:Nat):Int)≤9223372036854775807→
  Builtin.nextslicecap (gy+av.length) nP*d.bytes≤281474976710656→(Builtin.append_ #[t,u] ty #[.slice (some b) gy nP,v2]).run P w=
   .ok (.slice (some ⟨w.heap.size,0,none⟩) (gy+av.length) (grownCap w (gy+av.length) nP e)) (w.drew.alloc (.cells (olds.toArray++news.toArray++Builtin.zeroCells d.zero.cells (grownCap w (gy+av.length) nP e-(gy+av.length))) e))
 room:0<av.length→∀(g gy nP:Nat) (cur:Array Value) (hi:Nat),hi≤gy*d.size→w.heap[g]?=some (.cells cur e (0,hi))→gy+av.length≤nP→gy*d.size+news.length≤cur.size→(Builtin.append_ #[t,u] ty #[.slice (some ⟨g,0,none⟩) gy nP,v2]).run P w=
   .ok (.slice (some ⟨g,0,none⟩) (gy+av.length) nP) (w.setRow g (cur.toList.take (gy*d.size)++news++cur.toList.drop (gy*d.size+news.length)).toArray)
theorem tj.ext {P:Program} {F F':Nat→Nat→Prop} {t u ty e:TypeId} {d:TD} {av:List AV} {v2:Value} {news:List Value} (h:tj P w F t u ty e d av v2 news) (he:Hn w F w' F'):
  ∀(i:Nat) (e:AV) (j:Nat) (x:AV),av[i]?=some e→e.cells[j]?=some x→∃u,news[i*d.size+j]?=some u∧aV w' F' [] [] x u∧u.oneCell'=true:=
 fun i e j x hi hj=>let ⟨u,h1,h2,h3⟩:=h.rep i e j x hi hj;⟨u,h1,h2.ext he.ext,h3⟩
theorem o8 {P:Program} {F:Nat→Nat→Prop} {t ty e:TypeId} {d:TD} (ht:P.underlying t=some (.slice e)) (ft:eK P e d) (bE:0<d.size) {av:List AV} {v2:Value} (hx:aV w F η hp (.sl av) v2)
  (n7:∀x:AV,x∈av→x.cells.length=d.size):∃news,tj P w F t t ty e d av v2 news:=by
 obtain⟨i,nq,o7,y8,Ej⟩:=ft.info
 obtain⟨news,hn⟩:=hx.sH bE n7
 have pos:0<av.length→∃b2 o2 c2,v2=.slice (some ⟨b2,o2,none⟩) av.length c2∧∀(j:Nat) (u:Value),news[j]?=some u→w.cell? ((⟨b2,o2,none⟩:Addr).add j)=some u:=fun h0=>by
  rcases hn.shape with⟨_,_,h1⟩|⟨b2,o2,c2,rfl,_,_,Hb⟩
  ·rw[h1] at h0;simp at h0
  ·exact⟨b2,o2,c2,rfl,fun j u hj=>by rw[Addr.add_lit];exact Hb j u hj⟩
 refine⟨news,hn.len,hn.one,hn.rep,fun h0 b n c zi=>?_,fun h0 xd RZ=>?_,fun h0 b gy nP olds V3 ho hg xd o9=>?_,fun h0 g gy nP cur hi O0 hg dU o9=>?_⟩
 ·refine gN ht ft b n c zi v2 ?_
  subst h0
  rcases hn.shape with⟨ad,rfl,_⟩|⟨b,o,c,rfl,_⟩
  ·cases ad with
   |none=>exact .inl rfl
   |some ad=>exact .inr ⟨_,_,rfl⟩
  ·exact .inr ⟨_,_,rfl⟩
 ·obtain⟨b2,o2,c2,rfl,hc⟩:=pos h0
  exact run_append_nil (P:=P) w t ty e i d.zero ht nq Ej ⟨b2,o2,none⟩ av.length c2 news (by rw[o7];exact hn.len) hc h0 xd (by rw[y8];exact RZ)
 ·obtain⟨b2,o2,c2,rfl,hc⟩:=pos h0
  exact run_append_grow (P:=P) w t ty e i d.zero ht nq Ej b gy nP olds (by rw[o7];exact V3) ho ⟨b2,o2,none⟩ av.length c2 news (by rw[o7];exact hn.len) hc hg xd (by rw[y8];exact o9)
 ·obtain⟨b2,o2,c2,rfl,hc⟩:=pos h0
  have:=run_append_room_cells (P:=P) w t ty e i ht nq g 0 gy nP ⟨b2,o2,none⟩ av.length c2 news (by rw[o7];exact hn.len) hc hn.one dU (by rw[o7,Nat.zero_add];exact(iw hg O0 o9).1) (by rw[o7,Nat.zero_add];exact(iw hg O0 o9).2)
  rw[o7,Nat.zero_add,kS news _ cur w hg o9] at this
  exact this
def aT (b:ByteArray):List AV:=b.data.toList.map fun c=>.ae (.int .u8 c.toNat)
theorem dR (b:ByteArray):(aT b).length=b.size:=by simp[aT]
theorem Cq {P:Program} {F:Nat→Nat→Prop} {t u ty e:TypeId} {d:TD} (ht:P.underlying t=some (.slice e)) (hu:P.underlying u=some .string) (ft:eK P e d) (h1:d.size=1) (hz:d.zero=.int .u8 0) (b:ByteArray):
  tj P w F t u ty e d (aT b) (.string b) (Lib.strCells b):=by
 obtain⟨i,nq,o7,y8,Ej⟩:=ft.info
 have hl:=dR b
 have e1:(b.data.map fun b=>Value.int .u8 b.toNat)=(Lib.strCells b).toArray:=by
  apply Array.ext'
  simp[Lib.strCells]
 refine⟨by rw[Lib.strCells_length,hl,h1,Nat.mul_one],Lib.strCells_oneCell b,fun i el j x hi hj=>?_,fun h0 a n c zi=>?_,fun h0 xd RZ=>?_,fun h0 a gy nP olds V3 ho hg xd o9=>?_,fun h0 g gy nP cur hi O0 hg dU o9=>?_⟩
 ·simp only[aT,List.getElem?_map,Option.map_eq_some_iff] at hi
  obtain⟨c,hc,rfl⟩:=hi
  cases j with
  |succ j=>simp[AV.cells] at hj
  |zero=>
   simp only[AV.cells,List.getElem?_cons_zero,Option.some.injEq] at hj
   subst hj
   exact⟨_,by rw[h1,Nat.mul_one,Nat.add_zero,Lib.strCells,List.getElem?_map,hc];rfl,.ae _,rfl⟩
 ·have hb:b.size=0:=by rw[←hl,h0];rfl
  have hf:=Lib.run_firstCells_string (P:=P) w i.size b
  rw[hb] at hf
  have FI:Lib.strCells b=[]:=List.eq_nil_of_length_eq_zero (by rw[Lib.strCells_length];exact hb)
  cases a<;>simp[Builtin.append_,run_underlying ht,run_underlying hu,sizeOf,typeInfo,nq,Builtin.lenOf,hb,zi,hf,FI,storeCells]
 ·rw[hl] at *
  have:=run_append_nil_string (P:=P) w t u ty e i d.zero ht hu nq Ej b h0 xd (by rw[y8];exact RZ)
  rw[e1] at this
  exact this
 ·rw[hl] at *
  exact Lib.run_append_grow_string (P:=P) w t u ty e i d.zero ht hu nq Ej a gy nP olds (by rw[o7];exact V3) ho b hg xd (by rw[y8];exact o9)
 ·rw[hl] at *
  rw[h1,Nat.mul_one,Lib.strCells_length] at *
  have Lr:gy+(Lib.strCells b).length≤cur.size:=by rw[Lib.strCells_length];exact o9
  have hf:=Lib.run_firstCells_string (P:=P) w 1 b
  have vR:=run_storeCells_cells (P:=P) g gy (Lib.strCells b) 0 w (iw hg O0 Lr).1 (iw hg O0 Lr).2 (Lib.strCells_oneCell b)
  rw[Nat.add_zero,kS _ _ cur w hg Lr,Lib.strCells_length] at vR
  simp[Builtin.append_,run_underlying ht,run_underlying hu,sizeOf,typeInfo,nq,show i.size=1 by rw[o7],Builtin.lenOf,dU,hf,Addr.add_lit,vR]
def eu (M:Bool) (e size:Nat) (els:List AV):af:=match M with|false=>.row e size els|true=>.aF e size els
def kB (M:Bool) (n:Nat):Nat:=match M with|false=>n|true=>0
theorem R0 (M:Bool) (n:Nat):kB M n≤n:=by cases M<;>simp[kB]
theorem LN (M:Bool) {n m:Nat} (h:n≤m):kB M n≤kB M m:=by cases M<;>simp[kB,h]
theorem jS {F:Nat→Nat→Prop} {M:Bool} {e size:Nat} {els:List AV} {v:Value}:fo w F η hp (eu M e size els) v↔(0<size∧∃xs:List Value,jf w e size v els.length xs (kB M (els.length*size))∧
   ∀(i:Nat) (el:AV),els[i]?=some el→el.cells.length=size∧
    ∀(j:Nat) (x:AV),el.cells[j]?=some x→∃u,xs[i*size+j]?=some u∧aV w F [] [] x u∧u.oneCell'=true):=by cases M<;>exact Iff.rfl
theorem iy {M:Bool} {e size r n:Nat} {els:List AV} {v:Value} (h:hp[r]?=some (eu M e size els)):aQ η hp r n v↔n≤els.length∧(n=els.length→η[r]?=some v):=by
 unfold aQ
 rw[h]
 cases M<;>exact Iff.rfl
theorem vS {M:Bool} {e size k:Nat} {els:List AV} (h:(eu M e size els).aY k):k<els.length*size:=by cases M<;>first|exact h|exact h.elim
theorem vT {M:Bool} {e size k:Nat} {els av:List AV} (h:(eu M e size els).aY k):(eu M e size (els++av)).aY k:=by
 have h':=vS h
 cases M with
 |false=>show k<(els++av).length*size;rw[List.length_append,Nat.add_mul];omega
 |true=>exact h.elim
theorem qB (M:Bool) (e size:Nat) (els:List AV):(eu M e size els).live:=by cases M<;>exact True.intro
theorem tk (aq:Γ.Ok) (h:Rel Γ s a w η) {t u ty e:TypeId} {d:TD} (ft:eK Γ.P e d) {M:Bool} {r:Nat} {els av:List AV} {v0 v2:Value}
  (hr:s.hp[r]?=some (eu M e d.size els)) (hv:aQ η s.hp r els.length v0) {news:List Value} (hn:tj Γ.P w (aU Γ w η s.hp) t u ty e d av v2 news)
  (n7:∀x:AV,x∈av→x.cells.length=d.size)
  (hm:els.length+av.length≤maxLen) (Cp:(els.length+av.length)*d.bytes≤140737488355328):
  ∃v' w' aM,(Builtin.append_ #[t,u] ty #[v0,v2]).run Γ.P w=.ok v' w'∧Rel Γ { s with hp:=s.hp.set r (eu M e d.size (els++av)) } a w' aM∧v'.oneCell'=true∧aM[r]?=some v':=by
 have pa:η[r]?=some v0:=((iy hr).1 hv).2 rfl
 obtain⟨bE,xs,bU,cy⟩:=jS.1 (h.heap.obj r _ v0 hr pa)
 have hold:∀(i:Nat) (e:AV) (j:Nat) (x:AV),els[i]?=some e→e.cells[j]?=some x→∃u,xs[i*d.size+j]?=some u∧aV w (aU Γ w η s.hp) [] [] x u∧u.oneCell'=true:=
  fun i el j x hi hj=>(cy i el hi).2 j x hj
 by_cases hz:av=[]
 ·subst hz
  have gz:s.hp.set r (eu M e d.size (els++[]))=s.hp:=by
   apply List.ext_getElem?
   intro k
   by_cases hk:r=k
   ·subst hk;rw[ai hr,List.append_nil,hr]
   ·rw[getElem?_set_ne hk]
  have Hq:∀b n c,v0=.slice b n c→n≤c→∃v' w' aM,(Builtin.append_ #[t,u] ty #[v0,v2]).run Γ.P w=.ok v' w'∧Rel Γ { s with hp:=s.hp.set r (eu M e d.size (els++[])) } a w' aM∧v'.oneCell'=true∧aM[r]?=some v':=by
   intro b n c e1 e2
   subst e1
   exact⟨_,w,η,hn.nothing rfl b n c e2,by rw[gz];exact h,rfl,pa⟩
  rcases bU.2 with⟨h0,rfl|⟨ad,rfl⟩⟩|⟨g,cap,cur,rfl,h0,_,zi,_⟩
  ·exact Hq none 0 0 rfl (Nat.le_refl _)
  ·exact Hq _ 0 0 rfl (Nat.le_refl _)
  ·exact Hq _ _ _ rfl zi
 ·have xf:0<av.length:=List.length_pos_iff.2 hz
  have xd:els.length+av.length≤9223372036854775807:=by simp only[maxLen] at hm;omega
  have qy:∀v' n u,aQ η s.hp r n u→aQ (η.set r v') (s.hp.set r (eu M e d.size (els++av))) r n u:=by
   intro v' n u ho
   replace ho:=(iy hr).1 ho
   refine(iy (ai hr)).2 ⟨by rw[List.length_append];have:=ho.1;omega,fun Hr=>?_⟩
   rw[List.length_append] at Hr
   have:=ho.1
   omega
  have O1:∀(x:AV),x∈els++av→x.cells.length=d.size:=by
   intro x lH
   rcases List.mem_append.1 lH with h1|h1
   ·obtain⟨k,hk⟩:=List.getElem?_of_mem h1
    exact(cy k x hk).1
   ·exact n7 _ h1
  have grown:∀(old:Nat),(∀b es c,bT v0=some b→w.heap[b]?=some (.map es c)→False)→(∀b d,bT v0=some b→w.heap[b]?=some (.deferred d)→False)→(∀x,v0 ≠ .pointer x)→(∀x,v0 ≠ .map x)→
    Rel Γ { s with hp:=s.hp.set r (eu M e d.size (els++av)) } a
    (w.drew.alloc (.cells (xs.toArray++news.toArray++Builtin.zeroCells d.zero.cells (grownCap w (els.length+av.length) old e-(els.length+av.length))) e))
    (η.set r (.slice (some ⟨w.heap.size,0,none⟩) (els.length+av.length) (grownCap w (els.length+av.length) old e))):=by
   intro old PU V4 eG nr
   have hs:bt w (w.drew.alloc (.cells (xs.toArray++news.toArray++Builtin.zeroCells d.zero.cells (grownCap w (els.length+av.length) old e-(els.length+av.length))) e)):=
    (bt.drew w).trans (bt.alloc _ _)
   have gv:∀b,bT (.slice (some ⟨w.heap.size,0,none⟩) (els.length+av.length) (grownCap w (els.length+av.length) old e))=some b→w.heap.size≤b:=by
    intro b hb
    rw[ba (by have:=grownCap_ge w (els.length+av.length) old e;omega)] at hb
    obtain rfl:=Option.some.inj hb
    exact Nat.le_refl _
   refine h.change aq (o':=eu M e d.size (els++av)) hr (qB _ _ _ _) pa (hs.keeps _) (fun b hb=>.inr (gv b hb)) (fun k hk=>?_) (fun b k u hb _ hc=>?_) (fun b es c hb _ hh=>PU b es c hb hh) (qy _)
    (fun x lH=>(eG x lH).elim) (fun x lH=>(nr x lH).elim) V4 (fun he=>jS.2 ⟨bE,xs++news,?_,fun i el hi=>⟨O1 _ (List.mem_of_getElem? hi),?_⟩⟩)
   ·exact vT hk
   ·rw[World.cell?_of_block (hs.block b (h.heap.block hr (qB _ _ _ _) pa hb))];exact hc
   ·rw[List.length_append]
    exact(qz xs news bU.1 hn.len ft.Ei old xf hm).more (Nat.zero_le _)
   ·exact fun j x hj=>kR bU.1 (fun i e j x hi hj=>let ⟨u,h1,h2,h3⟩:=hold i e j x hi hj;⟨u,h1,h2.ext he.jP.ext,h3⟩) (hn.ext he.jP) i el j x hi hj
  have xg:∀v',(η.set r v')[r]?=some v':=fun v'=>ai pa
  rcases bU.2 with⟨h0,rfl|⟨ad,rfl⟩⟩|⟨g,cap,cur,rfl,h0,⟨hi,O0,hg⟩,zi,Cn,eS,jg⟩
  ·have zj:els=[]:=List.eq_nil_of_length_eq_zero h0
   have Lt:xs=[]:=List.eq_nil_of_length_eq_zero (by rw[bU.1,h0];simp)
   have gr:=grown 0 (fun b es c hb=>by simp[bT] at hb) (fun b d hb=>by simp[bT] at hb) (fun x lH=>by cases lH) (fun x lH=>by cases lH)
   subst zj;subst Lt
   have:=hn.nil xf (by simp only[List.length_nil,Nat.zero_add] at xd;omega) (by simp only[List.length_nil,Nat.zero_add] at Cp;omega)
   refine⟨_,_,_,this,?_,rfl,xg _⟩
   simpa only[List.length_nil,Nat.zero_add,List.nil_append,Array.empty_append] using gr
  ·have zj:els=[]:=List.eq_nil_of_length_eq_zero h0
   have Lt:xs=[]:=List.eq_nil_of_length_eq_zero (by rw[bU.1,h0];simp)
   have gr:=grown 0 (fun b es c hb=>by simp[bT] at hb) (fun b d hb=>by simp[bT] at hb) (fun x lH=>by cases lH) (fun x lH=>by cases lH)
   subst zj;subst Lt
   have:=hn.grow xf ad 0 0 [] (by simp) (fun j u hj=>by simp at hj) (by omega)
    (by simp only[List.length_nil,Nat.zero_add] at xd ⊢;omega) (growslice_fits (by omega) (by simpa only[List.length_nil] using Cp))
   refine⟨_,_,_,this,?_,rfl,xg _⟩
   simpa only[List.length_nil,Nat.zero_add,List.nil_append] using gr
  ·by_cases dU:els.length+av.length≤cap
   ·have o9:els.length*d.size+news.length≤cur.size:=by rw[hn.len,eS,←Nat.add_mul];exact Nat.mul_le_mul_right _ dU
    have ew:=hn.room xf g els.length cap cur hi (Nat.le_trans O0 (R0 _ _)) hg dU o9
    refine⟨_,_,_,ew,?_,rfl,xg _⟩
    have np:bT (.slice (some ⟨g,0,none⟩) els.length cap)=some g:=ba h0
    have V5:bT (.slice (some ⟨g,0,none⟩) (els.length+av.length) cap)=some g:=ba h0
    have Ek:=setRow_heap w g cur (cur.toList.take (els.length*d.size)++news++cur.toList.drop (els.length*d.size+news.length)).toArray e (0,hi) hg
    refine h.change aq (o':=eu M e d.size (els++av)) hr (qB _ _ _ _) pa ⟨rfl,rfl,rfl,by simp,fun k hk hb=>setRow_other w g k _ (fun e=>hb (by rw[np,e]))⟩ (fun b hb=>.inl (by rw[np];rw[V5] at hb;exact hb)) (fun k hk=>?_) (fun b k u hb hk hc=>?_)
     (fun b es c hb _ hh=>?_) (qy _) (fun x lH=>by cases lH) (fun x lH=>by cases lH) (fun b d hb hh=>?_) (fun he=>jS.2 ⟨bE,xs++news,?_,fun i el hi=>⟨O1 _ (List.mem_of_getElem? hi),?_⟩⟩)
    ·exact vT hk
    ·rw[np] at hb
     obtain rfl:=Option.some.inj hb
     have vk:k<els.length*d.size:=vS hk
     rw[cell_of_row w g k cur e _ hg] at hc
     rw[cell_of_row _ g k _ e _ Ek]
     have al:k<cur.size:=(Array.getElem?_eq_some_iff.1 hc).1
     rw[←Array.getElem?_toList] at hc
     simp only[List.getElem?_toArray]
     rw[List.append_assoc,List.getElem?_append_left (by simp;omega),List.getElem?_take,if_pos vk]
     exact hc
    ·rw[np] at hb
     obtain rfl:=Option.some.inj hb
     rw[hg] at hh;cases hh
    ·rw[np] at hb
     obtain rfl:=Option.some.inj hb
     rw[hg] at hh;cases hh
    ·have FJ:(xs++news).length=(els.length+av.length)*d.size:=by rw[List.length_append,bU.1,hn.len,Nat.add_mul]
     rw[List.length_append]
     refine⟨FJ,.inr ⟨g,cap,_,rfl,h0,⟨hi,Nat.le_trans O0 (LN M (Nat.mul_le_mul_right _ (by omega))),Ek⟩,dU,Cn,?_,?_⟩⟩
     ·simp only[List.size_toArray,List.length_append,List.length_take,List.length_drop,Array.length_toList]
      have:els.length*d.size≤cur.size:=by omega
      omega
     ·rw[jg,←FJ]
      exact List.take_left
    ·exact fun j x hj=>kR bU.1 (fun i e j x hi hj=>let ⟨u,h1,h2,h3⟩:=hold i e j x hi hj;⟨u,h1,h2.ext he.jP.ext,h3⟩) (hn.ext he.jP) i el j x hi hj
   ·have aw:∀(j:Nat) (u:Value),xs[j]?=some u→w.cell? ((⟨g,0,none⟩:Addr).add j)=some u:=by
     intro j u hj
     rw[Addr.add_lit,Nat.zero_add,cell_of_row w g j cur e _ hg]
     rw[←jg,List.getElem?_take] at hj
     by_cases al:j<els.length*d.size
     ·rw[if_pos al] at hj;simpa using hj
     ·rw[if_neg al] at hj;cases hj
    have np:bT (.slice (some ⟨g,0,none⟩) els.length cap)=some g:=ba h0
    have:=hn.grow xf ⟨g,0,none⟩ els.length cap xs bU.1 aw (by omega) (by omega) (growslice_fits (by omega) Cp)
    exact⟨_,_,_,this,grown cap (fun b es c hb hh=>by rw[np] at hb;obtain rfl:=Option.some.inj hb;rw[hg] at hh;cases hh)
     (fun b d hb hh=>by rw[np] at hb;obtain rfl:=Option.some.inj hb;rw[hg] at hh;cases hh) (fun x lH=>by cases lH) (fun x lH=>by cases lH),rfl,xg _⟩
end
section
variable {G:Type} {Γ:Env G} {s:AS G} {a:Act} {w w':World} {η:List Value} {hp:List af} {F:Nat→Nat→Prop} {P:Program}
def AS.ev (s:AS G):Operand→AV
 | .tmp t=>s.tmps t
 | .const v=>.ae v
 | .global g=>.ae (.pointer (some ⟨g,0,none⟩))
 | .func f=>.aS f []
theorem Rel.ev (h:Rel Γ s a w η) (x:Operand):aV w (aU Γ w η s.hp) η s.hp (s.ev x) (a.eval x):=by
 cases x with
 |tmp t=>exact h.tmps t
 |const v=>exact .ae v
 |global g=>exact .ae _
 |func f=>exact .aS f [] #[] rfl (fun j x v h=>by simp at h)
def AV.dp (hp:List af):AV→AV
 | .own r n=>(match (AV.own r n).fq hp with|some els=>.sl els|none=>.top)
 | .clip els=>.sl els
 | .sl els=>.sl els
 | .ae v=>(match v with | .slice none 0 0=>.sl []|v=>.ae v)
 | .fn v=>.fn v
 | .dL es=>.dL es
 | .aH e o=>.aH e o
 | .aS f caps=>(match caps with | []=>.aS f []|_=>.top)
 |_=>.top
def AV.dN (hp:List af):AV→AV
 | .agg cs=>.agg (cs.map (AV.dp hp))
 |x=>x.dp hp
def AV.bh (hp:List af):AV→AV
 | .bc vs=>.bc (vs.map (AV.dN hp))
 | .aS f caps=>.aS f (caps.map (AV.dN hp))
 |x=>x.dN hp
theorem jT (h:cT w (aU Γ w η hp) η hp) (hm:se Γ η hp) {x:AV} {v:Value} (hx:aV w (aU Γ w η hp) η hp x v):aV w (aU Γ w η hp) [] [] (x.dp hp) v:=by
 cases x with
 |own r n=>
  simp only[AV.dp]
  split
  ·rename_i els he
   have:=iv h hm hx he
   cases this with
   |jN=>exact .jN _
   |sl size els b o c f hc hm hl aw hr=>exact .sl size els b o c f hc hm hl aw hr
  ·exact .top _
 |clip els=>cases hx.nn with
  |jN=>exact .jN _
  |sl size els b o c f hc hm hl aw hr=>exact .sl size els b o c f hc hm hl aw hr
 |sl els=>cases hx with
  |jN=>exact .jN _
  |sl size els b o c f hc hm hl aw hr=>exact .sl size els b o c f hc hm hl aw hr
 |ae u=>
  simp only[AV.dp]
  split
  ·cases hx;exact .jN _
  ·cases hx;exact .ae _
 |fn u=>cases hx;exact .fn _ (by assumption)
 |dL es=>cases hx with|dL b es c h1 h2 _ hl=>exact .dL b es c h1 h2 _ hl
 |aH e off=>cases hx with|aH _ _ b o f aw hr=>exact .aH e off b o f aw hr
 |aS f caps=>
  simp only[AV.dp]
  split
  ·cases hx with|aS _ _ vs hl hr=>exact .aS f [] vs hl fun j y u hy _=>by cases hy
  ·exact .top _
 |_=>exact .top _
theorem jU (h:cT w (aU Γ w η hp) η hp) (hm:se Γ η hp) {x:AV} {v:Value} (hx:aV w (aU Γ w η hp) η hp x v):aV w (aU Γ w η hp) [] [] (x.dN hp) v:=by
 cases x with
 |agg cs=>
  cases hx with
  |agg _ vs hl h1 hr=>
   refine .agg _ vs (by simpa using hl) h1 fun j y u hy hu=>?_
   rw[List.getElem?_map] at hy
   cases hj:cs[j]? with
   |none=>rw[hj] at hy;cases hy
   |some z=>rw[hj] at hy;obtain rfl:=Option.some.inj hy;exact jT h hm (hr j z u hj hu)
 |_=>exact jT h hm hx
theorem eV (h:cT w (aU Γ w η hp) η hp) (hm:se Γ η hp) {x:AV} {v:Value} (hx:aV w (aU Γ w η hp) η hp x v):aV w (aU Γ w η hp) [] [] (x.bh hp) v:=by
 cases x with
 |bc cs=>
  cases hx with
  |bc _ vs hl hr=>
   refine .bc _ vs (by simpa using hl) fun j y u hy hu=>?_
   rw[List.getElem?_map] at hy
   cases hj:cs[j]? with
   |none=>rw[hj] at hy;cases hy
   |some z=>rw[hj] at hy;obtain rfl:=Option.some.inj hy;exact jU h hm (hr j z u hj hu)
 |aS f cs=>
  cases hx with
  |aS _ _ vs hl hr=>
   refine .aS f _ vs (by simpa using hl) fun j y u hy hu=>?_
   rw[List.getElem?_map] at hy
   cases hj:cs[j]? with
   |none=>rw[hj] at hy;cases hy
   |some z=>rw[hj] at hy;obtain rfl:=Option.some.inj hy;exact jU h hm (hr j z u hj hu)
 |_=>exact jU h hm hx
def fieldsOf (tab:Nat→Option TD) (T:Nat):List (Nat×Nat×Bool):=
 match tab T with
 |some d=>(match d.kind with | .bP fs=>fs|_=>[])
 |none=>[]
def AV.isAgg:AV→Bool
 | .agg _=>true
 |_=>false
def dV (agg:Bool) (size:Nat) (cs:List AV) (o:Nat):Option AV:=
 if agg then(if o+size≤cs.length then some (.agg ((cs.drop o).take size)) else none) else cs[o]?
def tl (agg:Bool) (size:Nat) (e:AV) (o:Nat):Option AV:=
 if o=0∧e.cells.length=size∧e.isAgg=agg then some e else dV agg size e.cells o
def xh (op:BinOp) (k:IntKind) (a b:Int):Option (Prop×AV):=
 match op with
 | .add=>some (True,.ae (.int k (k.wrap (a+b))))
 | .sub=>some (True,.ae (.int k (k.wrap (a-b))))
 | .mul=>some (True,.ae (.int k (k.wrap (a*b))))
 | .eql=>some (True,.ae (.bool (a==b)))
 | .neq=>some (True,.ae (.bool (a != b)))
 | .lss=>some (True,.ae (.bool (decide (a<b))))
 | .leq=>some (True,.ae (.bool (decide (a≤b))))
 | .gtr=>some (True,.ae (.bool (decide (a>b))))
 | .geq=>some (True,.ae (.bool (decide (a≥b))))
 |_=>none
def iz (tab:Nat→Option TD) (T:Nat) (op:BinOp) (x y:AV):Option (Prop×AV):=
 match x,y with
 | .ae (.int k a),.ae (.int k' b)=>if k=k' then xh op k a b else none
 | .ae (.bool a),.ae (.bool b)=>
  (match tab T with
   |some d=>(match d.kind,op with
    | .bool,.eql=>some (True,.ae (.bool (a==b)))
    | .bool,.neq=>some (True,.ae (.bool (!(a==b))))
    |_,_=>none)
   |none=>none)
 | .agg [.ae (.int .i64 a1),.ae (.int .i64 a2)],.agg [.ae (.int .i64 b1),.ae (.int .i64 b2)]=>
  (match tab T with
   |some d=>if d.flat then(match op with
    | .eql=>some (True,.ae (.bool (a1==b1&&a2==b2)))
    | .neq=>some (True,.ae (.bool (!(a1==b1&&a2==b2))))
    |_=>none) else none
   |none=>none)
 |_,_=>none
def El:List Prop→Prop
 | []=>True
 |p::l=>p∧El l
def Hs (op:BinOp) (k:IntKind) (a b:Int):Option Int:=
 match op with
 | .and=>some (k.wrap (BitVec.ofInt k.bits a &&& BitVec.ofInt k.bits b).toNat)
 | .or=>some (k.wrap (BitVec.ofInt k.bits a ||| BitVec.ofInt k.bits b).toNat)
 | .xor=>some (k.wrap (BitVec.ofInt k.bits a ^^^ BitVec.ofInt k.bits b).toNat)
 | .andNot=>some (k.wrap (BitVec.ofInt k.bits a &&& ~~~ (BitVec.ofInt k.bits b)).toNat)
 |_=>none
def zk (a b:ByteArray):Bool:=a.toList==b.toList
def strLt (a b:ByteArray):Bool:=Op.bytesLess a.toList b.toList
def xi:AV→Option Bool
 | .ptr _ _=>some false
 | .aH _ _=>some false
 | .ae (.pointer p)=>some p.isNone
 |_=>none
def FK (tab:Nat→Option TD) (T:Nat) (op:BinOp) (x y:AV):Option (List Prop×AV):=
 match y with
 | .ae (.int k' b)=>(match x with
  | .ae (.int k a)=>if k=k' then(match op with
    | .quo=>some ([¬b=0],.ae (.int k (k.wrap (a.tdiv b))))
    | .rem=>some ([¬b=0],.ae (.int k (a.tmod b)))
    |op=>(Hs op k a b).map fun n=>([],.ae (.int k n))) else none
  |_=>none)
 | .ae (.string b)=>(match x with
  | .ae (.string a)=>(match op with
    | .add=>some ([a.size+b.size≤9223372036854775807],.ae (.string (a++b)))
    | .eql=>some ([],.ae (.bool (zk a b)))
    | .neq=>some ([],.ae (.bool (!(zk a b))))
    | .lss=>some ([],.ae (.bool (strLt a b)))
    | .leq=>some ([],.ae (.bool (strLt a b||zk a b)))
    | .gtr=>some ([],.ae (.bool (!(strLt a b||zk a b))))
    | .geq=>some ([],.ae (.bool (!(strLt a b))))
    |_=>none)
  |_=>none)
 | .ae (.pointer none)=>(match xi x with
  |some b=>(match tab T with
   |some d=>(match d.kind with
    | .ptr _=>(match op with
     | .eql=>some ([],.ae (.bool b))
     | .neq=>some ([],.ae (.bool (!b)))
     |_=>none)
    |_=>none)
   |none=>none)
  |none=>none)
 |_=>none
theorem Cr {tab:Nat→Option TD} {T:Nat} {op:BinOp} {x y:AV} {p:List Prop×AV} (h:FK tab T op x y=some p):iz tab T op x y=none:=by
 unfold FK at h
 split at h
 ·split at h
  ·split at h
   ·rename_i hk
    subst hk
    cases op<;>simp[Hs] at h<;>simp[iz,xh]
   ·cases h
  ·cases h
 ·split at h
  ·simp[iz]
  ·cases h
 ·unfold iz
  split<;>first|rfl|(rename_i e;cases e)
 ·cases h
def PV:Operand→Bool
 | .const .nilIface=>true
 |_=>false
theorem LO {y:Operand} (h:PV y=true):y=.const .nilIface:=by
 unfold PV at h
 split at h
 ·rfl
 ·cases h
def LP (tab:Nat→Option TD) (T:Nat) (op:BinOp) (x:AV) (y:Operand):Option AV:=
 match PV y with
 |true=>(match tab T,x with
  |some d,.ae .nilIface=>(match d.kind with
   | .Vv=>(match op with
    | .eql=>some (.ae (.bool true))
    | .neq=>some (.ae (.bool false))
    |_=>none)
   |_=>none)
  |_,_=>none)
 |false=>none
def xj (tab:Nat→Option TD) (T:Nat) (op:BinOp) (x y:AV):Option (Prop×AV):=
 match iz tab T op x y with
 |some r=>some r
 |none=>(FK tab T op x y).map fun p=>(El p.1,p.2)
def xk (tab:Nat→Option TD) (S D:Nat) (x:AV):Option AV:=
 match tab S,tab D,x with
 |some _,some d,.ae (.int _ n)=>(match d.kind with
  | .int k=>some (.ae (.int k (k.wrap n)))
  |_=>none)
 |some _,some d,.ae (.string s)=>(match d.kind with
  | .str=>some (.ae (.string s))
  |_=>none)
 |_,_,_=>none
def zl (b:ByteArray) (n:Int):Int:=(((b.data[n.toNat]?).map UInt8.toNat).getD 0:Nat)
def aG {κ:Type} [DecidableEq κ]:List (κ×Value)→κ→Option Value
 | [],_=>none
 |(k,v)::r,a=>if a=k then some v else aG r a
def AV.vU (hp:List af):AV→Option ME
 | .dL es=>some es
 | .mp r=>(match hp[r]? with|some (.aP es)=>some es|_=>none)
 |_=>none
def gn {κ:Type} [DecidableEq κ] (es:List (κ×Value)) (z:Value) (a:κ) (ok:Bool):AV:=
 if ok=true then .bc [.ae ((aG es a).getD z),.ae (.bool (aG es a).isSome)] else .ae ((aG es a).getD z)
def qC (hp:List af) (x:AV):Option AV:=
 match x with
 | .ae (.string s)=>some (.ae (.int .i64 s.size))
 |x=>(x.fq hp).map fun els=>.ae (.int .i64 els.length)
def AV.jV:AV→Bool
 | .ae v=>v.oneCell'
 | .top | .bc _ | .ea _ _ _ _=>false
 |_=>true
def tm (n:Nat):List (Nat×Nat×Bool):=(List.range n).map fun i=>(i,1,false)
def cB (fs:List (Nat×Nat×Bool)) (cs:List AV):List (Nat×AV)→Option (List AV)
 | []=>some cs
 |(i,x)::rest=>
  match fs[i]? with
  |some p=>if x.cells.length=p.2.1∧p.1+p.2.1≤cs.length∧x.jV=true then cB fs (setCells cs p.1 x.cells) rest else none
  |none=>none
def pd:Nat→List (Nat×Operand)→Bool
 |_,[]=>true
 |k,(i,_)::r=>i==k&&pd (k+1) r
def oy (size:Nat):List AV→Prop
 | []=>True
 |x::xs=>(x.cells.length=size∧x.jV=true)∧oy size xs
def bw (ρ:Operand→AV) (d:Int):Option Operand→Option Int
 |none=>some d
 |some x=>(match ρ x with | .ae (.int _ n)=>some n|_=>none)
def qD (hp:List af):AV→Option (Nat×Nat×Nat×Nat×Nat)
 | .own r m=>(match hp[r]? with
  |some (.aF e size els)=>some (r,m,e,size,els.length)
  |_=>none)
 |_=>none
def bk (tab:Nat→Option TD) (hp:List af) (ρ:Operand→AV):Op→Option (Prop×AV)
 | .move x=>some (True,ρ x)
 | .assign x=>some (True,ρ x)
 | .nilCheck x=>(match ρ x with
  | .ptr r o=>some (True,.ptr r o)
  | .aH e o=>some (True,.aH e o)
  |_=>none)
 | .pick c x y=>(match ρ c with
  | .ae (.bool t)=>some (True,if t=true then ρ x else ρ y)
  |_=>none)
 | .fieldAddr T x f=>(match (fieldsOf tab T)[f]? with
  |some p=>if p.2.1=0 then none else(match ρ x with
   | .ptr r o=>some (True,.ptr r (o+p.1))
   | .aH e o=>some (True,.aH e (o+p.1))
   | .ea r m i z=>if p.1=0 then some (True,.ea r m i z) else none
   |_=>none)
  |none=>none)
 | .load T x=>(match tab T with
  |some d=>(match ρ x with
   | .ptr r o=>(match hp[r]? with
    |some (.box cs)=>(dV d.kind.agg d.size cs o).map fun v=>(True,v)
    |_=>none)
   | .aH e o=>(tl d.kind.agg d.size e o).map fun v=>(True,v)
   | .ea r m i z=>(match hp[r]? with
    |some (.aF _ z' els)=>if z'=z∧d.size=z then some (m=els.length∧i<els.length∧(els.getD i .top).isAgg=d.kind.agg,els.getD i .top) else none
    |_=>none)
   |_=>none)
  |none=>none)
 | .indexAddr T x i=>(match tab T with
  |some d=>(match d.kind with
   | .iu e=>(match tab e,(ρ x).fq hp,ρ i with
    |some d',some els,.ae (.int _ n)=>some (0≤n∧n<els.length∧(els.getD n.toNat .top).cells.length=d'.size,.aH (els.getD n.toNat .top) 0)
    |some d',none,.ae (.int _ n)=>(match qD hp (ρ x) with
     |some (r,m,e',size,k)=>if e'=e∧size=d'.size then some (0≤n∧n<m∧m=k,.ea r m n.toNat size) else none
     |none=>none)
    |_,_,_=>none)
   | .arr m=>(match ρ x,ρ i with
    | .ptr r 0,.ae (.int _ n)=>some (0≤n∧n<m,.ptr r n.toNat)
    | .aH e 0,.ae (.int _ n)=>some (0≤n∧n<m,.aH e n.toNat)
    |_,_=>none)
   |_=>none)
  |none=>none)
 | .binOp op T x y _=>(match LP tab T op (ρ x) y with
  |some v=>some (True,v)
  |none=>xj tab T op (ρ x) (ρ y))
 | .convert S D x=>(xk tab S D (ρ x)).map fun v=>(True,v)
 | .unOp op _ x=>(match op,ρ x with
  | .not,.ae (.bool b)=>some (True,.ae (.bool (!b)))
  | .neg,.ae (.int k n)=>some (True,.ae (.int k (k.wrap (0-n))))
  |_,_=>none)
 | .build T parts=>(match tab T with
  |some d=>(match d.kind with
   | .bP fs=>(cB fs (d.zero.cells.toList.map .ae) (parts.toList.map fun p=>(p.1,ρ p.2))).map fun cs=>(True,.agg cs)
   | .arr n=>(cB (tm n) (d.zero.cells.toList.map .ae) (parts.toList.map fun p=>(p.1,ρ p.2))).map fun cs=>(True,.agg cs)
   |_=>none)
  |none=>none)
 | .buildSlice T n parts=>(match tab T with
  |some d=>(match d.kind with
   | .iu e=>(match tab e with
    |some d'=>if n=parts.toList.length∧pd 0 parts.toList=true∧n≤16777216∧n*d'.size≤16777216 then some (oy d'.size (parts.toList.map fun p=>(ρ p.2).bh hp),.clip (parts.toList.map fun p=>(ρ p.2).bh hp)) else none
    |none=>none)
   |_=>none)
  |none=>none)
 | .slice T x lo hi mx=>(match tab T with
  |some d=>(match d.kind,ρ x with
   | .str,.ae (.string b)=>(match mx,bw ρ 0 lo,bw ρ b.size hi with
    |none,some l,some h=>some (0≤l∧l≤h∧h≤b.size,.ae (.string (b.extract l.toNat h.toNat)))
    |_,_,_=>none)
   | .iu e,v=>(match v.fq hp,tab e with
    |some els,some d'=>(match bw ρ 0 lo,bw ρ els.length hi,mx.map fun m=>bw ρ 0 (some m) with
     |some l,some h,none=>some (0≤l∧l≤h∧h≤els.length∧(∀y:AV,y∈els→y.cells.length=d'.size),.sl ((els.take h.toNat).drop l.toNat))
     |some l,some h,some (some m)=>if hi.isSome=true then some (0≤l∧l≤h∧h=m∧h≤els.length∧(∀y:AV,y∈els→y.cells.length=d'.size),.clip ((els.take h.toNat).drop l.toNat)) else none
     |_,_,_=>none)
    |_,_=>none)
   |_,_=>none)
  |none=>none)
 | .field T x f=>(match (fieldsOf tab T)[f]?,ρ x with
  |some p,.agg cs=>if p.2.2=true∨p.2.1=1 then(dV p.2.2 p.2.1 cs p.1).map fun v=>(True,v) else none
  |_,_=>none)
 | .lookup T m k ok=>(match tab T,(ρ m).vU hp,ρ k with
  |some d,some (.i es),.ae (.int .i64 a)=>(match d.kind with
   | .l5 kt et=>(match tab kt,tab et with
    |some dk,some de=>(match dk.kind with
     | .int _=>some (True,gn es de.zero a ok)
     |_=>none)
    |_,_=>none)
   |_=>none)
  |some d,some (.s es),.ae (.string a)=>(match d.kind with
   | .l5 kt et=>(match tab kt,tab et with
    |some dk,some de=>(match dk.kind with
     | .str=>some (True,gn es de.zero a ok)
     |_=>none)
    |_,_=>none)
   |_=>none)
  |_,_,_=>none)
 | .index T x i=>(match tab T,ρ x,ρ i with
  |some d,.ae (.string b),.ae (.int _ n)=>(match d.kind with
   | .str=>some (0≤n∧n<b.size,.ae (.int .u8 (zl b n)))
   |_=>none)
  |_,_,_=>none)
 | .extract x i=>(match ρ x with
  | .bc vs=>(vs[i]?).map fun v=>(True,v)
  |_=>none)
 | .makeFunc (.func f) first caps=>if first.size=0 then some (True,.aS f (caps.toList.map ρ)) else if caps.size=0 then some (True,.cH f (first.toList.map ρ)) else none
 | .call c=>(match c.callee,c.args.toList with
  | .builtin .len,[x]=>(match (c.argTypes[0]?).bind tab with
   |some d=>(match d.kind,ρ x with
    | .iu _,.ae (.string _)=>none
    | .iu _,v=>(match qC hp v with
     |some u=>some (True,u)
     |none=>(match qD hp v with
      |some (_,m,_,_,k)=>some (m=k,.ae (.int .i64 (m:Nat)))
      |none=>none))
    | .str,.ae (.string b)=>some (True,.ae (.int .i64 b.size))
    |_,_=>none)
   |none=>none)
  | .builtin .min,[x,y]=>(match ρ x,ρ y with
   | .ae (.int k m),.ae (.int _ n)=>some (True,.ae (.int k (if n<m then n else m)))
   |_,_=>none)
  | .builtin .max,[x,y]=>(match ρ x,ρ y with
   | .ae (.int k m),.ae (.int _ n)=>some (True,.ae (.int k (if n>m then n else m)))
   |_,_=>none)
  |_,_=>none)
 |_=>none
def ee (Γ:Env G) (o:Oper) (s:AS G) (r:AV):Prop:=
 ∀a w η,Rel Γ s a w η→∃v w',(execOp a.eval o).run Γ.P w=.ok (.value v) w'∧bt w w'∧aV w' (aU Γ w' η s.hp) η s.hp r v
theorem aK {o:Oper} {r:AV} (h:∀a w η,Rel Γ s a w η→∃v,(execOp a.eval o).run Γ.P w=.ok (.value v) w∧aV w (aU Γ w η s.hp) η s.hp r v):ee Γ o s r:=
 fun a w η hr=>let ⟨v,h1,h2⟩:=h a w η hr;⟨v,w,h1,bt.refl w,h2⟩
theorem aV.ao {u v:Value} (h:aV w F η hp (.ae u) v):v=u:=by cases h;rfl
theorem dG {agg:Bool} {size:Nat} {cs:List AV} {o:Nat} {r:AV} (bE:agg=false→size=1) {vs:List Value} (hl:vs.length=cs.length) (hr:∀(j:Nat) (x:AV) (u:Value),cs[j]?=some x→vs[j]?=some u→aV w F η hp x u∧u.oneCell'=true)
  (h:dV agg size cs o=some r):o+size≤vs.length∧aV w F η hp r (if agg then .agg ((vs.drop o).take size).toArray else((vs.drop o).take size).headD undef):=by
 unfold dV at h
 cases agg with
 |true=>
  simp only[if_true] at h ⊢
  split at h
  ·rename_i hle
   obtain rfl:=Option.some.inj h
   refine⟨by omega,.agg _ _ (by simp;omega) (fun v hv=>?_) fun j x v hx hv=>?_⟩
   ·have Ha:v∈(vs.drop o).take size:=by simpa using hv
    obtain⟨k,hk⟩:=List.getElem?_of_mem Ha
    rw[List.getElem?_take] at hk
    split at hk
    ·rw[List.getElem?_drop] at hk
     have al:o+k<vs.length:=(List.getElem?_eq_some_iff.1 hk).1
     exact(hr (o+k) (cs[o+k]'(by omega)) v (by simp) hk).2
    ·cases hk
   ·have Ha:((vs.drop o).take size)[j]?=some v:=by simpa using hv
    rw[List.getElem?_take] at hx Ha
    split at hx
    ·rename_i hj
     rw[if_pos hj,List.getElem?_drop] at Ha
     rw[List.getElem?_drop] at hx
     exact(hr (o+j) x v hx Ha).1
    ·cases hx
  ·cases h
 |false=>
  simp only[Bool.false_eq_true,if_false] at h ⊢
  have al:o<cs.length:=(List.getElem?_eq_some_iff.1 h).1
  have h1:=bE rfl
  subst h1
  refine⟨by omega,?_⟩
  have hv:vs[o]?=some (vs[o]'(by omega)):=by simp
  have:((vs.drop o).take 1).headD undef=vs[o]'(by omega):=by
   rw[List.headD_eq_head?_getD,List.head?_eq_getElem?,List.getElem?_take,if_pos (by omega),List.getElem?_drop]
   simp only[Nat.add_zero]
   rw[hv];rfl
  rw[this]
  exact(hr o r _ h hv).1
theorem iA {T:TypeId} {d:TD} (ht:eK P T d) {b o:Nat} {vs:List Value} (hc:∀(j:Nat) (u:Value),vs[j]?=some u→w.cell? ⟨b,j,none⟩=some u) (hle:o+d.size≤vs.length):
  (loadVar T ⟨b,o,none⟩).run P w=.ok (if d.kind.agg then .agg ((vs.drop o).take d.size).toArray else((vs.drop o).take d.size).headD undef) w:=by
 refine ht.run_load (vs:=(vs.drop o).take d.size) (by simp;omega) fun j u hj=>?_
 rw[List.getElem?_take] at hj
 split at hj
 ·rw[List.getElem?_drop] at hj;exact hc _ _ hj
 ·cases hj
theorem qE {b:Nat} {vs:Array Value} {T:TypeId} (hg:w.heap[b]?=some (.cells vs T (0,0))) (j:Nat) (u:Value) (hj:vs.toList[j]?=some u):w.cell? ⟨b,j,none⟩=some u:=by
 rw[cell_of_row w b j vs T (0,0) hg];simpa using hj
theorem aL.sz {tab:Nat→Option TD} (ah:aL P tab) {T:Nat} {d:TD} (h:tab T=some d):d.kind.agg=false→d.size=1:=fun h1=>((ah T d h).OY h1).1
theorem vV {tab:Nat→Option TD} (ah:aL Γ.P tab) {o:Oper} {T:Nat} {x:Operand} (ho:o.op=.load T x) {d:TD} (hd:tab T=some d) {r:AV}
  (h:(∃n off cs,s.ev x=.ptr n off∧s.hp[n]?=some (.box cs)∧dV d.kind.agg d.size cs off=some r)∨(∃e off,s.ev x=.aH e off∧tl d.kind.agg d.size e off=some r)):ee Γ o s r:=by
 refine aK fun a w η hr=>?_
 have hx:=hr.ev x
 have ft:=ah T d hd
 rcases h with⟨n,off,cs,he,hn,RF⟩|⟨e,off,he,RF⟩
 ·rw[he] at hx
  cases tn:a.eval x<;>rw[tn] at hx<;>cases hx
  rename_i b dn
  obtain⟨b',vs,T',hb,hg,bE,hc⟩:=hr.heap.obj n _ _ hn dn
  simp only[Value.pointer.injEq,Option.some.injEq,Addr.mk.injEq,and_true] at hb
  subst hb
  obtain⟨h1,h2⟩:=dG (w:=w) (F:=aU Γ w η s.hp) (η:=η) (hp:=s.hp) (ah.sz hd) (vs:=vs.toList) (by simpa using bE) (fun j x u hx hu=>hc j x u hx (by simpa using hu)) RF
  refine⟨_,?_,h2⟩
  simp only[execOp,ho,tn,Instr.loadAt,Instr.sureAddr,Sem.run_bind,Sem.run_pure,Result.andThen_ok]
  rw[iA ft (qE hg) h1]
  rfl
 ·rw[he] at hx
  cases tn:a.eval x<;>rw[tn] at hx<;>cases hx
  rename_i b o f aw cD
  have cS:∀(j:Nat) (x:AV) (u:Value),e.cells[j]?=some x→((List.range e.cells.length).map f)[j]?=some u→aV w (aU Γ w η s.hp) η s.hp x u∧u.oneCell'=true:=by
   intro j x u hx hu
   have al:=(List.getElem?_eq_some_iff.1 hx).1
   rw[List.getElem?_map,List.getElem?_range al] at hu
   obtain rfl:=Option.some.inj hu
   exact⟨(cD j x hx).lift,(aw j x hx).2.2⟩
  have eS:∀(j:Nat) (u:Value),((List.range e.cells.length).map f)[j]?=some u→w.cell? ⟨b,o+j,none⟩=some u:=by
   intro j u hj
   rw[List.getElem?_map] at hj
   by_cases al:j<e.cells.length
   ·rw[List.getElem?_range al] at hj
    obtain rfl:=Option.some.inj hj
    exact(aw j _ (List.getElem?_eq_some_iff.2 ⟨al,rfl⟩)).1
   ·rw[List.getElem?_eq_none (by simp;omega)] at hj;cases hj
  have key:off+d.size≤e.cells.length∧aV w (aU Γ w η s.hp) η s.hp r (if d.kind.agg then .agg ((((List.range e.cells.length).map f).drop off).take d.size).toArray else((((List.range e.cells.length).map f).drop off).take d.size).headD undef):=by
   unfold tl at RF
   split at RF
   ·rename_i hc
    obtain⟨rfl,hlen,bB⟩:=hc
    obtain rfl:=Option.some.inj RF
    refine⟨by omega,?_⟩
    cases hk:d.kind.agg with
    |true=>
     rw[hk] at bB
     cases e<;>simp only[AV.isAgg] at bB<;>try (cases bB;done)
     rename_i cs
     have pf:cs.length=d.size:=hlen
     have:=(dG (w:=w) (F:=aU Γ w η s.hp) (η:=η) (hp:=s.hp) (agg:=true) (size:=d.size) (cs:=cs) (o:=0) (r:=.agg cs) (fun h=>by cases h) (vs:=(List.range cs.length).map f) (by simp) cS (by simp[dV,←pf])).2
     simpa [AV.cells] using this
    |false=>
     have h1:=ah.sz hd hk
     have Cs:e.cells=[e]:=by
      rw[hk] at bB
      cases e<;>first|rfl|(simp[AV.isAgg] at bB)
     have:=(dG (w:=w) (F:=aU Γ w η s.hp) (η:=η) (hp:=s.hp) (agg:=false) (size:=d.size) (cs:=e.cells) (o:=0) (r:=e) (fun _=>h1) (vs:=(List.range e.cells.length).map f) (by simp) cS (by rw[Cs];rfl)).2
     simpa using this
   ·have:=dG (w:=w) (F:=aU Γ w η s.hp) (η:=η) (hp:=s.hp) (ah.sz hd) (vs:=(List.range e.cells.length).map f) (by simp) cS RF
    simpa using this
  refine⟨_,?_,key.2⟩
  simp only[execOp,ho,tn,Instr.loadAt,Instr.sureAddr,Sem.run_bind,Sem.run_pure,Result.andThen_ok]
  rw[ft.run_load (vs:=(((List.range e.cells.length).map f).drop off).take d.size) (by simp;omega) (fun j u hj=>by
   rw[List.getElem?_take] at hj
   split at hj
   ·rw[List.getElem?_drop] at hj
    have:=eS _ _ hj
    rw[Nat.add_assoc];exact this
   ·cases hj)]
  rfl
end
section
variable {G:Type} {Γ:Env G} {s:AS G} {a:Act} {w w':World} {η:List Value} {hp:List af} {F:Nat→Nat→Prop} {P:Program}
theorem kU {tab:Nat→Option TD} {T:Nat} {f:Nat} {p:Nat×Nat×Bool} (h:(fieldsOf tab T)[f]?=some p):∃d fs,tab T=some d∧d.kind=.bP fs∧fs[f]?=some p:=by
 unfold fieldsOf at h
 split at h
 ·rename_i d hd
  split at h
  ·rename_i fs hk
   exact⟨d,fs,hd,hk,h⟩
  ·simp at h
 ·simp at h
theorem eK.field {T:Nat} {d:TD} (h:eK P T d) {fs:List (Nat×Nat×Bool)} (hk:d.kind=.bP fs) {f:Nat} {p:Nat×Nat×Bool} (hf:fs[f]?=some p):
  ∃fields fd i u,P.underlying T=some (.struct fields)∧fields[f]?=some fd∧fd.offset=p.1∧P.info? fd.type=some i∧i.size=p.2.1∧P.underlying fd.type=some u∧Hp u=p.2.2:=by
 obtain⟨u,h1,h2⟩:=h.iS
 rw[hk] at h2
 obtain⟨fields,rfl,h3⟩:=h2
 have h4:=congrArg (·[f]?) h3
 simp only[List.getElem?_map,hf,Option.map_some,Array.getElem?_toList] at h4
 cases V6:fields[f]? with
 |none=>rw[V6] at h4;cases h4
 |some fd=>
  rw[V6] at h4
  simp only[Option.map_some,Option.some.injEq,Prod.mk.injEq] at h4
  obtain⟨e1,e2,e3⟩:=h4
  cases hi:P.info? fd.type with
  |none=>rw[hi] at e2;cases e2
  |some i=>
   cases hu:P.underlying fd.type with
   |none=>rw[hu] at e3;cases e3
   |some u=>
    rw[hi] at e2;rw[hu] at e3
    exact⟨fields,fd,i,u,h1,V6,e1,hi,by simpa using e2,hu,by simpa using e3⟩
theorem ma {tab:Nat→Option TD} (ah:aL Γ.P tab) {o:Oper} {T f:Nat} {x:Operand} (ho:o.op=.fieldAddr T x f) {p:Nat×Nat×Bool} (hp:(fieldsOf tab T)[f]?=some p) (h0:p.2.1≠0) {r:AV}
  (h:(∃n off,s.ev x=.ptr n off∧r=.ptr n (off+p.1))∨(∃e off,s.ev x=.aH e off∧r=.aH e (off+p.1))):ee Γ o s r:=by
 refine aK fun a w η hr=>?_
 have hx:=hr.ev x
 obtain⟨d,fs,hd,hk,hf⟩:=kU hp
 obtain⟨fields,fd,i,u,h1,h2,h3,h4,h5,_⟩:=(ah T d hd).field hk hf
 have h6:¬i.size=0:=by rw[h5];exact h0
 rcases h with⟨n,off,he,rfl⟩|⟨e,off,he,rfl⟩<;>rw[he] at hx
 ·cases tn:a.eval x<;>rw[tn] at hx<;>cases hx
  rename_i b dn
  exact⟨.pointer (some ⟨b,off+p.1,none⟩),by simp[execOp,ho,tn,Instr.fieldAt,run_underlying h1,h2,Instr.sureAddr,fieldPlace,sizeOf,typeInfo,h4,h6,h3,Addr.add_lit],.ptr n _ b dn⟩
 ·cases tn:a.eval x<;>rw[tn] at hx<;>cases hx
  rename_i b o f' aw cD
  refine⟨.pointer (some ⟨b,o+off+p.1,none⟩),by simp[execOp,ho,tn,Instr.fieldAt,run_underlying h1,h2,Instr.sureAddr,fieldPlace,sizeOf,typeInfo,h4,h6,h3,Addr.add_lit],?_⟩
  rw[Nat.add_assoc]
  exact .aH e _ b o f' aw cD
theorem si {tab:Nat→Option TD} (ah:aL Γ.P tab) {o:Oper} {T f:Nat} {x:Operand} (ho:o.op=.fieldAddr T x f) {p:Nat×Nat×Bool} (hp:(fieldsOf tab T)[f]?=some p) (h0:p.2.1≠0) {r m i z:Nat}
  (he:s.ev x=.ea r m i z) (hz:p.1=0):ee Γ o s (.ea r m i z):=by
 refine aK fun a w η hr=>?_
 have hx:=hr.ev x
 obtain⟨d,fs,hd,hk,hf⟩:=kU hp
 obtain⟨fields,fd,i',u,h1,h2,h3,h4,h5,_⟩:=(ah T d hd).field hk hf
 have h6:¬i'.size=0:=by rw[h5];exact h0
 rw[he] at hx
 cases tn:a.eval x<;>rw[tn] at hx<;>cases hx
 rename_i b o' c k qF
 exact⟨.pointer (some ⟨b,o'+i*z,none⟩),by simp[execOp,ho,tn,Instr.fieldAt,run_underlying h1,h2,Instr.sureAddr,fieldPlace,sizeOf,typeInfo,h4,h6,h3,Addr.add_lit,hz],.ea r m i z b o' c k qF⟩
theorem Ct {tab:Nat→Option TD} (ah:aL Γ.P tab) {o:Oper} {T:Nat} {x:Operand} (ho:o.op=.load T x) {d:TD} (hd:tab T=some d) {r m i z e:Nat} {els:List AV} (he:s.ev x=.ea r m i z) (nQ:s.hp[r]?=some (.aF e z els))
  (hm:m=els.length) (zm:d.size=z) (hi:i<els.length) (bB:els[i].isAgg=d.kind.agg):ee Γ o s els[i]:=by
 refine aK fun a w η hr=>?_
 have hx:=hr.ev x
 have ft:=ah T d hd
 rw[he] at hx
 cases tn:a.eval x<;>rw[tn] at hx<;>cases hx
 rename_i b o' c k qF
 have tq:=qF
 unfold aQ at tq
 rw[nQ] at tq
 have dn:=tq.2 hm
 obtain⟨Hc,xs,bU,cy⟩:=hr.heap.obj r _ _ nQ dn
 rcases bU.2 with⟨h0,_⟩|⟨g,cap,cur,Y3,h0,⟨vi,FL,hg⟩,zi,Cn,eS,jg⟩
 ·omega
 simp only[Value.slice.injEq,Option.some.injEq,Addr.mk.injEq,and_true] at Y3
 obtain⟨⟨rfl,rfl⟩,hnm,rfl⟩:=Y3
 have zj:=cy i els[i] (List.getElem?_eq_getElem hi)
 have aw:(i+1)*z≤els.length*z:=Nat.mul_le_mul_right _ hi
 rw[Nat.add_mul,Nat.one_mul] at aw
 have Lu:((xs.drop (i*z)).take z).length=z:=by rw[List.length_take,List.length_drop,bU.1];omega
 have bO:∀(j:Nat) (u:Value),((xs.drop (i*z)).take z)[j]?=some u→j<z∧xs[i*z+j]?=some u:=by
  intro j u hj
  rw[List.getElem?_take] at hj
  split at hj
  ·rename_i al;rw[List.getElem?_drop] at hj;exact⟨al,hj⟩
  ·cases hj
 have cS:∀(j:Nat) (y:AV) (u:Value),els[i].cells[j]?=some y→((xs.drop (i*z)).take z)[j]?=some u→aV w (aU Γ w η s.hp) η s.hp y u∧u.oneCell'=true:=by
  intro j y u hy hu
  obtain⟨_,h2⟩:=bO j u hu
  obtain⟨u',q1,q2,q3⟩:=zj.2 j y hy
  rw[h2] at q1
  obtain rfl:=Option.some.inj q1
  exact⟨q2.lift,q3⟩
 have V7:∀(j:Nat) (u:Value),((xs.drop (i*z)).take z)[j]?=some u→w.cell? ⟨b,0+i*z+j,none⟩=some u:=by
  intro j u hj
  obtain⟨h1,h2⟩:=bO j u hj
  rw[←jg,List.getElem?_take] at h2
  split at h2
  ·rw[cell_of_row w b (0+i*z+j) cur e (0,vi) hg,Nat.zero_add];simpa using h2
  ·cases h2
 have key:aV w (aU Γ w η s.hp) η s.hp els[i] (if d.kind.agg then .agg ((xs.drop (i*z)).take z).toArray else((xs.drop (i*z)).take z).headD undef):=by
  have hlen:=zj.1
  generalize els[i]=el at bB hlen cS
  cases hk:d.kind.agg with
  |true=>
   rw[hk] at bB
   cases el<;>simp only[AV.isAgg] at bB<;>try (cases bB;done)
   rename_i cs
   have pf:cs.length=z:=hlen
   have:=(dG (w:=w) (F:=aU Γ w η s.hp) (η:=η) (hp:=s.hp) (agg:=true) (size:=z) (cs:=cs) (o:=0) (r:=.agg cs) (fun h=>by cases h) (vs:=(xs.drop (i*z)).take z) (by rw[Lu,pf]) cS (by simp[dV,←pf])).2
   simpa [List.take_take] using this
  |false=>
   have h1:=ah.sz hd hk
   have Cs:el.cells=[el]:=by
    rw[hk] at bB
    cases el<;>first|rfl|(simp[AV.isAgg] at bB)
   have:=(dG (w:=w) (F:=aU Γ w η s.hp) (η:=η) (hp:=s.hp) (agg:=false) (size:=z) (cs:=el.cells) (o:=0) (r:=el) (fun _=>by rw[←zm];exact h1) (vs:=(xs.drop (i*z)).take z) (by rw[Lu,hlen]) cS (by rw[Cs];rfl)).2
   simpa [←zm,h1,List.take_take] using this
 refine⟨_,?_,key⟩
 simp only[execOp,ho,tn,Instr.loadAt,Instr.sureAddr,Sem.run_bind,Sem.run_pure,Result.andThen_ok]
 rw[ft.run_load (vs:=(xs.drop (i*z)).take z) (by rw[Lu,zm]) V7]
 rfl
theorem tr {tab:Nat→Option TD} (ah:aL Γ.P tab) {o:Oper} {T e:Nat} {x i:Operand} (ho:o.op=.indexAddr T x i) {d d':TD} (hd:tab T=some d) (hk:d.kind=.iu e) (cM:tab e=some d') {els:List AV} (cy:(s.ev x).fq s.hp=some els)
  {k:IntKind} {n:Int} (hi:s.ev i=.ae (.int k n)) (h0:0≤n) (h1:n<els.length) (bE:(els.getD n.toNat .top).cells.length=d'.size):ee Γ o s (.aH (els.getD n.toNat .top) 0):=by
 refine aK fun a w η hr=>?_
 have hx:=iv hr.heap hr.bA (hr.ev x) cy
 have Cu:=hr.ev i
 rw[hi] at Cu
 have LQ:=Cu.ao
 have hu:Γ.P.underlying T=some (.slice e):=by
  obtain⟨u,h2,h3⟩:=(ah T d hd).iS
  rw[hk] at h3
  rw[h2];exact congrArg some h3
 have al:n.toNat<els.length:=by omega
 have bO:els[n.toNat]?=some (els.getD n.toNat .top):=by simp[List.getD,al]
 generalize qw:a.eval x=vx at hx
 cases hx with
 |jN=>simp at al
 |sl size els b off c f hc hm hl aw cD=>
  have hs:size=d'.size:=by rw[←hl _ _ bO];exact bE
  subst hs
  obtain⟨i0,vi,nq,_⟩:=(ah e d' cM).info
  refine⟨.pointer (some ⟨b,off+n.toNat*d'.size,none⟩),?_,.aH _ 0 b (off+n.toNat*d'.size) (f n.toNat) (fun j x hj=>aw _ _ _ _ bO hj) (fun j x hj=>cD _ _ _ _ bO hj)⟩
  have hb:0≤n∧n<(els.length:Int):=⟨h0,h1⟩
  simp[execOp,ho,qw,LQ,Instr.indexAt,asIntOf,run_underlying hu,hb,sizeOf,typeInfo,vi,nq,Addr.add_lit]
theorem sj {tab:Nat→Option TD} (ah:aL Γ.P tab) {o:Oper} {T m:Nat} {x i:Operand} (ho:o.op=.indexAddr T x i) {d:TD} (hd:tab T=some d) (hk:d.kind=.arr m) {r:Nat} (hx:s.ev x=.ptr r 0)
  {k:IntKind} {n:Int} (hi:s.ev i=.ae (.int k n)) (h0:0≤n) (h1:n<m):ee Γ o s (.ptr r n.toNat):=by
 refine aK fun a w η hr=>?_
 have di:=hr.ev x
 rw[hx] at di
 have Cu:=hr.ev i
 rw[hi] at Cu
 have LQ:=Cu.ao
 obtain⟨u,h2,h3⟩:=(ah T d hd).iS
 rw[hk] at h3
 obtain⟨e,i0,rfl,vi,nq⟩:=h3
 generalize qw:a.eval x=vx at di
 cases di with
 |ptr _ _ b dn=>
  refine⟨.pointer (some ⟨b,n.toNat,none⟩),?_,.ptr _ _ b dn⟩
  have hb:0≤n∧n<(m:Int):=⟨h0,h1⟩
  simp[execOp,ho,qw,LQ,Instr.indexAt,asIntOf,run_underlying h2,hb,sizeOf,typeInfo,vi,nq,Addr.add_lit,Instr.sureAddr]
theorem sk {tab:Nat→Option TD} (ah:aL Γ.P tab) {o:Oper} {T m:Nat} {x i:Operand} (ho:o.op=.indexAddr T x i) {d:TD} (hd:tab T=some d) (hk:d.kind=.arr m) {e:AV} (hx:s.ev x=.aH e 0)
  {k:IntKind} {n:Int} (hi:s.ev i=.ae (.int k n)) (h0:0≤n) (h1:n<m):ee Γ o s (.aH e n.toNat):=by
 refine aK fun a w η hr=>?_
 have di:=hr.ev x
 rw[hx] at di
 have Cu:=hr.ev i
 rw[hi] at Cu
 have LQ:=Cu.ao
 obtain⟨u,h2,h3⟩:=(ah T d hd).iS
 rw[hk] at h3
 obtain⟨e',i0,rfl,vi,nq⟩:=h3
 generalize qw:a.eval x=vx at di
 cases di with
 |aH _ _ b q f aw Lv=>
  refine⟨.pointer (some ⟨b,q+n.toNat,none⟩),?_,.aH _ _ b q f aw Lv⟩
  have hb:0≤n∧n<(m:Int):=⟨h0,h1⟩
  simp[execOp,ho,qw,LQ,Instr.indexAt,asIntOf,run_underlying h2,hb,sizeOf,typeInfo,vi,nq,Addr.add_lit,Instr.sureAddr]
theorem nu {hp:List af} {x:AV} {r m e size k:Nat} (h:qD hp x=some (r,m,e,size,k)):x=.own r m∧∃els,hp[r]?=some (.aF e size els)∧k=els.length:=by
 unfold qD at h
 split at h
 ·split at h
  ·rename_i hr
   simp only[Option.some.injEq,Prod.mk.injEq] at h
   obtain⟨rfl,rfl,rfl,rfl,rfl⟩:=h
   exact⟨rfl,_,hr,rfl⟩
  ·cases h
 ·cases h
theorem sn {tab:Nat→Option TD} (ah:aL Γ.P tab) {o:Oper} {T e:Nat} {x i:Operand} (ho:o.op=.indexAddr T x i) {d d':TD} (hd:tab T=some d) (hk:d.kind=.iu e) (cM:tab e=some d') {r m:Nat} {els:List AV} (hx:s.ev x=.own r m) (nQ:s.hp[r]?=some (.aF e d'.size els)) (hm:m=els.length)
  {k:IntKind} {n:Int} (hi:s.ev i=.ae (.int k n)) (h0:0≤n) (h1:n<m):ee Γ o s (.ea r m n.toNat d'.size):=by
 refine aK fun a w η hr=>?_
 have di:=hr.ev x
 rw[hx] at di
 have Cu:=hr.ev i
 rw[hi] at Cu
 have LQ:=Cu.ao
 have hu:Γ.P.underlying T=some (.slice e):=by
  obtain⟨u,h2,h3⟩:=(ah T d hd).iS
  rw[hk] at h3
  rw[h2];exact congrArg some h3
 generalize qw:a.eval x=vx at di
 cases di with
 |own _ _ _ tt qF=>
  have tq:=qF
  unfold aQ at tq
  rw[nQ] at tq
  have dn:=tq.2 hm
  obtain⟨Hd,xs,bU,_⟩:=hr.heap.obj r _ _ nQ dn
  rcases bU.2 with⟨hz,_⟩|⟨g,cap,cur,rfl,_⟩
  ·omega
  ·rw[←hm] at qF qw
   obtain⟨i0,vi,nq,_⟩:=(ah e d' cM).info
   refine⟨.pointer (some ⟨g,0+n.toNat*d'.size,none⟩),?_,.ea r m n.toNat d'.size g 0 cap m qF⟩
   have hb:0≤n∧n<(m:Int):=⟨h0,h1⟩
   simp[execOp,ho,qw,LQ,Instr.indexAt,asIntOf,run_underlying hu,hb,sizeOf,typeInfo,vi,nq,Addr.add_lit]
theorem Cv {tab:Nat→Option TD} (ah:aL Γ.P tab) {o:Oper} {T T':Nat} {op:BinOp} {x y:Operand} (ho:o.op=.binOp op T x y T') {c:Prop} {r:AV} (h:iz tab T op (s.ev x) (s.ev y)=some (c,r)) (_hc:c):ee Γ o s r:=by
 refine aK fun a w η hr=>?_
 have hx:=hr.ev x
 have hy:=hr.ev y
 unfold iz at h
 split at h
 ·rename_i k m k' n e1 e2
  rw[e1] at hx;rw[e2] at hy
  have lH:=hx.ao
  have Ch:=hy.ao
  split at h
  ·rename_i ZX
   subst ZX
   unfold xh at h
   split at h<;>first
    |cases h;done
    |(simp only[Option.some.injEq,Prod.mk.injEq] at h;obtain⟨_,rfl⟩:=h;exact⟨_,by simp[execOp,ho,lH,Ch,eqGuard,binOp,Op.intArith,Op.intCmp];try rfl,.ae _⟩)
  ·cases h
 ·rename_i b1 b2 e1 e2
  rw[e1] at hx;rw[e2] at hy
  have lH:=hx.ao
  have Ch:=hy.ao
  split at h
  ·rename_i d hd
   obtain⟨u,h2,h3⟩:=(ah T d hd).iS
   split at h
   ·rename_i hk
    rw[hk] at h3
    have hu:Γ.P.underlying T=some .bool:=by rw[h2];exact congrArg some h3
    simp only[Option.some.injEq,Prod.mk.injEq] at h
    obtain⟨_,rfl⟩:=h
    have he:(Op.equal T (.bool b1) (.bool b2)).run Γ.P w=.ok (b1==b2) w:=run_equalIn_bool' w 9999 T b1 b2 hu
    refine⟨_,?_,.ae _⟩
    simp only[execOp,ho,lH,Ch,eqGuard,binOp,Sem.run_bind,Bool.not_true,Bool.false_eq_true,if_false,he,Result.andThen_ok,Sem.run_pure]
   ·rename_i hk
    rw[hk] at h3
    have hu:Γ.P.underlying T=some .bool:=by rw[h2];exact congrArg some h3
    simp only[Option.some.injEq,Prod.mk.injEq] at h
    obtain⟨_,rfl⟩:=h
    have he:(Op.equal T (.bool b1) (.bool b2)).run Γ.P w=.ok (b1==b2) w:=run_equalIn_bool' w 9999 T b1 b2 hu
    refine⟨_,?_,.ae _⟩
    simp only[execOp,ho,lH,Ch,eqGuard,binOp,Sem.run_bind,Bool.not_true,Bool.false_eq_true,if_false,he,Result.andThen_ok,Sem.run_pure]
   ·cases h
  ·cases h
 ·rename_i a1 a2 b1 b2 e1 e2
  rw[e1] at hx;rw[e2] at hy
  have R1:∀{m1 m2:Int} {v:Value},aV w (aU Γ w η s.hp) η s.hp (.agg [.ae (.int .i64 m1),.ae (.int .i64 m2)]) v→v=.agg #[.int .i64 m1,.int .i64 m2]:=by
   intro m1 m2 v hv
   cases hv with
   |agg cs vs hl h1 hr=>
    obtain⟨vs⟩:=vs
    match vs,hl with
    | [u1,u2],_=>
     have q1:=(hr 0 _ u1 rfl rfl).ao
     have q2:=(hr 1 _ u2 rfl rfl).ao
     rw[q1,q2]
  have lH:=R1 hx
  have Ch:=R1 hy
  split at h
  ·rename_i d hd
   split at h
   ·rename_i ZY
    obtain⟨g1,g2⟩:=(ah T d hd).ZW ZY
    split at h
    ·simp only[Option.some.injEq,Prod.mk.injEq] at h
     obtain⟨_,rfl⟩:=h
     refine⟨.bool (a1==b1&&a2==b2),?_,.ae _⟩
     have:=run_eql_struct (P:=Γ.P) w T #[.int .i64 a1,.int .i64 a2] #[.int .i64 b1,.int .i64 b2]
     rw[g2] at this
     simp only[Result.andThen_ok] at this
     simp only[execOp,ho,lH,Ch,Sem.run_bind,run_eqGuard_agg (P:=Γ.P) w _ T x y _ _ g1,Result.andThen_ok,this]
     rfl
    ·simp only[Option.some.injEq,Prod.mk.injEq] at h
     obtain⟨_,rfl⟩:=h
     refine⟨.bool (!(a1==b1&&a2==b2)),?_,.ae _⟩
     have:=run_neq_struct (P:=Γ.P) w T #[.int .i64 a1,.int .i64 a2] #[.int .i64 b1,.int .i64 b2]
     rw[g2] at this
     simp only[Result.andThen_ok] at this
     simp only[execOp,ho,lH,Ch,Sem.run_bind,run_eqGuard_agg (P:=Γ.P) w _ T x y _ _ g1,Result.andThen_ok,this]
     rfl
    ·cases h
   ·cases h
  ·cases h
 ·cases h
theorem eU (h:Rel Γ s a w η):∀l:List Operand,bF w (aU Γ w η s.hp) η s.hp (l.map s.ev) (l.map a.eval)
 | []=>True.intro
 |x::l=>⟨h.ev x,eU h l⟩
theorem vl {o:Oper} {f:Nat} {first caps:Array Operand} (ho:o.op=.makeFunc (.func f) first caps) (h0:first.size=0):ee Γ o s (.aS f (caps.toList.map s.ev)):=by
 refine aK fun a w η hr=>⟨.func (.func f) #[] (caps.map a.eval),?_,.aS f _ _ (by simp) fun j x v hx hv=>?_⟩
 ·have:first=#[]:=Array.eq_empty_of_size_eq_zero h0
  subst this
  simp[execOp,ho,Instr.makeFunc]
 ·exact(eU hr caps.toList).get j x v hx (by simpa using hv)
theorem sq {o:Oper} {f:Nat} {first caps:Array Operand} (ho:o.op=.makeFunc (.func f) first caps) (h0:caps.size=0):ee Γ o s (.cH f (first.toList.map s.ev)):=by
 refine aK fun a w η hr=>⟨.func (.func f) (first.map a.eval) #[],?_,.cH f _ _ (by simp) fun j x v hx hv=>?_⟩
 ·have:caps=#[]:=Array.eq_empty_of_size_eq_zero h0
  subst this
  simp[execOp,ho,Instr.makeFunc]
 ·exact(eU hr first.toList).get j x v hx (by simpa using hv)
theorem FM {o:Oper} {c x y:Operand} {t:Bool} (ho:o.op=.pick c x y) (hc:s.ev c=.ae (.bool t)):ee Γ o s (if t=true then s.ev x else s.ev y):=by
 refine aK fun a w η hr=>?_
 have h:=hr.ev c
 rw[hc] at h
 have hv:=h.ao
 cases t with
 |true=>exact⟨a.eval x,by simp[execOp,ho,hv,asBool],by simpa using hr.ev x⟩
 |false=>exact⟨a.eval y,by simp[execOp,ho,hv,asBool],by simpa using hr.ev y⟩
theorem nv {w:World} {η:List Value} {hp:List af} {F:Nat→Nat→Prop} {x:AV} {b:Bool} (h:xi x=some b) {v:Value} (hx:aV w F η hp x v):∃p,v=.pointer p∧p.isNone=b:=by
 unfold xi at h
 split at h
 ·cases hx;exact⟨_,rfl,by simpa using h⟩
 ·cases hx;exact⟨_,rfl,by simpa using h⟩
 ·cases hx;exact⟨_,rfl,by simpa using h⟩
 ·cases h
theorem FN {tab:Nat→Option TD} (ah:aL Γ.P tab) {o:Oper} {T T':Nat} {op:BinOp} {x y:Operand} (ho:o.op=.binOp op T x y T') {cs:List Prop} {r:AV} (h:FK tab T op (s.ev x) (s.ev y)=some (cs,r)) (hc:El cs):ee Γ o s r:=by
 unfold FK at h
 split at h
 ·rename_i k' b hy
  split at h
  ·rename_i k a hx
   split at h
   ·rename_i hk
    subst hk
    refine aK fun ac w η hr=>?_
    have h1:=hr.ev x
    have h2:=hr.ev y
    rw[hx] at h1;rw[hy] at h2
    have h1:=h1.ao
    have h2:=h2.ao
    split at h
    ·simp only[Option.some.injEq,Prod.mk.injEq] at h
     obtain⟨rfl,rfl⟩:=h
     exact⟨_,by simp[execOp,ho,h1,h2,eqGuard,binOp,Op.intDiv,hc.1],.ae _⟩
    ·simp only[Option.some.injEq,Prod.mk.injEq] at h
     obtain⟨rfl,rfl⟩:=h
     exact⟨_,by simp[execOp,ho,h1,h2,eqGuard,binOp,Op.intDiv,hc.1],.ae _⟩
    ·obtain⟨n,hn,he⟩:=Option.map_eq_some_iff.1 h
     simp only[Prod.mk.injEq] at he
     obtain⟨rfl,rfl⟩:=he
     refine⟨_,?_,.ae _⟩
     unfold Hs at hn
     split at hn<;>first|cases hn;done|(obtain rfl:=Option.some.inj hn;simp[execOp,ho,h1,h2,eqGuard,binOp,Op.intBits])
   ·cases h
  ·cases h
 ·rename_i b hy
  split at h
  ·rename_i a hx
   refine aK fun ac w η hr=>?_
   have h1:=hr.ev x
   have h2:=hr.ev y
   rw[hx] at h1;rw[hy] at h2
   have h1:=h1.ao
   have h2:=h2.ao
   split at h
   all_goals first|(cases h;done)|skip
   all_goals simp only[Option.some.injEq,Prod.mk.injEq] at h
   all_goals obtain⟨rfl,rfl⟩:=h
   ·have He:a.size+b.size≤9223372036854775807:=hc.1
    refine⟨_,?_,.ae _⟩
    simp[execOp,ho,h1,h2,eqGuard,binOp,Op.stringOp,show IntKind.i64.max=9223372036854775807 from rfl]
    omega
   all_goals exact⟨_,by simp[execOp,ho,h1,h2,eqGuard,binOp,Op.stringOp,zk,strLt],.ae _⟩
  ·cases h
 ·rename_i hy
  split at h
  ·rename_i b hb
   split at h
   ·rename_i d hd
    split at h
    ·rename_i e hk
     have hu:Γ.P.underlying T=some (.pointer (Γ.P.pointee T)):=by
      obtain⟨u,q2,q3⟩:=(ah T d hd).iS
      rw[hk] at q3
      have:Γ.P.underlying T=some (.pointer e):=by rw[q2];exact congrArg some q3
      rw[this,Program.pointee,this]
     split at h
     ·simp only[Option.some.injEq,Prod.mk.injEq] at h
      obtain⟨rfl,rfl⟩:=h
      refine aK fun a w η hr=>?_
      obtain⟨p,hp,LR⟩:=nv hb (hr.ev x)
      have h2:=hr.ev y
      rw[hy] at h2
      have h2:=h2.ao
      refine⟨.bool b,?_,.ae _⟩
      simp only[execOp,ho,hp,h2,eqGuard,Bool.not_true,Bool.false_eq_true,if_false,Sem.run_bind,Sem.run_pure,Result.andThen_ok,run_eql_pointer_nil w T p hu,LR]
     ·simp only[Option.some.injEq,Prod.mk.injEq] at h
      obtain⟨rfl,rfl⟩:=h
      refine aK fun a w η hr=>?_
      obtain⟨p,hp,LR⟩:=nv hb (hr.ev x)
      have h2:=hr.ev y
      rw[hy] at h2
      have h2:=h2.ao
      refine⟨.bool (!b),?_,.ae _⟩
      simp only[execOp,ho,hp,h2,eqGuard,Bool.not_true,Bool.false_eq_true,if_false,Sem.run_bind,Sem.run_pure,Result.andThen_ok,run_neq_pointer_nil w T p hu,LR]
     ·cases h
    ·cases h
   ·cases h
  ·cases h
 ·cases h
theorem xl {P:Program} (w:World) (k:Nat) (T:TypeId) {ms:Array (String×TypeId)} (hu:P.underlying T=some (.interface ms)):(Op.equalIn (k+1) T .nilIface .nilIface).run P w=.ok true w:=by
 simp[Op.equalIn,run_underlying hu]
theorem jW {P:Program} (w:World) (T:TypeId) {ms:Array (String×TypeId)} (hu:P.underlying T=some (.interface ms)):(Op.equal T .nilIface .nilIface).run P w=.ok true w:=xl w 9999 T hu
theorem Ht {tab:Nat→Option TD} (ah:aL Γ.P tab) {o:Oper} {T T':Nat} {op:BinOp} {x y:Operand} (ho:o.op=.binOp op T x y T') {r:AV} (h:LP tab T op (s.ev x) y=some r):ee Γ o s r:=by
 unfold LP at h
 split at h
 ·rename_i hy
  split at h
  ·rename_i d hd hx
   split at h
   ·rename_i hk
    obtain⟨u,q2,q3⟩:=(ah T d hd).iS
    rw[hk] at q3
    obtain⟨ms,rfl⟩:=q3
    obtain rfl:=LO hy
    split at h
    ·obtain rfl:=Option.some.inj h
     refine aK fun a w η hr=>?_
     have h1:=hr.ev x
     rw[hx] at h1
     have h1:=h1.ao
     have he:a.eval (.const .nilIface)=.nilIface:=rfl
     refine⟨.bool true,?_,.ae _⟩
     simp only[execOp,ho,h1,he,eqGuard_nil_constR,Sem.run_bind,Sem.run_pure,Result.andThen_ok,binOp,jW w T q2]
    ·obtain rfl:=Option.some.inj h
     refine aK fun a w η hr=>?_
     have h1:=hr.ev x
     rw[hx] at h1
     have h1:=h1.ao
     have he:a.eval (.const .nilIface)=.nilIface:=rfl
     refine⟨.bool false,?_,.ae _⟩
     simp only[execOp,ho,h1,he,eqGuard_nil_constR,Sem.run_bind,Sem.run_pure,Result.andThen_ok,binOp,jW w T q2]
     rfl
    ·cases h
   ·cases h
  ·cases h
 ·cases h
theorem zn {tab:Nat→Option TD} (ah:aL Γ.P tab) {o:Oper} {T T':Nat} {op:BinOp} {x y:Operand} (ho:o.op=.binOp op T x y T') {c:Prop} {r:AV} (h:xj tab T op (s.ev x) (s.ev y)=some (c,r)) (hc:c):ee Γ o s r:=by
 unfold xj at h
 split at h
 ·rename_i r' hr
  obtain rfl:=Option.some.inj h
  exact Cv ah ho hr hc
 ·obtain⟨⟨cs,r'⟩,h1,h2⟩:=Option.map_eq_some_iff.1 h
  simp only[Prod.mk.injEq] at h2
  obtain⟨rfl,rfl⟩:=h2
  exact FN ah ho h1 hc
theorem Hu {tab:Nat→Option TD} (ah:aL Γ.P tab) {o:Oper} {S D:Nat} {x:Operand} (ho:o.op=.convert S D x) {r:AV} (h:xk tab S D (s.ev x)=some r):ee Γ o s r:=by
 unfold xk at h
 split at h
 ·rename_i d1 d k n hS hD hx
  split at h
  ·rename_i k2 hk
   obtain rfl:=Option.some.inj h
   refine aK fun a w η hr=>?_
   have h1:=hr.ev x
   rw[hx] at h1
   have h1:=h1.ao
   obtain⟨u1,q1,_⟩:=(ah S d1 hS).iS
   have hu:Γ.P.underlying D=some (.int k2):=by
    obtain⟨u,q2,q3⟩:=(ah D d hD).iS
    rw[hk] at q3
    rw[q2];exact congrArg some q3
   refine⟨.int k2 (k2.wrap n),?_,.ae _⟩
   simp only[execOp,ho,h1,convert,Sem.run_bind,run_underlying q1,run_underlying hu,Result.andThen_ok]
   rfl
  ·cases h
 ·rename_i d1 d t hS hD hx
  split at h
  ·rename_i hk
   obtain rfl:=Option.some.inj h
   refine aK fun a w η hr=>?_
   have h1:=hr.ev x
   rw[hx] at h1
   have h1:=h1.ao
   obtain⟨u1,q1,_⟩:=(ah S d1 hS).iS
   have hu:Γ.P.underlying D=some .string:=by
    obtain⟨u,q2,q3⟩:=(ah D d hD).iS
    rw[hk] at q3
    rw[q2];exact congrArg some q3
   refine⟨.string t,?_,.ae _⟩
   simp[execOp,ho,h1,convert,run_underlying hu,run_underlying q1]
  ·cases h
 ·cases h
theorem vW {o:Oper} {op:UnOp} {T:Nat} {x:Operand} (ho:o.op=.unOp op T x) {r:AV} (h:(∃b,op=.not∧s.ev x=.ae (.bool b)∧r=.ae (.bool (!b)))∨(∃k n,op=.neg∧s.ev x=.ae (.int k n)∧r=.ae (.int k (k.wrap (0-n))))):ee Γ o s r:=by
 refine aK fun a w η hr=>?_
 have hx:=hr.ev x
 rcases h with⟨b,rfl,he,rfl⟩|⟨k,n,rfl,he,rfl⟩<;>rw[he] at hx
 ·exact⟨_,by simp[execOp,ho,hx.ao,Op.unary],.ae _⟩
 ·exact⟨_,by simp[execOp,ho,hx.ao,Op.unary,Op.intArith],.ae _⟩
theorem xm {o:Oper} {x:Operand} {i:Nat} (ho:o.op=.extract x i) {vs:List AV} {r:AV} (he:s.ev x=.bc vs) (hi:vs[i]?=some r):ee Γ o s r:=by
 refine aK fun a w η hr=>?_
 have hx:=hr.ev x
 rw[he] at hx
 generalize hv:a.eval x=v at hx
 cases hx with
 |bc cs us hl cD=>
  have al:i<us.size:=by rw[hl];exact(List.getElem?_eq_some_iff.1 hi).1
  have hu:us[i]?=some us[i]:=by simp[al]
  exact⟨us[i],by simp[execOp,ho,hv,Instr.extract,hu],cD i r _ hi hu⟩
theorem Cw {tab:Nat→Option TD} (ah:aL Γ.P tab) {o:Oper} {T f:Nat} {x:Operand} (ho:o.op=.field T x f) {p:Nat×Nat×Bool} (hp:(fieldsOf tab T)[f]?=some p) {cs:List AV} (hx:s.ev x=.agg cs) {r:AV}
  (h:dV p.2.2 p.2.1 cs p.1=some r) (h1:p.2.2=false→p.2.1=1):ee Γ o s r:=by
 refine aK fun a w η hr=>?_
 have di:=hr.ev x
 rw[hx] at di
 obtain⟨d,fs,hd,hk,hf⟩:=kU hp
 obtain⟨fields,fd,i,u,e1,e2,e3,e4,e5,e6,e7⟩:=(ah T d hd).field hk hf
 generalize hv:a.eval x=v at di
 cases di with
 |agg _ vs hl tt cD=>
  obtain⟨g1,g2⟩:=dG (w:=w) (F:=aU Γ w η s.hp) (η:=η) (hp:=s.hp) h1 (vs:=vs.toList) (by simpa using hl) (fun j x u hx hu=>⟨cD j x u hx (by simpa using hu),tt u (by rw[←Array.mem_toList_iff];exact List.mem_of_getElem? hu)⟩) h
  refine⟨_,?_,g2⟩
  have bB:(isAgg fd.type).run Γ.P w=.ok p.2.2 w:=by
   rw[←e7]
   simp only[isAgg,Sem.run_bind,run_underlying e6,Result.andThen_ok]
   cases u<;>rfl
  simp only[execOp,ho,hv,Instr.field,Sem.run_bind,run_underlying e1,Result.andThen_ok,e2,asAgg,Sem.run_pure,part,bB]
  cases qG:p.2.2 with
  |true=>
   simp only[if_true,Sem.run_bind,sizeOf,typeInfo,run_program,Result.andThen_ok,e4,Sem.run_pure,e5,e3]
   congr 2
   apply congrArg
   apply Array.ext'
   simp[Array.toList_extract,List.extract_eq_take_drop]
  |false=>
   have hs:=h1 qG
   rw[hs] at g1 ⊢
   have al:p.1<vs.size:=by simp at g1;omega
   have hu:vs[p.1]?=some vs[p.1]:=by simp[al]
   simp only[Bool.false_eq_true,if_false,e3,hu,Sem.run_pure,Result.andThen_ok]
   congr 2
   have:(vs.toList.drop p.1).take 1=[vs[p.1]]:=by
    apply List.ext_getElem?
    intro k
    rw[List.getElem?_take]
    cases k with
    |zero=>simp[al]
    |succ k=>simp
   rw[this];rfl
end
section
variable {G:Type} {Γ:Env G} {s:AS G} {a:Act} {w w':World} {η:List Value} {hp:List af} {F:Nat→Nat→Prop} {P:Program}
theorem aV.Hv {els:List AV} {v:Value} (h:aV w F η hp (.sl els) v):∃a c,v=.slice a els.length c:=by
 cases h with
 |jN a=>exact⟨a,0,rfl⟩
 |sl size els b o c f hc hm hl aw hr=>exact⟨_,c,rfl⟩
theorem gX {o:Oper} {c:Call} {b:Builtin} (ho:o.op=.call c) (hb:c.callee=.builtin b) {l:List Operand} (hl:c.args.toList=l) {r:AV}
  (h:∀a w η,Rel Γ s a w η→∃v w',(builtin b c.argTypes o.type ((c.args.map fun | .const _=>true|_=>false)) (l.map a.eval).toArray).run Γ.P w=.ok (.value v) w'∧bt w w'∧aV w' (aU Γ w' η s.hp) η s.hp r v):ee Γ o s r:=by
 intro a w η hr
 obtain⟨v,w',h1,h2,h3⟩:=h a w η hr
 refine⟨v,w',?_,h2,h3⟩
 have:c.args.map a.eval=(l.map a.eval).toArray:=by rw[←hl];apply Array.ext';simp
 simp only[execOp,ho,resolve,hb,Sem.run_bind,Sem.run_pure,Result.andThen_ok,invoke,this]
 exact h1
theorem zo {tab:Nat→Option TD} (ah:aL Γ.P tab) {o:Oper} {c:Call} (ho:o.op=.call c) (hb:c.callee=.builtin .len) {x:Operand} (hl:c.args.toList=[x]) {T:Nat} (hT:c.argTypes[0]?=some T) {d:TD} (hd:tab T=some d) {r:AV}
  (h:(∃e els,d.kind=.iu e∧(s.ev x).fq s.hp=some els∧r=.ae (.int .i64 els.length))∨(∃b,d.kind=.str∧s.ev x=.ae (.string b)∧r=.ae (.int .i64 b.size))):ee Γ o s r:=by
 refine gX ho hb hl fun a w η hr=>?_
 obtain⟨u,h2,h3⟩:=(ah T d hd).iS
 rcases h with⟨e,els,hk,cy,rfl⟩|⟨b,hk,he,rfl⟩<;>rw[hk] at h3
 ·have hu:Γ.P.underlying T=some (.slice e):=by rw[h2];exact congrArg some h3
  obtain⟨a0,c0,hv⟩:=(iv hr.heap hr.bA (hr.ev x) cy).Hv
  exact⟨_,w,by simp[builtin,Builtin.len_,hT,hv,run_underlying hu,goInt],bt.refl w,.ae _⟩
 ·have hu:Γ.P.underlying T=some .string:=by rw[h2];exact congrArg some h3
  have hx:=hr.ev x
  rw[he] at hx
  exact⟨_,w,by simp[builtin,Builtin.len_,hT,hx.ao,run_underlying hu,goInt],bt.refl w,.ae _⟩
theorem FO {tab:Nat→Option TD} (ah:aL Γ.P tab) {o:Oper} {c:Call} (ho:o.op=.call c) (hb:c.callee=.builtin .len) {x:Operand} (hl:c.args.toList=[x]) {T:Nat} (hT:c.argTypes[0]?=some T) {d:TD} (hd:tab T=some d) {e r m e' z:Nat} {els:List AV}
  (hk:d.kind=.iu e) (he:s.ev x=.own r m) (nQ:s.hp[r]?=some (.aF e' z els)) (hm:m=els.length):ee Γ o s (.ae (.int .i64 (m:Nat))):=by
 refine gX ho hb hl fun a w η hr=>?_
 obtain⟨u,h2,h3⟩:=(ah T d hd).iS
 rw[hk] at h3
 have hu:Γ.P.underlying T=some (.slice e):=by rw[h2];exact congrArg some h3
 have hx:=hr.ev x
 rw[he] at hx
 generalize hv:a.eval x=v at hx
 cases hx with
 |own _ _ _ h1 qF=>
  unfold aQ at qF
  rw[nQ] at qF
  obtain⟨Hc,xs,bU,_⟩:=hr.heap.obj r _ _ nQ (qF.2 hm)
  obtain⟨a0,c0,rfl⟩:∃a0 c0,v=.slice a0 m c0:=by
   rcases bU.2 with⟨h0,rfl|⟨ad,rfl⟩⟩|⟨g,cap,cur,rfl,_⟩
   ·exact⟨_,_,by rw[hm,h0]⟩
   ·exact⟨_,_,by rw[hm,h0]⟩
   ·exact⟨_,_,by rw[hm]⟩
  exact⟨_,w,by simp[builtin,Builtin.len_,hT,hv,run_underlying hu,goInt],bt.refl w,.ae _⟩
theorem Hw {o:Oper} {c:Call} (ho:o.op=.call c) (hb:c.callee=.builtin .min) {x y:Operand} (hl:c.args.toList=[x,y]) {k k':IntKind} {m n:Int} (hx:s.ev x=.ae (.int k m)) (hy:s.ev y=.ae (.int k' n)):ee Γ o s (.ae (.int k (if n<m then n else m))):=by
 refine gX ho hb hl fun a w η hr=>?_
 have h1:=hr.ev x
 have h2:=hr.ev y
 rw[hx] at h1;rw[hy] at h2
 exact⟨_,w,by simp[builtin,Builtin.min_,h1.ao,h2.ao,Builtin.min2],bt.refl w,.ae _⟩
theorem Hx {o:Oper} {c:Call} (ho:o.op=.call c) (hb:c.callee=.builtin .max) {x y:Operand} (hl:c.args.toList=[x,y]) {k k':IntKind} {m n:Int} (hx:s.ev x=.ae (.int k m)) (hy:s.ev y=.ae (.int k' n)):ee Γ o s (.ae (.int k (if n>m then n else m))):=by
 refine gX ho hb hl fun a w η hr=>?_
 have h1:=hr.ev x
 have h2:=hr.ev y
 rw[hx] at h1;rw[hy] at h2
 exact⟨_,w,by simp[builtin,Builtin.max_,h1.ao,h2.ao,Builtin.max2],bt.refl w,.ae _⟩
def dW (cs:List Value) (off:Nat):List Value→List Value
 | []=>cs
 |x::xs=>dW (cs.set off x) (off+1) xs
theorem fu (xs:List Value):∀(cs:List Value) (off:Nat),(dW cs off xs).length=cs.length:=by
 induction xs with
 |nil=>intro cs off;rfl
 |cons x xs ih=>intro cs off;simp[dW,ih]
def oz (w:World) (F:Nat→Nat→Prop) (η:List Value) (hp:List af) (cs:List AV) (vs:List Value):Prop:=
 vs.length=cs.length∧∀(j:Nat) (x:AV) (u:Value),cs[j]?=some x→vs[j]?=some u→aV w F η hp x u∧u.oneCell'=true
theorem oz.set {cs:List AV} {vs:List Value} (h:oz w F η hp cs vs) (off:Nat) {x:AV} {u:Value} (hx:aV w F η hp x u) (h1:u.oneCell'=true):oz w F η hp (cs.set off x) (vs.set off u):=by
 refine⟨by simp[h.1],fun j y z hy hz=>?_⟩
 by_cases hj:off=j
 ·subst hj
  rw[List.getElem?_set] at hy hz
  simp only[if_true] at hy hz
  split at hy
  ·rename_i h2
   rw[h.1,if_pos h2] at hz
   obtain rfl:=Option.some.inj hy
   obtain rfl:=Option.some.inj hz
   exact⟨hx,h1⟩
  ·cases hy
 ·rw[getElem?_set_ne hj] at hy hz
  exact h.2 j y z hy hz
theorem oz.PW (xs:List AV):∀{us:List Value} {cs:List AV} {vs:List Value} (off:Nat),oz w F η hp cs vs→oz w F η hp xs us→oz w F η hp (setCells cs off xs) (dW vs off us):=by
 induction xs with
 |nil=>
  intro us cs vs off h hu
  have:us=[]:=List.eq_nil_of_length_eq_zero hu.1
  subst this;exact h
 |cons x xs ih=>
  intro us cs vs off h hu
  match us,hu with
  | [],hu=>exact absurd hu.1 (by simp)
  |u::us,hu=>
   have h0:=hu.2 0 x u rfl rfl
   exact ih (off+1) (h.set off h0.1 h0.2) ⟨by simpa using hu.1,fun j y z hy hz=>hu.2 (j+1) y z (by simpa using hy) (by simpa using hz)⟩
theorem aV.zp {x:AV} {v:Value} (h:aV w F η hp x v) (hs:x.jV=true):oz w F η hp x.cells v.cells.toList:=by
 have one:x.isAgg=false→x.Ho=true:=by cases x<;>simp_all [AV.jV,AV.isAgg,AV.Ho]
 cases h with
 |agg cs vs hl h1 hr=>exact⟨by simpa [AV.cells,Value.cells] using hl,fun j y u hy hu=>⟨hr j y u hy (by simpa [Value.cells] using hu),h1 u (by have:=List.mem_of_getElem? hu;simpa [Value.cells] using this)⟩⟩
 |top v=>simp[AV.jV] at hs
 |bc cs vs hl hr=>simp[AV.jV] at hs
 |ae v=>
  have h1:v.oneCell'=true:=hs
  refine⟨by cases v<;>simp_all [AV.cells,Value.cells,Value.oneCell'],fun j y u hy hu=>?_⟩
  have hv:v.cells=#[v]:=by cases v<;>simp_all [Value.cells,Value.oneCell']
  rw[hv] at hu
  cases j with
  |zero=>simp[AV.cells] at hy hu;subst hy;subst hu;exact⟨.ae _,h1⟩
  |succ j=>simp[AV.cells] at hy
 |own r n v h1 h2=>
  refine⟨by cases v<;>simp_all [AV.cells,Value.cells,Value.oneCell'],fun j y u hy hu=>?_⟩
  have hv:v.cells=#[v]:=by cases v<;>simp_all [Value.cells,Value.oneCell']
  rw[hv] at hu
  cases j with
  |zero=>simp[AV.cells] at hy hu;subst hy;subst hu;exact⟨.own r n _ h1 h2,h1⟩
  |succ j=>simp[AV.cells] at hy
 |fn v h1=>
  refine⟨by cases v<;>simp_all [AV.cells,Value.cells,Value.oneCell'],fun j y u hy hu=>?_⟩
  have hv:v.cells=#[v]:=by cases v<;>simp_all [Value.cells,Value.oneCell']
  rw[hv] at hu
  cases j with
  |zero=>simp[AV.cells] at hy hu;subst hy;subst hu;exact⟨.fn _ h1,h1⟩
  |succ j=>simp[AV.cells] at hy
 |jN a=>exact⟨rfl,fun j y u hy hu=>by cases j<;>simp[AV.cells,Value.cells] at hy hu;subst hy;subst hu;exact⟨.jN a,rfl⟩⟩
 |gR a=>exact⟨rfl,fun j y u hy hu=>by cases j<;>simp[AV.cells,Value.cells] at hy hu;subst hy;subst hu;exact⟨.gR a,rfl⟩⟩
 |sl size els b o c f hc hm hl aw hr=>exact⟨rfl,fun j y u hy hu=>by cases j<;>simp[AV.cells,Value.cells] at hy hu;subst hy;subst hu;exact⟨.sl size els b o c f hc hm hl aw hr,rfl⟩⟩
 |clip size els b o f hm hl aw hr=>exact⟨rfl,fun j y u hy hu=>by cases j<;>simp[AV.cells,Value.cells] at hy hu;subst hy;subst hu;exact⟨.clip size els b o f hm hl aw hr,rfl⟩⟩
 |ptr r off b h=>exact⟨rfl,fun j y u hy hu=>by cases j<;>simp[AV.cells,Value.cells] at hy hu;subst hy;subst hu;exact⟨.ptr r off b h,rfl⟩⟩
 |aH e off b o f aw hr=>exact⟨rfl,fun j y u hy hu=>by cases j<;>simp[AV.cells,Value.cells] at hy hu;subst hy;subst hu;exact⟨.aH e off b o f aw hr,rfl⟩⟩
 |aS fn cs vs hl hr=>exact⟨rfl,fun j y u hy hu=>by cases j<;>simp[AV.cells,Value.cells] at hy hu;subst hy;subst hu;exact⟨.aS fn cs vs hl hr,rfl⟩⟩
 |mp r b h=>exact⟨rfl,fun j y u hy hu=>by cases j<;>simp[AV.cells,Value.cells] at hy hu;subst hy;subst hu;exact⟨.mp r b h,rfl⟩⟩
 |ea r n i size b o c k h=>simp[AV.jV] at hs
 |cH fn cs vs hl hr=>exact⟨rfl,fun j y u hy hu=>by cases j<;>simp[AV.cells,Value.cells] at hy hu;subst hy;subst hu;exact⟨.cH fn cs vs hl hr,rfl⟩⟩
 |dL b es c h hF l hl=>exact⟨rfl,fun j y u hy hu=>by cases j<;>simp[AV.cells,Value.cells] at hy hu;subst hy;subst hu;exact⟨.dL b es c h hF l hl,rfl⟩⟩
theorem tu (v:List Value):∀(cs:Array Value) (off k:Nat),((v.zipIdx k).foldl (fun cs (c,j)=>cs.setIfInBounds (off+j) c) cs).toList=dW cs.toList (off+k) v:=by
 induction v with
 |nil=>intro cs off k;rfl
 |cons x v ih=>
  intro cs off k
  simp only[List.zipIdx_cons,List.foldl_cons]
  rw[ih]
  simp[dW,Array.toList_setIfInBounds,Nat.add_assoc]
theorem Em {fs:List (Nat×Nat×Bool)} {places:Nat→Option (Nat×Nat)} (Hf:∀(i:Nat) (p:Nat×Nat×Bool),fs[i]?=some p→places i=some (p.1,p.2.1)):
  ∀(parts:List (Nat×AV)) (jA:List (Nat×Value)) (cs:List AV) (vs:Array Value) (r:List AV),cB fs cs parts=some r→oz w F η hp cs vs.toList→jA.map (·.1)=parts.map (·.1)→
   (∀(j:Nat) (p:Nat×AV) (q:Nat×Value),parts[j]?=some p→jA[j]?=some q→aV w F η hp p.2 q.2)→∃vr,Instr.fill places vs jA=some vr∧oz w F η hp r vr.toList:=by
 intro parts
 induction parts with
 |nil=>
  intro jA cs vs r h hc hm _
  have:jA=[]:=by cases jA<;>simp_all
  subst this
  simp only[cB,Option.some.injEq] at h
  subst h
  exact⟨vs,rfl,hc⟩
 |cons p parts ih=>
  intro jA cs vs r h hc hm hr
  cases jA with
  |nil=>simp at hm
  |cons q jA=>
   obtain⟨i,x⟩:=p
   obtain⟨i',v⟩:=q
   simp only[List.map_cons,List.cons.injEq] at hm
   obtain⟨rfl,PX⟩:=hm
   have h0:=hr 0 _ _ rfl rfl
   simp only at h0
   simp only[cB] at h
   split at h
   ·rename_i p hp
    split at h
    ·rename_i jX
     have zq:=h0.zp jX.2.2
     have bE:v.cells.size=p.2.1:=by rw[←jX.1,←zq.1];simp
     have V8:=Hf _ p hp
     have hle:p.1+p.2.1≤vs.size:=by have:=hc.1;simp at this;omega
     have tv:=tu v.cells.toList vs p.1 0
     rw[Nat.add_zero] at tv
     obtain⟨vr,e1,e2⟩:=ih jA (setCells cs p.1 x.cells) ((v.cells.zipIdx).foldl (fun cs (c,j)=>cs.setIfInBounds (p.1+j) c) vs) r h (by
      have e:((v.cells.zipIdx).foldl (fun cs (c,j)=>cs.setIfInBounds (p.1+j) c) vs).toList=dW vs.toList p.1 v.cells.toList:=by
       rw[←tv,←Array.foldl_toList];simp
      rw[e]
      exact oz.PW x.cells p.1 hc zq) PX (fun j p' q' h1 h2=>hr (j+1) p' q' (by simpa using h1) (by simpa using h2))
     refine⟨vr,?_,e2⟩
     simp only[Instr.fill,V8,bE]
     rw[if_neg (by simp;omega)]
     exact e1
    ·cases h
   ·cases h
end
section
variable {G:Type} {Γ:Env G} {s:AS G} {a:Act} {w w':World} {η:List Value} {hp:List af} {F:Nat→Nat→Prop} {P:Program}
theorem eK.xn {T:Nat} {d:TD} (h:eK P T d):oz w F η hp (d.zero.cells.toList.map .ae) d.zero.cells.toList:=by
 refine⟨by simp,fun j x u hx hu=>?_⟩
 rw[List.getElem?_map,hu] at hx
 obtain rfl:=Option.some.inj hx
 exact⟨.ae _,h.V0 u (by have:=List.mem_of_getElem? hu;simpa using this)⟩
theorem tw (fields:List Field) (w:World) (h:∀f:Field,f∈fields→∃i,P.info? f.type=some i):
  (fields.mapM fun f=>do pure (f.offset,←sizeOf f.type):Sem (List (Nat×Nat))).run P w=.ok (fields.map fun f=>(f.offset,((P.info? f.type).map (·.size)).getD 0)) w:=by
 induction fields with
 |nil=>rfl
 |cons f fs ih=>
  obtain⟨i,hi⟩:=h f List.mem_cons_self
  have Y4:=ih fun g hg=>h g (List.mem_cons_of_mem _ hg)
  simp only[List.mapM_cons,Sem.run_bind,sizeOf,typeInfo,run_program,Result.andThen_ok,hi,Sem.run_pure,List.map_cons,Option.map_some,Option.getD_some]
  simp only[sizeOf,typeInfo] at Y4
  rw[Y4]
  rfl
theorem Cy {tab:Nat→Option TD} (ah:aL Γ.P tab) {o:Oper} {T:Nat} {parts:Array (Nat×Operand)} (ho:o.op=.build T parts) {d:TD} (hd:tab T=some d) {fs:List (Nat×Nat×Bool)} (hk:d.kind=.bP fs) {r:List AV}
  (h:cB fs (d.zero.cells.toList.map .ae) (parts.toList.map fun p=>(p.1,s.ev p.2))=some r):ee Γ o s (.agg r):=by
 refine aK fun a w η hr=>?_
 have ft:=ah T d hd
 obtain⟨u,h2,h3⟩:=ft.iS
 rw[hk] at h3
 obtain⟨fields,rfl,h3⟩:=h3
 have R2:∀f:Field,f∈fields.toList→∃i,Γ.P.info? f.type=some i:=by
  intro f hf
  obtain⟨k,vk⟩:=List.getElem?_of_mem hf
  have h4:=congrArg (·[k]?) h3
  simp only[List.getElem?_map,vk,Option.map_some] at h4
  cases LS:fs[k]? with
  |none=>rw[LS] at h4;cases h4
  |some p=>
   rw[LS] at h4
   simp only[Option.map_some,Option.some.injEq,Prod.mk.injEq] at h4
   cases hi:Γ.P.info? f.type with
   |none=>rw[hi] at h4;cases h4.2.1
   |some i=>exact⟨i,rfl⟩
 have Hf:∀(i:Nat) (p:Nat×Nat×Bool),fs[i]?=some p→((fields.toList.map fun f=>(f.offset,((Γ.P.info? f.type).map (·.size)).getD 0)).toArray)[i]?=some (p.1,p.2.1):=by
  intro i p hp
  have h4:=congrArg (·[i]?) h3
  simp only[List.getElem?_map,hp,Option.map_some] at h4
  cases hf:fields.toList[i]? with
  |none=>rw[hf] at h4;cases h4
  |some f=>
   rw[hf] at h4
   simp only[Option.map_some,Option.some.injEq,Prod.mk.injEq] at h4
   simp only[List.getElem?_toArray,List.getElem?_map,hf,Option.map_some,h4.1,h4.2.1,Option.getD_some]
 obtain⟨vr,e1,e2⟩:=Em (w:=w) (F:=aU Γ w η s.hp) (η:=η) (hp:=s.hp) Hf (parts.toList.map fun p=>(p.1,s.ev p.2)) (parts.toList.map fun p=>(p.1,a.eval p.2)) _ d.zero.cells r h ft.xn (by simp) (fun j p q h1 h2=>by
  simp only[List.getElem?_map] at h1 h2
  cases hj:parts.toList[j]? with
  |none=>rw[hj] at h1;cases h1
  |some x=>
   rw[hj] at h1 h2
   obtain rfl:=Option.some.inj h1
   obtain rfl:=Option.some.inj h2
   exact hr.ev x.2)
 refine⟨.agg vr,?_,.agg r vr (by have:=e2.1;simpa using this) (fun v hv=>?_) fun j x v hx hv=>(e2.2 j x v hx (by simpa using hv)).1⟩
 ·have hm:=tw (P:=Γ.P) fields.toList w R2
  simp only[execOp,ho,Instr.build,Sem.run_bind,ft.fp,Result.andThen_ok,run_underlying h2,Array.mapM_eq_mapM_toList,Sem.run_map,hm,Array.toList_map,e1,Sem.run_pure]
 ·obtain⟨k,vk⟩:=List.getElem?_of_mem (Array.mem_toList_iff.2 hv)
  have al:k<r.length:=by rw[←e2.1];exact(List.getElem?_eq_some_iff.1 vk).1
  exact(e2.2 k r[k] v (by simp[al]) vk).2
theorem zr {tab:Nat→Option TD} (ah:aL Γ.P tab) {o:Oper} {T:Nat} {parts:Array (Nat×Operand)} (ho:o.op=.build T parts) {d:TD} (hd:tab T=some d) {n:Nat} (hk:d.kind=.arr n) {r:List AV}
  (h:cB (tm n) (d.zero.cells.toList.map .ae) (parts.toList.map fun p=>(p.1,s.ev p.2))=some r):ee Γ o s (.agg r):=by
 refine aK fun a w η hr=>?_
 have ft:=ah T d hd
 obtain⟨u,h2,h3⟩:=ft.iS
 rw[hk] at h3
 obtain⟨e,i0,rfl,vi,nq⟩:=h3
 have Hf:∀(i:Nat) (p:Nat×Nat×Bool),(tm n)[i]?=some p→(fun i=>some (i*1,1):Nat→Option (Nat×Nat)) i=some (p.1,p.2.1):=by
  intro i p hp
  simp only[tm,List.getElem?_map] at hp
  obtain⟨j,hj,rfl⟩:=Option.map_eq_some_iff.1 hp
  obtain rfl:j=i:=by
   obtain⟨h5,h6⟩:=List.getElem?_eq_some_iff.1 hj
   rw[←h6];simp
  simp
 obtain⟨vr,e1,e2⟩:=Em (w:=w) (F:=aU Γ w η s.hp) (η:=η) (hp:=s.hp) Hf (parts.toList.map fun p=>(p.1,s.ev p.2)) (parts.toList.map fun p=>(p.1,a.eval p.2)) _ d.zero.cells r h ft.xn (by simp) (fun j p q h1 h2=>by
  simp only[List.getElem?_map] at h1 h2
  cases hj:parts.toList[j]? with
  |none=>rw[hj] at h1;cases h1
  |some x=>
   rw[hj] at h1 h2
   obtain rfl:=Option.some.inj h1
   obtain rfl:=Option.some.inj h2
   exact hr.ev x.2)
 refine⟨.agg vr,?_,.agg r vr (by have:=e2.1;simpa using this) (fun v hv=>?_) fun j x v hx hv=>(e2.2 j x v hx (by simpa using hv)).1⟩
 ·simp only[execOp,ho,Instr.build,Sem.run_bind,ft.fp,Result.andThen_ok,run_underlying h2,sizeOf,typeInfo,run_program,vi,Sem.run_pure,nq,Array.toList_map,e1]
 ·obtain⟨k,vk⟩:=List.getElem?_of_mem (Array.mem_toList_iff.2 hv)
  have al:k<r.length:=by rw[←e2.1];exact(List.getElem?_eq_some_iff.1 vk).1
  exact(e2.2 k r[k] v (by simp[al]) vk).2
theorem ct (us:List Value):∀(cs:List Value) (off t:Nat),off+us.length≤cs.length→(dW cs off us)[t]?=if off≤t∧t<off+us.length then us[t-off]? else cs[t]?:=by
 induction us with
 |nil=>
  intro cs off t _
  simp only[dW,List.length_nil,Nat.add_zero]
  rw[if_neg (by omega)]
 |cons u us ih=>
  intro cs off t h
  simp only[List.length_cons] at h
  simp only[dW,List.length_cons]
  rw[ih (cs.set off u) (off+1) t (by simp;omega)]
  by_cases h1:off+1≤t∧t<off+1+us.length
  ·rw[if_pos h1,if_pos (by omega)]
   have:t-off=(t-(off+1))+1:=by omega
   rw[this,List.getElem?_cons_succ]
  ·rw[if_neg h1]
   by_cases h2:t=off
   ·subst h2
    rw[if_pos (by omega),Nat.sub_self,List.getElem?_cons_zero,List.getElem?_set]
    simp;omega
   ·rw[if_neg (by omega),getElem?_set_ne (fun e=>h2 e.symm)]
theorem vm (v:Array Value) (cs:Array Value) (off:Nat):(v.zipIdx.foldl (fun cs (c,j)=>cs.setIfInBounds (off+j) c) cs).toList=dW cs.toList off v.toList:=by
 have h:=tu v.toList cs off 0
 rw[Nat.add_zero] at h
 rw[←h,←Array.foldl_toList]
 simp
theorem tx {size:Nat}:∀(l:List Value) (k:Nat) (parts:List (Nat×Value)) (cs:Array Value),parts.map (·.2)=l→(∀(j:Nat) (p:Nat×Value),parts[j]?=some p→p.1=k+j)→(∀v:Value,v∈l→v.cells.size=size)→cs.size=(k+l.length)*size→
  ∃r,Instr.fill (fun i=>some (i*size,size)) cs parts=some r∧r.size=cs.size∧(∀t,t<k*size→r.toList[t]?=cs.toList[t]?)∧
   ∀(i:Nat) (v:Value) (j:Nat) (u:Value),l[i]?=some v→v.cells.toList[j]?=some u→r.toList[(k+i)*size+j]?=some u:=by
 intro l
 induction l with
 |nil=>
  intro k parts cs hm _ _ _
  have:parts=[]:=by cases parts<;>simp_all
  subst this
  exact⟨cs,rfl,rfl,fun _ _=>rfl,fun i v j u hi=>by simp at hi⟩
 |cons v l ih=>
  intro k parts cs hm jY bE eS
  cases parts with
  |nil=>simp at hm
  |cons p parts=>
   obtain⟨i0,v0⟩:=p
   simp only[List.map_cons,List.cons.injEq] at hm
   obtain⟨rfl,PX⟩:=hm
   have vi:i0=k:=by have:=jY 0 _ rfl;simpa using this
   subst vi
   have pa:=bE v0 List.mem_cons_self
   simp only[List.length_cons] at eS
   have hle:i0*size+size≤cs.size:=by
    rw[eS]
    have:(i0+(l.length+1))*size=i0*size+size+l.length*size:=by rw[Nat.add_mul,Nat.add_mul];omega
    omega
   have tv:=vm v0.cells cs (i0*size)
   obtain⟨r,e1,e2,e3,e4⟩:=ih (i0+1) parts (v0.cells.zipIdx.foldl (fun cs (c,j)=>cs.setIfInBounds (i0*size+j) c) cs) PX
    (fun j p hj=>by have:=jY (j+1) p (by simpa using hj);omega) (fun v hv=>bE v (List.mem_cons_of_mem _ hv))
    (by rw[←Array.length_toList,tv,fu,Array.length_toList,eS];congr 1;omega)
   have hlen:(v0.cells.zipIdx.foldl (fun cs (c,j)=>cs.setIfInBounds (i0*size+j) c) cs).size=cs.size:=by
    rw[←Array.length_toList,tv,fu,Array.length_toList]
   have hmul:(i0+1)*size=i0*size+size:=by rw[Nat.add_mul];omega
   refine⟨r,?_,by rw[e2,hlen],fun t ht=>?_,fun i v j u hi hj=>?_⟩
   ·simp only[Instr.fill,pa]
    rw[if_neg (by simp;omega)]
    exact e1
   ·rw[e3 t (by omega),tv,ct _ _ _ _ (by simp;omega),if_neg (by omega)]
   ·cases i with
    |zero=>
     simp only[List.getElem?_cons_zero,Option.some.injEq] at hi
     subst hi
     have o5:j<size:=by rw[←pa,←Array.length_toList];exact(List.getElem?_eq_some_iff.1 hj).1
     rw[Nat.add_zero,e3 _ (by omega),tv,ct _ _ _ _ (by simp;omega),if_pos ⟨by omega,by rw[Array.length_toList,pa];omega⟩]
     rw[Nat.add_sub_cancel_left];exact hj
    |succ i=>
     have:=e4 i v j u (by simpa using hi) hj
     rw[show i0+(i+1)=i0+1+i from by omega]
     exact this
theorem Cz:∀(l:List (Nat×Operand)) (k:Nat),pd k l=true→∀(j:Nat) (p:Nat×Operand),l[j]?=some p→p.1=k+j:=by
 intro l
 induction l with
 |nil=>intro k _ j p h;simp at h
 |cons q l ih=>
  intro k h j p hj
  obtain⟨i,x⟩:=q
  simp only[pd,Bool.and_eq_true,beq_iff_eq] at h
  cases j with
  |zero=>simp only[List.getElem?_cons_zero,Option.some.injEq] at hj;subst hj;simpa using h.1
  |succ j=>have:=ih (k+1) h.2 j p (by simpa using hj);omega
theorem mc {size:Nat}:∀(l:List AV),oy size l→∀x:AV,x∈l→x.cells.length=size∧x.jV=true:=by
 intro l
 induction l with
 |nil=>intro _ x h;cases h
 |cons y l ih=>
  intro h x hx
  rcases List.mem_cons.1 hx with rfl|h1
  ·exact h.1
  ·exact ih h.2 x h1
theorem En {T:TypeId} {cs:Array Value} (h:Rel Γ s a w η) (k:Nat) (hX:∀b o,Γ.No b o→b<Γ.w0.heap.size):aU Γ (w.alloc (.cells cs T)) η s.hp w.heap.size k:=by
 refine⟨.inr (.inl h.keeps.size),by simp,fun hx=>by have:=hX _ _ hx;have:=h.keeps.size;omega,(aN _ _).2 fun r v hv hb=>?_⟩
 have dM:r<s.hp.length:=by rw[←h.heap.len];exact(List.getElem?_eq_some_iff.1 hv).1
 refine⟨s.hp[r],by simp[dM],?_⟩
 have ho:s.hp[r]?=some s.hp[r]:=by simp[dM]
 cases hk:s.hp[r] with
 |dead=>exact True.intro
 |_=>
  rw[hk] at ho
  have:=h.heap.block ho True.intro hv hb
  omega
theorem lI (aq:Γ.Ok) {tab:Nat→Option TD} (ah:aL Γ.P tab) {o:Oper} {T n e:Nat} {parts:Array (Nat×Operand)} (ho:o.op=.buildSlice T n parts) {d d':TD} (hd:tab T=some d) (hk:d.kind=.iu e) (cM:tab e=some d')
  (hn:n=parts.toList.length) (jY:pd 0 parts.toList=true) (LU:n≤16777216) (LV:n*d'.size≤16777216) (hl:oy d'.size (parts.toList.map fun p=>(s.ev p.2).bh s.hp)) (hr:Rel Γ s a w η):
  ∃r:Array Value,(execOp a.eval o).run Γ.P w=.ok (.value (.slice (some ⟨w.heap.size,0,none⟩) n n)) (w.alloc (.cells r e))∧r.size=n*d'.size∧
   (parts.toList.map fun p=>(s.ev p.2).bh s.hp).length=n∧
   ∀(i:Nat) (el:AV) (j:Nat) (x:AV),(parts.toList.map fun p=>(s.ev p.2).bh s.hp)[i]?=some el→el.cells[j]?=some x→∃u,r[i*d'.size+j]?=some u∧aV w (aU Γ w η s.hp) [] [] x u∧u.oneCell'=true:=by
 have ft:=ah e d' cM
 have hu:Γ.P.underlying T=some (.slice e):=by
  obtain⟨u,h2,h3⟩:=(ah T d hd).iS
  rw[hk] at h3
  rw[h2];exact congrArg some h3
 have LW:=mc _ hl
 have cD:∀(j:Nat) (x:AV) (v:Value),(parts.toList.map fun p=>(s.ev p.2).bh s.hp)[j]?=some x→(parts.toList.map fun p=>a.eval p.2)[j]?=some v→aV w (aU Γ w η s.hp) [] [] x v:=by
  intro j x v h1 h2
  simp only[List.getElem?_map] at h1 h2
  cases hj:parts.toList[j]? with
  |none=>rw[hj] at h1;cases h1
  |some p=>
   rw[hj] at h1 h2
   obtain rfl:=Option.some.inj h1
   obtain rfl:=Option.some.inj h2
   exact eV hr.heap hr.bA (hr.ev p.2)
 have jZ:(parts.toList.map fun p=>(s.ev p.2).bh s.hp).length=n:=by simp[hn]
 have Hy:(parts.toList.map fun p=>a.eval p.2).length=n:=by simp[hn]
 have zq:∀(j:Nat) (x:AV) (v:Value),(parts.toList.map fun p=>(s.ev p.2).bh s.hp)[j]?=some x→(parts.toList.map fun p=>a.eval p.2)[j]?=some v→oz w (aU Γ w η s.hp) [] [] x.cells v.cells.toList:=
  fun j x v h1 h2=>(cD j x v h1 h2).zp (LW x (List.mem_of_getElem? h1)).2
 have V9:∀v:Value,v∈(parts.toList.map fun p=>a.eval p.2)→v.cells.size=d'.size:=by
  intro v hv
  obtain⟨j,hj⟩:=List.getElem?_of_mem hv
  have al:j<n:=by rw[←Hy];exact(List.getElem?_eq_some_iff.1 hj).1
  have hx:(parts.toList.map fun p=>(s.ev p.2).bh s.hp)[j]?=some (parts.toList.map fun p=>(s.ev p.2).bh s.hp)[j]:=by rw[List.getElem?_eq_getElem (by rw[jZ];exact al)]
  have:=(zq j _ v hx hj).1
  rw[Array.length_toList] at this
  rw[this]
  exact(LW _ (List.mem_of_getElem? hx)).1
 have fin:∀Vy:Array Value,Vy.size=n*d'.size→∃r,Instr.fill (fun i=>some (i*d'.size,d'.size)) Vy (parts.toList.map fun p=>(p.1,a.eval p.2))=some r∧r.size=n*d'.size∧
   ∀(i:Nat) (el:AV) (j:Nat) (x:AV),(parts.toList.map fun p=>(s.ev p.2).bh s.hp)[i]?=some el→el.cells[j]?=some x→∃u,r[i*d'.size+j]?=some u∧aV w (aU Γ w η s.hp) [] [] x u∧u.oneCell'=true:=by
  intro Vy eS
  obtain⟨r,e1,e2,e3,e4⟩:=tx (parts.toList.map fun p=>a.eval p.2) 0 (parts.toList.map fun p=>(p.1,a.eval p.2)) Vy (by simp[Function.comp_def]) (fun j p hj=>by
   rw[List.getElem?_map] at hj
   cases o5:parts.toList[j]? with
   |none=>rw[o5] at hj;cases hj
   |some q=>
    rw[o5] at hj
    obtain rfl:=Option.some.inj hj
    exact Cz _ _ jY j q o5) V9 (by rw[Hy,Nat.zero_add];exact eS)
  refine⟨r,e1,by rw[e2];exact eS,?_⟩
  intro i el j x hi hj
  have al:i<n:=by rw[←jZ];exact(List.getElem?_eq_some_iff.1 hi).1
  have hv:(parts.toList.map fun p=>a.eval p.2)[i]?=some (parts.toList.map fun p=>a.eval p.2)[i]:=by rw[List.getElem?_eq_getElem (by rw[Hy];exact al)]
  have h1:=zq i el _ hi hv
  have o5:j<(parts.toList.map fun p=>a.eval p.2)[i].cells.toList.length:=by rw[h1.1];exact(List.getElem?_eq_some_iff.1 hj).1
  have hu:(parts.toList.map fun p=>a.eval p.2)[i].cells.toList[j]?=some ((parts.toList.map fun p=>a.eval p.2)[i].cells.toList[j]):=by rw[List.getElem?_eq_getElem o5]
  have h2:=e4 i _ j _ hv hu
  rw[Nat.zero_add] at h2
  exact⟨_,by simpa using h2,h1.2 j x _ hj hu⟩
 have hb:¬n*d'.size>2 ^ 24:=by omega
 by_cases hz:n*d'.size=0
 ·obtain⟨r,e1,e2,e3⟩:=fin ((Array.range (n*d'.size)).map ((#[]:Array Value)[· % (#[]:Array Value).size]!)) (by simp)
  refine⟨r,?_,e2,jZ,e3⟩
  simp only[execOp,ho,Instr.buildSlice,Sem.run_bind,run_underlying hu,Result.andThen_ok,ft.run_sizeOf,Sem.run_ite,if_neg hb,Sem.run_pure,if_pos hz,Array.toList_map,e1,newRow,run_newObj]
  rfl
 ·obtain⟨r,e1,e2,e3⟩:=fin ((Array.range (n*d'.size)).map (d'.zero.cells[· % d'.zero.cells.size]!)) (by simp)
  refine⟨r,?_,e2,jZ,e3⟩
  simp only[execOp,ho,Instr.buildSlice,Sem.run_bind,run_underlying hu,Result.andThen_ok,ft.run_sizeOf,Sem.run_ite,if_neg hb,Sem.run_pure,if_neg hz,ft.fp,Array.toList_map,e1,newRow,run_newObj]
  rfl
theorem sr (aq:Γ.Ok) {tab:Nat→Option TD} (ah:aL Γ.P tab) {o:Oper} {T n e:Nat} {parts:Array (Nat×Operand)} (ho:o.op=.buildSlice T n parts) {d d':TD} (hd:tab T=some d) (hk:d.kind=.iu e) (cM:tab e=some d')
  (hn:n=parts.toList.length) (jY:pd 0 parts.toList=true) (LU:n≤16777216) (LV:n*d'.size≤16777216) (hl:oy d'.size (parts.toList.map fun p=>(s.ev p.2).bh s.hp)):ee Γ o s (.clip (parts.toList.map fun p=>(s.ev p.2).bh s.hp)):=by
 intro a w η hr
 obtain⟨r,e1,_,jZ,bO⟩:=lI aq ah ho hd hk cM hn jY LU LV hl hr
 have LW:=mc _ hl
 have he:=l9 (Γ:=Γ) (η:=η) (hp:=s.hp) (bt.alloc w (.cells r e)) (fun _ _=>dy)
 refine⟨_,_,e1,bt.alloc w (.cells r e),?_⟩
 have hm:(parts.toList.map fun p=>(s.ev p.2).bh s.hp).length≤maxLen:=by
  rw[jZ];simp only[maxLen];omega
 have:=aV.clip (w:=w.alloc (.cells r e)) (F:=aU Γ (w.alloc (.cells r e)) η s.hp) (η:=η) (hp:=s.hp) d'.size (parts.toList.map fun p=>(s.ev p.2).bh s.hp) w.heap.size 0 (fun i j=>(r[i*d'.size+j]?).getD undef) hm
  (fun i el hi=>(LW el (List.mem_of_getElem? hi)).1) (fun i el j x hi hj=>by
   obtain⟨u,h1,_,h3⟩:=bO i el j x hi hj
   rw[h1]
   refine⟨?_,En hr _ (fun _ _=>aq.no),h3⟩
   rw[Nat.zero_add,World.cell?_alloc_new];exact h1) (fun i el j x hi hj=>by
   obtain⟨u,h1,h2,_⟩:=bO i el j x hi hj
   rw[h1];exact h2.ext he.jP.ext)
 rw[jZ] at this
 exact this
end
section
variable {G:Type} {Γ:Env G} {s:AS G} {a:Act} {w w':World} {η:List Value} {hp:List af} {F:Nat→Nat→Prop} {P:Program}
theorem fw (h:Rel Γ s a w η) {d n:Int} {x:Operand} (hb:bw s.ev d (some x)=some n):∃k,a.eval x=.int k n:=by
 unfold bw at hb
 simp only at hb
 split at hb
 ·rename_i k m he
  obtain rfl:=Option.some.inj hb
  have hx:=h.ev x
  rw[he] at hx
  exact⟨k,hx.ao⟩
 ·cases hb
theorem run_sliceBound (w:World) {v:Value} {k:IntKind} {n:Int} (hv:v=.int k n) {y:Nat} (h0:0≤n) (h1:n≤y) (code:BoundsCode):(Instr.sliceBound v y code).run P w=.ok n.toNat w:=by
 subst hv
 have:0≤n∧n≤(y:Int):=⟨h0,h1⟩
 simp[Instr.sliceBound,asIntOf,this]
theorem aV.LX {els:List AV} {b o c size:Nat} {x:Value} (bE:∀y:AV,y∈els→y.cells.length=size) (hx:aV w F η hp (.sl els) x) (hv:x=.slice (some ⟨b,o,none⟩) els.length c) {l h m:Nat} (hlh:l≤h) (hh:h≤els.length) (hm:h≤m) (hmc:m≤c):
  aV w F η hp (.sl ((els.take h).drop l)) (.slice (some ⟨b,if m=l then o else o+l*size,none⟩) (h-l) (m-l))∧(h=m→aV w F η hp (.clip ((els.take h).drop l)) (.slice (some ⟨b,if m=l then o else o+l*size,none⟩) (h-l) (h-l))):=by
 have hlen:((els.take h).drop l).length=h-l:=by simp;omega
 cases hx with
 |jN a=>
  simp only[List.length_nil,Value.slice.injEq,true_and] at hv
  obtain⟨rfl,rfl⟩:=hv
  obtain rfl:m=0:=by omega
  obtain rfl:h=0:=by omega
  obtain rfl:l=0:=by omega
  exact⟨.jN _,fun _=>.gR _⟩
 |sl rl _ b' o' c' f hc PX hl aw cD=>
  simp only[Value.slice.injEq,Option.some.injEq,Addr.mk.injEq,and_true,true_and] at hv
  obtain⟨⟨rfl,rfl⟩,rfl⟩:=hv
  have bO:∀(i:Nat) (e:AV),((els.take h).drop l)[i]?=some e→els[l+i]?=some e∧m≠l∧rl=size:=by
   intro i e hi
   have al:=(List.getElem?_eq_some_iff.1 hi).1
   rw[hlen] at al
   rw[List.getElem?_drop,List.getElem?_take,if_pos (by omega)] at hi
   exact⟨hi,by omega,by rw[←hl _ _ hi];exact bE e (List.mem_of_getElem? hi)⟩
  have zt:∀(i j:Nat),m≠l→rl=size→(if m=l then o' else o'+l*size)+i*size+j=o'+(l+i)*rl+j:=by
   intro i j h1 h2
   rw[if_neg h1,h2,Nat.add_mul];omega
  have key:∀c2,h-l≤c2→c2≤maxLen→aV w F η hp (.sl ((els.take h).drop l)) (.slice (some ⟨b',if m=l then o' else o'+l*size,none⟩) (h-l) c2)∧(c2=h-l→aV w F η hp (.clip ((els.take h).drop l)) (.slice (some ⟨b',if m=l then o' else o'+l*size,none⟩) (h-l) (h-l))):=by
   intro c2 h1 h2
   have p1:∀(i:Nat) (e:AV),((els.take h).drop l)[i]?=some e→e.cells.length=size:=fun i e hi=>bE e (List.mem_of_getElem? (bO i e hi).1)
   have p2:∀(i:Nat) (e:AV) (j:Nat) (x:AV),((els.take h).drop l)[i]?=some e→e.cells[j]?=some x→
     w.cell? ⟨b',(if m=l then o' else o'+l*size)+i*size+j,none⟩=some (f (l+i) j)∧F b' ((if m=l then o' else o'+l*size)+i*size+j)∧(f (l+i) j).oneCell'=true:=by
    intro i e j x hi hj
    obtain⟨g1,g2,g3⟩:=bO i e hi
    rw[zt i j g2 g3]
    exact aw _ _ _ _ g1 hj
   have p3:∀(i:Nat) (e:AV) (j:Nat) (x:AV),((els.take h).drop l)[i]?=some e→e.cells[j]?=some x→aV w F [] [] x (f (l+i) j):=
    fun i e j x hi hj=>cD _ _ _ _ (bO i e hi).1 hj
   have q1:=aV.sl (η:=η) (hp:=hp) size ((els.take h).drop l) b' (if m=l then o' else o'+l*size) c2 (fun i j=>f (l+i) j) (by rw[hlen];exact h1) h2 p1 p2 p3
   rw[hlen] at q1
   refine⟨q1,fun _=>?_⟩
   have q2:=aV.clip (η:=η) (hp:=hp) size ((els.take h).drop l) b' (if m=l then o' else o'+l*size) (fun i j=>f (l+i) j) (by rw[hlen];omega) p1 p2 p3
   rw[hlen] at q2
   exact q2
  refine⟨(key (m-l) (by omega) (by omega)).1,fun e=>?_⟩
  exact(key (m-l) (by omega) (by omega)).2 (by omega)
theorem tz {tab:Nat→Option TD} (ah:aL Γ.P tab) {o:Oper} {T e:Nat} {x:Operand} {lo hi mx:Option Operand} (ho:o.op=.slice T x lo hi mx) {d d':TD} (hd:tab T=some d) (hk:d.kind=.iu e) (cM:tab e=some d') {els:List AV} (cy:(s.ev x).fq s.hp=some els)
  {l h:Int} (hl:bw s.ev 0 lo=some l) (hh:bw s.ev els.length hi=some h) (h0:0≤l) (h1:l≤h) (h2:h≤els.length) (bE:∀y:AV,y∈els→y.cells.length=d'.size) {r:AV}
  (hr:(mx=none∧r=.sl ((els.take h.toNat).drop l.toNat))∨(∃y m,mx=some y∧hi.isSome∧bw s.ev 0 (some y)=some m∧h=m∧r=.clip ((els.take h.toNat).drop l.toNat))):ee Γ o s r:=by
 refine aK fun a w η hrel=>?_
 have hx:=iv hrel.heap hrel.bA (hrel.ev x) cy
 have hu:Γ.P.underlying T=some (.slice e):=by
  obtain⟨u,q2,q3⟩:=(ah T d hd).iS
  rw[hk] at q3
  rw[q2];exact congrArg some q3
 have tA:lo=none∧l=0∨∃y k,lo=some y∧a.eval y=.int k l:=by
  cases lo with
  |none=>simp[bw] at hl;exact .inl ⟨rfl,hl.symm⟩
  |some y=>obtain⟨k,hk⟩:=fw hrel hl;exact .inr ⟨y,k,rfl,hk⟩
 have Vz:hi=none∧h=els.length∨∃y k,hi=some y∧a.eval y=.int k h:=by
  cases hi with
  |none=>simp[bw] at hh;exact .inl ⟨rfl,hh.symm⟩
  |some y=>obtain⟨k,hk⟩:=fw hrel hh;exact .inr ⟨y,k,rfl,hk⟩
 have qA:∃ad c,a.eval x=.slice ad els.length c∧els.length≤c:=by
  generalize a.eval x=v at hx
  cases hx with
  |jN a=>exact⟨a,0,rfl,Nat.le_refl _⟩
  |sl size els b o c f hc hm hl aw hr=>exact⟨_,c,rfl,hc⟩
 obtain⟨ad,c,qw,PY⟩:=qA
 have j6:=(ah e d' cM).run_sizeOf w
 have hb:∃m:Nat,(Instr.sliceBounds true els.length c (lo.map a.eval) (hi.map a.eval) (mx.map a.eval)).run Γ.P w=.ok (l.toNat,h.toNat,m) w∧h.toNat≤m∧m≤c∧(mx≠none→m=h.toNat):=by
  rcases hr with⟨rfl,_⟩|⟨y,m,rfl,Wa,hm,rfl,_⟩
  ·refine⟨c,?_,by omega,Nat.le_refl _,fun h=>(h rfl).elim⟩
   rcases Vz with⟨rfl,rfl⟩|⟨y,k,rfl,hv⟩
   ·rcases tA with⟨rfl,rfl⟩|⟨y0,k0,rfl,pa⟩
    ·simp[Instr.sliceBounds]
    ·have Hd:=run_sliceBound (P:=Γ.P) w pa (y:=els.length) h0 (by omega) .sliceB
     simp[Instr.sliceBounds,Hd]
   ·have hs:=run_sliceBound (P:=Γ.P) w hv (y:=c) (by omega) (by omega) .sliceAcap
    rcases tA with⟨rfl,rfl⟩|⟨y0,k0,rfl,pa⟩
    ·simp[Instr.sliceBounds,hs]
    ·have Hd:=run_sliceBound (P:=Γ.P) w pa (y:=h.toNat) h0 (by omega) .sliceB
     simp[Instr.sliceBounds,hs,Hd]
  ·obtain⟨k2,Vx⟩:=fw hrel hm
   refine⟨h.toNat,?_,Nat.le_refl _,by omega,fun _=>rfl⟩
   rcases Vz with⟨rfl,_⟩|⟨y',k,rfl,hv⟩
   ·simp at Wa
   ·have O2:=run_sliceBound (P:=Γ.P) w Vx (y:=c) (by omega) (by omega) .slice3Acap
    have hs:=run_sliceBound (P:=Γ.P) w hv (y:=h.toNat) (by omega) (by omega) .slice3B
    rcases tA with⟨rfl,rfl⟩|⟨y0,k0,rfl,pa⟩
    ·simp[Instr.sliceBounds,hs,O2]
    ·have Hd:=run_sliceBound (P:=Γ.P) w pa (y:=h.toNat) h0 (by omega) .slice3C
     simp[Instr.sliceBounds,hs,O2,Hd]
 obtain⟨m,ew,Z0,xf,Z1⟩:=hb
 have hex:(execOp a.eval o).run Γ.P w=.ok (.value (.slice (if m=l.toNat then ad else ad.map (·.add (l.toNat*d'.size))) (h.toNat-l.toNat) (m-l.toNat))) w:=by
  simp only[execOp,ho,Instr.sliceAt,Sem.run_bind,run_underlying hu,Result.andThen_ok,Instr.slice,qw,ew,j6,Sem.run_pure]
 refine⟨_,hex,?_⟩
 have Hz:(els=[]∧c=0)∨∃b o,ad=some ⟨b,o,none⟩:=by
  have lH:=hx
  rw[qw] at lH
  generalize hv:Value.slice ad els.length c=v at lH
  cases lH with
  |jN a=>simp at hv;exact .inl ⟨rfl,hv.2⟩
  |sl size els b o c f hc hm hl aw hr=>simp at hv;exact .inr ⟨b,o,hv.1⟩
 rw[qw] at hx
 rcases Hz with⟨rfl,rfl⟩|⟨b,o',rfl⟩
 ·have e1:l.toNat=0:=by simp at h2;omega
  have e2:h.toNat=0:=by simp at h2;omega
  have e3:m=0:=by omega
  rw[e1,e2,e3]
  simp only[if_true,Nat.sub_self]
  rcases hr with⟨_,rfl⟩|⟨_,_,_,_,_,_,rfl⟩
  ·simpa using aV.jN ad
  ·simpa using aV.gR ad
 ·have qw:=qw
  obtain⟨q1,q2⟩:=hx.LX bE rfl (l:=l.toNat) (h:=h.toNat) (m:=m) (by omega) (by omega) Z0 xf
  have xo:(if m=l.toNat then some (⟨b,o',none⟩:Addr) else(some (⟨b,o',none⟩:Addr)).map (·.add (l.toNat*d'.size)))=some ⟨b,if m=l.toNat then o' else o'+l.toNat*d'.size,none⟩:=by
   split<;>simp[Addr.add_lit]
  rw[xo]
  rcases hr with⟨_,rfl⟩|⟨y,m',Wb,_,_,_,rfl⟩
  ·exact q1
  ·have:=Z1 (by rw[Wb];simp)
   subst this
   exact q2 rfl
theorem HA (a b:ByteArray):(a==b)=decide (a=b):=by
 obtain⟨a⟩:=a;obtain⟨b⟩:=b
 show (a==b)=_
 by_cases h:a=b
 ·subst h;simp
 ·have:¬(ByteArray.mk a=ByteArray.mk b):=fun e=>h (by injection e)
  rw[decide_eq_false this];simpa using h
structure FP {κ:Type} [DecidableEq κ] (td:TypeDesc) (kv:κ→Value) (me:List (κ×Value)→ME):Prop where
 me:∀l,FG (me l)=l.map fun p=>(kv p.1,p.2)
 same:∀a b,Instr.sameNow td (kv a) (kv b)=some (decide (a=b))
 check:∀(P:Program) (kt:TypeId) (e:Bool) (v:Value) (w:World),P.underlying kt=some td→(Instr.checkKey e 10000 kt v).run P w=.ok () w
 bits:∀a,Instr.sameBits 10000 (kv a) (kv a)=true
theorem xp {κ:Type} [DecidableEq κ] {td:TypeDesc} {kv:κ→Value} {me:List (κ×Value)→ME} (K:FP td kv me) {a:κ}:∀(es:List MapEntry) (l:List (κ×Value)) (i:Nat),(es.map fun e=>(e.key,e.val))=l.map (fun p=>(kv p.1,p.2))→
  (∃r,Instr.findNow td (kv a) es i=some r∧r.map (·.2)=aG l a)∧
   (aG l a=none→Instr.findNow td (kv a) es i=some none):=by
 intro es
 induction es with
 |nil=>
  intro l i h
  cases l with
  |nil=>exact⟨⟨none,rfl,rfl⟩,fun _=>rfl⟩
  |cons p l=>simp at h
 |cons e es ih=>
  intro l i h
  cases l with
  |nil=>simp at h
  |cons p l=>
   obtain⟨key,v⟩:=p
   simp only[List.map_cons,List.cons.injEq,Prod.mk.injEq] at h
   obtain⟨⟨h1,h2⟩,h3⟩:=h
   obtain⟨⟨r,g1,g2⟩,g3⟩:=ih l (i+1) h3
   simp only[Instr.findNow,h1,K.same,aG]
   by_cases PZ:a=key
   ·subst PZ
    simp[h2]
   ·simp only[if_neg PZ,decide_eq_false PZ]
    exact⟨⟨r,g1,g2⟩,g3⟩
theorem pg {kt:TypeId} {k:IntKind} (hk:P.underlying kt=some (.int k)) (e:Bool) (n:Nat) (v:Value) (w:World):(Instr.checkKey e (n+1) kt v).run P w=.ok () w:=by
 unfold Instr.checkKey
 simp only[Sem.run_bind,run_underlying hk,Result.andThen]
 cases v<;>rfl
theorem R3 (k:IntKind):FP (.int k) (fun a:Int=>.int .i64 a) .i:=
 ⟨fun _=>rfl,fun a b=>by simp[Instr.sameNow];rfl,fun P kt e v w hk=>pg hk e 9999 v w,fun a=>by simp[Instr.sameBits]⟩
theorem R4:FP .string (fun a:ByteArray=>.string a) .s:=
 ⟨fun _=>rfl,fun a b=>by simp only[Instr.sameNow,HA],fun P kt e v w hk=>by
  unfold Instr.checkKey
  simp only[Sem.run_bind,run_underlying hk,Result.andThen]
  cases v<;>rfl,fun a=>by simp[Instr.sameBits,HA]⟩
theorem rn {κ:Type} [DecidableEq κ] {td:TypeDesc} {kv:κ→Value} {me:List (κ×Value)→ME} (K:FP td kv me) {tab:Nat→Option TD} (ah:aL Γ.P tab) {o:Oper} {T kt et:Nat} {m key:Operand} {ok:Bool} (ho:o.op=.lookup T m key ok) {d dk de:TD} (hd:tab T=some d) (hk:d.kind=.l5 kt et) (lJ:tab kt=some dk) (sI:∀u,dk.kind.fits Γ.P u→u=td) (zu:tab et=some de)
  {es:List (κ×Value)} (hm:(s.ev m).vU s.hp=some (me es)) {a:κ} (Wc:s.ev key=.ae (kv a)):ee Γ o s (gn es de.zero a ok):=by
 refine aK fun act w η hr=>?_
 have hu:Γ.P.underlying T=some (.map kt et):=by
  obtain⟨u,q2,q3⟩:=(ah T d hd).iS
  rw[hk] at q3
  rw[q2];exact congrArg some q3
 have LY:Γ.P.underlying kt=some td:=by
  obtain⟨u,q2,q3⟩:=(ah kt dk lJ).iS
  rw[q2];exact congrArg some (sI u q3)
 have Eo:=hr.ev key
 rw[Wc] at Eo
 have P0:=Eo.ao
 have LZ:=hr.ev m
 have PU:∃b en c,act.eval m=.map (some b)∧w.heap[b]?=some (.map en c)∧jO en=FG (me es):=by
  generalize s.ev m=x at hm LZ
  cases x with
  |dL l=>
   simp only[AV.vU,Option.some.injEq] at hm
   subst hm
   generalize act.eval m=v at LZ
   cases LZ with
   |dL b en c h1 h2 _ hl=>exact⟨b,en,c,rfl,h1,hl⟩
  |mp r=>
   simp only[AV.vU] at hm
   split at hm
   ·rename_i VA L0
    obtain rfl:=Option.some.inj hm
    generalize act.eval m=v at LZ
    cases LZ with
    |mp _ b dn=>
     obtain⟨b',en,c,e1,e2,e3⟩:=hr.heap.obj r _ _ L0 dn
     simp only[Value.map.injEq,Option.some.injEq] at e1
     subst e1
     exact⟨b,en,c,rfl,e2,e3⟩
   ·cases hm
  |_=>simp[AV.vU] at hm
 obtain⟨b,en,c,Hg,gS,tB⟩:=PU
 obtain⟨⟨r,g1,g2⟩,g3⟩:=xp K (a:=a) en.toList es 0 (tB.trans (K.me es))
 have bO:(getObj b).run Γ.P w=.ok (.map en c) w:=by simp[getObj,Sem.run,gS]
 have mf:(Instr.findKey kt (kv a) en.toList).run Γ.P w=.ok r w:=by
  simp only[Instr.findKey,Sem.run_bind,run_underlying LY,Result.andThen_ok,g1,Sem.run_pure]
 have hz:=(ah et de zu).fp w
 cases r with
 |none=>
  have hg:aG es a=none:=g2.symm
  cases ok with
  |true=>
   refine⟨.tuple #[de.zero,.bool false],?_,?_⟩
   ·simp only[execOp,ho,Hg,P0,Instr.lookup,Sem.run_bind,run_underlying hu,Result.andThen_ok,bO,Sem.run_pure,K.check _ _ _ _ _ LY,mf,hz,if_true]
   ·simp only[gn,hg,if_true,Option.getD_none,Option.isSome_none]
    exact .bc _ _ rfl fun j x v hx hv=>by
     match j with
     |0=>simp at hx hv;subst hx;subst hv;exact .ae _
     |1=>simp at hx hv;subst hx;subst hv;exact .ae _
     |j+2=>simp at hx
  |false=>
   refine⟨de.zero,?_,?_⟩
   ·simp only[execOp,ho,Hg,P0,Instr.lookup,Sem.run_bind,run_underlying hu,Result.andThen_ok,bO,Sem.run_pure,K.check _ _ _ _ _ LY,mf,hz,Bool.false_eq_true,if_false]
   ·simp only[gn,hg,Bool.false_eq_true,if_false,Option.getD_none]
    exact .ae _
 |some q=>
  obtain⟨i,v⟩:=q
  have hg:aG es a=some v:=g2.symm
  cases ok with
  |true=>
   refine⟨.tuple #[v,.bool true],?_,?_⟩
   ·simp only[execOp,ho,Hg,P0,Instr.lookup,Sem.run_bind,run_underlying hu,Result.andThen_ok,bO,Sem.run_pure,K.check _ _ _ _ _ LY,mf,if_true]
   ·simp only[gn,hg,if_true,Option.getD_some,Option.isSome_some]
    exact .bc _ _ rfl fun j x v hx hv=>by
     match j with
     |0=>simp at hx hv;subst hx;subst hv;exact .ae _
     |1=>simp at hx hv;subst hx;subst hv;exact .ae _
     |j+2=>simp at hx
  |false=>
   refine⟨v,?_,?_⟩
   ·simp only[execOp,ho,Hg,P0,Instr.lookup,Sem.run_bind,run_underlying hu,Result.andThen_ok,bO,Sem.run_pure,K.check _ _ _ _ _ LY,mf,Bool.false_eq_true,if_false]
   ·simp only[gn,hg,Bool.false_eq_true,if_false,Option.getD_some]
    exact .ae _
end
section
variable {G:Type} {Γ:Env G} {s:AS G} {a:Act} {w w':World} {η:List Value} {hp:List af} {F:Nat→Nat→Prop} {P:Program}
theorem vn {tab:Nat→Option TD} (ah:aL Γ.P tab) {o:Oper} {T:Nat} {x:Operand} {lo hi:Option Operand} (ho:o.op=.slice T x lo hi none) {d:TD} (hd:tab T=some d) (hk:d.kind=.str) {b:ByteArray} (hx:s.ev x=.ae (.string b))
  {l h:Int} (hl:bw s.ev 0 lo=some l) (hh:bw s.ev b.size hi=some h) (h0:0≤l) (h1:l≤h) (h2:h≤b.size):ee Γ o s (.ae (.string (b.extract l.toNat h.toNat))):=by
 refine aK fun a w η hrel=>⟨_,?_,.ae _⟩
 have di:=hrel.ev x
 rw[hx] at di
 have qw:=di.ao
 have hu:Γ.P.underlying T=some .string:=by
  obtain⟨u,q2,q3⟩:=(ah T d hd).iS
  rw[hk] at q3
  rw[q2];exact congrArg some q3
 have tA:lo=none∧l=0∨∃y k,lo=some y∧a.eval y=.int k l:=by
  cases lo with
  |none=>simp[bw] at hl;exact .inl ⟨rfl,hl.symm⟩
  |some y=>obtain⟨k,hk⟩:=fw hrel hl;exact .inr ⟨y,k,rfl,hk⟩
 have Vz:hi=none∧h=b.size∨∃y k,hi=some y∧a.eval y=.int k h:=by
  cases hi with
  |none=>simp[bw] at hh;exact .inl ⟨rfl,hh.symm⟩
  |some y=>obtain⟨k,hk⟩:=fw hrel hh;exact .inr ⟨y,k,rfl,hk⟩
 rcases Vz with⟨rfl,rfl⟩|⟨y,k,rfl,hv⟩
 ·rcases tA with⟨rfl,rfl⟩|⟨y0,k0,rfl,pa⟩
  ·simp[execOp,ho,Instr.sliceAt,run_underlying hu,Instr.slice,qw,Instr.sliceBounds]
  ·have Hd:=run_sliceBound (P:=Γ.P) w pa (y:=b.size) h0 (by omega) .sliceB
   simp[execOp,ho,Instr.sliceAt,run_underlying hu,Instr.slice,qw,Instr.sliceBounds,Hd]
 ·have hs:=run_sliceBound (P:=Γ.P) w hv (y:=b.size) (by omega) (by omega) .sliceAlen
  rcases tA with⟨rfl,rfl⟩|⟨y0,k0,rfl,pa⟩
  ·simp[execOp,ho,Instr.sliceAt,run_underlying hu,Instr.slice,qw,Instr.sliceBounds,hs]
  ·have Hd:=run_sliceBound (P:=Γ.P) w pa (y:=h.toNat) h0 (by omega) .sliceB
   simp[execOp,ho,Instr.sliceAt,run_underlying hu,Instr.slice,qw,Instr.sliceBounds,hs,Hd]
theorem oA (aq:Γ.Ok) {tab:Nat→Option TD} (ah:aL Γ.P tab) {o:Oper} {c:Prop} {r:AV} (h:bk tab s.hp s.ev o.op=some (c,r)) (hc:c):ee Γ o s r:=by
 generalize ho:o.op=op at h
 cases op with
 |move x=>
  simp only[bk,Option.some.injEq,Prod.mk.injEq] at h
  obtain⟨_,rfl⟩:=h
  exact aK fun a w η hr=>⟨a.eval x,by simp[execOp,ho],hr.ev x⟩
 |assign x=>
  simp only[bk,Option.some.injEq,Prod.mk.injEq] at h
  obtain⟨_,rfl⟩:=h
  exact aK fun a w η hr=>⟨a.eval x,by simp[execOp,ho],hr.ev x⟩
 |nilCheck x=>
  simp only[bk] at h
  split at h
  ·rename_i r0 o0 hx
   simp only[Option.some.injEq,Prod.mk.injEq] at h
   obtain⟨_,rfl⟩:=h
   refine aK fun a w η hr=>?_
   have hp:=hr.ev x
   rw[hx] at hp
   obtain⟨b,hb⟩:∃b,a.eval x=.pointer (some b):=by
    generalize a.eval x=v at hp
    cases hp
    exact⟨_,rfl⟩
   exact⟨a.eval x,by simp[execOp,ho,hb],hp⟩
  ·rename_i r0 o0 hx
   simp only[Option.some.injEq,Prod.mk.injEq] at h
   obtain⟨_,rfl⟩:=h
   refine aK fun a w η hr=>?_
   have hp:=hr.ev x
   rw[hx] at hp
   obtain⟨b,hb⟩:∃b,a.eval x=.pointer (some b):=by
    generalize a.eval x=v at hp
    cases hp
    exact⟨_,rfl⟩
   exact⟨a.eval x,by simp[execOp,ho,hb],hp⟩
  ·cases h
 |pick cc x y=>
  simp only[bk] at h
  split at h
  ·rename_i t ht
   simp only[Option.some.injEq,Prod.mk.injEq] at h
   obtain⟨_,rfl⟩:=h
   exact FM ho ht
  ·cases h
 |fieldAddr T x f=>
  simp only[bk] at h
  split at h
  ·rename_i p hp
   split at h
   ·cases h
   ·rename_i h0
    split at h
    ·rename_i n off he
     simp only[Option.some.injEq,Prod.mk.injEq] at h
     exact ma ah ho hp h0 (.inl ⟨n,off,he,h.2.symm⟩)
    ·rename_i e off he
     simp only[Option.some.injEq,Prod.mk.injEq] at h
     exact ma ah ho hp h0 (.inr ⟨e,off,he,h.2.symm⟩)
    ·rename_i r0 m0 i0 z0 he
     split at h
     ·rename_i hz
      simp only[Option.some.injEq,Prod.mk.injEq] at h
      obtain⟨_,rfl⟩:=h
      exact si ah ho hp h0 he hz
     ·cases h
    ·cases h
  ·cases h
 |load T x=>
  simp only[bk] at h
  split at h
  ·rename_i d hd
   split at h
   ·rename_i n off he
    split at h
    ·rename_i cs eS
     cases hl:dV d.kind.agg d.size cs off with
     |none=>rw[hl] at h;cases h
     |some v=>
      rw[hl] at h
      simp only[Option.map_some,Option.some.injEq,Prod.mk.injEq] at h
      obtain⟨_,rfl⟩:=h
      exact vV ah ho hd (.inl ⟨n,off,cs,he,eS,hl⟩)
    ·cases h
   ·rename_i e off he
    cases hl:tl d.kind.agg d.size e off with
    |none=>rw[hl] at h;cases h
    |some v=>
     rw[hl] at h
     simp only[Option.map_some,Option.some.injEq,Prod.mk.injEq] at h
     obtain⟨_,rfl⟩:=h
     exact vV ah ho hd (.inr ⟨e,off,he,hl⟩)
   ·rename_i r0 m0 i0 z0 he
    split at h
    ·rename_i e0 z' els nQ
     split at h
     ·rename_i nR
      obtain⟨rfl,zm⟩:=nR
      simp only[Option.some.injEq,Prod.mk.injEq] at h
      obtain⟨rfl,rfl⟩:=h
      have hg:els.getD i0 .top=els[i0]'hc.2.1:=by simp[List.getD,hc.2.1]
      rw[hg] at hc ⊢
      exact Ct ah ho hd he nQ hc.1 zm hc.2.1 hc.2.2
     ·cases h
    ·cases h
   ·cases h
  ·cases h
 |indexAddr T x i=>
  simp only[bk] at h
  split at h
  ·rename_i d hd
   split at h
   ·rename_i e hk
    split at h
    ·rename_i d' els k n cM cy hi
     simp only[Option.some.injEq,Prod.mk.injEq] at h
     obtain⟨rfl,rfl⟩:=h
     exact tr ah ho hd hk cM cy hi hc.1 hc.2.1 hc.2.2
    ·rename_i d' k n cM cy hi
     split at h
     ·rename_i r m e' size k' hm
      split at h
      ·rename_i nR
       simp only[Option.some.injEq,Prod.mk.injEq] at h
       obtain⟨rfl,rfl⟩:=h
       obtain⟨hx,els,nQ,rfl⟩:=nu hm
       obtain⟨rfl,rfl⟩:=nR
       exact sn ah ho hd hk cM hx nQ hc.2.2 hi hc.1 hc.2.1
      ·cases h
     ·cases h
    ·cases h
   ·rename_i m hk
    split at h
    ·rename_i r k n hx hi
     simp only[Option.some.injEq,Prod.mk.injEq] at h
     obtain⟨rfl,rfl⟩:=h
     exact sj ah ho hd hk hx hi hc.1 hc.2
    ·rename_i e k n hx hi
     simp only[Option.some.injEq,Prod.mk.injEq] at h
     obtain⟨rfl,rfl⟩:=h
     exact sk ah ho hd hk hx hi hc.1 hc.2
    ·cases h
   ·cases h
  ·cases h
 |binOp op T x y T'=>
  simp only[bk] at h
  split at h
  ·rename_i v hv
   simp only[Option.some.injEq,Prod.mk.injEq] at h
   obtain⟨_,rfl⟩:=h
   exact Ht ah ho hv
  ·exact zn ah ho h hc
 |convert S D x=>
  simp only[bk] at h
  obtain⟨r',h1,h2⟩:=Option.map_eq_some_iff.1 h
  simp only[Prod.mk.injEq] at h2
  rw[←h2.2]
  exact Hu ah ho h1
 |unOp op T x=>
  simp only[bk] at h
  split at h
  ·rename_i b he
   simp only[Option.some.injEq,Prod.mk.injEq] at h
   exact vW ho (.inl ⟨b,rfl,he,h.2.symm⟩)
  ·rename_i k n he
   simp only[Option.some.injEq,Prod.mk.injEq] at h
   exact vW ho (.inr ⟨k,n,rfl,he,h.2.symm⟩)
  ·cases h
 |build T parts=>
  simp only[bk] at h
  split at h
  ·rename_i d hd
   split at h
   ·rename_i fs hk
    cases hl:cB fs (d.zero.cells.toList.map .ae) (parts.toList.map fun p=>(p.1,s.ev p.2)) with
    |none=>rw[hl] at h;cases h
    |some cs=>
     rw[hl] at h
     simp only[Option.map_some,Option.some.injEq,Prod.mk.injEq] at h
     obtain⟨_,rfl⟩:=h
     exact Cy ah ho hd hk hl
   ·rename_i n hk
    cases hl:cB (tm n) (d.zero.cells.toList.map .ae) (parts.toList.map fun p=>(p.1,s.ev p.2)) with
    |none=>rw[hl] at h;cases h
    |some cs=>
     rw[hl] at h
     simp only[Option.map_some,Option.some.injEq,Prod.mk.injEq] at h
     obtain⟨_,rfl⟩:=h
     exact zr ah ho hd hk hl
   ·cases h
  ·cases h
 |buildSlice T n parts=>
  simp only[bk] at h
  split at h
  ·rename_i d hd
   split at h
   ·rename_i e hk
    split at h
    ·rename_i d' cM
     split at h
     ·rename_i jX
      simp only[Option.some.injEq,Prod.mk.injEq] at h
      obtain⟨rfl,rfl⟩:=h
      exact sr aq ah ho hd hk cM jX.1 jX.2.1 jX.2.2.1 jX.2.2.2 hc
     ·cases h
    ·cases h
   ·cases h
  ·cases h
 |field T x f=>
  simp only[bk] at h
  split at h
  ·rename_i p cs hp hx
   split at h
   ·rename_i jX
    cases hl:dV p.2.2 p.2.1 cs p.1 with
    |none=>rw[hl] at h;cases h
    |some v=>
     rw[hl] at h
     simp only[Option.map_some,Option.some.injEq,Prod.mk.injEq] at h
     obtain⟨_,rfl⟩:=h
     exact Cw ah ho hp hx hl fun hf=>by
      rcases jX with h1|h1
      ·rw[h1] at hf;cases hf
      ·exact h1
   ·cases h
  ·cases h
 |lookup T m k ok=>
  simp only[bk] at h
  split at h
  ·rename_i d es a hd hm hk
   split at h
   ·rename_i kt et j7
    split at h
    ·rename_i dk de lJ zu
     split at h
     ·rename_i ik sI
      simp only[Option.some.injEq,Prod.mk.injEq] at h
      obtain⟨_,rfl⟩:=h
      exact rn (R3 ik) ah ho hd j7 lJ (fun u hu=>by rw[sI] at hu;exact hu) zu hm hk
     ·cases h
    ·cases h
   ·cases h
  ·rename_i d es a hd hm hk
   split at h
   ·rename_i kt et j7
    split at h
    ·rename_i dk de lJ zu
     split at h
     ·rename_i sI
      simp only[Option.some.injEq,Prod.mk.injEq] at h
      obtain⟨_,rfl⟩:=h
      exact rn R4 ah ho hd j7 lJ (fun u hu=>by rw[sI] at hu;exact hu) zu hm hk
     ·cases h
    ·cases h
   ·cases h
  ·cases h
 |index T x i=>
  simp only[bk] at h
  split at h
  ·rename_i d b k n hd hx hi
   split at h
   ·rename_i hk
    simp only[Option.some.injEq,Prod.mk.injEq] at h
    obtain⟨rfl,rfl⟩:=h
    refine aK fun a w η hr=>?_
    have h1:=hr.ev x
    rw[hx] at h1
    have h1:=h1.ao
    have h2:=hr.ev i
    rw[hi] at h2
    have h2:=h2.ao
    have hu:Γ.P.underlying T=some .string:=by
     obtain⟨u,q2,q3⟩:=(ah T d hd).iS
     rw[hk] at q3
     rw[q2];exact congrArg some q3
    obtain⟨h3,h4⟩:=hc
    have al:n.toNat<b.size:=by omega
    refine⟨.int .u8 (zl b n),?_,.ae _⟩
    have e:b[n.toNat]?=some b[n.toNat]:=getElem?_pos b n.toNat al
    have e2:zl b n=(b[n.toNat].toNat:Int):=by
     unfold zl
     have:b.data[n.toNat]?=some b[n.toNat]:=by
      rw[Array.getElem?_eq_getElem (by exact al)];rfl
     rw[this];rfl
    simp only[execOp,ho,h1,h2,Instr.index,asIntOf,Sem.run_bind,Sem.run_pure,Result.andThen_ok,run_underlying hu,if_pos h3,e,e2]
   ·cases h
  ·cases h
 |extract x i=>
  simp only[bk] at h
  split at h
  ·rename_i vs he
   cases hl:vs[i]? with
   |none=>rw[hl] at h;cases h
   |some v=>
    rw[hl] at h
    simp only[Option.map_some,Option.some.injEq,Prod.mk.injEq] at h
    obtain⟨_,rfl⟩:=h
    exact xm ho he hl
  ·cases h
 |makeFunc fn first caps=>
  cases fn with
  |func f=>
   simp only[bk] at h
   split at h
   ·rename_i h0
    simp only[Option.some.injEq,Prod.mk.injEq] at h
    obtain⟨_,rfl⟩:=h
    exact vl ho h0
   ·split at h
    ·rename_i h0
     simp only[Option.some.injEq,Prod.mk.injEq] at h
     obtain⟨_,rfl⟩:=h
     exact sq ho h0
    ·cases h
  |_=>simp[bk] at h
 |slice T x lo hi mx=>
  simp only[bk] at h
  split at h
  ·rename_i d hd
   split at h
   ·rename_i b hk hx
    split at h
    ·rename_i l h' hl hh
     simp only[Option.some.injEq,Prod.mk.injEq] at h
     obtain⟨rfl,rfl⟩:=h
     exact vn ah ho hd hk hx hl hh hc.1 hc.2.1 hc.2.2
    ·cases h
   ·rename_i e hk
    split at h
    ·rename_i els d' cy cM
     split at h
     ·rename_i l h' hl hh hm
      simp only[Option.some.injEq,Prod.mk.injEq] at h
      obtain⟨rfl,rfl⟩:=h
      have Wb:mx=none:=by cases mx<;>simp_all
      exact tz ah ho hd hk cM cy hl hh hc.1 hc.2.1 hc.2.2.1 hc.2.2.2 (.inl ⟨Wb,rfl⟩)
     ·rename_i l h' m hl hh hm
      split at h
      ·rename_i Wa
       simp only[Option.some.injEq,Prod.mk.injEq] at h
       obtain⟨rfl,rfl⟩:=h
       cases mx with
       |none=>simp at hm
       |some y=>
        simp only[Option.map_some,Option.some.injEq] at hm
        exact tz ah ho hd hk cM cy hl hh hc.1 hc.2.1 hc.2.2.2.1 hc.2.2.2.2 (.inr ⟨y,m,rfl,Wa,hm,hc.2.2.1,rfl⟩)
      ·cases h
     ·cases h
    ·cases h
   ·cases h
  ·cases h
 |call cl=>
  simp only[bk] at h
  split at h
  ·rename_i x hb hl
   split at h
   ·rename_i d hd
    have hT:∃T,cl.argTypes[0]?=some T∧tab T=some d:=by
     cases hT:cl.argTypes[0]? with
     |none=>rw[hT] at hd;cases hd
     |some T=>rw[hT] at hd;exact⟨T,rfl,hd⟩
    obtain⟨T,hT,hd⟩:=hT
    split at h
    ·cases h
    ·rename_i e hk Z2
     split at h
     case h_2=>
      split at h
      ·rename_i r0 m0 e0 z0 k0 hm
       simp only[Option.some.injEq,Prod.mk.injEq] at h
       obtain⟨rfl,rfl⟩:=h
       obtain⟨hx,els,nQ,rfl⟩:=nu hm
       exact FO ah ho hb hl hT hd hk hx nQ hc
      ·cases h
     rename_i u hu
     simp only[Option.some.injEq,Prod.mk.injEq] at h
     obtain⟨_,rfl⟩:=h
     have h:(qC s.hp (s.ev x))=some u:=hu
     have tA:∃els,(s.ev x).fq s.hp=some els∧u=.ae (.int .i64 els.length):=by
      unfold qC at h
      split at h
      ·rename_i sb he
       exact(Z2 sb he).elim
      ·cases cy:(s.ev x).fq s.hp with
       |none=>rw[cy] at h;cases h
       |some els=>
        rw[cy] at h
        exact⟨els,rfl,(Option.some.inj h).symm⟩
     obtain⟨els,h1,h2⟩:=tA
     exact zo ah ho hb hl hT hd (.inl ⟨e,els,hk,h1,h2⟩)
    ·rename_i b hk hx
     simp only[Option.some.injEq,Prod.mk.injEq] at h
     exact zo ah ho hb hl hT hd (.inr ⟨b,hk,hx,h.2.symm⟩)
    ·cases h
   ·cases h
  ·rename_i x y hb hl
   split at h
   ·rename_i k m k' n hx hy
    simp only[Option.some.injEq,Prod.mk.injEq] at h
    obtain⟨_,rfl⟩:=h
    exact Hw ho hb hl hx hy
   ·cases h
  ·rename_i x y hb hl
   split at h
   ·rename_i k m k' n hx hy
    simp only[Option.some.injEq,Prod.mk.injEq] at h
    obtain⟨_,rfl⟩:=h
    exact Hx ho hb hl hx hy
   ·cases h
  ·cases h
 |_=>simp[bk] at h
end
section
variable {G:Type} {Γ:Env G} {s:AS G} {a:Act} {w w':World} {η:List Value} {hp:List af} {F:Nat→Nat→Prop} {P:Program}
def eA (Γ:Env G) (o:Oper) (s:AS G) (r:AV) (hp':List af):Prop:=
 ∀a w η,Rel Γ s a w η→∃v w' aM,((execOp a.eval o).run Γ.P w=.ok (.value v) w'∨(execOp a.eval o).run Γ.P w=.ok .skip w'∧v=undef)∧
  Rel Γ { s with hp:=hp' } a w' aM∧aV w' (aU Γ w' aM hp') aM hp' r v
def bz (d:TD) (n:Nat) (els av:List AV):Prop:=
 (∀x:AV,x∈els→x.cells.length=d.size)∧(∀x:AV,x∈av→x.cells.length=d.size)∧n≤maxLen∧n*d.bytes≤140737488355328
def bK {κ:Type} [DecidableEq κ]:List (κ×Value)→κ→Value→List (κ×Value)
 | [],a,v=>[(a,v)]
 |(k,u)::r,a,v=>if a=k then(k,v)::r else(k,u)::bK r a v
def sJ:Operand→Operand→Bool
 | .tmp a,.tmp b=>Nat.beq a b
 |_,_=>false
theorem CA {l c:Operand} (h:sJ l c=true):l=c:=by
 unfold sJ at h
 split at h
 ·rw[Nat.eq_of_beq_eq_true h]
 ·cases h
def zv (d:TD):Option Value:=
 match Nat.beq d.size 1,d.zero.cells.toList with
 |true,[z]=>if z.oneCell'=true then some z else none
 |_,_=>none
theorem HB {d:TD} {z:Value} (h:zv d=some z):d.size=1∧d.zero.cells=#[z]∧z.oneCell'=true:=by
 unfold zv at h
 split at h
 ·rename_i z' h1 h2
  split at h
  ·rename_i h3
   obtain rfl:=Option.some.inj h
   exact⟨Nat.eq_of_beq_eq_true h1,by apply Array.ext';simpa using h2,h3⟩
  ·cases h
 ·cases h
def cO (tab:Nat→Option TD) (hp:List af) (ρ:Operand→AV):Op→Option (Prop×AV×List af)
 | .alloc T=>(match tab T with
  |some d=>some (True,.ptr hp.length 0,hp++[.box (d.zero.cells.toList.map .ae)])
  |none=>none)
 | .box _ x=>if(ρ x).jV=true then some (True,.ptr hp.length 0,hp++[.box (ρ x).cells]) else none
 | .store T p x=>(match tab T,ρ p with
  |some d,.ptr r o=>(match hp[r]? with
   |some (.box cs)=>if(ρ x).jV=true then some ((ρ x).cells.length=d.size∧o+d.size≤cs.length,.top,hp.set r (.box (setCells cs o (ρ x).cells))) else none
   |_=>none)
  |some d,.ea r m i z=>(match hp[r]? with
   |some (.aF e size els)=>if((ρ x).dN hp).jV=true∧size=z then(if d.size=z then some (((ρ x).dN hp).cells.length=d.size∧m=els.length∧i<els.length,.top,hp.set r (.aF e size (els.set i ((ρ x).dN hp))))
     else some (((ρ x).dN hp).cells.length=d.size∧d.size≤z∧m=els.length∧i<els.length,.top,hp.set r (.aF e size (els.set i (.agg (setCells (els.getD i .top).cells 0 ((ρ x).dN hp).cells)))))) else none
   |_=>none)
  |_,_=>none)
 | .makeSlice T l c=>(match tab T with
  |some d=>(match d.kind with
   | .iu e=>(match sJ l c with
    |true=>(match tab e,ρ c with
     |some d',.ae (.int _ n)=>(match zv d' with
      |some z=>some (0≤n∧n≤9223372036854775807∧(d'.bytes:Int)*n≤281474976710656,.own hp.length (List.replicate n.toNat (AV.ae z)).length,hp++[.aF e 1 (List.replicate n.toNat (.ae z))])
      |none=>none)
     |_,_=>none)
    |false=>(match tab e,ρ l,ρ c with
     |some d',.ae (.int _ 0),.ae (.int _ n)=>some (0≤n∧n≤9223372036854775807∧(d'.bytes:Int)*n≤281474976710656∧0<d'.size,.own hp.length 0,hp++[.row e d'.size []])
     |_,_,_=>none))
   |_=>none)
  |none=>none)
 | .makeMap T none=>(match tab T with
  |some d=>(match d.kind with
   | .l5 kt _=>(match tab kt with
    |some dk=>(match dk.kind with
     | .str=>some (True,.mp hp.length,hp++[.aP (.s [])])
     |_=>some (True,.mp hp.length,hp++[.aP (.i [])]))
    |none=>none)
   |_=>none)
  |none=>none)
 | .mapUpdate T m k x=>(match tab T,ρ m,ρ k,ρ x with
  |some d,.mp r,.ae (.int .i64 a),.ae v=>(match d.kind,hp[r]? with
   | .l5 kt _,some (.aP (.i es))=>(match tab kt with
    |some dk=>(match dk.kind with
     | .int _=>some (True,.top,hp.set r (.aP (.i (bK es a v))))
     |_=>none)
    |none=>none)
   |_,_=>none)
  |some d,.mp r,.ae (.string a),.ae v=>(match d.kind,hp[r]? with
   | .l5 kt _,some (.aP (.s es))=>(match tab kt with
    |some dk=>(match dk.kind with
     | .str=>some (True,.top,hp.set r (.aP (.s (bK es a v))))
     |_=>none)
    |none=>none)
   |_,_=>none)
  |_,_,_,_=>none)
 | .call c=>(match c.callee,c.args.toList,c.argTypes.toList with
  | .builtin .append,[b,x],[T,T']=>if T=T' then(match tab T with
   |some d=>(match d.kind with
    | .iu e=>(match tab e,(ρ x).fq hp with
     |some d',some av=>(match ρ b with
      | .ae (.slice none 0 0)=>some (0<d'.size∧bz d' av.length [] av,.own hp.length av.length,hp++[.row e d'.size av])
      | .clip els=>some (0<d'.size∧(av=[]→els=[])∧bz d' (els.length+av.length) els av,.own hp.length (els.length+av.length),hp++[.row e d'.size (els++av)])
      | .own r n=>(match hp[r]? with
       |some (.row e' size els)=>if e'=e∧size=d'.size∧n=els.length then some (bz d' (els.length+av.length) [] av,.own r (els.length+av.length),hp.set r (.row e size (els++av))) else none
       |some (.aF e' size els)=>if e'=e∧size=d'.size∧n=els.length then some (bz d' (els.length+av.length) [] av,.own r (els.length+av.length),hp.set r (.aF e size (els++av))) else none
       |_=>none)
      |_=>none)
     |_,_=>none)
    |_=>none)
   |none=>none) else none
  |_,_,_=>none)
 |_=>none
theorem HC (aq:Γ.Ok) {o:Oper} {T:Nat} {x:Operand} (ho:o.op=.box T x) (hs:(s.ev x).jV=true):eA Γ o s (.ptr s.hp.length 0) (s.hp++[.box (s.ev x).cells]):=by
 intro a w η hr
 have zq:=(hr.ev x).zp hs
 have nT:=bt.alloc w (.cells (a.eval x).cells T)
 have he:=o6 (Γ:=Γ) (o:=.box (s.ev x).cells) (v:=.pointer (some ⟨w.heap.size,0,none⟩)) hr.heap.len nT (fun b hb=>by simp only[bT,Option.some.injEq] at hb;omega)
 refine⟨.pointer (some ⟨w.heap.size,0,none⟩),_,η++[.pointer (some ⟨w.heap.size,0,none⟩)],.inl (by simp[execOp,ho,Instr.box,newVar,newRow];rfl),?_,?_⟩
 ·exact hr.add aq nT (fun b hb=>by simp only[bT,Option.some.injEq] at hb;omega) ⟨w.heap.size,(a.eval x).cells,T,rfl,heap_alloc_new w _,by simpa using zq.1,fun j y u hy hu=>by
   have:=zq.2 j y u hy (by simpa using hu)
   exact⟨this.1.ext he,this.2⟩⟩
 ·exact .ptr _ 0 w.heap.size (by rw[←hr.heap.len];simp)
theorem CB (aq:Γ.Ok) {tab:Nat→Option TD} (ah:aL Γ.P tab) {o:Oper} {T:Nat} (ho:o.op=.alloc T) {d:TD} (hd:tab T=some d):eA Γ o s (.ptr s.hp.length 0) (s.hp++[.box (d.zero.cells.toList.map .ae)]):=by
 intro a w η hr
 have ft:=ah T d hd
 have nT:=bt.alloc w (.cells d.zero.cells T)
 refine⟨.pointer (some ⟨w.heap.size,0,none⟩),_,η++[.pointer (some ⟨w.heap.size,0,none⟩)],.inl (by simp[execOp,ho,Instr.alloc,ft.fp,newVar,newRow];rfl),?_,?_⟩
 ·refine hr.add aq nT (fun b hb=>by simp only[bT,Option.some.injEq] at hb;omega) ⟨w.heap.size,d.zero.cells,T,rfl,heap_alloc_new w _,by simp,fun j y u hy hu=>?_⟩
  exact(ft.xn (w:=_) (F:=_) (η:=_) (hp:=_)).2 j y u hy (by simpa using hu)
 ·exact .ptr _ 0 w.heap.size (by rw[←hr.heap.len];simp)
theorem zw (aq:Γ.Ok) {b r:Nat}:∀(us:List Value) (xs:List AV) (k off:Nat) (cs:List AV) (s:AS G) (w:World),Rel Γ s a w η→s.hp[r]?=some (.box cs)→η[r]?=some (.pointer (some ⟨b,0,none⟩))→
  oz w (aU Γ w η s.hp) η s.hp xs us→off+k+xs.length≤cs.length→
  ∃w',(storeCells ⟨b,off,none⟩ us k).run Γ.P w=.ok () w'∧Rel Γ { s with hp:=s.hp.set r (.box (setCells cs (off+k) xs)) } a w' η:=by
 intro us
 induction us with
 |nil=>
  intro xs k off cs s w hr hb dn zq hle
  have:xs=[]:=List.eq_nil_of_length_eq_zero (by have:=zq.1;simpa using this.symm)
  subst this
  refine⟨w,rfl,?_⟩
  have:s.hp.set r (.box (setCells cs (off+k) []))=s.hp:=by
   apply List.ext_getElem?
   intro i
   by_cases hi:r=i
   ·subst hi;rw[ai hb,hb];rfl
   ·rw[getElem?_set_ne hi]
  rw[this];exact hr
 |cons u us ih=>
  intro xs k off cs s w hr hb dn zq hle
  cases xs with
  |nil=>have:=zq.1;simp at this
  |cons x xs=>
   have h0:=zq.2 0 x u rfl rfl
   simp only[List.length_cons] at hle
   obtain⟨h1,h2,u',h3⟩:=hr.write aq (off:=off+k) hb dn (by omega) h0.2 h0.1
   have bY:oz (w.setCell ⟨b,off+k,none⟩ u) (aU Γ (w.setCell ⟨b,off+k,none⟩ u) η (s.hp.set r (.box (cs.set (off+k) x)))) η (s.hp.set r (.box (cs.set (off+k) x))) xs us:=by
    refine⟨by simpa using zq.1,fun j y z hy hz=>?_⟩
    have h4:=zq.2 (j+1) y z (by simpa using hy) (by simpa using hz)
    refine⟨?_,h4.2⟩
    refine h4.1.ext ?_
    refine⟨fun b' o v hf hc=>?_,fun b' es c hf hc=>?_,fun b' o hf=>?_,fun _ _ h=>h,fun _ _ h=>h,fun r' n v ho=>?_⟩
    ·have bj:b'≠b:=by
      intro e
      subst e
      obtain⟨o1,q1,q2⟩:=(aN b' o).1 hf.2.2.2 r _ dn rfl
      rw[hb] at q1
      obtain rfl:=Option.some.inj q1
      exact q2
     rw[World.cell?_of_block (Go.heap_setCell_other w _ b' u (by simpa using bj))]
     exact hc
    ·have bj:b'≠b:=by
      intro e
      subst e
      obtain⟨o1,q1,q2⟩:=(aN b' 0).1 hf.2.2.2 r _ dn rfl
      rw[hb] at q1
      obtain rfl:=Option.some.inj q1
      exact q2
     rw[Go.heap_setCell_other w _ b' u (by simpa using bj)]
     exact hc
    ·refine⟨hf.1,by simpa using hf.2.1,hf.2.2.1,(aN b' o).2 fun r' v hv mg=>?_⟩
     obtain⟨o1,q1,q2⟩:=(aN b' o).1 hf.2.2.2 r' v hv mg
     by_cases FQ:r=r'
     ·subst FQ
      rw[hb] at q1
      obtain rfl:=Option.some.inj q1
      exact q2.elim
     ·exact⟨o1,by rw[getElem?_set_ne FQ];exact q1,q2⟩
    ·unfold aQ at ho ⊢
     by_cases FQ:r=r'
     ·subst FQ;rw[hb] at ho;exact ho.elim
     ·rw[getElem?_set_ne FQ];exact ho
   obtain⟨w',e1,e2⟩:=ih xs (k+1) off (cs.set (off+k) x) { s with hp:=s.hp.set r (.box (cs.set (off+k) x)) } (w.setCell ⟨b,off+k,none⟩ u) h1 (ai hb) dn bY (by simp;omega)
   refine⟨w',?_,?_⟩
   ·simp only[storeCells,Sem.run_bind,Addr.add_lit]
    rw[run_store _ _ _ _ _ h0.2,h3]
    simp only[h2,Bool.false_eq_true,if_false,Result.andThen_ok]
    exact e1
   ·have:(s.hp.set r (.box (cs.set (off+k) x))).set r (.box (setCells (cs.set (off+k) x) (off+(k+1)) xs))=s.hp.set r (.box (setCells cs (off+k) (x::xs))):=by
     rw[List.set_set];rfl
    simp only[this] at e2
    exact e2
theorem CC (aq:Γ.Ok) {tab:Nat→Option TD} (ah:aL Γ.P tab) {o:Oper} {T r off:Nat} {p x:Operand} (ho:o.op=.store T p x) {d:TD} (hd:tab T=some d) (hp:s.ev p=.ptr r off) {cs:List AV} (hb:s.hp[r]?=some (.box cs))
  (hs:(s.ev x).jV=true) (hl:(s.ev x).cells.length=d.size) (hle:off+d.size≤cs.length):eA Γ o s .top (s.hp.set r (.box (setCells cs off (s.ev x).cells))):=by
 intro a w η hr
 have nU:=hr.ev p
 rw[hp] at nU
 have di:=(hr.ev x).zp hs
 generalize hv:a.eval p=v at nU
 cases nU with
 |ptr _ _ b dn=>
  obtain⟨w',e1,e2⟩:=zw aq (a.eval x).cells.toList (s.ev x).cells 0 off cs s w hr hb dn di (by omega)
  refine⟨undef,w',η,.inr ⟨?_,rfl⟩,by simpa using e2,.top _⟩
  have bE:(a.eval x).cells.size=d.size:=by rw[←hl,←di.1];simp
  simp only[execOp,ho,hv,Instr.storeAt,Instr.sureAddr,Sem.run_bind,Sem.run_pure,Result.andThen_ok,storeVar,(ah T d hd).run_sizeOf,bE,ne_eq,not_true_eq_false,if_false,e1]
theorem vX {b off:Nat} {T:TypeId}:∀(us:List Value) (k:Nat) (cs:Array Value) (w:World),w.heap[b]?=some (.cells cs T (0,0))→off+k+us.length≤cs.size→(∀u∈us,u.oneCell'=true)→
  ∃w' cs',(storeCells ⟨b,off,none⟩ us k).run P w=.ok () w'∧w'.heap[b]?=some (.cells cs' T (0,0))∧cs'.toList=dW cs.toList (off+k) us∧bo (fun x=>x=b) w w'
 | [],k,cs,w,hb,_,_=>⟨w,cs,rfl,hb,rfl,bo.refl _ _⟩
 |u::us,k,cs,w,hb,hle,h1=>by
  simp only[List.length_cons] at hle
  have nO:(w.setCell ⟨b,off+k,none⟩ u).heap[b]?=some (.cells (cs.setIfInBounds (off+k) u) T (0,0)):=Go.heap_setCell_same w b (off+k) cs T u hb
  obtain⟨w',cs',e1,e2,e3,e4⟩:=vX (off:=off) us (k+1) _ _ nO (by simp;omega) fun v hv=>h1 v (List.mem_cons_of_mem _ hv)
  refine⟨w',cs',?_,e2,?_,?_⟩
  ·have hc:w.cell? ⟨b,off+k,none⟩=some (cs[off+k]'(by omega)):=by
    rw[cell_of_row w b (off+k) cs T (0,0) hb];simp
   have hf:=frozen_of_row w b (off+k) cs T hb
   simp only[storeCells,Sem.run_bind,Addr.add_lit]
   rw[run_store _ _ _ _ _ (h1 u List.mem_cons_self),hc]
   simp only[hf,Bool.false_eq_true,if_false,Result.andThen_ok]
   exact e1
  ·rw[e3];simp[dW,Nat.add_assoc]
  ·exact(show bo (fun x=>x=b) w (w.setCell ⟨b,off+k,none⟩ u) from⟨rfl,rfl,rfl,by simp[World.setCell],fun i _ hi=>Go.heap_setCell_other w _ i u hi⟩).trans e4 fun _ _ h=>h
theorem rp (aq:Γ.Ok) {tab:Nat→Option TD} (ah:aL Γ.P tab) {o:Oper} {T r m i z e:Nat} {p x:Operand} (ho:o.op=.store T p x) {d:TD} (hd:tab T=some d) (hp:s.ev p=.ea r m i z) {els:List AV} (hb:s.hp[r]?=some (.aF e z els))
  (hs:((s.ev x).dN s.hp).jV=true) (hl:((s.ev x).dN s.hp).cells.length=d.size) (hm:m=els.length) (zm:d.size≤z) (hi:i<els.length) {VB:AV} (hle:els[i].cells.length=z→VB.cells.length=z)
  (qx:els[i].cells.length=z→∀(j:Nat) (y:AV),VB.cells[j]?=some y→(j<d.size→((s.ev x).dN s.hp).cells[j]?=some y)∧(d.size≤j→els[i].cells[j]?=some y)):eA Γ o s .top (s.hp.set r (.aF e z (els.set i VB))):=by
 intro a w η hr
 have nU:=hr.ev p
 rw[hp] at nU
 have di:=(jU hr.heap hr.bA (hr.ev x)).zp hs
 generalize (s.ev x).dN s.hp=el at hs hl di qx
 generalize hv:a.eval p=v at nU
 cases nU with
 |ea _ _ _ _ b o' c k qF=>
  have tq:=qF
  unfold aQ at tq
  rw[hb] at tq
  have dn:=tq.2 hm
  obtain⟨Hc,xs,bU,cy⟩:=hr.heap.obj r _ _ hb dn
  rcases bU.2 with⟨h0,_⟩|⟨g,cap,cur,he,h0,⟨vi,FL,hg⟩,zi,Cn,eS,jg⟩
  ·omega
  obtain rfl:vi=0:=Nat.le_zero.1 FL
  ·simp only[Value.slice.injEq,Option.some.injEq,Addr.mk.injEq,and_true] at he
   obtain⟨⟨rfl,rfl⟩,rfl,rfl⟩:=he
   generalize R5:(a.eval x).cells.toList=us at di
   have Wd:us.length=d.size:=by rw[di.1,hl]
   have hold:=cy i els[i] (List.getElem?_eq_getElem hi)
   have qx:=qx hold.1
   have hle:=hle hold.1
   have aw:(i+1)*z≤els.length*z:=Nat.mul_le_mul_right _ hi
   have qA:els.length*z≤c*z:=Nat.mul_le_mul_right _ zi
   rw[Nat.add_mul,Nat.one_mul] at aw
   obtain⟨w',cs',e1,e2,e3,e4⟩:=vX (P:=Γ.P) (off:=0+i*z) us 0 cur w hg (by omega) fun u hu=>by
    obtain⟨j,hj⟩:=List.getElem?_of_mem hu
    have al:j<el.cells.length:=by rw[←di.1];exact(List.getElem?_eq_some_iff.1 hj).1
    exact(di.2 j _ u (List.getElem?_eq_getElem al) hj).2
   have bE:(a.eval x).cells.size=d.size:=by rw[←hl,←di.1,←R5];simp
   have np:bT (.slice (some ⟨b,0,none⟩) els.length c)=some b:=ba h0
   have L1:η.set r (.slice (some ⟨b,0,none⟩) els.length c)=η:=by
    apply List.ext_getElem?
    intro k
    by_cases hk:r=k
    ·subst hk;rw[ai dn,dn]
    ·rw[getElem?_set_ne hk]
   have:=Rel.change (w':=w') (o':=.aF e z (els.set i VB)) (v':=.slice (some ⟨b,0,none⟩) els.length c) aq hr hb True.intro dn
    ⟨e4.os,e4.tape,e4.output,e4.size,fun k hk Z3=>e4.block k hk fun h=>Z3 (by rw[np,h])⟩
    (fun c hc=>.inl hc) (fun k hk=>hk.elim) (fun _ _ _ _ hk=>hk.elim) (fun _ _ _ _ hk=>hk.elim)
    (fun n u ho=>by
     unfold aQ at ho ⊢
     rw[hb] at ho
     rw[ai hb,L1]
     exact⟨by rw[List.length_set];exact ho.1,fun h=>ho.2 (by rw[List.length_set] at h;exact h)⟩)
    (fun _ _=>rfl) (fun _ hx=>by cases hx)
    (fun b' d' ec cM=>by rw[np] at ec;obtain rfl:=Option.some.inj ec;rw[hg] at cM;cases cM)
    (fun he=>⟨Hc,dW xs (i*z) us,⟨by rw[fu,List.length_set];exact bU.1,.inr ⟨b,c,cs',by rw[List.length_set],h0,⟨0,Nat.le_refl _,e2⟩,by rw[List.length_set];exact zi,Cn,by
      have:cs'.toList.length=cur.toList.length:=by rw[e3,fu]
      simp only[Array.length_toList] at this
      rw[this,eS],by
      rw[List.length_set]
      apply List.ext_getElem?
      intro k
      have hlen:i*z+us.length≤cur.toList.length:=by simp only[Array.length_toList];omega
      have zx:i*z+us.length≤xs.length:=by rw[bU.1];omega
      rw[List.getElem?_take,ct us xs _ _ zx,e3,Nat.add_zero,Nat.zero_add,ct us _ _ _ hlen]
      by_cases hk:k<els.length*z
      ·rw[if_pos hk]
       by_cases qx:i*z≤k∧k<i*z+us.length
       ·rw[if_pos qx,if_pos qx]
       ·rw[if_neg qx,if_neg qx,←jg,List.getElem?_take,if_pos hk]
      ·rw[if_neg hk,if_neg (by omega),List.getElem?_eq_none (by rw[bU.1];omega)]⟩⟩,fun i' We n6=>by
      have zx:i*z+us.length≤xs.length:=by rw[bU.1];omega
      by_cases Cu:i=i'
      ·subst Cu
       rw[List.getElem?_set_self hi] at n6
       obtain rfl:=Option.some.inj n6
       refine⟨hle,fun j x hj=>?_⟩
       by_cases Z4:j<d.size
       ·have hj:=(qx j x hj).1 Z4
        have rq:j<us.length:=by omega
        refine⟨us[j],?_,((di.2 j x _ hj (List.getElem?_eq_getElem rq)).1).ext he.jP.ext,(di.2 j x _ hj (List.getElem?_eq_getElem rq)).2⟩
        rw[ct us xs _ _ zx,if_pos (by omega),show i*z+j-i*z=j from by omega,List.getElem?_eq_getElem rq]
       ·obtain⟨u,q1,q2,q3⟩:=hold.2 j x ((qx j x hj).2 (by omega))
        refine⟨u,?_,q2.ext he.jP.ext,q3⟩
        rw[ct us xs _ _ zx,if_neg (by omega)]
        exact q1
      ·rw[getElem?_set_ne Cu] at n6
       refine⟨(cy i' We n6).1,fun j x hj=>?_⟩
       obtain⟨u,q1,q2,q3⟩:=(cy i' We n6).2 j x hj
       refine⟨u,?_,q2.ext he.jP.ext,q3⟩
       have Y5:j<z:=by rw[←(cy i' We n6).1];exact(List.getElem?_eq_some_iff.1 hj).1
       rw[ct us xs _ _ zx,if_neg ?_]
       ·exact q1
       ·rw[Wd]
        rcases Nat.lt_or_gt_of_ne Cu with h|h
        ·have:=Nat.mul_le_mul_right z (show i+1≤i' from h)
         rw[Nat.add_mul,Nat.one_mul] at this;omega
        ·have:=Nat.mul_le_mul_right z (show i'+1≤i from h)
         rw[Nat.add_mul,Nat.one_mul] at this;omega⟩)
   rw[L1] at this
   refine⟨undef,w',η,.inr ⟨?_,rfl⟩,this,.top _⟩
   simp only[execOp,ho,hv,Instr.storeAt,Instr.sureAddr,Sem.run_bind,Sem.run_pure,Result.andThen_ok,storeVar,(ah T d hd).run_sizeOf,bE,ne_eq,not_true_eq_false,if_false,R5,e1]
theorem zy (aq:Γ.Ok) {tab:Nat→Option TD} (ah:aL Γ.P tab) {o:Oper} {T r m i z e:Nat} {p x:Operand} (ho:o.op=.store T p x) {d:TD} (hd:tab T=some d) (hp:s.ev p=.ea r m i z) {els:List AV} (hb:s.hp[r]?=some (.aF e z els))
  (hs:((s.ev x).dN s.hp).jV=true) (hl:((s.ev x).dN s.hp).cells.length=d.size) (hm:m=els.length) (zm:d.size=z) (hi:i<els.length):eA Γ o s .top (s.hp.set r (.aF e z (els.set i ((s.ev x).dN s.hp)))):=
 rp aq ah ho hd hp hb hs hl hm (Nat.le_of_eq zm) hi (fun _=>by rw[hl,zm]) fun _ j y hy=>⟨fun _=>hy,fun h=>by have:=(List.getElem?_eq_some_iff.1 hy).1;omega⟩
theorem jh:∀(xs cs:List AV) (k j:Nat),k+xs.length≤cs.length→(setCells cs k xs)[j]?=if k≤j∧j<k+xs.length then xs[j-k]? else cs[j]?
 | [],cs,k,j,_=>by rw[setCells,if_neg (by simp only[List.length_nil];omega)]
 |x::xs,cs,k,j,h=>by
  simp only[List.length_cons] at h
  rw[setCells,jh xs _ _ _ (by rw[List.length_set];omega)]
  by_cases e:k=j
  ·subst e
   rw[if_neg (by omega),if_pos (by simp only[List.length_cons];omega),Nat.sub_self,List.getElem?_cons_zero,List.getElem?_set_self (by omega)]
  ·rw[getElem?_set_ne e]
   by_cases h2:k+1≤j∧j<k+1+xs.length
   ·rw[if_pos h2,if_pos (by simp only[List.length_cons];omega),show j-k=j-(k+1)+1 from by omega,List.getElem?_cons_succ]
   ·rw[if_neg h2,if_neg (by simp only[List.length_cons];omega)]
theorem zz (aq:Γ.Ok) {tab:Nat→Option TD} (ah:aL Γ.P tab) {o:Oper} {T r m i z e:Nat} {p x:Operand} (ho:o.op=.store T p x) {d:TD} (hd:tab T=some d) (hp:s.ev p=.ea r m i z) {els:List AV} (hb:s.hp[r]?=some (.aF e z els))
  (hs:((s.ev x).dN s.hp).jV=true) (hl:((s.ev x).dN s.hp).cells.length=d.size) (hm:m=els.length) (zm:d.size≤z) (hi:i<els.length):eA Γ o s .top (s.hp.set r (.aF e z (els.set i (.agg (setCells (els.getD i .top).cells 0 ((s.ev x).dN s.hp).cells))))):=by
 have hg:els.getD i .top=els[i]:=by simp[List.getD,hi]
 rw[hg]
 refine rp aq ah ho hd hp hb hs hl hm zm hi (fun h=>by show (setCells _ 0 _).length=z;rw[sf,h]) fun h j y hy=>?_
 have Ch:(setCells els[i].cells 0 ((s.ev x).dN s.hp).cells)[j]?=some y:=hy
 rw[jh _ _ _ _ (by rw[hl,h];omega),hl] at Ch
 refine⟨fun hj=>?_,fun hj=>?_⟩
 ·rw[if_pos (by omega)] at Ch;exact Ch
 ·rw[if_neg (by omega)] at Ch;exact Ch
theorem tC (aq:Γ.Ok) {tab:Nat→Option TD} (ah:aL Γ.P tab) {o:Oper} {T e:Nat} {l c:Operand} (ho:o.op=.makeSlice T l c) {d d':TD} (hd:tab T=some d) (hk:d.kind=.iu e) (cM:tab e=some d')
  {k k':IntKind} {n:Int} (hl:s.ev l=.ae (.int k 0)) (hc:s.ev c=.ae (.int k' n)) (h0:0≤n) (xd:n≤9223372036854775807) (RZ:(d'.bytes:Int)*n≤281474976710656) (bE:0<d'.size):
  eA Γ o s (.own s.hp.length 0) (s.hp++[.row e d'.size []]):=by
 intro a w η hr
 have Co:=hr.ev l
 have He:=hr.ev c
 rw[hl] at Co;rw[hc] at He
 have ft:=ah e d' cM
 obtain⟨i,nq,o7,y8,Ej⟩:=ft.info
 have hu:Γ.P.underlying T=some (.slice e):=by
  obtain⟨u,q2,q3⟩:=(ah T d hd).iS
  rw[hk] at q3
  rw[q2];exact congrArg some q3
 have hw:IntKind.i64.wrap n=n:=by
  simp only[IntKind.wrap,IntKind.bits,IntKind.signed];simp;omega
 have Y6:IntKind.i64.wrap 0=0:=by decide
 have Lw:((decide (n<0)||decide ((d'.bytes:Int)*n>2 ^ 48))||decide ((0:Int)<0)||decide ((0:Int)>n))=false:=by
  simp;omega
 have ew:∃arr:Array Value,arr.size=n.toNat*d'.size∧(execOp a.eval o).run Γ.P w=.ok (.value (.slice (some ⟨w.heap.size,0,none⟩) 0 n.toNat)) (w.alloc (.cells arr e)):=by
  by_cases hz:n.toNat*d'.size=0
  ·refine⟨(Array.range (n.toNat*d'.size)).map ((#[]:Array Value)[· % (#[]:Array Value).size]!),by simp,?_⟩
   simp only[execOp,ho,Instr.makeSlice,Sem.run_bind,run_underlying hu,Result.andThen_ok,asInt,Co.ao,He.ao,asIntOf,Sem.run_pure,typeInfo,run_program,nq,y8,hw,Y6,Lw,Bool.false_eq_true,if_false,run_askRoom,sizeOf,o7,if_pos hz,newRow,run_newObj]
   rfl
  ·refine⟨(Array.range (n.toNat*d'.size)).map (d'.zero.cells[· % d'.zero.cells.size]!),by simp,?_⟩
   simp only[execOp,ho,Instr.makeSlice,Sem.run_bind,run_underlying hu,Result.andThen_ok,asInt,Co.ao,He.ao,asIntOf,Sem.run_pure,typeInfo,run_program,nq,y8,hw,Y6,Lw,Bool.false_eq_true,if_false,run_askRoom,sizeOf,o7,if_neg hz,ft.fp,newRow,run_newObj]
   rfl
 obtain⟨arr,j6,ew⟩:=ew
 have nT:=bt.alloc w (.cells arr e)
 refine⟨_,_,η++[.slice (some ⟨w.heap.size,0,none⟩) 0 n.toNat],.inl ew,?_,?_⟩
 ·refine hr.add aq nT (fun b hb=>?_) ⟨bE,[],⟨by simp,?_⟩,fun i el hi=>by simp at hi⟩
  ·simp only[bT] at hb
   split at hb
   ·cases hb
   ·obtain rfl:=Option.some.inj hb;exact Nat.le_refl _
  ·by_cases hn:n.toNat=0
   ·exact .inl ⟨rfl,.inr ⟨_,by rw[hn]⟩⟩
   ·exact .inr ⟨w.heap.size,n.toNat,arr,rfl,by omega,⟨0,Nat.zero_le _,heap_alloc_new w _⟩,Nat.zero_le _,by simp only[maxLen];omega,j6,by simp⟩
 ·refine .own _ 0 _ rfl ?_
  unfold aQ
  have:(s.hp++[af.row e d'.size []])[s.hp.length]?=some (.row e d'.size []):=by simp
  rw[this]
  exact⟨Nat.le_refl _,fun _=>by rw[←hr.heap.len];simp⟩
theorem CD (aq:Γ.Ok) {tab:Nat→Option TD} (ah:aL Γ.P tab) {o:Oper} {T e:Nat} {l c:Operand} (ho:o.op=.makeSlice T l c) {d d':TD} (hd:tab T=some d) (hk:d.kind=.iu e) (cM:tab e=some d')
  {k k':IntKind} {n:Int} (hl:s.ev l=.ae (.int k n)) (hc:s.ev c=.ae (.int k' n)) (h0:0≤n) (xd:n≤9223372036854775807) (RZ:(d'.bytes:Int)*n≤281474976710656) {z:Value} (hz:zv d'=some z):
  eA Γ o s (.own s.hp.length (List.replicate n.toNat (AV.ae z)).length) (s.hp++[.aF e 1 (List.replicate n.toNat (.ae z))]):=by
 intro a w η hr
 have Co:=hr.ev l
 have He:=hr.ev c
 rw[hl] at Co;rw[hc] at He
 have ft:=ah e d' cM
 obtain⟨i,nq,o7,y8,Ej⟩:=ft.info
 obtain⟨RG,Wf,tt⟩:=HB hz
 have hu:Γ.P.underlying T=some (.slice e):=by
  obtain⟨u,q2,q3⟩:=(ah T d hd).iS
  rw[hk] at q3
  rw[q2];exact congrArg some q3
 have hw:IntKind.i64.wrap n=n:=by
  simp only[IntKind.wrap,IntKind.bits,IntKind.signed];simp;omega
 have Lw:((decide (n<0)||decide ((d'.bytes:Int)*n>2 ^ 48))||decide (n<0)||decide (n>n))=false:=by
  simp;omega
 have ew:∃arr:Array Value,arr.toList=List.replicate n.toNat z∧(execOp a.eval o).run Γ.P w=.ok (.value (.slice (some ⟨w.heap.size,0,none⟩) n.toNat n.toNat)) (w.alloc (.cells arr e)):=by
  by_cases hz:n.toNat*d'.size=0
  ·have kV:n.toNat=0:=by rw[RG] at hz;omega
   refine⟨(Array.range (n.toNat*d'.size)).map ((#[]:Array Value)[· % (#[]:Array Value).size]!),by rw[hz,kV];simp,?_⟩
   simp only[execOp,ho,Instr.makeSlice,Sem.run_bind,run_underlying hu,Result.andThen_ok,asInt,Co.ao,He.ao,asIntOf,Sem.run_pure,typeInfo,run_program,nq,y8,hw,Lw,Bool.false_eq_true,if_false,run_askRoom,sizeOf,o7,if_pos hz,newRow,run_newObj]
   rfl
  ·refine⟨(Array.range (n.toNat*d'.size)).map (d'.zero.cells[· % d'.zero.cells.size]!),?_,?_⟩
   ·rw[RG,Wf,Nat.mul_one]
    refine List.ext_getElem (by simp) fun j h1 h2=>?_
    simp[Nat.mod_one]
   simp only[execOp,ho,Instr.makeSlice,Sem.run_bind,run_underlying hu,Result.andThen_ok,asInt,Co.ao,He.ao,asIntOf,Sem.run_pure,typeInfo,run_program,nq,y8,hw,Lw,Bool.false_eq_true,if_false,run_askRoom,sizeOf,o7,if_neg hz,ft.fp,newRow,run_newObj]
   rfl
 obtain⟨arr,fj,ew⟩:=ew
 have j6:arr.size=n.toNat:=by rw[←Array.length_toList,fj,List.length_replicate]
 have nT:=bt.alloc w (.cells arr e)
 have hle:=List.length_replicate (n:=n.toNat) (a:=AV.ae z)
 refine⟨_,_,η++[.slice (some ⟨w.heap.size,0,none⟩) n.toNat n.toNat],.inl ew,?_,?_⟩
 ·refine hr.add aq nT (fun b hb=>?_) ⟨Nat.one_pos,List.replicate n.toNat z,⟨by simp,?_⟩,fun i el hi=>?_⟩
  ·simp only[bT] at hb
   split at hb
   ·cases hb
   ·obtain rfl:=Option.some.inj hb;exact Nat.le_refl _
  ·rw[hle]
   by_cases hn:n.toNat=0
   ·exact .inl ⟨hn,.inr ⟨_,by rw[hn]⟩⟩
   ·exact .inr ⟨w.heap.size,n.toNat,arr,rfl,by omega,⟨0,Nat.le_refl _,heap_alloc_new w _⟩,Nat.le_refl _,by simp only[maxLen];omega,by omega,by rw[fj,List.take_of_length_le (by simp)]⟩
  ·obtain⟨al,rfl⟩:i<n.toNat∧el=.ae z:=by
    rw[List.getElem?_replicate] at hi
    split at hi
    ·rename_i al;exact⟨al,(Option.some.inj hi).symm⟩
    ·cases hi
   refine⟨rfl,fun j x hj=>?_⟩
   have o5:[AV.ae z][j]?=some x:=hj
   cases j with
   |zero=>
    obtain rfl:=Option.some.inj o5
    exact⟨z,by rw[List.getElem?_replicate,if_pos (by omega)],.ae z,tt⟩
   |succ j=>simp at o5
 ·refine .own _ _ _ rfl ?_
  unfold aQ
  have:(s.hp++[af.aF e 1 (List.replicate n.toNat (.ae z))])[s.hp.length]?=some (.aF e 1 (List.replicate n.toNat (.ae z))):=by simp
  rw[this]
  refine⟨Nat.le_refl _,fun _=>?_⟩
  have hlen:η.length=s.hp.length:=hr.heap.len
  rw[←hlen];simp
theorem ji (aq:Γ.Ok) {tab:Nat→Option TD} (ah:aL Γ.P tab) {o:Oper} {c:Call} (ho:o.op=.call c) (hb:c.callee=.builtin .append) {b x:Operand} (hl:c.args.toList=[b,x]) {T e:Nat} (hT:c.argTypes.toList=[T,T]) {d d':TD} (hd:tab T=some d)
  (hk:d.kind=.iu e) (cM:tab e=some d') {av:List AV} (hx:(s.ev x).fq s.hp=some av) {r:AV} {hp':List af}
  (h:(∃els,(s.ev b=.ae (.slice none 0 0)∧els=[]∨s.ev b=.clip els)∧0<d'.size∧(av=[]→els=[])∧bz d' (els.length+av.length) els av∧r=.own s.hp.length (els.length+av.length)∧hp'=s.hp++[.row e d'.size (els++av)])∨
   (∃M n els,s.ev b=.own n els.length∧s.hp[n]?=some (eu M e d'.size els)∧bz d' (els.length+av.length) [] av∧r=.own n (els.length+av.length)∧hp'=s.hp.set n (eu M e d'.size (els++av)))):eA Γ o s r hp':=by
 intro a w η hr
 have hu:Γ.P.underlying T=some (.slice e):=by
  obtain⟨u,q2,q3⟩:=(ah T d hd).iS
  rw[hk] at q3
  rw[q2];exact congrArg some q3
 have di:=iv hr.heap hr.bA (hr.ev x) hx
 have Ep:=hr.ev b
 have mh:c.argTypes=#[T,T]:=by rw[←Array.toArray_toList (xs:=c.argTypes),hT]
 have ax:c.args=#[b,x]:=by rw[←Array.toArray_toList (xs:=c.args),hl]
 have lL:∀v w',(Builtin.append_ #[T,T] o.type #[a.eval b,a.eval x]).run Γ.P w=.ok v w'→(execOp a.eval o).run Γ.P w=.ok (.value v) w':=by
  intro v w' ew
  simp only[execOp,ho,resolve,hb,Sem.run_bind,Sem.run_pure,Result.andThen_ok,invoke,builtin,mh,ax,List.map_toArray,List.map_cons,List.map_nil,ew]
 rcases h with⟨els,mg,bE,bj,ph,rfl,rfl⟩|⟨M,n,els,mg,bU,ph,rfl,rfl⟩
 ·have zt:a.eval b=.slice none 0 0∧els=[]∨aV w (aU Γ w η s.hp) η s.hp (.clip els) (a.eval b):=by
   rcases mg with⟨h1,h2⟩|h1
   ·rw[h1] at Ep;exact .inl ⟨Ep.ao,h2⟩
   ·rw[h1] at Ep;exact .inr Ep
  obtain⟨v',w',h1,h2,h3⟩:=th aq hr (ty:=o.type) hu (ah e d' cM) bE zt di ph.1 ph.2.1 bj ph.2.2.1 ph.2.2.2 (ob:=.row e d'.size (els++av)) (.inl rfl)
  refine⟨v',w',η++[v'],.inl (lL _ _ h1),h2,.own _ _ _ h3 ?_⟩
  unfold aQ
  have:(s.hp++[af.row e d'.size (els++av)])[s.hp.length]?=some (.row e d'.size (els++av)):=by simp
  rw[this]
  exact⟨by simp,fun _=>by rw[←hr.heap.len];simp⟩
 ·rw[mg] at Ep
  have qy:aQ η s.hp n els.length (a.eval b):=by cases Ep;assumption
  have pa:η[n]?=some (a.eval b):=((iy bU).1 qy).2 rfl
  obtain⟨news,hn⟩:=o8 (ty:=o.type) hu (ah e d' cM) (jS.1 (hr.heap.obj n _ _ bU pa)).1 di ph.2.1
  obtain⟨v',w',aM,h1,h2,h3,h4⟩:=tk aq hr (ah e d' cM) bU qy hn ph.2.1 ph.2.2.1 ph.2.2.2
  exact⟨v',w',aM,.inl (lL _ _ h1),h2,.own _ _ _ h3 ((iy (ai bU)).2 ⟨by simp,fun _=>h4⟩)⟩
theorem xq (aq:Γ.Ok) {tab:Nat→Option TD} (ah:aL Γ.P tab) {o:Oper} {c:Call} (ho:o.op=.call c) (hb:c.callee=.builtin .append) {b x:Operand} (hl:c.args.toList=[b,x]) {T e:Nat} (hT:c.argTypes.toList=[T,T]) {d d':TD} (hd:tab T=some d)
  (hk:d.kind=.iu e) (cM:tab e=some d') {av:List AV} (hx:(s.ev x).fq s.hp=some av) {els:List AV} (mg:s.ev b=.ae (.slice none 0 0)∧els=[]∨s.ev b=.clip els) (bE:0<d'.size) (bj:av=[]→els=[]) (ph:bz d' (els.length+av.length) els av):
  eA Γ o s (.own s.hp.length (els++av).length) (s.hp++[.aF e d'.size (els++av)]):=by
 intro a w η hr
 have hu:Γ.P.underlying T=some (.slice e):=by
  obtain⟨u,q2,q3⟩:=(ah T d hd).iS
  rw[hk] at q3
  rw[q2];exact congrArg some q3
 have di:=iv hr.heap hr.bA (hr.ev x) hx
 have Ep:=hr.ev b
 have mh:c.argTypes=#[T,T]:=by rw[←Array.toArray_toList (xs:=c.argTypes),hT]
 have ax:c.args=#[b,x]:=by rw[←Array.toArray_toList (xs:=c.args),hl]
 have lL:∀v w',(Builtin.append_ #[T,T] o.type #[a.eval b,a.eval x]).run Γ.P w=.ok v w'→(execOp a.eval o).run Γ.P w=.ok (.value v) w':=by
  intro v w' ew
  simp only[execOp,ho,resolve,hb,Sem.run_bind,Sem.run_pure,Result.andThen_ok,invoke,builtin,mh,ax,List.map_toArray,List.map_cons,List.map_nil,ew]
 have zt:a.eval b=.slice none 0 0∧els=[]∨aV w (aU Γ w η s.hp) η s.hp (.clip els) (a.eval b):=by
  rcases mg with⟨h1,h2⟩|h1
  ·rw[h1] at Ep;exact .inl ⟨Ep.ao,h2⟩
  ·rw[h1] at Ep;exact .inr Ep
 obtain⟨v',w',h1,h2,h3⟩:=th aq hr (ty:=o.type) hu (ah e d' cM) bE zt di ph.1 ph.2.1 bj ph.2.2.1 ph.2.2.2 (ob:=.aF e d'.size (els++av)) (.inr rfl)
 refine⟨v',w',η++[v'],.inl (lL _ _ h1),h2,.own _ _ _ h3 ?_⟩
 unfold aQ
 have:(s.hp++[af.aF e d'.size (els++av)])[s.hp.length]?=some (.aF e d'.size (els++av)):=by simp
 rw[this]
 exact⟨Nat.le_refl _,fun _=>by rw[←hr.heap.len];simp⟩
theorem pj (aq:Γ.Ok) {o:Oper} {T:Nat} (ho:o.op=.makeMap T none) {me:ME} (Z5:FG me=[]):eA Γ o s (.mp s.hp.length) (s.hp++[.aP me]):=by
 intro a w η hr
 have nT:=bt.alloc w (.map #[] 0)
 refine⟨.map (some w.heap.size),_,η++[.map (some w.heap.size)],.inl (by simp[execOp,ho,Instr.makeMap];rfl),?_,?_⟩
 ·exact hr.add aq nT (fun b hb=>by simp only[bT,Option.some.injEq] at hb;omega) ⟨w.heap.size,#[],0,rfl,World.alloc_heap_new w _,Z5.symm⟩
 ·exact .mp _ w.heap.size (by rw[←hr.heap.len];simp)
theorem HD {κ:Type} [DecidableEq κ] {td:TypeDesc} {kv:κ→Value} {me:List (κ×Value)→ME} (K:FP td kv me) {a:κ} {v:Value}:∀(es:List MapEntry) (l:List (κ×Value)) (i:Nat),(es.map fun e=>(e.key,e.val))=l.map (fun p=>(kv p.1,p.2))→
  (∃j u,Instr.findNow td (kv a) es i=some (some (i+j,u))∧(es[j]?).map (·.key)=some (kv a)∧((es.modify j fun e=>{ e with key:=kv a,val:=v }).map fun e=>(e.key,e.val))=(bK l a v).map (fun p=>(kv p.1,p.2)))∨
   (Instr.findNow td (kv a) es i=some none∧(bK l a v).map (fun p=>(kv p.1,p.2))=(es.map fun e=>(e.key,e.val))++[(kv a,v)]):=by
 intro es
 induction es with
 |nil=>
  intro l i h
  cases l with
  |nil=>exact .inr ⟨rfl,rfl⟩
  |cons p l=>simp at h
 |cons e es ih=>
  intro l i h
  cases l with
  |nil=>simp at h
  |cons p l=>
   obtain⟨key,u⟩:=p
   simp only[List.map_cons,List.cons.injEq,Prod.mk.injEq] at h
   obtain⟨⟨h1,h2⟩,h3⟩:=h
   simp only[Instr.findNow,h1,K.same,bK]
   by_cases PZ:a=key
   ·subst PZ
    simp only[decide_true,if_true]
    refine .inl ⟨0,e.val,rfl,by simp[h1],?_⟩
    simp only[List.modify_zero_cons,List.map_cons]
    rw[h3]
   ·simp only[if_neg PZ,decide_eq_false PZ]
    rcases ih l (i+1) h3 with⟨j,u',g1,g2,g3⟩|⟨g1,g2⟩
    ·refine .inl ⟨j+1,u',by rw[g1];congr 3;omega,by simpa using g2,?_⟩
     simp only[List.modify_succ_cons,List.map_cons,h1,h2]
     rw[g3]
    ·refine .inr ⟨g1,?_⟩
     simp only[List.map_cons,List.cons_append,h1,h2] at g2 ⊢
     rw[g2]
theorem mi {κ:Type} [DecidableEq κ] {td:TypeDesc} {kv:κ→Value} {me:List (κ×Value)→ME} (K:FP td kv me) (aq:Γ.Ok) {tab:Nat→Option TD} (ah:aL Γ.P tab) {o:Oper} {T kt et r:Nat} {m k x:Operand} (ho:o.op=.mapUpdate T m k x) {d dk:TD} (hd:tab T=some d) (j7:d.kind=.l5 kt et) (lJ:tab kt=some dk) (sI:∀u,dk.kind.fits Γ.P u→u=td)
  (hm:s.ev m=.mp r) {es:List (κ×Value)} (L0:s.hp[r]?=some (.aP (me es))) {a:κ} (hk:s.ev k=.ae (kv a)) {v:Value} (hx:s.ev x=.ae v):eA Γ o s .top (s.hp.set r (.aP (me (bK es a v)))):=by
 intro act w η hr
 have hu:Γ.P.underlying T=some (.map kt et):=by
  obtain⟨u,q2,q3⟩:=(ah T d hd).iS
  rw[j7] at q3
  rw[q2];exact congrArg some q3
 have LY:Γ.P.underlying kt=some td:=by
  obtain⟨u,q2,q3⟩:=(ah kt dk lJ).iS
  rw[q2];exact congrArg some (sI u q3)
 have Eo:=hr.ev k
 rw[hk] at Eo
 have P0:=Eo.ao
 have di:=hr.ev x
 rw[hx] at di
 have qw:=di.ao
 have LZ:=hr.ev m
 rw[hm] at LZ
 generalize Hg:act.eval m=mv at LZ
 cases LZ with
 |mp _ b dn=>
  obtain⟨b',en,c,e1,gS,tB⟩:=hr.heap.obj r _ _ L0 dn
  simp only[Value.map.injEq,Option.some.injEq] at e1
  subst e1
  have al:=aX gS
  have bO:(getObj b).run Γ.P w=.ok (.map en c) w:=by simp[getObj,Sem.run,gS]
  have nO:∀o',(setObj b o').run Γ.P w=.ok () (w.putObj b o'):=fun o'=>by simp[setObj,Sem.run,gS,World.putObj]
  have key:∀R6 c',jO R6=FG (me (bK es a v))→Rel Γ { s with hp:=s.hp.set r (.aP (me (bK es a v))) } act (w.putObj b (.map R6 c')) η:=by
   intro R6 c' hp'
   have L1:η.set r (.map (some b))=η:=by
    apply List.ext_getElem?
    intro i
    by_cases hi:r=i
    ·subst hi;rw[ai dn,dn]
    ·rw[getElem?_set_ne hi]
   have:=Rel.change (w':=w.putObj b (.map R6 c')) (o':=.aP (me (bK es a v))) (v':=.map (some b)) aq hr L0 True.intro dn
    ⟨rfl,rfl,rfl,by simp,fun q hq hb=>World.putObj_heap_other (fun e=>hb (by rw[e];rfl))⟩
    (fun q hq=>.inl hq) (fun q hq=>hq.elim) (fun _ _ _ _ hq=>hq.elim) (fun _ _ _ _ hq=>hq.elim)
    (fun n u s9=>by simp[aQ,L0] at s9) (fun _ hq=>by cases hq) (fun _ _=>rfl)
    (fun q dd hb Y7=>by simp only[bT,Option.some.injEq] at hb;subst hb;rw[gS] at Y7;cases Y7)
    (fun _=>⟨b,R6,c',rfl,World.putObj_heap_same al,hp'⟩)
   rw[L1] at this
   exact this
  have VC:∀q,Instr.findNow td (kv a) en.toList 0=some q→(Instr.findKey kt (kv a) en.toList).run Γ.P w=.ok q w:=fun q hq=>by
   simp only[Instr.findKey,Sem.run_bind,run_underlying LY,Result.andThen_ok,hq,Sem.run_pure]
  rcases HD K (a:=a) (v:=v) en.toList es 0 (tB.trans (K.me es)) with⟨j,u,g1,g2,g3⟩|⟨g1,g2⟩
  ·rw[Nat.zero_add] at g1
   have hj:(en[j]?).map (·.key)=some (kv a):=by simpa using g2
   have Wg:(Instr.keyThatStays (((en[j]?).map (·.key)).getD (kv a)) (kv a)).run Γ.P w=.ok (kv a) w:=by
    rw[hj]
    simp[Instr.keyThatStays,K.bits]
   refine⟨undef,_,η,.inr ⟨?_,rfl⟩,key (en.modify j fun e=>{ e with key:=kv a,val:=v }) c ?_,.top _⟩
   ·simp only[execOp,ho,Hg,P0,qw,Instr.mapUpdate,Sem.run_bind,run_underlying hu,Result.andThen_ok,bO,K.check _ _ _ _ _ LY,VC _ g1,Wg,nO,Sem.run_pure]
   ·unfold jO;rw[Array.toList_modify,K.me];exact g3
  ·refine⟨undef,_,η,.inr ⟨?_,rfl⟩,key (en.push { key:=kv a,val:=v,born:=c }) (c+1) ?_,.top _⟩
   ·simp only[execOp,ho,Hg,P0,qw,Instr.mapUpdate,Sem.run_bind,run_underlying hu,Result.andThen_ok,bO,K.check _ _ _ _ _ LY,VC _ g1,nO,Sem.run_pure]
   ·unfold jO;rw[K.me,g2];simp
theorem fY (aq:Γ.Ok) {tab:Nat→Option TD} (ah:aL Γ.P tab) {o:Oper} {c:Prop} {r:AV} {hp':List af} (h:cO tab s.hp s.ev o.op=some (c,r,hp')) (hc:c):eA Γ o s r hp':=by
 generalize ho:o.op=op at h
 cases op with
 |alloc T=>
  simp only[cO] at h
  split at h
  ·rename_i d hd
   simp only[Option.some.injEq,Prod.mk.injEq] at h
   obtain⟨_,rfl,rfl⟩:=h
   exact CB aq ah ho hd
  ·cases h
 |box T x=>
  simp only[cO] at h
  split at h
  ·rename_i hs
   simp only[Option.some.injEq,Prod.mk.injEq] at h
   obtain⟨_,rfl,rfl⟩:=h
   exact HC aq ho hs
  ·cases h
 |store T p x=>
  simp only[cO] at h
  split at h
  ·rename_i d r' off hd hp
   split at h
   ·rename_i cs eS
    split at h
    ·rename_i hs
     simp only[Option.some.injEq,Prod.mk.injEq] at h
     obtain⟨rfl,rfl,rfl⟩:=h
     exact CC aq ah ho hd hp eS hs hc.1 hc.2
    ·cases h
   ·cases h
  ·rename_i d r' m i z hd hp
   split at h
   ·rename_i e size els eS
    split at h
    ·rename_i hs
     obtain⟨hs,rfl⟩:=hs
     split at h
     ·rename_i zm
      simp only[Option.some.injEq,Prod.mk.injEq] at h
      obtain⟨rfl,rfl,rfl⟩:=h
      exact zy aq ah ho hd hp eS hs hc.1 hc.2.1 zm hc.2.2
     ·simp only[Option.some.injEq,Prod.mk.injEq] at h
      obtain⟨rfl,rfl,rfl⟩:=h
      exact zz aq ah ho hd hp eS hs hc.1 hc.2.2.1 hc.2.1 hc.2.2.2
    ·cases h
   ·cases h
  ·cases h
 |makeSlice T l c'=>
  simp only[cO] at h
  split at h
  ·rename_i d hd
   split at h
   ·rename_i e hk
    split at h
    ·rename_i PY
     obtain rfl:=CA PY
     split at h
     ·rename_i d' k n cM zA
      split at h
      ·rename_i z hz
       simp only[Option.some.injEq,Prod.mk.injEq] at h
       obtain⟨rfl,rfl,rfl⟩:=h
       exact CD aq ah ho hd hk cM zA zA hc.1 hc.2.1 hc.2.2 hz
      ·cases h
     ·cases h
    split at h
    ·rename_i d' k k' n cM hl zA
     simp only[Option.some.injEq,Prod.mk.injEq] at h
     obtain⟨rfl,rfl,rfl⟩:=h
     exact tC aq ah ho hd hk cM hl zA hc.1 hc.2.1 hc.2.2.1 hc.2.2.2
    ·cases h
   ·cases h
  ·cases h
 |makeMap T r'=>
  cases r' with
  |some r'=>simp[cO] at h
  |none=>
   simp only[cO] at h
   split at h
   ·split at h
    ·split at h
     ·split at h
      ·simp only[Option.some.injEq,Prod.mk.injEq] at h
       obtain⟨_,rfl,rfl⟩:=h
       exact pj aq ho rfl
      ·simp only[Option.some.injEq,Prod.mk.injEq] at h
       obtain⟨_,rfl,rfl⟩:=h
       exact pj aq ho rfl
     ·cases h
    ·cases h
   ·cases h
 |mapUpdate T m k x=>
  simp only[cO] at h
  split at h
  ·rename_i d r' a v hd hm hk hx
   split at h
   ·rename_i kt et es j7 L0
    split at h
    ·rename_i dk lJ
     split at h
     ·rename_i ik sI
      simp only[Option.some.injEq,Prod.mk.injEq] at h
      obtain⟨_,rfl,rfl⟩:=h
      exact mi (R3 ik) aq ah ho hd j7 lJ (fun u hu=>by rw[sI] at hu;exact hu) hm L0 hk hx
     ·cases h
    ·cases h
   ·cases h
  ·rename_i d r' a v hd hm hk hx
   split at h
   ·rename_i kt et es j7 L0
    split at h
    ·rename_i dk lJ
     split at h
     ·rename_i sI
      simp only[Option.some.injEq,Prod.mk.injEq] at h
      obtain⟨_,rfl,rfl⟩:=h
      exact mi R4 aq ah ho hd j7 lJ (fun u hu=>by rw[sI] at hu;exact hu) hm L0 hk hx
     ·cases h
    ·cases h
   ·cases h
  ·cases h
 |call cl=>
  simp only[cO] at h
  split at h
  ·rename_i b x T T' hb hl hT
   split at h
   ·rename_i RH
    subst RH
    split at h
    ·rename_i d hd
     split at h
     ·rename_i e hk
      split at h
      ·rename_i d' av cM hx
       split at h
       ·rename_i mg
        simp only[Option.some.injEq,Prod.mk.injEq] at h
        obtain⟨rfl,rfl,rfl⟩:=h
        exact ji aq ah ho hb hl hT hd hk cM hx (.inl ⟨[],.inl ⟨mg,rfl⟩,hc.1,fun _=>rfl,by simpa using hc.2,by simp,by simp⟩)
       ·rename_i els mg
        simp only[Option.some.injEq,Prod.mk.injEq] at h
        obtain⟨rfl,rfl,rfl⟩:=h
        exact ji aq ah ho hb hl hT hd hk cM hx (.inl ⟨els,.inr mg,hc.1,hc.2.1,hc.2.2,rfl,rfl⟩)
       ·rename_i n m mg
        split at h
        ·rename_i e' size els bU
         split at h
         ·rename_i jX
          obtain⟨rfl,rfl,rfl⟩:=jX
          simp only[Option.some.injEq,Prod.mk.injEq] at h
          obtain⟨rfl,rfl,rfl⟩:=h
          exact ji aq ah ho hb hl hT hd hk cM hx (.inr ⟨false,n,els,mg,bU,hc,rfl,rfl⟩)
         ·cases h
        ·rename_i e' size els bU
         split at h
         ·rename_i jX
          obtain⟨rfl,rfl,rfl⟩:=jX
          simp only[Option.some.injEq,Prod.mk.injEq] at h
          obtain⟨rfl,rfl,rfl⟩:=h
          exact ji aq ah ho hb hl hT hd hk cM hx (.inr ⟨true,n,els,mg,bU,hc,rfl,rfl⟩)
         ·cases h
        ·cases h
       ·cases h
      ·cases h
     ·cases h
    ·cases h
   ·cases h
  ·cases h
 |_=>simp[cO] at h
end
end Go.Proofs.YtdcikhleahfknaaGreatDoor
