/- Texts of ours laid together for a claim: FilA FilB FilC FilD FilE FilF FilG FilH FilI FilJ FilK FilL FilM. -/
import Derived.WalkKit
import Derived.CallsIn
import Derived.RangeFuncRecord
import Derived.Laws.AppendOwn
import Derived.Lib.AppendStr
import Derived.ArgAppend
namespace Go.Proofs.YtdcikhleahfknaaGreatDoor
open Go
set_option linter.unusedSimpArgs false
set_option linter.unusedVariables false
section
inductive ME where
 |i (l:List (Int×Value))
 |s (l:List (ByteArray×Value))
def tV:TypeId:=200
inductive AV where
 |top
 |ae (v:Value)
 |fn (v:Value)
 |sl (els:List AV)
 |clip (els:List AV)
 |own (r n:Nat)
 |ptr (r off:Nat)
 |aL (e:AV) (off:Nat)
 |agg (cs:List AV)
 |aX (vs:List AV)
 |aK (f:Nat) (caps:List AV)
 |mp (r:Nat)
 |ea (es:ME)
 |eH (r n i size:Nat)
 |cK (f:Nat) (first:List AV)
instance:Inhabited AV:=⟨.top⟩
def AV.cells:AV→List AV
 | .agg cs=>cs
 |v=>[v]
inductive af where
 |dead
 |box (cs:List AV)
 |row (e size:Nat) (els:List AV)
 |aB (es:ME)
 |cA (r n:Nat)
 |aI (e size:Nat) (els:List AV)
 |dB (e m:Nat) (ns:List Int)
def af.live:af→Prop
 | .dead=>False
 |_=>True
def bU:Value→Option Nat
 | .pointer (some a)=>some a.block
 | .slice (some a) _ c=>if c=0 then none else some a.block
 | .map (some b)=>some b
 |_=>none
def aT (η:List Value) (hp:List af) (r n:Nat) (v:Value):Prop:=
 match hp[r]? with
 |some (.row _ _ els)=>n≤els.length∧(n=els.length→η[r]?=some v)
 |some (.aI _ _ els)=>n≤els.length∧(n=els.length→η[r]?=some v)
 |some (.dB _ m _)=>n≤m∧(n=m→η[r]?=some v)
 |some .dead=>True
 |_=>False
def kl (es:Array MapEntry):List (Value×Value):=es.toList.map fun e=>(e.key,e.val)
def GZ:ME→List (Value×Value)
 | .i l=>l.map fun p=>(.int .i64 p.1,p.2)
 | .s l=>l.map fun p=>(.string p.1,p.2)
inductive aY (w:World) (F:Nat→Nat→Prop):List Value→List af→AV→Value→Prop
 |top {η:List Value} {hp:List af} (v:Value):aY w F η hp .top v
 |ae {η:List Value} {hp:List af} (v:Value):aY w F η hp (.ae v) v
 |fn {η:List Value} {hp:List af} (v:Value) (h1:v.oneCell'=true):aY w F η hp (.fn v) v
 |ki {η:List Value} {hp:List af} (a:Option Addr):aY w F η hp (.sl []) (.slice a 0 0)
 |iB {η:List Value} {hp:List af} (a:Option Addr):aY w F η hp (.clip []) (.slice a 0 0)
 |sl {η:List Value} {hp:List af} (size:Nat) (els:List AV) (b o c:Nat) (f:Nat→Nat→Value) (hc:els.length≤c) (hm:c≤maxLen)
   (hl:∀(i:Nat) (e:AV),els[i]?=some e→e.cells.length=size)
   (ay:∀(i:Nat) (e:AV) (j:Nat) (x:AV),els[i]?=some e→e.cells[j]?=some x→w.cell? ⟨b,o+i*size+j,none⟩=some (f i j)∧F b (o+i*size+j)∧(f i j).oneCell'=true)
   (hr:∀(i:Nat) (e:AV) (j:Nat) (x:AV),els[i]?=some e→e.cells[j]?=some x→aY w F [] [] x (f i j)):
   aY w F η hp (.sl els) (.slice (some ⟨b,o,none⟩) els.length c)
 |clip {η:List Value} {hp:List af} (size:Nat) (els:List AV) (b o:Nat) (f:Nat→Nat→Value) (hm:els.length≤maxLen)
   (hl:∀(i:Nat) (e:AV),els[i]?=some e→e.cells.length=size)
   (ay:∀(i:Nat) (e:AV) (j:Nat) (x:AV),els[i]?=some e→e.cells[j]?=some x→w.cell? ⟨b,o+i*size+j,none⟩=some (f i j)∧F b (o+i*size+j)∧(f i j).oneCell'=true)
   (hr:∀(i:Nat) (e:AV) (j:Nat) (x:AV),els[i]?=some e→e.cells[j]?=some x→aY w F [] [] x (f i j)):
   aY w F η hp (.clip els) (.slice (some ⟨b,o,none⟩) els.length els.length)
 |own {η:List Value} {hp:List af} (r n:Nat) (v:Value) (h1:v.oneCell'=true) (h:aT η hp r n v):aY w F η hp (.own r n) v
 |ptr {η:List Value} {hp:List af} (r off b:Nat) (h:η[r]?=some (.pointer (some ⟨b,0,none⟩))):aY w F η hp (.ptr r off) (.pointer (some ⟨b,off,none⟩))
 |aL {η:List Value} {hp:List af} (e:AV) (off b o:Nat) (f:Nat→Value)
   (ay:∀(j:Nat) (x:AV),e.cells[j]?=some x→w.cell? ⟨b,o+j,none⟩=some (f j)∧F b (o+j)∧(f j).oneCell'=true)
   (hr:∀(j:Nat) (x:AV),e.cells[j]?=some x→aY w F [] [] x (f j)):
   aY w F η hp (.aL e off) (.pointer (some ⟨b,o+off,none⟩))
 |agg {η:List Value} {hp:List af} (cs:List AV) (vs:Array Value) (hl:vs.size=cs.length) (h1:∀v:Value,v∈vs→v.oneCell'=true)
   (hr:∀(j:Nat) (x:AV) (v:Value),cs[j]?=some x→vs[j]?=some v→aY w F η hp x v):aY w F η hp (.agg cs) (.agg vs)
 |aX {η:List Value} {hp:List af} (cs:List AV) (vs:Array Value) (hl:vs.size=cs.length)
   (hr:∀(j:Nat) (x:AV) (v:Value),cs[j]?=some x→vs[j]?=some v→aY w F η hp x v):aY w F η hp (.aX cs) (.tuple vs)
 |aK {η:List Value} {hp:List af} (fn:Nat) (cs:List AV) (vs:Array Value) (hl:vs.size=cs.length)
   (hr:∀(j:Nat) (x:AV) (v:Value),cs[j]?=some x→vs[j]?=some v→aY w F η hp x v):aY w F η hp (.aK fn cs) (.func (.func fn) #[] vs)
 |mp {η:List Value} {hp:List af} (r b:Nat) (h:η[r]?=some (.map (some b))):aY w F η hp (.mp r) (.map (some b))
 |ea {η:List Value} {hp:List af} (b:Nat) (es:Array MapEntry) (c:Nat) (h:w.heap[b]?=some (.map es c)) (hF:F b 0) (l:ME) (hl:kl es=GZ l):aY w F η hp (.ea l) (.map (some b))
 |eH {η:List Value} {hp:List af} (r n i size b o c k:Nat) (h:aT η hp r n (.slice (some ⟨b,o,none⟩) k c)):aY w F η hp (.eH r n i size) (.pointer (some ⟨b,o+i*size,none⟩))
 |cK {η:List Value} {hp:List af} (fn:Nat) (cs:List AV) (vs:Array Value) (hl:vs.size=cs.length)
   (hr:∀(j:Nat) (x:AV) (v:Value),cs[j]?=some x→vs[j]?=some v→aY w F η hp x v):aY w F η hp (.cK fn cs) (.func (.func fn) vs #[])
structure IY (w:World) (F:Nat→Nat→Prop) (w':World) (F':Nat→Nat→Prop):Prop where
 cell:∀b o v,F b o→w.cell? ⟨b,o,none⟩=some v→w'.cell? ⟨b,o,none⟩=some v
 gp:∀b es c,F b 0→w.heap[b]?=some (.map es c)→w'.heap[b]?=some (.map es c)
 bb:∀b o,F b o→F' b o
structure Ext (w:World) (F:Nat→Nat→Prop) (η:List Value) (hp:List af) (w':World) (F':Nat→Nat→Prop) (aH:List Value) (hp':List af):Prop where
 cell:∀b o v,F b o→w.cell? ⟨b,o,none⟩=some v→w'.cell? ⟨b,o,none⟩=some v
 gp:∀b es c,F b 0→w.heap[b]?=some (.map es c)→w'.heap[b]?=some (.map es c)
 bb:∀b o,F b o→F' b o
 ptr:∀(r:Nat) a,η[r]?=some (.pointer a)→aH[r]?=some (.pointer a)
 mp:∀(r:Nat) a,η[r]?=some (.map a)→aH[r]?=some (.map a)
 own:∀r n v,aT η hp r n v→aT aH hp' r n v
variable {w w':World} {F F':Nat→Nat→Prop} {η aH:List Value} {hp hp':List af}
theorem IY.ext (h:IY w F w' F'):Ext w F [] [] w' F' [] []:=
 ⟨h.cell,h.gp,h.bb,fun _ _ h=>h,fun _ _ h=>h,fun _ _ _ h=>h⟩
theorem Ext.ko (h:Ext w F η hp w' F' aH hp'):IY w F w' F':=⟨h.cell,h.gp,h.bb⟩
theorem aY.ext (h:Ext w F η hp w' F' aH hp') {x:AV} {v:Value} (hx:aY w F η hp x v):aY w' F' aH hp' x v:=by
 induction hx generalizing aH hp' with
 |top v=>exact .top v
 |ae v=>exact .ae v
 |fn v h1=>exact .fn v h1
 |ki a=>exact .ki a
 |iB a=>exact .iB a
 |sl size els b o c f hc hm hl ay _ ih=>
  exact .sl size els b o c f hc hm hl (fun i e j x hi hj=>let ⟨h1,h2,h3⟩:=ay i e j x hi hj;⟨h.cell _ _ _ h2 h1,h.bb _ _ h2,h3⟩) fun i e j x hi hj=>ih i e j x hi hj h.ko.ext
 |clip size els b o f hm hl ay _ ih=>
  exact .clip size els b o f hm hl (fun i e j x hi hj=>let ⟨h1,h2,h3⟩:=ay i e j x hi hj;⟨h.cell _ _ _ h2 h1,h.bb _ _ h2,h3⟩) fun i e j x hi hj=>ih i e j x hi hj h.ko.ext
 |own r n v h1 h2=>exact .own r n v h1 (h.own _ _ _ h2)
 |ptr r off b h1=>exact .ptr r off b (h.ptr _ _ h1)
 |aL e off b o f ay _ ih=>
  exact .aL e off b o f (fun j x hj=>let ⟨h1,h2,h3⟩:=ay j x hj;⟨h.cell _ _ _ h2 h1,h.bb _ _ h2,h3⟩) fun j x hj=>ih j x hj h.ko.ext
 |agg cs vs hl h1 _ ih=>exact .agg cs vs hl h1 fun j x v h1 h2=>ih j x v h1 h2 h
 |aX cs vs hl _ ih=>exact .aX cs vs hl fun j x v h1 h2=>ih j x v h1 h2 h
 |aK fn cs vs hl _ ih=>exact .aK fn cs vs hl fun j x v h1 h2=>ih j x v h1 h2 h
 |mp r b h1=>exact .mp r b (h.mp _ _ h1)
 |ea b es c h1 h2 l hl=>exact .ea b es c (h.gp _ _ _ h2 h1) (h.bb _ _ h2) l hl
 |eH r n i size b o c k h1=>exact .eH r n i size b o c k (h.own _ _ _ h1)
 |cK fn cs vs hl _ ih=>exact .cK fn cs vs hl fun j x v h1 h2=>ih j x v h1 h2 h
theorem aY.lift {x:AV} {v:Value} (hx:aY w F [] [] x v):aY w F η hp x v:=
 hx.ext ⟨fun _ _ _ _ h=>h,fun _ _ _ _ h=>h,fun _ _ h=>h,fun _ _ h=>by simp at h,fun _ _ h=>by simp at h,fun _ _ _ h=>by simp[aT] at h⟩
theorem Ext.trans {w1 w2 w3:World} {F1 F2 F3:Nat→Nat→Prop} {iU kq IE:List Value} {h1 h2 h3:List af} (h:Ext w1 F1 iU h1 w2 F2 kq h2) (k:Ext w2 F2 kq h2 w3 F3 IE h3):Ext w1 F1 iU h1 w3 F3 IE h3:=
 ⟨fun b o v hf hc=>k.cell b o v (h.bb _ _ hf) (h.cell b o v hf hc),fun b es c hf hc=>k.gp b es c (h.bb _ _ hf) (h.gp b es c hf hc),fun b o hf=>k.bb _ _ (h.bb _ _ hf),
  fun r a hr=>k.ptr r a (h.ptr r a hr),fun r a hr=>k.mp r a (h.mp r a hr),fun r n v ho=>k.own r n v (h.own r n v ho)⟩
def AV.IZ:AV→Bool
 | .ae v=>v.oneCell'
 | .top | .agg _ | .aX _=>false
 |_=>true
def bM (w:World) (F:Nat→Nat→Prop) (η:List Value) (hp:List af):List AV→List Value→Prop
 | [],[]=>True
 |x::xs,v::vs=>aY w F η hp x v∧bM w F η hp xs vs
 |_,_=>False
theorem bM.length {xs:List AV} {vs:List Value} (h:bM w F η hp xs vs):vs.length=xs.length:=by
 induction xs generalizing vs with
 |nil=>cases vs<;>simp_all [bM]
 |cons x xs ih=>cases vs with
  |nil=>simp[bM] at h
  |cons v vs=>simp only[List.length_cons];rw[ih h.2]
theorem bM.get {xs:List AV} {vs:List Value} (h:bM w F η hp xs vs):∀(j:Nat) (x:AV) (v:Value),xs[j]?=some x→vs[j]?=some v→aY w F η hp x v:=by
 induction xs generalizing vs with
 |nil=>intro j x v hx;simp at hx
 |cons x xs ih=>cases vs with
  |nil=>simp[bM] at h
  |cons v vs=>
   intro j y u hy hu
   cases j with
   |zero=>simp at hy hu;subst hy;subst hu;exact h.1
   |succ j=>exact ih h.2 j y u (by simpa using hy) (by simpa using hu)
theorem cf {xs:List AV} {vs:List Value} (hl:vs.length=xs.length) (h:∀(j:Nat) (x:AV) (v:Value),xs[j]?=some x→vs[j]?=some v→aY w F η hp x v):bM w F η hp xs vs:=by
 induction xs generalizing vs with
 |nil=>cases vs with
  |nil=>exact True.intro
  |cons v vs=>simp at hl
 |cons x xs ih=>cases vs with
  |nil=>simp at hl
  |cons v vs=>
   exact⟨h 0 x v rfl rfl,ih (by simpa using hl) fun j y u hy hu=>h (j+1) y u (by simpa using hy) (by simpa using hu)⟩
theorem bM.ext (h:Ext w F η hp w' F' aH hp') {xs:List AV} {vs:List Value} (hx:bM w F η hp xs vs):bM w' F' aH hp' xs vs:=
 cf hx.length fun j x v h1 h2=>(hx.get j x v h1 h2).ext h
def Aq:List (Nat×List Value):=[(0,(List.range 20).map fun i=>.int .u64 ((10 ^ i:Nat):Int))]
def ly (b:Nat):Prop:=∃p,p∈Aq∧p.1=b
def mH (w:World):Prop:=∀p,p∈Aq→∃T,w.heap[p.1]?=some (.cells p.2.toArray T (0,0))
structure bu (w w':World):Prop where
 os:w'.os=w.os
 tape:w'.tape=w.tape
 output:w'.output=w.output
 size:w.heap.size≤w'.heap.size
 block:∀k,k<w.heap.size→w'.heap[k]?=w.heap[k]?
structure bo (X:Nat→Prop) (w w':World):Prop where
 os:w'.os=w.os
 tape:w'.tape=w.tape
 output:w'.output=w.output
 size:w.heap.size≤w'.heap.size
 block:∀k,k<w.heap.size→¬X k→w'.heap[k]?=w.heap[k]?
theorem aY.nO {els:List AV} {v:Value} (h:aY w F η hp (.clip els) v):aY w F η hp (.sl els) v:=by
 cases h with
 |iB a=>exact .ki a
 |clip size els b o f hm hl ay hr=>exact .sl size els b o _ f (Nat.le_refl _) hm hl ay hr
def jG (w:World) (e:TypeId) (size:Nat) (v:Value) (n:Nat) (xs:List Value) (k:Nat):Prop:=
 xs.length=n*size∧((n=0∧(v=.slice none 0 0∨∃ad:Addr,v=.slice (some ad) 0 0))∨
  ∃g cap cur,v=.slice (some ⟨g,0,none⟩) n cap∧0<cap∧(∃hi,hi≤k∧w.heap[g]?=some (.cells cur e (0,hi)))∧n≤cap∧cap≤maxLen∧cur.size=cap*size∧cur.toList.take (n*size)=xs)
theorem bd {a:Addr} {n c:Nat} (h:0<c):bU (.slice (some a) n c)=some a.block:=by simp[bU];omega
theorem jG.lt {w:World} {e size n k:Nat} {v:Value} {xs:List Value} (h:jG w e size v n xs k) {b:Nat} (hb:bU v=some b):∃cz:Array Value×Nat,w.heap[b]?=some (.cells cz.1 e (0,cz.2)):=by
 rcases h.2 with⟨_,rfl|⟨ad,rfl⟩⟩|⟨g,cap,cur,rfl,h0,⟨hi,_,h1⟩,_⟩
 ·simp[bU] at hb
 ·simp[bU] at hb
 ·rw[bd h0] at hb;obtain rfl:=Option.some.inj hb;exact⟨(cur,hi),h1⟩
theorem jG.keep {w w':World} {e size n k:Nat} {v:Value} {xs:List Value} (h:jG w e size v n xs k) (hb:∀b,bU v=some b→b<w.heap.size→w'.heap[b]?=w.heap[b]?):jG w' e size v n xs k:=by
 refine⟨h.1,?_⟩
 rcases h.2 with h1|⟨g,cap,cur,rfl,h0,⟨hi,hk,h1⟩,h2⟩
 ·exact .inl h1
 ·exact .inr ⟨g,cap,cur,rfl,h0,⟨hi,hk,by rw[hb g (bd h0) (Array.getElem?_eq_some_iff.1 h1).1];exact h1⟩,h2⟩
theorem jG.more {w:World} {e size n k k':Nat} {v:Value} {xs:List Value} (h:jG w e size v n xs k) (hk:k≤k'):jG w e size v n xs k':=
 ⟨h.1,h.2.imp id fun⟨g,cap,cur,h1,h2,⟨hi,h3,h4⟩,h5⟩=>⟨g,cap,cur,h1,h2,⟨hi,Nat.le_trans h3 hk,h4⟩,h5⟩⟩
def eA (w:World) (e:TypeId) (v:Value) (ns:List Int):Prop:=
 (ns=[]∧∃ad,v=.slice ad 0 0)∨
  ∃g o cap cur,v=.slice (some ⟨g,o,none⟩) ns.length cap∧0<cap∧w.heap[g]?=some (.cells cur e (0,0))∧ns.length≤cap∧cap≤maxLen∧o+cap≤cur.size∧
   ∀(i:Nat) (n:Int),ns[i]?=some n→cur[o+i]?=some (.int .i64 n)
theorem eA.lt {w:World} {e:Nat} {v:Value} {ns:List Int} (h:eA w e v ns) {b:Nat} (hb:bU v=some b):∃cur,w.heap[b]?=some (.cells cur e (0,0)):=by
 rcases h with⟨_,ad,rfl⟩|⟨g,o,cap,cur,rfl,h0,h1,_⟩
 ·cases ad<;>simp[bU] at hb
 ·rw[bd h0] at hb;obtain rfl:=Option.some.inj hb;exact⟨cur,h1⟩
theorem eA.keep {w w':World} {e:Nat} {v:Value} {ns:List Int} (h:eA w e v ns) (hb:∀b,bU v=some b→b<w.heap.size→w'.heap[b]?=w.heap[b]?):eA w' e v ns:=by
 rcases h with h1|⟨g,o,cap,cur,rfl,h0,h1,h2⟩
 ·exact .inl h1
 ·exact .inr ⟨g,o,cap,cur,rfl,h0,by rw[hb g (bd h0) (Array.getElem?_eq_some_iff.1 h1).1];exact h1,h2⟩
theorem bu.refl (w:World):bu w w:=⟨rfl,rfl,rfl,Nat.le_refl _,fun _ _=>rfl⟩
theorem bu.trans {a b c:World} (h:bu a b) (k:bu b c):bu a c:=
 ⟨k.os.trans h.os,k.tape.trans h.tape,k.output.trans h.output,Nat.le_trans h.size k.size,fun i hi=>(k.block i (Nat.lt_of_lt_of_le hi h.size)).trans (h.block i hi)⟩
theorem bu.alloc (w:World) (o:Obj):bu w (w.alloc o):=⟨rfl,rfl,rfl,by simp,fun k hk=>heap_alloc_old w o hk⟩
theorem bu.drew (w:World):bu w w.drew:=⟨rfl,rfl,rfl,Nat.le_refl _,fun _ _=>rfl⟩
theorem bu.keeps {w w':World} (X:Nat→Prop) (h:bu w w'):bo X w w':=⟨h.os,h.tape,h.output,h.size,fun k hk _=>h.block k hk⟩
theorem bo.same {w w':World} {X:Nat→Prop} (h:bo X w w') (hX:∀b,b<w.heap.size→¬X b):bu w w':=⟨h.os,h.tape,h.output,h.size,fun k hk=>h.block k hk (hX k hk)⟩
theorem bo.refl (X:Nat→Prop) (w:World):bo X w w:=⟨rfl,rfl,rfl,Nat.le_refl _,fun _ _ _=>rfl⟩
theorem bo.trans {X Z:Nat→Prop} {a b c:World} (h:bo X a b) (k:bo Z b c) (hZ:∀i,i<a.heap.size→Z i→X i):bo X a c:=
 ⟨k.os.trans h.os,k.tape.trans h.tape,k.output.trans h.output,Nat.le_trans h.size k.size,
  fun i hi hx=>(k.block i (Nat.lt_of_lt_of_le hi h.size) (fun hz=>hx (hZ i hi hz))).trans (h.block i hi hx)⟩
theorem bo.cell {X:Nat→Prop} {w w':World} (h:bo X w w') {b o:Nat} (hb:b<w.heap.size) (hx:¬X b):w'.cell? ⟨b,o,none⟩=w.cell? ⟨b,o,none⟩:=by
 simp[World.cell?,h.block b hb hx]
theorem mH.lt {w:World} (h:mH w) {b:Nat} (hb:ly b):b<w.heap.size:=by
 obtain⟨p,hp,rfl⟩:=hb
 obtain⟨T,h1⟩:=h p hp
 exact(Array.getElem?_eq_some_iff.1 h1).1
theorem mH.keeps {X:Nat→Prop} {w w':World} (h:mH w) (k:bo X w w') (hx:∀b,ly b→¬X b):mH w':=fun p hp=>by
 obtain⟨T,h1⟩:=h p hp
 exact⟨T,by rw[k.block p.1 (h.lt ⟨p,hp,rfl⟩) (hx p.1 ⟨p,hp,rfl⟩)];exact h1⟩
theorem mH.same {w w':World} (h:mH w) (k:bu w w'):mH w':=h.keeps (k.keeps fun _=>False) fun _ _=>not_false
theorem ba {w:World} {b:Nat} {o:Obj} (h:w.heap[b]?=some o):b<w.heap.size:=(Array.getElem?_eq_some_iff.1 h).1
end
section
structure Env (G:Type) where
 P:Program
 w0:World
 F0:Nat→Nat→Prop
 X:Nat→Prop
 Y:Nat→Prop
 Inv:G→World→Prop
 nt:Nat
 wP:Option Nat
 m0:Nat→Prop
 Z:Nat→Nat→Prop
 vZ:List Value
 iV:List af
def Env.No {G:Type} (Γ:Env G) (b o:Nat):Prop:=Γ.X b∨Γ.Z b o
structure Env.Ok {G:Type} (Γ:Env G):Prop where
 l0:Γ.vZ.length=Γ.iV.length
 x:∀b,Γ.X b→b<Γ.w0.heap.size
 y:∀b,Γ.Y b→b<Γ.w0.heap.size
 mJ:∀g w w',(∀b,Γ.X b→w'.heap[b]?=w.heap[b]?)→w.heap.size≤w'.heap.size→Γ.Inv g w→Γ.Inv g w'
 z:∀b o,Γ.Z b o→b<Γ.w0.heap.size
 gz:mH Γ.w0
 gx:∀b,ly b→¬(Γ.X b∨Γ.Y b)
def Env.Ar {G:Type} (Γ:Env G):Prop:=Γ.wP=none∧∀r,Γ.w0.heap.size≤r→Γ.m0 r
theorem Env.Ok.no {G:Type} {Γ:Env G} (h:Γ.Ok) {b o:Nat} (hb:Γ.No b o):b<Γ.w0.heap.size:=hb.elim (h.x b) (h.z b o)
structure AS (G:Type) where
 tmps:Nat→AV
 hp:List af
 g:G
def gO (η:List Value) (hp:List af) (b o:Nat):Prop:=
 ∀(r:Nat) (v:Value),η[r]?=some v→bU v=some b→
  match hp[r]? with
  |some (.row _ size els)=>o<els.length*size
  |some .dead=>True
  |_=>False
def aW {G:Type} (Γ:Env G) (w:World) (η:List Value) (hp:List af) (b o:Nat):Prop:=
 (Γ.F0 b o∨Γ.w0.heap.size≤b∨Γ.Y b)∧b<w.heap.size∧¬Γ.No b o∧gO η hp b o
def fL (w:World) (F:Nat→Nat→Prop) (η:List Value) (hp:List af):af→Value→Prop
 | .dead,_=>True
 | .box cs,v=>∃(b:Nat) (vs:Array Value) (T:TypeId),v=.pointer (some ⟨b,0,none⟩)∧w.heap[b]?=some (.cells vs T (0,0))∧vs.size=cs.length∧
   ∀(j:Nat) (x:AV) (u:Value),cs[j]?=some x→vs[j]?=some u→aY w F η hp x u∧u.oneCell'=true
 | .row e size els,v=>0<size∧∃xs:List Value,jG w e size v els.length xs (els.length*size)∧
   ∀(i:Nat) (el:AV),els[i]?=some el→el.cells.length=size∧
    ∀(j:Nat) (x:AV),el.cells[j]?=some x→∃u,xs[i*size+j]?=some u∧aY w F [] [] x u∧u.oneCell'=true
 | .cA r n,v=>∃(b:Nat) (vs:Array Value),v=.pointer (some ⟨b,0,none⟩)∧w.heap[b]?=some (.cells vs tV (0,0))∧(vs.size=2∧(n=0→vs[1]?=some (.slice none 0 0)))∧(vs[0]?=some (.pointer none)∨vs[0]?=some v)∧∃u,vs[1]?=some u∧aY w F η hp (.own r n) u
 | .aB es,v=>∃(b:Nat) (en:Array MapEntry) (c:Nat),v=.map (some b)∧w.heap[b]?=some (.map en c)∧kl en=GZ es
 | .aI e size els,v=>0<size∧∃xs:List Value,jG w e size v els.length xs 0∧
   ∀(i:Nat) (el:AV),els[i]?=some el→el.cells.length=size∧
    ∀(j:Nat) (x:AV),el.cells[j]?=some x→∃u,xs[i*size+j]?=some u∧aY w F [] [] x u∧u.oneCell'=true
 | .dB e _ ns,v=>eA w e v ns
structure cX (w:World) (F:Nat→Nat→Prop) (η:List Value) (hp:List af):Prop where
 len:η.length=hp.length
 obj:∀(r:Nat) (o:af) (v:Value),hp[r]?=some o→η[r]?=some v→fL w F η hp o v
 sep:∀(r r':Nat) (o o':af) (v v':Value) (b:Nat),r≠r'→hp[r]?=some o→hp[r']?=some o'→o.live→o'.live→
  η[r]?=some v→η[r']?=some v'→bU v=some b→bU v'≠some b
def sU {G:Type} (Γ:Env G) (η:List Value) (hp:List af):Prop:=
 ∀(r:Nat) (o:af) (v:Value) (b:Nat),hp[r]?=some o→o.live→η[r]?=some v→bU v=some b→(Γ.w0.heap.size≤b∨Γ.Y b)∧∀o,¬Γ.No b o
structure Marks (N:Nat→Prop) (ds:List Deferred) (w:World):Prop where
 all:∀d,d∈ds→∃r,d.target=.collected r∧w.heap[r]?=some (.deferred (some []))∧N r
 apart:ds.Pairwise fun d d'=>d.target≠d'.target
structure Rel {G:Type} (Γ:Env G) (s:AS G) (a:Act) (w:World) (η:List Value):Prop where
 nt:a.tmps.size=Γ.nt
 tmps:∀t,aY w (aW Γ w η s.hp) η s.hp (s.tmps t) (a.tmps.getD t undef)
 heap:cX w (aW Γ w η s.hp) η s.hp
 bA:sU Γ η s.hp
 keeps:bo (fun b=>Γ.X b∨Γ.Y b) Γ.w0 w
 inv:Γ.Inv s.g w
 marks:Marks Γ.m0 a.defers w
 ext:Ext Γ.w0 Γ.F0 Γ.vZ Γ.iV w (aW Γ w η s.hp) η s.hp
def xQ (f:Nat→AV) (t:Nat) (x:AV):Nat→AV:=fun u=>if u=t then x else f u
theorem fc (f:Nat→AV) (t:Nat) (x:AV) (u:Nat):xQ f t x u=if u=t then x else f u:=rfl
def AS.put {G:Type} (s:AS G) (d:Option Nat) (x:AV):AS G:=
 match d with
 |some d=>{ s with tmps:=xQ s.tmps d x }
 |none=>s
variable {G:Type} {Γ:Env G} {s:AS G} {a:Act} {w w':World} {η aH:List Value} {hp:List af}
theorem bo.marks {X:Nat→Prop} {N:Nat→Prop} {ds:List Deferred} (h:Marks N ds w) (k:bo X w w') (hX:∀b,X b→¬N b∨∀d,w.heap[b]?≠some (.deferred d)):Marks N ds w':=by
 refine⟨fun d hd=>?_,h.apart⟩
 obtain⟨r,h1,h2,h3⟩:=h.all d hd
 refine⟨r,h1,?_,h3⟩
 rw[k.block r (ba h2)]
 ·exact h2
 ·intro hx
  rcases hX r hx with h4|h4
  ·exact h4 h3
  ·exact h4 _ h2
theorem mK (hs:bu w w') (hF:∀b o,aW Γ w η hp b o→b<w.heap.size):Ext w (aW Γ w η hp) η hp w' (aW Γ w' η hp) η hp where
 cell b o v hf hc:=by rw[World.cell?_of_block (hs.block b (hF b o hf))];exact hc
 gp b es c hf hc:=by rw[hs.block b (hF b 0 hf)];exact hc
 bb b o hf:=⟨hf.1,Nat.lt_of_lt_of_le hf.2.1 hs.size,hf.2.2⟩
 ptr _ _ h:=h
 mp _ _ h:=h
 own _ _ _ h:=h
theorem dL {b o:Nat} (h:aW Γ w η hp b o):b<w.heap.size:=h.2.1
theorem fL.ext {F F':Nat→Nat→Prop} {hp':List af} {o:af} {v:Value} (h:fL w F η hp o v) (he:Ext w F η hp w' F' aH hp') (bC:w.heap.size≤w'.heap.size)
  (hb:∀b,bU v=some b→b<w.heap.size→w'.heap[b]?=w.heap[b]?):fL w' F' aH hp' o v:=by
 cases o with
 |dead=>exact True.intro
 |box cs=>
  obtain⟨b,vs,T,rfl,h1,h2,h3⟩:=h
  exact⟨b,vs,T,rfl,by rw[hb b rfl (ba h1)];exact h1,h2,fun j x u hx hu=>⟨(h3 j x u hx hu).1.ext he,(h3 j x u hx hu).2⟩⟩
 |row e size els=>
  obtain⟨h0,xs,h1,h2⟩:=h
  refine⟨h0,xs,h1.keep hb,fun i el hi=>⟨(h2 i el hi).1,fun j x hj=>?_⟩⟩
  ·obtain⟨u,h3,h4,h5⟩:=(h2 i el hi).2 j x hj
   exact⟨u,h3,h4.ext he.ko.ext,h5⟩
 |cA q k=>
  obtain⟨b,vs,rfl,h1,h2,h3,u,h4,h5⟩:=h
  exact⟨b,vs,rfl,by rw[hb b rfl (ba h1)];exact h1,h2,h3,u,h4,h5.ext he⟩
 |aB es=>
  obtain⟨b,en,c,rfl,h1,h2⟩:=h
  exact⟨b,en,c,rfl,by rw[hb b rfl (ba h1)];exact h1,h2⟩
 |aI e size els=>
  obtain⟨h0,xs,h1,h2⟩:=h
  refine⟨h0,xs,h1.keep hb,fun i el hi=>⟨(h2 i el hi).1,fun j x hj=>?_⟩⟩
  ·obtain⟨u,h3,h4,h5⟩:=(h2 i el hi).2 j x hj
   exact⟨u,h3,h4.ext he.ko.ext,h5⟩
 |dB e m ns=>exact eA.keep h hb
theorem cX.same (h:cX w (aW Γ w η hp) η hp) (hs:bu w w'):cX w' (aW Γ w' η hp) η hp:=
 ⟨h.len,fun r o v h1 h2=>(h.obj r o v h1 h2).ext (mK hs fun _ _=>dL) hs.size fun b _ ak=>hs.block b ak,h.sep⟩
theorem bo.xR {X:Nat→Prop} {w0:World} (h:bo X w0 w) (hs:bu w w'):bo X w0 w':=
 h.trans (hs.keeps fun _=>False) fun _ _ hf=>hf.elim
theorem Rel.same (ao:Γ.Ok) (h:Rel Γ s a w η) (hs:bu w w'):Rel Γ s a w' η where
 nt:=h.nt
 tmps t:=(h.tmps t).ext (mK hs fun _ _=>dL)
 heap:=h.heap.same hs
 bA:=h.bA
 keeps:=h.keeps.xR hs
 inv:=ao.mJ _ _ _ (fun b hb=>hs.block b (Nat.lt_of_lt_of_le (ao.x b hb) h.keeps.size)) hs.size h.inv
 marks:=(hs.keeps fun _=>False).marks h.marks fun _ hf=>hf.elim
 ext:=h.ext.trans (mK hs fun _ _=>dL)
theorem Rel.gz (ao:Γ.Ok) (h:Rel Γ s a w η):mH w:=ao.gz.keeps h.keeps ao.gx
theorem Rel.put (h:Rel Γ s a w η) {d:Option Nat} {x:AV} {v:Value} (hd:∀t,d=some t→t<Γ.nt) (hr:aY w (aW Γ w η s.hp) η s.hp x v):Rel Γ (s.put d x) (a.put d v) w η:=by
 cases d with
 |none=>exact h
 |some d=>
  refine⟨by simpa [Act.put] using h.nt,fun t=>?_,h.heap,h.bA,h.keeps,h.inv,h.marks,h.ext⟩
  show aY w _ η s.hp (xQ s.tmps d x t) ((a.tmps.setIfInBounds d v).getD t undef)
  by_cases XB:t=d
  ·subst XB
   have ak:t<a.tmps.size:=by rw[h.nt];exact hd t rfl
   have e:(a.tmps.setIfInBounds t v).getD t undef=v:=by simp[ak]
   rw[fc,if_pos rfl,e]
   exact hr
  ·have e:(a.tmps.setIfInBounds d v).getD t undef=a.tmps.getD t undef:=by
    simp only[Array.getD_eq_getD_getElem?]
    rw[Array.getElem?_setIfInBounds_ne (Ne.symm XB)]
   rw[fc,if_neg XB,e]
   exact h.tmps t
def AS.add (s:AS G) (o:af):AS G:={ s with hp:=s.hp++[o] }
theorem bV {α:Type} {l:List α} {x y:α} {r:Nat} (h:l[r]?=some y):(l++[x])[r]?=some y:=by
 rw[List.getElem?_append_left (List.getElem?_eq_some_iff.1 h).1];exact h
theorem cN {α:Type} {l:List α} {x y:α} {r:Nat} (h:(l++[x])[r]?=some y):l[r]?=some y∨(r=l.length∧y=x):=by
 rcases Nat.lt_trichotomy r l.length with h1|h1|h1
 ·rw[List.getElem?_append_left h1] at h;exact .inl h
 ·subst h1;simp at h;exact .inr ⟨rfl,h.symm⟩
 ·rw[List.getElem?_append_right (by omega)] at h
  have:r-l.length≠0:=by omega
  cases hk:r-l.length with
  |zero=>omega
  |succ k=>rw[hk] at h;simp at h
theorem gO.snoc {o:af} {v:Value} {b k:Nat} (hl:η.length=hp.length) (h:gO η hp b k) (hv:bU v=some b→False):gO (η++[v]) (hp++[o]) b k:=by
 intro r u hu hb
 rcases cN hu with h1|⟨rfl,rfl⟩
 ·have:=h r u h1 hb
  have hr:r<hp.length:=by rw[←hl];exact(List.getElem?_eq_some_iff.1 h1).1
  rw[List.getElem?_append_left hr]
  exact this
 ·exact(hv hb).elim
theorem aT.snoc {o:af} {v u:Value} {r n:Nat} (h:aT η hp r n u):aT (η++[v]) (hp++[o]) r n u:=by
 unfold aT at h ⊢
 cases hr:hp[r]? with
 |none=>simp[hr] at h
 |some x=>
  rw[bV hr]
  rw[hr] at h
  cases x with
  |row e size els=>exact⟨h.1,fun hn=>bV (h.2 hn)⟩
  |dead=>exact True.intro
  |box cs=>exact h
  |aB es=>exact h
  |cA q k=>exact h
  |aI e size els=>exact⟨h.1,fun hn=>bV (h.2 hn)⟩
  |dB e m ns=>exact⟨h.1,fun hn=>bV (h.2 hn)⟩
theorem pF {o:af} {v:Value} (hl:η.length=hp.length) (hs:bu w w') (hv:∀b,bU v=some b→w.heap.size≤b):
  Ext w (aW Γ w η hp) η hp w' (aW Γ w' (η++[v]) (hp++[o])) (η++[v]) (hp++[o]) where
 cell b k u hf hc:=by rw[World.cell?_of_block (hs.block b (dL hf))];exact hc
 gp b es c hf hc:=by rw[hs.block b (dL hf)];exact hc
 bb b k hf:=⟨hf.1,Nat.lt_of_lt_of_le hf.2.1 hs.size,hf.2.2.1,hf.2.2.2.snoc hl fun hb=>by have:=hv b hb;have:=dL hf;omega⟩
 ptr _ _ h:=bV h
 mp _ _ h:=bV h
 own _ _ _ h:=h.snoc
theorem Rel.add (ao:Γ.Ok) (h:Rel Γ s a w η) {o:af} {v:Value} (hs:bu w w') (hv:∀b,bU v=some b→w.heap.size≤b)
  (ho:fL w' (aW Γ w' (η++[v]) (s.hp++[o])) (η++[v]) (s.hp++[o]) o v):Rel Γ (s.add o) a w' (η++[v]):=by
 have he:=pF (Γ:=Γ) (o:=o) (v:=v) h.heap.len hs hv
 have bC:=h.keeps.size
 have gP:∀(r:Nat) (u:Value) (b:Nat),η[r]?=some u→bU u=some b→b<w.heap.size∨¬∃o:af,s.hp[r]?=some o∧o.live:=by
  intro r u b hu hb
  by_cases ak:b<w.heap.size
  ·exact .inl ak
  ·refine .inr fun⟨o',tW,XC⟩=>ak ?_
   have cW:=h.heap.obj r o' u tW hu
   cases o' with
   |dead=>exact XC.elim
   |box cs=>obtain⟨b',vs,T,rfl,h1,_⟩:=cW;simp only[bU,Option.some.injEq] at hb;subst hb;exact ba h1
   |row e size els=>
    obtain⟨_,xs,h1,_⟩:=cW
    obtain⟨cur,h5⟩:=h1.lt hb
    exact ba h5
   |aB es=>obtain⟨b',en,c,rfl,h1,_⟩:=cW;simp only[bU,Option.some.injEq] at hb;subst hb;exact ba h1
   |cA q k=>obtain⟨b',vs,rfl,h1,_⟩:=cW;simp only[bU,Option.some.injEq] at hb;subst hb;exact ba h1
   |aI e size els=>
    obtain⟨_,xs,h1,_⟩:=cW
    obtain⟨cur,h5⟩:=h1.lt hb
    exact ba h5
   |dB e m ns=>obtain⟨cur,h5⟩:=eA.lt cW hb;exact ba h5
 refine⟨h.nt,fun t=>(h.tmps t).ext he,⟨by simp[AS.add,h.heap.len],?_,?_⟩,?_,h.keeps.xR hs,
  ao.mJ _ _ _ (fun b hb=>hs.block b (Nat.lt_of_lt_of_le (ao.x b hb) h.keeps.size)) hs.size h.inv,(hs.keeps fun _=>False).marks h.marks fun _ hf=>hf.elim,h.ext.trans he⟩
 ·intro r o' u h1 h2
  rcases cN h1 with h3|⟨rfl,rfl⟩
  ·rcases cN h2 with h4|⟨rfl,rfl⟩
   ·exact(h.heap.obj r o' u h3 h4).ext he hs.size fun b _ ak=>hs.block b ak
   ·have:=(List.getElem?_eq_some_iff.1 h3).1;have:=h.heap.len;omega
  ·have:(η++[v])[s.hp.length]?=some v:=by rw[←h.heap.len];simp
   rw[this] at h2
   obtain rfl:=Option.some.inj h2
   exact ho
 ·intro r r' o1 o2 v1 v2 b bh h1 h2 l1 l2 e1 e2 hb
  rcases cN h1 with h3|⟨rfl,rfl⟩<;>rcases cN h2 with h4|⟨rfl,rfl⟩
  ·have hr:r<η.length:=by rw[h.heap.len];exact(List.getElem?_eq_some_iff.1 h3).1
   have ec:r' < η.length:=by rw[h.heap.len];exact(List.getElem?_eq_some_iff.1 h4).1
   rw[List.getElem?_append_left hr] at e1
   rw[List.getElem?_append_left ec] at e2
   exact h.heap.sep r r' o1 o2 v1 v2 b bh h3 h4 l1 l2 e1 e2 hb
  ·have hr:r<η.length:=by rw[h.heap.len];exact(List.getElem?_eq_some_iff.1 h3).1
   rw[List.getElem?_append_left hr] at e1
   have:(η++[v])[s.hp.length]?=some v:=by rw[←h.heap.len];simp
   rw[this] at e2
   obtain rfl:=Option.some.inj e2
   intro er
   have:=hv b er
   rcases gP r v1 b e1 hb with h5|h5
   ·omega
   ·exact h5 ⟨o1,h3,l1⟩
  ·have ec:r' < η.length:=by rw[h.heap.len];exact(List.getElem?_eq_some_iff.1 h4).1
   rw[List.getElem?_append_left ec] at e2
   have:(η++[v])[s.hp.length]?=some v:=by rw[←h.heap.len];simp
   rw[this] at e1
   obtain rfl:=Option.some.inj e1
   intro er
   have:=hv b hb
   rcases gP r' v2 b e2 er with h5|h5
   ·omega
   ·exact h5 ⟨o2,h4,l2⟩
  ·exact(bh rfl).elim
 ·intro r o' u b h1 XC h2 hb
  rcases cN h1 with h3|⟨rfl,rfl⟩
  ·have hr:r<η.length:=by rw[h.heap.len];exact(List.getElem?_eq_some_iff.1 h3).1
   rw[List.getElem?_append_left hr] at h2
   exact h.bA r o' u b h3 XC h2 hb
  ·have:(η++[v])[s.hp.length]?=some v:=by rw[←h.heap.len];simp
   rw[this] at h2
   obtain rfl:=Option.some.inj h2
   have h5:=hv b hb
   exact⟨.inl (Nat.le_trans bC h5),fun o hx=>by have:=ao.no hx;omega⟩
end
section
variable {G:Type} {Γ:Env G} {s:AS G} {a:Act} {w w':World} {η aH:List Value} {hp:List af}
theorem getElem?_set_ne {α:Type} {l:List α} {r r':Nat} {x:α} (h:r≠r'):(l.set r x)[r']?=l[r']?:=by
 rw[List.getElem?_set];simp[h]
theorem aj {α:Type} {l:List α} {r:Nat} {x y:α} (h:l[r]?=some y):(l.set r x)[r]?=some x:=by
 rw[List.getElem?_set];simp[(List.getElem?_eq_some_iff.1 h).1]
def af.bb (k:Nat):af→Prop
 | .row _ size els=>k<els.length*size
 | .dead=>True
 |_=>False
theorem aR (b k:Nat):gO η hp b k↔∀(r:Nat) (v:Value),η[r]?=some v→bU v=some b→∃o,hp[r]?=some o∧o.bb k:=by
 constructor
 ·intro h r v h1 h2
  have:=h r v h1 h2
  cases hr:hp[r]? with
  |none=>simp[hr] at this
  |some o=>rw[hr] at this;refine⟨o,rfl,?_⟩;cases o<;>exact this
 ·intro h r v h1 h2
  obtain⟨o,h3,h4⟩:=h r v h1 h2
  rw[h3]
  cases o<;>exact h4
theorem cX.block (h:cX w (aW Γ w η hp) η hp) {r:Nat} {o:af} {u:Value} {b:Nat} (ho:hp[r]?=some o) (hl:o.live) (hu:η[r]?=some u) (hb:bU u=some b):b<w.heap.size:=by
 have cW:=h.obj r o u ho hu
 cases o with
 |dead=>exact hl.elim
 |box cs=>obtain⟨b',vs,T,rfl,h1,_⟩:=cW;simp only[bU,Option.some.injEq] at hb;subst hb;exact ba h1
 |row e size els=>
  obtain⟨_,xs,h1,_⟩:=cW
  obtain⟨cur,h5⟩:=h1.lt hb
  exact ba h5
 |aB es=>obtain⟨b',en,c,rfl,h1,_⟩:=cW;simp only[bU,Option.some.injEq] at hb;subst hb;exact ba h1
 |cA q k=>obtain⟨b',vs,rfl,h1,_⟩:=cW;simp only[bU,Option.some.injEq] at hb;subst hb;exact ba h1
 |aI e size els=>
  obtain⟨_,xs,h1,_⟩:=cW
  obtain⟨cur,h5⟩:=h1.lt hb
  exact ba h5
 |dB e m ns=>obtain⟨cur,h5⟩:=eA.lt cW hb;exact ba h5
theorem Rel.change (ao:Γ.Ok) (h:Rel Γ s a w η) {r:Nat} {o o':af} {v v':Value} (hr:s.hp[r]?=some o) (dw:o.live) (hv:η[r]?=some v)
  (hk:bo (fun k=>bU v=some k) w w') (IF:∀b,bU v'=some b→bU v=some b∨w.heap.size≤b)
  (dT:∀k,o.bb k→o'.bb k)
  (ay:∀b k u,bU v=some b→o.bb k→w.cell? ⟨b,k,none⟩=some u→w'.cell? ⟨b,k,none⟩=some u)
  (TF:∀b es c,bU v=some b→o.bb 0→w.heap[b]?=some (.map es c)→False)
  (qZ:∀n u,aT η s.hp r n u→aT (η.set r v') (s.hp.set r o') r n u)
  (XD:∀x,v=.pointer x→v'=v) (hmp:∀x,v=.map x→v'=v)
  (RA:∀b d,bU v=some b→w.heap[b]?=some (.deferred d)→False)
  (tW:Ext w (aW Γ w η s.hp) η s.hp w' (aW Γ w' (η.set r v') (s.hp.set r o')) (η.set r v') (s.hp.set r o')→fL w' (aW Γ w' (η.set r v') (s.hp.set r o')) (η.set r v') (s.hp.set r o') o' v'):
  Rel Γ { s with hp:=s.hp.set r o' } a w' (η.set r v'):=by
 have cW:∀b k,aW Γ w η s.hp b k→bU v=some b→o.bb k:=fun b k hf hb=>by
  obtain⟨o1,h1,h2⟩:=(aR b k).1 hf.2.2.2 r v hv hb
  rw[hr] at h1
  obtain rfl:=Option.some.inj h1
  exact h2
 have he:Ext w (aW Γ w η s.hp) η s.hp w' (aW Γ w' (η.set r v') (s.hp.set r o')) (η.set r v') (s.hp.set r o'):=by
  refine⟨fun b k u hf hc=>?_,fun b es c hf hc=>?_,fun b k hf=>?_,fun r1 x h1=>?_,fun r1 x h1=>?_,fun r1 n u h1=>?_⟩
  ·by_cases hb:bU v=some b
   ·exact ay b k u hb (cW b k hf hb) hc
   ·rw[hk.cell (dL hf) hb];exact hc
  ·by_cases hb:bU v=some b
   ·exact(TF b es c hb (cW b 0 hf hb) hc).elim
   ·rw[hk.block b (dL hf) hb];exact hc
  ·refine⟨hf.1,Nat.lt_of_lt_of_le hf.2.1 hk.size,hf.2.2.1,(aR b k).2 fun r1 u h1 hb=>?_⟩
   by_cases bh:r=r1
   ·subst bh
    rw[aj hv] at h1
    obtain rfl:=Option.some.inj h1
    refine⟨o',aj hr,?_⟩
    rcases IF b hb with h2|h2
    ·exact dT k (cW b k hf h2)
    ·have:=dL hf;omega
   ·rw[getElem?_set_ne bh] at h1 ⊢
    exact(aR b k).1 hf.2.2.2 r1 u h1 hb
  ·by_cases bh:r=r1
   ·subst bh
    rw[hv] at h1
    obtain rfl:=Option.some.inj h1
    rw[aj hv,XD _ rfl]
   ·rw[getElem?_set_ne bh];exact h1
  ·by_cases bh:r=r1
   ·subst bh
    rw[hv] at h1
    obtain rfl:=Option.some.inj h1
    rw[aj hv,hmp _ rfl]
   ·rw[getElem?_set_ne bh];exact h1
  ·by_cases bh:r=r1
   ·subst bh;exact qZ n u h1
   ·unfold aT at h1 ⊢
    rw[getElem?_set_ne bh,getElem?_set_ne bh];exact h1
 refine⟨h.nt,fun t=>(h.tmps t).ext he,⟨by simp[h.heap.len],fun r1 o1 u h1 h2=>?_,fun r1 r2 o1 o2 v1 v2 b bh h1 h2 l1 l2 e1 e2 hb=>?_⟩,fun r1 o1 u b h1 hl h2 hb=>?_,?_,?_,?_,h.ext.trans he⟩
 ·simp only at h1
  by_cases bh:r=r1
  ·subst bh
   rw[aj hr] at h1
   rw[aj hv] at h2
   obtain rfl:=Option.some.inj h1
   obtain rfl:=Option.some.inj h2
   exact tW he
  ·rw[getElem?_set_ne bh] at h1 h2
   by_cases As:o1.live
   ·exact(h.heap.obj r1 o1 u h1 h2).ext he hk.size fun b hb ak=>hk.block b ak fun er=>h.heap.sep r1 r o1 o u v b (Ne.symm bh) h1 hr As dw h2 hv hb er
   ·cases o1<;>first|exact True.intro|exact(As True.intro).elim
 ·simp only at h1 h2
  by_cases n1:r=r1
  ·subst n1
   rw[aj hv] at e1
   obtain rfl:=Option.some.inj e1
   rw[getElem?_set_ne bh] at h2 e2
   intro er
   rcases IF b hb with h3|h3
   ·exact h.heap.sep r r2 o o2 v v2 b bh hr h2 dw l2 hv e2 h3 er
   ·have:=h.heap.block h2 l2 e2 er;omega
  ·rw[getElem?_set_ne n1] at h1 e1
   by_cases n2:r=r2
   ·subst n2
    rw[aj hv] at e2
    obtain rfl:=Option.some.inj e2
    intro er
    rcases IF b er with h3|h3
    ·exact h.heap.sep r r1 o o1 v v1 b (fun e=>n1 e) hr h1 dw l1 hv e1 h3 hb
    ·have:=h.heap.block h1 l1 e1 hb;omega
   ·rw[getElem?_set_ne n2] at h2 e2
    exact h.heap.sep r1 r2 o1 o2 v1 v2 b bh h1 h2 l1 l2 e1 e2 hb
 ·simp only at h1
  by_cases bh:r=r1
  ·subst bh
   rw[aj hv] at h2
   obtain rfl:=Option.some.inj h2
   rcases IF b hb with h3|h3
   ·exact h.bA r o v b hr dw hv h3
   ·exact⟨.inl (Nat.le_trans h.keeps.size h3),fun o hx=>by have:=ao.no hx;have:=h.keeps.size;omega⟩
  ·rw[getElem?_set_ne bh] at h1 h2
   exact h.bA r1 o1 u b h1 hl h2 hb
 ·refine h.keeps.trans hk fun b hb nP=>?_
  rcases (h.bA r o v b hr dw hv nP).1 with h1|h1
  ·omega
  ·exact .inr h1
 ·refine ao.mJ _ _ _ (fun b hb=>hk.block b (Nat.lt_of_lt_of_le (ao.x b hb) h.keeps.size) fun nP=>?_) hk.size h.inv
  exact(h.bA r o v b hr dw hv nP).2 0 (.inl hb)
 ·exact hk.marks h.marks fun b nP=>.inr fun d hd=>RA b d nP hd
def setCells (cs:List AV) (off:Nat):List AV→List AV
 | []=>cs
 |x::xs=>setCells (cs.set off x) (off+1) xs
theorem sV (xs:List AV):∀(cs:List AV) (off:Nat),(setCells cs off xs).length=cs.length:=by
 induction xs with
 |nil=>intro cs off;rfl
 |cons x xs ih=>intro cs off;simp[setCells,ih]
theorem Rel.write (ao:Γ.Ok) (h:Rel Γ s a w η) {r off b:Nat} {cs:List AV} {x:AV} {v:Value} (hr:s.hp[r]?=some (.box cs)) (hv:η[r]?=some (.pointer (some ⟨b,0,none⟩)))
  (Ni:off<cs.length) (h1:v.oneCell'=true) (hx:aY w (aW Γ w η s.hp) η s.hp x v):
  Rel Γ { s with hp:=s.hp.set r (.box (cs.set off x)) } a (w.setCell ⟨b,off,none⟩ v) η∧w.frozen? ⟨b,off,none⟩=false∧∃u,w.cell? ⟨b,off,none⟩=some u:=by
 have cW:=h.heap.obj r _ _ hr hv
 obtain⟨b',vs,T,he,hg,bC,hc⟩:=cW
 simp only[Value.pointer.injEq,Option.some.injEq,Addr.mk.injEq,and_true] at he
 subst he
 have ou:(w.setCell ⟨b,off,none⟩ v).heap[b]?=some (.cells (vs.setIfInBounds off v) T (0,0)):=Go.heap_setCell_same w b off vs T v hg
 have dE:η.set r (.pointer (some ⟨b,0,none⟩))=η:=by
  apply List.ext_getElem?
  intro i
  by_cases hi:r=i
  ·subst hi;rw[aj hv,hv]
  ·rw[getElem?_set_ne hi]
 refine⟨?_,frozen_of_row w b off vs T hg,?_⟩
 ·have:=Rel.change (w':=w.setCell ⟨b,off,none⟩ v) (o':=.box (cs.set off x)) (v':=.pointer (some ⟨b,0,none⟩)) ao h hr True.intro hv
   ⟨rfl,rfl,rfl,by simp[World.setCell],fun k hk hb=>Go.heap_setCell_other w _ k v (by intro e;exact hb (by rw[e];rfl))⟩
   (fun c hc=>.inl hc) (fun k hk=>hk.elim) (fun _ _ _ _ hk=>hk.elim) (fun _ _ _ _ hk=>hk.elim)
   (fun n u ho=>by simp[aT,hr] at ho)
   (fun _ _=>rfl) (fun _ hx=>by cases hx)
   (fun c d hb hd=>by simp only[bU,Option.some.injEq] at hb;subst hb;rw[hg] at hd;cases hd)
   (fun he=>⟨b,vs.setIfInBounds off v,T,rfl,ou,by simp[bC],fun j y u hy hu=>by
    by_cases hj:off=j
    ·subst hj
     have ak:off<vs.size:=by rw[bC];exact Ni
     have e1:(cs.set off x)[off]?=some x:=by rw[List.getElem?_set];simp[Ni]
     have e2:(vs.setIfInBounds off v)[off]?=some v:=by rw[Array.getElem?_setIfInBounds];simp[ak]
     rw[e1] at hy
     rw[e2] at hu
     obtain rfl:=Option.some.inj hy
     obtain rfl:=Option.some.inj hu
     exact⟨hx.ext he,h1⟩
    ·rw[getElem?_set_ne hj] at hy
     have e2:(vs.setIfInBounds off v)[j]?=vs[j]?:=by rw[Array.getElem?_setIfInBounds];simp[hj]
     rw[e2] at hu
     exact⟨(hc j y u hy hu).1.ext he,(hc j y u hy hu).2⟩⟩)
  rw[dE] at this
  exact this
 ·rw[cell_of_row w b off vs T (0,0) hg]
  exact⟨vs[off]'(by rw[bC];exact Ni),by simp[bC,Ni]⟩
end
section
inductive TK where
 |other
 |int (k:IntKind)
 |str
 |bool
 |bS (fields:List (Nat×Nat×Bool))
 |iW (e:Nat)
 |mI (k e:Nat)
 |ptr (e:Nat)
 |arr (n:Nat)
 |Xb
structure TD where
 flat:Bool:=false
 kind:TK
 size:Nat
 bytes:Nat
 zero:Value
def TK.agg:TK→Bool
 | .bS _=>true
 | .arr _=>true
 |_=>false
def I0:TypeDesc→Bool
 | .struct _ | .array _ _=>true
 |_=>false
def TK.fits (P:Program) (u:TypeDesc):TK→Prop
 | .other=>(match u with | .struct _ | .array _ _=>False|_=>True)
 | .int k=>u=.int k
 | .str=>u=.string
 | .bool=>u=.bool
 | .bS fs=>∃fields,u=.struct fields∧fields.toList.map (fun f=>(f.offset,(P.info? f.type).map (·.size),(P.underlying f.type).map I0))=fs.map fun p=>(p.1,some p.2.1,some p.2.2)
 | .iW e=>u=.slice e
 | .mI k e=>u=.map k e
 | .ptr e=>u=.pointer e
 | .Xb=>∃ms,u=.interface ms
 | .arr n=>∃e i,u=.array n e∧P.info? e=some i∧i.size=1
structure fh (P:Program) (T:TypeId) (d:TD):Prop where
 info:∃i,P.info? T=some i∧i.size=d.size∧i.bytes=d.bytes∧i.zero=some d.zero
 jy:∃u,P.underlying T=some u∧d.kind.fits P u
 Fw:d.zero.cells.size=d.size
 XE:∀v:Value,v∈d.zero.cells→v.oneCell'=true
 abH:d.kind.agg=true→∃cs,d.zero=.agg cs
 QB:d.kind.agg=false→d.size=1∧d.zero.oneCell'=true
 feq:d.flat=true→P.eqGuardType P.depth T=false∧∀(w:World) (a1 a2 b1 b2:Int),(Op.equalIn 10000 T (.agg #[.int .i64 a1,.int .i64 a2]) (.agg #[.int .i64 b1,.int .i64 b2])).run P w=.ok (a1==b1&&a2==b2) w
def aQ (P:Program) (tab:Nat→Option TD):Prop:=∀T d,tab T=some d→fh P T d
variable {G:Type} {Γ:Env G} {s:AS G} {a:Act} {w w':World} {η:List Value} {hp:List af} {F:Nat→Nat→Prop} {P:Program}
theorem fh.G0 {T:TypeId} {d:TD} (h:fh P T d) (w:World):(isAgg T).run P w=.ok d.kind.agg w:=by
 obtain⟨u,h1,h2⟩:=h.jy
 simp only[isAgg,Sem.run_bind,run_underlying h1,Result.andThen_ok]
 revert h2
 cases hk:d.kind<;>intro h2<;>simp only[TK.fits] at h2
 ·cases u<;>first|rfl|exact h2.elim
 ·subst h2;rfl
 ·subst h2;rfl
 ·subst h2;rfl
 ·obtain⟨f,rfl,_⟩:=h2;rfl
 ·subst h2;rfl
 ·subst h2;rfl
 ·subst h2;rfl
 ·obtain⟨e,i,rfl,_⟩:=h2;rfl
 ·obtain⟨m,rfl⟩:=h2;rfl
theorem fh.run_sizeOf {T:TypeId} {d:TD} (h:fh P T d) (w:World):(sizeOf T).run P w=.ok d.size w:=by
 obtain⟨i,h1,h2,_⟩:=h.info
 simp[sizeOf,typeInfo,h1,h2]
theorem fh.fM {T:TypeId} {d:TD} (h:fh P T d) (w:World):(zeroValue T).run P w=.ok d.zero w:=by
 obtain⟨i,h1,_,_,h4⟩:=h.info
 simp[zeroValue,typeInfo,h1,h4]
theorem fh.run_load {T:TypeId} {d:TD} (h:fh P T d) {b o:Nat} {vs:List Value} (hl:vs.length=d.size) (hc:∀(j:Nat) (v:Value),vs[j]?=some v→w.cell? ⟨b,o+j,none⟩=some v):
  (loadVar T ⟨b,o,none⟩).run P w=.ok (if d.kind.agg then .agg vs.toArray else vs.headD undef) w:=by
 simp only[loadVar,Sem.run_bind,h.G0,Result.andThen_ok]
 cases hk:d.kind.agg with
 |true=>
  simp only[if_true,Sem.run_bind,h.run_sizeOf,Result.andThen_ok]
  rw[←hl,run_loadCells_list (P:=P) w ⟨b,o,none⟩ vs (fun j v hj=>by rw[Addr.add_lit];exact hc j v hj)]
  rfl
 |false=>
  have h1:=(h.QB hk).1
  rw[h1] at hl
  match vs,hl with
  | [v],_=>
   have:=hc 0 v rfl
   simp only[Nat.add_zero] at this
   simp[run_load,this]
def AV.fN (hp:List af):AV→Option (List AV)
 | .sl els=>some els
 | .clip els=>some els
 | .ae (.slice none 0 0)=>some []
 | .own r n=>match hp[r]? with
  |some (.row _ _ els)=>if n=els.length then some els else none
  |_=>none
 |_=>none
theorem Rel.RB {r:Nat} {e size:Nat} {els:List AV} {v:Value} (hF:∀b k,(∃u,η[r]?=some u∧bU u=some b)→k<els.length*size→F b k)
  (cW:fL w F η hp (.row e size els) v) (hv:η[r]?=some v):aY w F η hp (.sl els) v:=by
 obtain⟨h0,xs,bW,cy⟩:=cW
 rcases bW.2 with⟨hn,rfl|⟨ad,rfl⟩⟩|⟨g,cap,cur,rfl,G1,⟨hi,_,hg⟩,Au,DG,fq,jH⟩
 ·have:els=[]:=List.eq_nil_of_length_eq_zero hn
  subst this;exact .ki _
 ·have:els=[]:=List.eq_nil_of_length_eq_zero hn
  subst this
  exact .ki _
 ·have ay:∀(i:Nat) (el:AV) (j:Nat) (x:AV),els[i]?=some el→el.cells[j]?=some x→∃u,w.cell? ⟨g,0+i*size+j,none⟩=some u∧xs.getD (i*size+j) undef=u∧F g (0+i*size+j)∧u.oneCell'=true∧aY w F [] [] x u:=by
   intro i el j x hi hj
   obtain⟨hlen,hx⟩:=cy i el hi
   obtain⟨u,hu,cE,h1⟩:=hx j x hj
   have oG:i<els.length:=(List.getElem?_eq_some_iff.1 hi).1
   have pE:j<size:=by rw[←hlen];exact(List.getElem?_eq_some_iff.1 hj).1
   have ak:i*size+j<els.length*size:=by
    have:=Nat.mul_le_mul_right size (show i+1≤els.length from oG)
    rw[Nat.add_mul] at this;omega
   refine⟨u,?_,by simp[List.getD,hu],hF _ _ ⟨_,hv,bd G1⟩ (by omega),h1,cE⟩
   rw[Nat.zero_add,cell_of_row w g _ cur e _ hg]
   rw[←jH,List.getElem?_take,if_pos ak] at hu
   simpa using hu
  refine .sl size els g 0 cap (fun i j=>xs.getD (i*size+j) undef) Au DG (fun i el hi=>(cy i el hi).1) (fun i el j x hi hj=>?_) (fun i el j x hi hj=>?_)
  ·obtain⟨u,h1,h2,h3,h4,_⟩:=ay i el j x hi hj
   exact⟨by rw[h2];exact h1,h3,by rw[h2];exact h4⟩
  ·obtain⟨u,h1,h2,h3,h4,h5⟩:=ay i el j x hi hj
   rw[h2];exact h5
theorem Nj (h:cX w (aW Γ w η hp) η hp) (hm:sU Γ η hp) {r e size:Nat} {els:List AV} {v:Value} (hr:hp[r]?=some (.row e size els)) (hv:η[r]?=some v)
  {b k:Nat} (hb:bU v=some b) (wa:k<els.length*size):aW Γ w η hp b k:=by
 have h1:=hm r _ v b hr True.intro hv hb
 refine⟨.inr h1.1,h.block hr True.intro hv hb,h1.2 _,(aR b k).2 fun r' u hu er=>?_⟩
 ·by_cases bh:r=r'
  ·subst bh
   exact⟨_,hr,wa⟩
  ·have ec:r' < hp.length:=by rw[←h.len];exact(List.getElem?_eq_some_iff.1 hu).1
   refine⟨hp[r'],by simp[ec],?_⟩
   cases ho:hp[r'] with
   |dead=>exact True.intro
   |box cs=>exact(h.sep r r' _ (.box cs) v u b bh hr (by rw[←ho];simp[ec]) True.intro True.intro hv hu hb er).elim
   |row e' s' ku=>exact(h.sep r r' _ (.row e' s' ku) v u b bh hr (by rw[←ho];simp[ec]) True.intro True.intro hv hu hb er).elim
   |aB es=>exact(h.sep r r' _ (.aB es) v u b bh hr (by rw[←ho];simp[ec]) True.intro True.intro hv hu hb er).elim
   |cA q k=>exact(h.sep r r' _ (.cA q k) v u b bh hr (by rw[←ho];simp[ec]) True.intro True.intro hv hu hb er).elim
   |aI e' s' ku=>exact(h.sep r r' _ (.aI e' s' ku) v u b bh hr (by rw[←ho];simp[ec]) True.intro True.intro hv hu hb er).elim
   |dB e' m' TG=>exact(h.sep r r' _ (.dB e' m' TG) v u b bh hr (by rw[←ho];simp[ec]) True.intro True.intro hv hu hb er).elim
end
section
variable {G:Type} {Γ:Env G} {s:AS G} {a:Act} {w w':World} {η:List Value} {hp:List af} {F:Nat→Nat→Prop} {P:Program}
theorem Nk (h:cX w (aW Γ w η hp) η hp) (hm:sU Γ η hp) {r n e size:Nat} {els:List AV} {v:Value} (hr:hp[r]?=some (.row e size els)) (ho:aT η hp r n v) (hn:n=els.length):
  aY w (aW Γ w η hp) η hp (.sl els) v:=by
 have hv:η[r]?=some v:=by
  unfold aT at ho
  rw[hr] at ho
  exact ho.2 hn
 exact Rel.RB (fun b k ⟨u,h1,h2⟩ hk=>Nj h hm hr h1 h2 hk) (h.obj r _ v hr hv) hv
theorem iX (h:cX w (aW Γ w η hp) η hp) (hm:sU Γ η hp) {x:AV} {els:List AV} {v:Value} (hx:aY w (aW Γ w η hp) η hp x v) (he:x.fN hp=some els):
  aY w (aW Γ w η hp) η hp (.sl els) v:=by
 cases x with
 |sl l=>simp only[AV.fN,Option.some.injEq] at he;subst he;exact hx
 |clip l=>simp only[AV.fN,Option.some.injEq] at he;subst he;exact hx.nO
 |ae u=>
  have:u=v:=by cases hx;rfl
  subst this
  unfold AV.fN at he
  split at he<;>try (simp at he;done)
  ·rename_i h1;cases h1
  ·rename_i h1;cases h1
  ·rename_i h1
   simp only[AV.ae.injEq] at h1
   subst h1
   obtain rfl:=Option.some.inj he
   exact .ki _
  ·rename_i h1;cases h1
 |own r n=>
  have ho:aT η hp r n v:=by cases hx;assumption
  simp only[AV.fN] at he
  cases hr:hp[r]? with
  |none=>simp[hr] at he
  |some o=>
   cases o with
   |row e size l=>
    simp only[hr] at he
    split at he
    ·rename_i hn
     obtain rfl:=Option.some.inj he
     exact Nk h hm hr ho hn
    ·cases he
   |_=>simp[hr] at he
 |_=>simp[AV.fN] at he
structure xS (w:World) (F:Nat→Nat→Prop) (size:Nat) (els:List AV) (v:Value) (news:List Value):Prop where
 shape:(∃ad:Option Addr,v=.slice ad 0 0∧els=[])∨∃b o c,v=.slice (some ⟨b,o,none⟩) els.length c∧els.length≤c∧c≤maxLen∧∀(k:Nat) (u:Value),news[k]?=some u→w.cell? ⟨b,o+k,none⟩=some u
 len:news.length=els.length*size
 one:∀u:Value,u∈news→u.oneCell'=true
 rep:∀(i:Nat) (e:AV) (j:Nat) (x:AV),els[i]?=some e→e.cells[j]?=some x→∃u,news[i*size+j]?=some u∧aY w F [] [] x u∧u.oneCell'=true
theorem aY.tz {size:Nat} {els:List AV} {v:Value} (h:aY w F η hp (.sl els) v) (bC:0<size) (hl:∀e:AV,e∈els→e.cells.length=size):∃news,xS w F size els v news:=by
 cases h with
 |ki a=>exact⟨[],.inl ⟨a,rfl,rfl⟩,by simp,(fun u hu=>by cases hu),fun i e j x hi=>by simp at hi⟩
 |sl rU els b o c f hc hm DH ay hr=>
  have XF:∀k,k<els.length*size→k / size<els.length∧k % size<size∧k=k / size*size+k % size:=fun k hk=>
   ⟨Nat.div_lt_of_lt_mul (by rw[Nat.mul_comm];exact hk),Nat.mod_lt _ bC,by rw[Nat.mul_comm];exact(Nat.div_add_mod k size).symm⟩
  have bR:∀k,k<els.length*size→w.cell? ⟨b,o+k,none⟩=some (f (k / size) (k % size))∧(f (k / size) (k % size)).oneCell'=true:=fun k hk=>by
   obtain⟨h1,h2,h3⟩:=XF k hk
   have he:els[k / size]?=some els[k / size]:=by simp[h1]
   have hlen:=hl _ (List.getElem_mem h1)
   have hj:els[k / size].cells[k % size]?=some (els[k / size].cells[k % size]'(by rw[hlen];exact h2)):=by simp[hlen,h2]
   have QC:rU=size:=by rw[←DH _ _ he];exact hlen
   have:=ay _ _ _ _ he hj
   rw[QC,Nat.add_assoc,←h3] at this
   exact⟨this.1,this.2.2⟩
  refine⟨(List.range (els.length*size)).map fun k=>f (k / size) (k % size),.inr ⟨b,o,c,rfl,hc,hm,fun k u hk=>?_⟩,by simp,fun u hu=>?_,fun i e j x hi hj=>?_⟩
  ·rw[List.getElem?_map] at hk
   by_cases ak:k<els.length*size
   ·rw[List.getElem?_range ak] at hk
    obtain rfl:=Option.some.inj hk
    exact(bR k ak).1
   ·rw[List.getElem?_eq_none (by simp;omega)] at hk
    cases hk
  ·obtain⟨k,hk,rfl⟩:=List.mem_map.1 hu
   exact(bR k (List.mem_range.1 hk)).2
  ·have hlen:=hl e (List.mem_of_getElem? hi)
   have oG:i<els.length:=(List.getElem?_eq_some_iff.1 hi).1
   have pE:j<size:=by rw[←hlen];exact(List.getElem?_eq_some_iff.1 hj).1
   have ak:i*size+j<els.length*size:=by
    have:=Nat.mul_le_mul_right size (show i+1≤els.length from oG)
    rw[Nat.add_mul] at this;omega
   have e1:(i*size+j) / size=i:=by rw[Nat.mul_comm,Nat.mul_add_div bC,Nat.div_eq_of_lt pE,Nat.add_zero]
   have e2:(i*size+j) % size=j:=by rw[Nat.mul_comm,Nat.mul_add_mod,Nat.mod_eq_of_lt pE]
   refine⟨f i j,?_,hr i e j x hi hj,(ay i e j x hi hj).2.2⟩
   rw[List.getElem?_map,List.getElem?_range ak]
   simp[e1,e2]
theorem xS.ext {w':World} {F':Nat→Nat→Prop} {size:Nat} {els:List AV} {v:Value} {news:List Value} (h:xS w F size els v news) (he:IY w F w' F'):
  ∀(i:Nat) (e:AV) (j:Nat) (x:AV),els[i]?=some e→e.cells[j]?=some x→∃u,news[i*size+j]?=some u∧aY w' F' [] [] x u∧u.oneCell'=true:=
 fun i e j x hi hj=>let ⟨u,h1,h2,h3⟩:=h.rep i e j x hi hj;⟨u,h1,h2.ext he.ext,h3⟩
theorem lz {R:AV→Value→Prop} {size:Nat} {l1 l2:List AV} {x1 x2:List Value} (hx1:x1.length=l1.length*size)
  (h1:∀(i:Nat) (e:AV) (j:Nat) (x:AV),l1[i]?=some e→e.cells[j]?=some x→∃u,x1[i*size+j]?=some u∧R x u∧u.oneCell'=true)
  (h2:∀(i:Nat) (e:AV) (j:Nat) (x:AV),l2[i]?=some e→e.cells[j]?=some x→∃u,x2[i*size+j]?=some u∧R x u∧u.oneCell'=true):
  ∀(i:Nat) (e:AV) (j:Nat) (x:AV),(l1++l2)[i]?=some e→e.cells[j]?=some x→∃u,(x1++x2)[i*size+j]?=some u∧R x u∧u.oneCell'=true:=by
 intro i e j x hi hj
 by_cases ak:i<l1.length
 ·rw[List.getElem?_append_left ak] at hi
  obtain⟨u,h3,h4⟩:=h1 i e j x hi hj
  exact⟨u,by rw[List.getElem?_append_left (List.getElem?_eq_some_iff.1 h3).1];exact h3,h4⟩
 ·rw[List.getElem?_append_right (by omega)] at hi
  obtain⟨u,h3,h4⟩:=h2 _ e j x hi hj
  refine⟨u,?_,h4⟩
  have:x1.length≤i*size+j:=by
   rw[hx1]
   have:=Nat.mul_le_mul_right size (show l1.length≤i by omega)
   omega
  rw[List.getElem?_append_right this,hx1,←h3]
  congr 1
  rw[Nat.sub_mul]
  have:=Nat.mul_le_mul_right size (show l1.length≤i by omega)
  omega
theorem iv {t ty e:TypeId} {ed:TD} (ht:P.underlying t=some (.slice e)) (he:fh P e ed) (b:Option Addr) (n c:Nat) (hn:n≤c) (x:Value) (hx:x=.slice none 0 0∨∃ad k,x=.slice (some ad) 0 k):
  (Builtin.append_ #[t,t] ty #[.slice b n c,x]).run P w=.ok (.slice b n c) w:=by
 obtain⟨i,h1,h2,_⟩:=he.info
 rcases hx with rfl|⟨ad,k,rfl⟩<;>cases b <;>
  simp[Builtin.append_,run_underlying ht,sizeOf,typeInfo,h1,Builtin.lenOf,hn,Builtin.firstCells,storeCells,loadCells,loadCellsFrom]
theorem q6 {e size:Nat} {n m:Nat} {z:Array Value} (olds news:List Value) (ho:olds.length=n*size) (hnw:news.length=m*size) (hz:z.size=size) (old:Nat) (hm:0<m) (xT:n+m≤maxLen):
  jG (w.drew.alloc (.cells (olds.toArray++news.toArray++Builtin.zeroCells z (grownCap w (n+m) old e-(n+m))) e)) e size
   (.slice (some ⟨w.heap.size,0,none⟩) (n+m) (grownCap w (n+m) old e)) (n+m) (olds++news) 0:=by
 have v7:=grownCap_ge w (n+m) old e
 have DG:grownCap w (n+m) old e≤maxLen:=grownCap_le_maxLen w (n+m) old e xT
 have hlen:(olds++news).length=(n+m)*size:=by rw[List.length_append,ho,hnw,Nat.add_mul]
 refine⟨hlen,.inr ⟨w.heap.size,_,_,rfl,by omega,⟨0,Nat.le_refl _,heap_alloc_new w.drew _⟩,v7,DG,?_,?_⟩⟩
 ·simp only[Array.size_append,List.size_toArray,size_zeroCells,hz,ho,hnw,←Nat.add_mul]
  congr 1
  omega
 ·simp only[Array.toList_append,List.append_assoc]
  rw[←List.append_assoc,←hlen]
  exact List.take_left
end
section
variable {G:Type} {Γ:Env G} {s:AS G} {a:Act} {w w':World} {η:List Value} {hp:List af} {F:Nat→Nat→Prop} {P:Program}
theorem tX (ao:Γ.Ok) (h:Rel Γ s a w η) {t ty e:TypeId} {d:TD} (ht:Γ.P.underlying t=some (.slice e)) (fO:fh Γ.P e d) (bC:0<d.size) {els av:List AV} {v0 v2:Value}
  (hb:v0=.slice none 0 0∧els=[]∨aY w (aW Γ w η s.hp) η s.hp (.clip els) v0) (hx:aY w (aW Γ w η s.hp) η s.hp (.sl av) v2)
  (hl:∀x:AV,x∈els→x.cells.length=d.size) (oH:∀x:AV,x∈av→x.cells.length=d.size) (bh:av=[]→els=[])
  (hm:els.length+av.length≤maxLen) (DI:(els.length+av.length)*d.bytes≤140737488355328) {ob:af} (cW:ob=.row e d.size (els++av)∨ob=.aI e d.size (els++av)):
  ∃v' w',(Builtin.append_ #[t,t] ty #[v0,v2]).run Γ.P w=.ok v' w'∧Rel Γ (s.add ob) a w' (η++[v'])∧v'.oneCell'=true:=by
 have kx:∀{w:World} {F:Nat→Nat→Prop} {η:List Value} {hp:List af} {v:Value},fL w F η hp (.aI e d.size (els++av)) v→fL w F η hp ob v:=by
  rcases cW with rfl|rfl
  ·exact fun⟨h1,xs,h2,h3⟩=>⟨h1,xs,h2.more (Nat.zero_le _),h3⟩
  ·exact id
 obtain⟨i,nQ,pG,Al,Fx⟩:=fO.info
 have Xc:aY w (aW Γ w η s.hp) η s.hp (.sl els) v0:=by
  rcases hb with⟨rfl,rfl⟩|hb
  ·exact .ki _
  ·exact hb.nO
 obtain⟨olds,ho⟩:=Xc.tz bC hl
 obtain⟨news,hn⟩:=hx.tz bC oH
 have q7:(∃ad:Option Addr,v0=.slice ad 0 0∧els=[])∨∃b o,v0=.slice (some ⟨b,o,none⟩) els.length els.length∧∀(k:Nat) (u:Value),olds[k]?=some u→w.cell? ⟨b,o+k,none⟩=some u:=by
  rcases ho.shape with h1|⟨b,o,c,rfl,_,_,hc⟩
  ·exact .inl h1
  ·rcases hb with⟨hb,_⟩|hb
   ·cases hb
   ·cases hb with
    |iB=>exact .inl ⟨_,rfl,rfl⟩
    |clip size els b o f hm DH ay hr=>exact .inr ⟨_,_,rfl,hc⟩
 by_cases hz:av=[]
 ·have XG:=bh hz
  subst hz;subst XG
  have Xd:v2=.slice none 0 0∨∃ad k,v2=.slice (some ad) 0 k:=by
   rcases hn.shape with⟨ad,rfl,_⟩|⟨b,o,c,rfl,_⟩
   ·cases ad with
    |none=>exact .inl rfl
    |some ad=>exact .inr ⟨_,_,rfl⟩
   ·exact .inr ⟨_,_,rfl⟩
  rcases q7 with⟨ad,rfl,_⟩|⟨b,o,rfl,_⟩
  ·refine⟨_,w,iv ht fO ad 0 0 (Nat.le_refl _) v2 Xd,?_,rfl⟩
   exact h.add ao (bu.refl w) (fun b hb=>by cases ad<;>simp[bU] at hb) (kx ⟨bC,[],⟨by simp,.inl ⟨rfl,by cases ad with|none=>exact .inl rfl|some ad=>exact .inr ⟨ad,rfl⟩⟩⟩,fun i el hi=>by simp at hi⟩)
  ·refine⟨_,w,iv ht fO (some ⟨b,o,none⟩) 0 0 (Nat.le_refl _) v2 Xd,?_,rfl⟩
   exact h.add ao (bu.refl w) (fun b hb=>by simp[bU] at hb) (kx ⟨bC,[],⟨by simp,.inl ⟨rfl,.inr ⟨_,rfl⟩⟩⟩,fun i el hi=>by simp at hi⟩)
 ·have xU:0<av.length:=List.length_pos_iff.2 hz
  rcases hn.shape with⟨_,_,h1⟩|⟨b2,o2,c2,rfl,_,_,Fy⟩
  ·exact(hz h1).elim
  have ml:∀(j:Nat) (u:Value),news[j]?=some u→w.cell? ((⟨b2,o2,none⟩:Addr).add j)=some u:=fun j u hj=>by rw[Addr.add_lit];exact Fy j u hj
  have xT:els.length+av.length≤9223372036854775807:=by simp only[maxLen] at hm;omega
  have fin:∀(old:Nat),Rel Γ (s.add ob) a
    (w.drew.alloc (.cells (olds.toArray++news.toArray++Builtin.zeroCells d.zero.cells (grownCap w (els.length+av.length) old e-(els.length+av.length))) e))
    (η++[.slice (some ⟨w.heap.size,0,none⟩) (els.length+av.length) (grownCap w (els.length+av.length) old e)]):=by
   intro old
   have hs:bu w (w.drew.alloc (.cells (olds.toArray++news.toArray++Builtin.zeroCells d.zero.cells (grownCap w (els.length+av.length) old e-(els.length+av.length))) e)):=
    (bu.drew w).trans (bu.alloc _ _)
   have gP:∀b,bU (.slice (some ⟨w.heap.size,0,none⟩) (els.length+av.length) (grownCap w (els.length+av.length) old e))=some b→w.heap.size≤b:=by
    intro b hb
    rw[bd (by have:=grownCap_ge w (els.length+av.length) old e;omega)] at hb
    obtain rfl:=Option.some.inj hb
    exact Nat.le_refl _
   have he:=pF (Γ:=Γ) (o:=ob) h.heap.len hs gP
   refine h.add ao hs gP (kx ⟨bC,olds++news,?_,fun i el hi=>⟨?_,?_⟩⟩)
   ·rw[List.length_append]
    exact q6 olds news ho.len hn.len fO.Fw old xU hm
   ·rcases List.mem_append.1 (List.mem_of_getElem? hi) with h1|h1
    ·exact hl _ h1
    ·exact oH _ h1
   ·exact fun j x hj=>lz ho.len (ho.ext he.ko) (hn.ext he.ko) i el j x hi hj
  rcases q7 with⟨ad,rfl,rfl⟩|⟨b,o,rfl,hc⟩
  ·have:olds=[]:=List.eq_nil_of_length_eq_zero (by simpa using ho.len)
   subst this
   cases ad with
   |some ad=>
    have:=run_append_grow (P:=Γ.P) w t ty e i d.zero ht nQ Fx ad 0 0 [] (by simp) (fun j u hj=>by simp at hj) ⟨b2,o2,none⟩ av.length c2 news (by rw[pG];exact hn.len) ml (by omega)
     (by simp only[List.length_nil,Nat.zero_add] at xT ⊢;omega) (growslice_fits (by omega) (by rw[Al];simpa only[List.length_nil] using DI))
    refine⟨_,_,this,?_,rfl⟩
    have f0:=fin 0
    simpa only[List.length_nil,Nat.zero_add,List.nil_append] using f0
   |none=>
   have:=run_append_nil (P:=Γ.P) w t ty e i d.zero ht nQ Fx ⟨b2,o2,none⟩ av.length c2 news (by rw[pG];exact hn.len) ml xU (by simp only[List.length_nil,Nat.zero_add] at xT;omega) (by rw[Al];simp only[List.length_nil,Nat.zero_add] at DI;omega)
   refine⟨_,_,this,?_,rfl⟩
   have f0:=fin 0
   simpa only[List.length_nil,Nat.zero_add,List.nil_append,Array.empty_append] using f0
  ·have holds:∀(j:Nat) (u:Value),olds[j]?=some u→w.cell? ((⟨b,o,none⟩:Addr).add j)=some u:=fun j u hj=>by rw[Addr.add_lit];exact hc j u hj
   have:=run_append_grow (P:=Γ.P) w t ty e i d.zero ht nQ Fx ⟨b,o,none⟩ els.length els.length olds (by rw[pG];exact ho.len) holds ⟨b2,o2,none⟩ av.length c2 news (by rw[pG];exact hn.len) ml (by omega)
    (by omega) (growslice_fits (by omega) (by rw[Al];exact DI))
   exact⟨_,_,this,fin els.length,rfl⟩
theorem lA {g e z:Nat}:∀(us:List Value) (o:Nat) (cur:Array Value) (w:World),w.heap[g]?=some (.cells cur e (0,z))→o+us.length≤cur.size→
  w.setCells g o us=w.setRow g (cur.toList.take o++us++cur.toList.drop (o+us.length)).toArray:=by
 intro us
 induction us with
 |nil=>
  intro o cur w hg _
  simp only[World.setCells,List.append_nil,List.length_nil,Nat.add_zero,List.take_append_drop]
  have ak:g<w.heap.size:=(Array.getElem?_eq_some_iff.1 hg).1
  have hv:w.heap[g]=.cells cur e (0,z):=(Array.getElem?_eq_some_iff.1 hg).2
  unfold World.setRow
  cases w with
  |mk heap tape drawn os output=>
   congr 1
   apply Array.ext
   ·simp
   ·intro k h1 h2
    simp only[Array.getElem_modify]
    split
    ·rename_i hk;subst hk;simp at hv;simp[hv]
    ·rfl
 |cons u us ih=>
  intro o cur w hg hl
  rw[List.length_cons] at hl
  rw[World.setCells,setCell_eq_setRow w g o cur e _ u hg,ih (o+1) _ _ (setRow_heap w g cur _ e _ hg) (by simp;omega),setRow_setRow]
  congr 2
  apply List.ext_getElem?
  intro k
  have e1:(cur.setIfInBounds o u).toList=cur.toList.set o u:=by simp
  rw[e1]
  have hlen:cur.toList.length=cur.size:=by simp
  rcases Nat.lt_trichotomy k o with h|h|h
  ·rw[List.append_assoc,List.append_assoc,List.getElem?_append_left (by simp;omega),List.getElem?_append_left (by simp;omega),List.getElem?_take,List.getElem?_take,if_pos (by omega),if_pos h,List.getElem?_set_ne (by omega)]
  ·subst h
   have hk:(cur.toList.take k).length=k:=by rw[List.length_take];omega
   rw[List.append_assoc,List.append_assoc,List.getElem?_append_left (by simp;omega),List.getElem?_append_right (by omega),hk,Nat.sub_self,List.getElem?_take,if_pos (by omega),List.getElem?_set_self (by omega)]
   rfl
  ·have e2:(cur.toList.take o++(u::us)++cur.toList.drop (o+(us.length+1)))[k]?=(us++cur.toList.drop (o+(us.length+1)))[k-(o+1)]?:=by
    rw[List.append_assoc,List.getElem?_append_right (by simp;omega),List.cons_append]
    have:k-(List.take o cur.toList).length=(k-(o+1))+1:=by rw[List.length_take];omega
    rw[this,List.getElem?_cons_succ]
   rw[List.length_cons,e2,List.append_assoc,List.getElem?_append_right (by simp;omega)]
   have:k-(List.take (o+1) (cur.toList.set o u)).length=k-(o+1):=by rw[List.length_take,List.length_set];omega
   rw[this,List.drop_set_of_lt (by omega),show o+1+us.length=o+(us.length+1) by omega]
theorem iY {w:World} {g e z o:Nat} {cur:Array Value} {us:List Value} (hg:w.heap[g]?=some (.cells cur e (0,z))) (hz:z≤o) (hf:o+us.length≤cur.size):
  (∀j,j<us.length→(w.cell? ⟨g,o+j,none⟩).isSome=true)∧∀j,j<us.length→w.frozen? ⟨g,o+j,none⟩=false:=by
 refine⟨fun j hj=>?_,fun j hj=>?_⟩
 ·rw[cell_of_row w g _ cur e _ hg,Array.getElem?_eq_getElem (by omega)];rfl
 ·simp only[World.frozen?,hg]
  have:¬(o+j<z):=by omega
  simp[this]
structure tY (P:Program) (w:World) (F:Nat→Nat→Prop) (t u ty e:TypeId) (d:TD) (av:List AV) (v2:Value) (news:List Value):Prop where
 len:news.length=av.length*d.size
 one:∀u∈news,u.oneCell'=true
 rep:∀(i:Nat) (e:AV) (j:Nat) (x:AV),av[i]?=some e→e.cells[j]?=some x→∃u,news[i*d.size+j]?=some u∧aY w F [] [] x u∧u.oneCell'=true
 nothing:av=[]→∀b n c,n≤c→(Builtin.append_ #[t,u] ty #[.slice b n c,v2]).run P w=.ok (.slice b n c) w
 nil:0<av.length→(av.length:Int)≤9223372036854775807→av.length*d.bytes≤281474976710656→(Builtin.append_ #[t,u] ty #[.slice none 0 0,v2]).run P w=
  .ok (.slice (some ⟨w.heap.size,0,none⟩) av.length (grownCap w av.length 0 e)) (w.drew.alloc (.cells (news.toArray++Builtin.zeroCells d.zero.cells (grownCap w av.length 0 e-av.length)) e))
 grow:0<av.length→∀(b:Addr) (gQ ov:Nat) (olds:List Value),olds.length=gQ*d.size→(∀j v,olds[j]?=some v→w.cell? (b.add j)=some v)→ov<gQ+av.length→((gQ+av.length:Nat):Int)≤9223372036854775807→
  Builtin.nextslicecap (gQ+av.length) ov*d.bytes≤281474976710656→(Builtin.append_ #[t,u] ty #[.slice (some b) gQ ov,v2]).run P w=
   .ok (.slice (some ⟨w.heap.size,0,none⟩) (gQ+av.length) (grownCap w (gQ+av.length) ov e)) (w.drew.alloc (.cells (olds.toArray++news.toArray++Builtin.zeroCells d.zero.cells (grownCap w (gQ+av.length) ov e-(gQ+av.length))) e))
 room:0<av.length→∀(g gQ ov:Nat) (cur:Array Value) (hi:Nat),hi≤gQ*d.size→w.heap[g]?=some (.cells cur e (0,hi))→gQ+av.length≤ov→gQ*d.size+news.length≤cur.size→(Builtin.append_ #[t,u] ty #[.slice (some ⟨g,0,none⟩) gQ ov,v2]).run P w=
   .ok (.slice (some ⟨g,0,none⟩) (gQ+av.length) ov) (w.setRow g (cur.toList.take (gQ*d.size)++news++cur.toList.drop (gQ*d.size+news.length)).toArray)
theorem tY.ext {P:Program} {F F':Nat→Nat→Prop} {t u ty e:TypeId} {d:TD} {av:List AV} {v2:Value} {news:List Value} (h:tY P w F t u ty e d av v2 news) (he:IY w F w' F'):
  ∀(i:Nat) (e:AV) (j:Nat) (x:AV),av[i]?=some e→e.cells[j]?=some x→∃u,news[i*d.size+j]?=some u∧aY w' F' [] [] x u∧u.oneCell'=true:=
 fun i e j x hi hj=>let ⟨u,h1,h2,h3⟩:=h.rep i e j x hi hj;⟨u,h1,h2.ext he.ext,h3⟩
theorem pH {P:Program} {F:Nat→Nat→Prop} {t ty e:TypeId} {d:TD} (ht:P.underlying t=some (.slice e)) (fO:fh P e d) (bC:0<d.size) {av:List AV} {v2:Value} (hx:aY w F η hp (.sl av) v2)
  (oH:∀x:AV,x∈av→x.cells.length=d.size):∃news,tY P w F t t ty e d av v2 news:=by
 obtain⟨i,nQ,pG,Al,Fx⟩:=fO.info
 obtain⟨news,hn⟩:=hx.tz bC oH
 have pos:0<av.length→∃b2 o2 c2,v2=.slice (some ⟨b2,o2,none⟩) av.length c2∧∀(j:Nat) (u:Value),news[j]?=some u→w.cell? ((⟨b2,o2,none⟩:Addr).add j)=some u:=fun h0=>by
  rcases hn.shape with⟨_,_,h1⟩|⟨b2,o2,c2,rfl,_,_,Fy⟩
  ·rw[h1] at h0;simp at h0
  ·exact⟨b2,o2,c2,rfl,fun j u hj=>by rw[Addr.add_lit];exact Fy j u hj⟩
 refine⟨news,hn.len,hn.one,hn.rep,fun h0 b n c Au=>?_,fun h0 xT TH=>?_,fun h0 b gQ ov olds XH ho hg xT pJ=>?_,fun h0 g gQ ov cur hi QD hg eB pJ=>?_⟩
 ·refine iv ht fO b n c Au v2 ?_
  subst h0
  rcases hn.shape with⟨ad,rfl,_⟩|⟨b,o,c,rfl,_⟩
  ·cases ad with
   |none=>exact .inl rfl
   |some ad=>exact .inr ⟨_,_,rfl⟩
  ·exact .inr ⟨_,_,rfl⟩
 ·obtain⟨b2,o2,c2,rfl,hc⟩:=pos h0
  exact run_append_nil (P:=P) w t ty e i d.zero ht nQ Fx ⟨b2,o2,none⟩ av.length c2 news (by rw[pG];exact hn.len) hc h0 xT (by rw[Al];exact TH)
 ·obtain⟨b2,o2,c2,rfl,hc⟩:=pos h0
  exact run_append_grow (P:=P) w t ty e i d.zero ht nQ Fx b gQ ov olds (by rw[pG];exact XH) ho ⟨b2,o2,none⟩ av.length c2 news (by rw[pG];exact hn.len) hc hg xT (by rw[Al];exact pJ)
 ·obtain⟨b2,o2,c2,rfl,hc⟩:=pos h0
  have:=run_append_room_cells (P:=P) w t ty e i ht nQ g 0 gQ ov ⟨b2,o2,none⟩ av.length c2 news (by rw[pG];exact hn.len) hc hn.one eB (by rw[pG,Nat.zero_add];exact(iY hg QD pJ).1) (by rw[pG,Nat.zero_add];exact(iY hg QD pJ).2)
  rw[pG,Nat.zero_add,lA news _ cur w hg pJ] at this
  exact this
def aV (b:ByteArray):List AV:=b.data.toList.map fun c=>.ae (.int .u8 c.toNat)
theorem ek (b:ByteArray):(aV b).length=b.size:=by simp[aV]
theorem DJ {P:Program} {F:Nat→Nat→Prop} {t u ty e:TypeId} {d:TD} (ht:P.underlying t=some (.slice e)) (hu:P.underlying u=some .string) (fO:fh P e d) (h1:d.size=1) (hz:d.zero=.int .u8 0) (b:ByteArray):
  tY P w F t u ty e d (aV b) (.string b) (Lib.strCells b):=by
 obtain⟨i,nQ,pG,Al,Fx⟩:=fO.info
 have hl:=ek b
 have e1:(b.data.map fun b=>Value.int .u8 b.toNat)=(Lib.strCells b).toArray:=by
  apply Array.ext'
  simp[Lib.strCells]
 refine⟨by rw[Lib.strCells_length,hl,h1,Nat.mul_one],Lib.strCells_oneCell b,fun i el j x hi hj=>?_,fun h0 a n c Au=>?_,fun h0 xT TH=>?_,fun h0 a gQ ov olds XH ho hg xT pJ=>?_,fun h0 g gQ ov cur hi QD hg eB pJ=>?_⟩
 ·simp only[aV,List.getElem?_map,Option.map_eq_some_iff] at hi
  obtain⟨c,hc,rfl⟩:=hi
  cases j with
  |succ j=>simp[AV.cells] at hj
  |zero=>
   simp only[AV.cells,List.getElem?_cons_zero,Option.some.injEq] at hj
   subst hj
   exact⟨_,by rw[h1,Nat.mul_one,Nat.add_zero,Lib.strCells,List.getElem?_map,hc];rfl,.ae _,rfl⟩
 ·have hb:b.size=0:=by rw[←hl,h0];rfl
  have hf:=Lib.run_firstCells_string (P:=P) w i.size b
  rw[hb] at hf
  have G1:Lib.strCells b=[]:=List.eq_nil_of_length_eq_zero (by rw[Lib.strCells_length];exact hb)
  cases a<;>simp[Builtin.append_,run_underlying ht,run_underlying hu,sizeOf,typeInfo,nQ,Builtin.lenOf,hb,Au,hf,G1,storeCells]
 ·rw[hl] at *
  have:=run_append_nil_string (P:=P) w t u ty e i d.zero ht hu nQ Fx b h0 xT (by rw[Al];exact TH)
  rw[e1] at this
  exact this
 ·rw[hl] at *
  exact Lib.run_append_grow_string (P:=P) w t u ty e i d.zero ht hu nQ Fx a gQ ov olds (by rw[pG];exact XH) ho b hg xT (by rw[Al];exact pJ)
 ·rw[hl] at *
  rw[h1,Nat.mul_one,Lib.strCells_length] at *
  have MX:gQ+(Lib.strCells b).length≤cur.size:=by rw[Lib.strCells_length];exact pJ
  have hf:=Lib.run_firstCells_string (P:=P) w 1 b
  have pK:=run_storeCells_cells (P:=P) g gQ (Lib.strCells b) 0 w (iY hg QD MX).1 (iY hg QD MX).2 (Lib.strCells_oneCell b)
  rw[Nat.add_zero,lA _ _ cur w hg MX,Lib.strCells_length] at pK
  simp[Builtin.append_,run_underlying ht,run_underlying hu,sizeOf,typeInfo,nQ,show i.size=1 by rw[pG],Builtin.lenOf,eB,hf,Addr.add_lit,pK]
def eU (M:Bool) (e size:Nat) (els:List AV):af:=match M with|false=>.row e size els|true=>.aI e size els
def kB (M:Bool) (n:Nat):Nat:=match M with|false=>n|true=>0
theorem TI (M:Bool) (n:Nat):kB M n≤n:=by cases M<;>simp[kB]
theorem Nl (M:Bool) {n m:Nat} (h:n≤m):kB M n≤kB M m:=by cases M<;>simp[kB,h]
theorem ky {F:Nat→Nat→Prop} {M:Bool} {e size:Nat} {els:List AV} {v:Value}:fL w F η hp (eU M e size els) v↔(0<size∧∃xs:List Value,jG w e size v els.length xs (kB M (els.length*size))∧
   ∀(i:Nat) (el:AV),els[i]?=some el→el.cells.length=size∧
    ∀(j:Nat) (x:AV),el.cells[j]?=some x→∃u,xs[i*size+j]?=some u∧aY w F [] [] x u∧u.oneCell'=true):=by cases M<;>exact Iff.rfl
theorem iZ {M:Bool} {e size r n:Nat} {els:List AV} {v:Value} (h:hp[r]?=some (eU M e size els)):aT η hp r n v↔n≤els.length∧(n=els.length→η[r]?=some v):=by
 unfold aT
 rw[h]
 cases M<;>exact Iff.rfl
theorem wQ {M:Bool} {e size k:Nat} {els:List AV} (h:(eU M e size els).bb k):k<els.length*size:=by cases M<;>first|exact h|exact h.elim
theorem wR {M:Bool} {e size k:Nat} {els av:List AV} (h:(eU M e size els).bb k):(eU M e size (els++av)).bb k:=by
 have h':=wQ h
 cases M with
 |false=>show k<(els++av).length*size;rw[List.length_append,Nat.add_mul];omega
 |true=>exact h.elim
theorem q8 (M:Bool) (e size:Nat) (els:List AV):(eU M e size els).live:=by cases M<;>exact True.intro
theorem tZ (ao:Γ.Ok) (h:Rel Γ s a w η) {t u ty e:TypeId} {d:TD} (fO:fh Γ.P e d) {M:Bool} {r:Nat} {els av:List AV} {v0 v2:Value}
  (hr:s.hp[r]?=some (eU M e d.size els)) (hv:aT η s.hp r els.length v0) {news:List Value} (hn:tY Γ.P w (aW Γ w η s.hp) t u ty e d av v2 news)
  (oH:∀x:AV,x∈av→x.cells.length=d.size)
  (hm:els.length+av.length≤maxLen) (DI:(els.length+av.length)*d.bytes≤140737488355328):
  ∃v' w' aH,(Builtin.append_ #[t,u] ty #[v0,v2]).run Γ.P w=.ok v' w'∧Rel Γ { s with hp:=s.hp.set r (eU M e d.size (els++av)) } a w' aH∧v'.oneCell'=true∧aH[r]?=some v':=by
 have pL:η[r]?=some v0:=((iZ hr).1 hv).2 rfl
 obtain⟨bC,xs,bW,cy⟩:=ky.1 (h.heap.obj r _ v0 hr pL)
 have hold:∀(i:Nat) (e:AV) (j:Nat) (x:AV),els[i]?=some e→e.cells[j]?=some x→∃u,xs[i*d.size+j]?=some u∧aY w (aW Γ w η s.hp) [] [] x u∧u.oneCell'=true:=
  fun i el j x hi hj=>(cy i el hi).2 j x hj
 by_cases hz:av=[]
 ·subst hz
  have gR:s.hp.set r (eU M e d.size (els++[]))=s.hp:=by
   apply List.ext_getElem?
   intro k
   by_cases hk:r=k
   ·subst hk;rw[aj hr,List.append_nil,hr]
   ·rw[getElem?_set_ne hk]
  have I3:∀b n c,v0=.slice b n c→n≤c→∃v' w' aH,(Builtin.append_ #[t,u] ty #[v0,v2]).run Γ.P w=.ok v' w'∧Rel Γ { s with hp:=s.hp.set r (eU M e d.size (els++[])) } a w' aH∧v'.oneCell'=true∧aH[r]?=some v':=by
   intro b n c e1 e2
   subst e1
   exact⟨_,w,η,hn.nothing rfl b n c e2,by rw[gR];exact h,rfl,pL⟩
  rcases bW.2 with⟨h0,rfl|⟨ad,rfl⟩⟩|⟨g,cap,cur,rfl,h0,_,Au,_⟩
  ·exact I3 none 0 0 rfl (Nat.le_refl _)
  ·exact I3 _ 0 0 rfl (Nat.le_refl _)
  ·exact I3 _ _ _ rfl Au
 ·have xU:0<av.length:=List.length_pos_iff.2 hz
  have xT:els.length+av.length≤9223372036854775807:=by simp only[maxLen] at hm;omega
  have qZ:∀v' n u,aT η s.hp r n u→aT (η.set r v') (s.hp.set r (eU M e d.size (els++av))) r n u:=by
   intro v' n u ho
   replace ho:=(iZ hr).1 ho
   refine(iZ (aj hr)).2 ⟨by rw[List.length_append];have:=ho.1;omega,fun I4=>?_⟩
   rw[List.length_append] at I4
   have:=ho.1
   omega
  have QE:∀(x:AV),x∈els++av→x.cells.length=d.size:=by
   intro x mm
   rcases List.mem_append.1 mm with h1|h1
   ·obtain⟨k,hk⟩:=List.getElem?_of_mem h1
    exact(cy k x hk).1
   ·exact oH _ h1
  have grown:∀(old:Nat),(∀b es c,bU v0=some b→w.heap[b]?=some (.map es c)→False)→(∀b d,bU v0=some b→w.heap[b]?=some (.deferred d)→False)→(∀x,v0 ≠ .pointer x)→(∀x,v0 ≠ .map x)→
    Rel Γ { s with hp:=s.hp.set r (eU M e d.size (els++av)) } a
    (w.drew.alloc (.cells (xs.toArray++news.toArray++Builtin.zeroCells d.zero.cells (grownCap w (els.length+av.length) old e-(els.length+av.length))) e))
    (η.set r (.slice (some ⟨w.heap.size,0,none⟩) (els.length+av.length) (grownCap w (els.length+av.length) old e))):=by
   intro old RC XI ff nR
   have hs:bu w (w.drew.alloc (.cells (xs.toArray++news.toArray++Builtin.zeroCells d.zero.cells (grownCap w (els.length+av.length) old e-(els.length+av.length))) e)):=
    (bu.drew w).trans (bu.alloc _ _)
   have gP:∀b,bU (.slice (some ⟨w.heap.size,0,none⟩) (els.length+av.length) (grownCap w (els.length+av.length) old e))=some b→w.heap.size≤b:=by
    intro b hb
    rw[bd (by have:=grownCap_ge w (els.length+av.length) old e;omega)] at hb
    obtain rfl:=Option.some.inj hb
    exact Nat.le_refl _
   refine h.change ao (o':=eU M e d.size (els++av)) hr (q8 _ _ _ _) pL (hs.keeps _) (fun b hb=>.inr (gP b hb)) (fun k hk=>?_) (fun b k u hb _ hc=>?_) (fun b es c hb _ hh=>RC b es c hb hh) (qZ _)
    (fun x mm=>(ff x mm).elim) (fun x mm=>(nR x mm).elim) XI (fun he=>ky.2 ⟨bC,xs++news,?_,fun i el hi=>⟨QE _ (List.mem_of_getElem? hi),?_⟩⟩)
   ·exact wR hk
   ·rw[World.cell?_of_block (hs.block b (h.heap.block hr (q8 _ _ _ _) pL hb))];exact hc
   ·rw[List.length_append]
    exact(q6 xs news bW.1 hn.len fO.Fw old xU hm).more (Nat.zero_le _)
   ·exact fun j x hj=>lz bW.1 (fun i e j x hi hj=>let ⟨u,h1,h2,h3⟩:=hold i e j x hi hj;⟨u,h1,h2.ext he.ko.ext,h3⟩) (hn.ext he.ko) i el j x hi hj
  have xV:∀v',(η.set r v')[r]?=some v':=fun v'=>aj pL
  rcases bW.2 with⟨h0,rfl|⟨ad,rfl⟩⟩|⟨g,cap,cur,rfl,h0,⟨hi,QD,hg⟩,Au,DG,fq,jH⟩
  ·have Av:els=[]:=List.eq_nil_of_length_eq_zero h0
   have MY:xs=[]:=List.eq_nil_of_length_eq_zero (by rw[bW.1,h0];simp)
   have gr:=grown 0 (fun b es c hb=>by simp[bU] at hb) (fun b d hb=>by simp[bU] at hb) (fun x mm=>by cases mm) (fun x mm=>by cases mm)
   subst Av;subst MY
   have:=hn.nil xU (by simp only[List.length_nil,Nat.zero_add] at xT;omega) (by simp only[List.length_nil,Nat.zero_add] at DI;omega)
   refine⟨_,_,_,this,?_,rfl,xV _⟩
   simpa only[List.length_nil,Nat.zero_add,List.nil_append,Array.empty_append] using gr
  ·have Av:els=[]:=List.eq_nil_of_length_eq_zero h0
   have MY:xs=[]:=List.eq_nil_of_length_eq_zero (by rw[bW.1,h0];simp)
   have gr:=grown 0 (fun b es c hb=>by simp[bU] at hb) (fun b d hb=>by simp[bU] at hb) (fun x mm=>by cases mm) (fun x mm=>by cases mm)
   subst Av;subst MY
   have:=hn.grow xU ad 0 0 [] (by simp) (fun j u hj=>by simp at hj) (by omega)
    (by simp only[List.length_nil,Nat.zero_add] at xT ⊢;omega) (growslice_fits (by omega) (by simpa only[List.length_nil] using DI))
   refine⟨_,_,_,this,?_,rfl,xV _⟩
   simpa only[List.length_nil,Nat.zero_add,List.nil_append] using gr
  ·by_cases eB:els.length+av.length≤cap
   ·have pJ:els.length*d.size+news.length≤cur.size:=by rw[hn.len,fq,←Nat.add_mul];exact Nat.mul_le_mul_right _ eB
    have eV:=hn.room xU g els.length cap cur hi (Nat.le_trans QD (TI _ _)) hg eB pJ
    refine⟨_,_,_,eV,?_,rfl,xV _⟩
    have nP:bU (.slice (some ⟨g,0,none⟩) els.length cap)=some g:=bd h0
    have XJ:bU (.slice (some ⟨g,0,none⟩) (els.length+av.length) cap)=some g:=bd h0
    have Fz:=setRow_heap w g cur (cur.toList.take (els.length*d.size)++news++cur.toList.drop (els.length*d.size+news.length)).toArray e (0,hi) hg
    refine h.change ao (o':=eU M e d.size (els++av)) hr (q8 _ _ _ _) pL ⟨rfl,rfl,rfl,by simp,fun k hk hb=>setRow_other w g k _ (fun e=>hb (by rw[nP,e]))⟩ (fun b hb=>.inl (by rw[nP];rw[XJ] at hb;exact hb)) (fun k hk=>?_) (fun b k u hb hk hc=>?_)
     (fun b es c hb _ hh=>?_) (qZ _) (fun x mm=>by cases mm) (fun x mm=>by cases mm) (fun b d hb hh=>?_) (fun he=>ky.2 ⟨bC,xs++news,?_,fun i el hi=>⟨QE _ (List.mem_of_getElem? hi),?_⟩⟩)
    ·exact wR hk
    ·rw[nP] at hb
     obtain rfl:=Option.some.inj hb
     have wa:k<els.length*d.size:=wQ hk
     rw[cell_of_row w g k cur e _ hg] at hc
     rw[cell_of_row _ g k _ e _ Fz]
     have ak:k<cur.size:=(Array.getElem?_eq_some_iff.1 hc).1
     rw[←Array.getElem?_toList] at hc
     simp only[List.getElem?_toArray]
     rw[List.append_assoc,List.getElem?_append_left (by simp;omega),List.getElem?_take,if_pos wa]
     exact hc
    ·rw[nP] at hb
     obtain rfl:=Option.some.inj hb
     rw[hg] at hh;cases hh
    ·rw[nP] at hb
     obtain rfl:=Option.some.inj hb
     rw[hg] at hh;cases hh
    ·have G2:(xs++news).length=(els.length+av.length)*d.size:=by rw[List.length_append,bW.1,hn.len,Nat.add_mul]
     rw[List.length_append]
     refine⟨G2,.inr ⟨g,cap,_,rfl,h0,⟨hi,Nat.le_trans QD (Nl M (Nat.mul_le_mul_right _ (by omega))),Fz⟩,eB,DG,?_,?_⟩⟩
     ·simp only[List.size_toArray,List.length_append,List.length_take,List.length_drop,Array.length_toList]
      have:els.length*d.size≤cur.size:=by omega
      omega
     ·rw[jH,←G2]
      exact List.take_left
    ·exact fun j x hj=>lz bW.1 (fun i e j x hi hj=>let ⟨u,h1,h2,h3⟩:=hold i e j x hi hj;⟨u,h1,h2.ext he.ko.ext,h3⟩) (hn.ext he.ko) i el j x hi hj
   ·have ay:∀(j:Nat) (u:Value),xs[j]?=some u→w.cell? ((⟨g,0,none⟩:Addr).add j)=some u:=by
     intro j u hj
     rw[Addr.add_lit,Nat.zero_add,cell_of_row w g j cur e _ hg]
     rw[←jH,List.getElem?_take] at hj
     by_cases ak:j<els.length*d.size
     ·rw[if_pos ak] at hj;simpa using hj
     ·rw[if_neg ak] at hj;cases hj
    have nP:bU (.slice (some ⟨g,0,none⟩) els.length cap)=some g:=bd h0
    have:=hn.grow xU ⟨g,0,none⟩ els.length cap xs bW.1 ay (by omega) (by omega) (growslice_fits (by omega) DI)
    exact⟨_,_,_,this,grown cap (fun b es c hb hh=>by rw[nP] at hb;obtain rfl:=Option.some.inj hb;rw[hg] at hh;cases hh)
     (fun b d hb hh=>by rw[nP] at hb;obtain rfl:=Option.some.inj hb;rw[hg] at hh;cases hh) (fun x mm=>by cases mm) (fun x mm=>by cases mm),rfl,xV _⟩
end
section
variable {G:Type} {Γ:Env G} {s:AS G} {a:Act} {w w':World} {η:List Value} {hp:List af} {F:Nat→Nat→Prop} {P:Program}
def AS.ev (s:AS G):Operand→AV
 | .tmp t=>s.tmps t
 | .const v=>.ae v
 | .global g=>.ae (.pointer (some ⟨g,0,none⟩))
 | .func f=>.aK f []
theorem Rel.ev (h:Rel Γ s a w η) (x:Operand):aY w (aW Γ w η s.hp) η s.hp (s.ev x) (a.eval x):=by
 cases x with
 |tmp t=>exact h.tmps t
 |const v=>exact .ae v
 |global g=>exact .ae _
 |func f=>exact .aK f [] #[] rfl (fun j x v h=>by simp at h)
def AV.dF (hp:List af):AV→AV
 | .own r n=>(match (AV.own r n).fN hp with|some els=>.sl els|none=>.top)
 | .clip els=>.sl els
 | .sl els=>.sl els
 | .ae v=>(match v with | .slice none 0 0=>.sl []|v=>.ae v)
 | .fn v=>.fn v
 | .ea es=>.ea es
 | .aL e o=>.aL e o
 | .aK f caps=>(match caps with | []=>.aK f []|_=>.top)
 |_=>.top
def AV.ee (hp:List af):AV→AV
 | .agg cs=>.agg (cs.map (AV.dF hp))
 |x=>x.dF hp
def AV.bj (hp:List af):AV→AV
 | .aX vs=>.aX (vs.map (AV.ee hp))
 | .aK f caps=>.aK f (caps.map (AV.ee hp))
 |x=>x.ee hp
theorem kz (h:cX w (aW Γ w η hp) η hp) (hm:sU Γ η hp) {x:AV} {v:Value} (hx:aY w (aW Γ w η hp) η hp x v):aY w (aW Γ w η hp) [] [] (x.dF hp) v:=by
 cases x with
 |own r n=>
  simp only[AV.dF]
  split
  ·rename_i els he
   have:=iX h hm hx he
   cases this with
   |ki=>exact .ki _
   |sl size els b o c f hc hm hl ay hr=>exact .sl size els b o c f hc hm hl ay hr
  ·exact .top _
 |clip els=>cases hx.nO with
  |ki=>exact .ki _
  |sl size els b o c f hc hm hl ay hr=>exact .sl size els b o c f hc hm hl ay hr
 |sl els=>cases hx with
  |ki=>exact .ki _
  |sl size els b o c f hc hm hl ay hr=>exact .sl size els b o c f hc hm hl ay hr
 |ae u=>
  simp only[AV.dF]
  split
  ·cases hx;exact .ki _
  ·cases hx;exact .ae _
 |fn u=>cases hx;exact .fn _ (by assumption)
 |ea es=>cases hx with|ea b es c h1 h2 _ hl=>exact .ea b es c h1 h2 _ hl
 |aL e off=>cases hx with|aL _ _ b o f ay hr=>exact .aL e off b o f ay hr
 |aK f caps=>
  simp only[AV.dF]
  split
  ·cases hx with|aK _ _ vs hl hr=>exact .aK f [] vs hl fun j y u hy _=>by cases hy
  ·exact .top _
 |_=>exact .top _
theorem kA (h:cX w (aW Γ w η hp) η hp) (hm:sU Γ η hp) {x:AV} {v:Value} (hx:aY w (aW Γ w η hp) η hp x v):aY w (aW Γ w η hp) [] [] (x.ee hp) v:=by
 cases x with
 |agg cs=>
  cases hx with
  |agg _ vs hl h1 hr=>
   refine .agg _ vs (by simpa using hl) h1 fun j y u hy hu=>?_
   rw[List.getElem?_map] at hy
   cases hj:cs[j]? with
   |none=>rw[hj] at hy;cases hy
   |some z=>rw[hj] at hy;obtain rfl:=Option.some.inj hy;exact kz h hm (hr j z u hj hu)
 |_=>exact kz h hm hx
theorem fu (h:cX w (aW Γ w η hp) η hp) (hm:sU Γ η hp) {x:AV} {v:Value} (hx:aY w (aW Γ w η hp) η hp x v):aY w (aW Γ w η hp) [] [] (x.bj hp) v:=by
 cases x with
 |aX cs=>
  cases hx with
  |aX _ vs hl hr=>
   refine .aX _ vs (by simpa using hl) fun j y u hy hu=>?_
   rw[List.getElem?_map] at hy
   cases hj:cs[j]? with
   |none=>rw[hj] at hy;cases hy
   |some z=>rw[hj] at hy;obtain rfl:=Option.some.inj hy;exact kA h hm (hr j z u hj hu)
 |aK f cs=>
  cases hx with
  |aK _ _ vs hl hr=>
   refine .aK f _ vs (by simpa using hl) fun j y u hy hu=>?_
   rw[List.getElem?_map] at hy
   cases hj:cs[j]? with
   |none=>rw[hj] at hy;cases hy
   |some z=>rw[hj] at hy;obtain rfl:=Option.some.inj hy;exact kA h hm (hr j z u hj hu)
 |_=>exact kA h hm hx
def fieldsOf (tab:Nat→Option TD) (T:Nat):List (Nat×Nat×Bool):=
 match tab T with
 |some d=>(match d.kind with | .bS fs=>fs|_=>[])
 |none=>[]
def AV.isAgg:AV→Bool
 | .agg _=>true
 |_=>false
def eC (agg:Bool) (size:Nat) (cs:List AV) (o:Nat):Option AV:=
 if agg then(if o+size≤cs.length then some (.agg ((cs.drop o).take size)) else none) else cs[o]?
def ua (agg:Bool) (size:Nat) (e:AV) (o:Nat):Option AV:=
 if o=0∧e.cells.length=size∧e.isAgg=agg then some e else eC agg size e.cells o
def xW (op:BinOp) (k:IntKind) (a b:Int):Option (Prop×AV):=
 match op with
 | .add=>some (True,.ae (.int k (k.wrap (a+b))))
 | .sub=>some (True,.ae (.int k (k.wrap (a-b))))
 | .mul=>some (True,.ae (.int k (k.wrap (a*b))))
 | .eql=>some (True,.ae (.bool (a==b)))
 | .neq=>some (True,.ae (.bool (a != b)))
 | .lss=>some (True,.ae (.bool (decide (a<b))))
 | .leq=>some (True,.ae (.bool (decide (a≤b))))
 | .gtr=>some (True,.ae (.bool (decide (a>b))))
 | .geq=>some (True,.ae (.bool (decide (a≥b))))
 |_=>none
def ja (tab:Nat→Option TD) (T:Nat) (op:BinOp) (x y:AV):Option (Prop×AV):=
 match x,y with
 | .ae (.int k a),.ae (.int k' b)=>if k=k' then xW op k a b else none
 | .ae (.bool a),.ae (.bool b)=>
  (match tab T with
   |some d=>(match d.kind,op with
    | .bool,.eql=>some (True,.ae (.bool (a==b)))
    | .bool,.neq=>some (True,.ae (.bool (!(a==b))))
    |_,_=>none)
   |none=>none)
 | .agg [.ae (.int .i64 a1),.ae (.int .i64 a2)],.agg [.ae (.int .i64 b1),.ae (.int .i64 b2)]=>
  (match tab T with
   |some d=>if d.flat then(match op with
    | .eql=>some (True,.ae (.bool (a1==b1&&a2==b2)))
    | .neq=>some (True,.ae (.bool (!(a1==b1&&a2==b2))))
    |_=>none) else none
   |none=>none)
 |_,_=>none
def FA:List Prop→Prop
 | []=>True
 |p::l=>p∧FA l
def I5 (op:BinOp) (k:IntKind) (a b:Int):Option Int:=
 match op with
 | .and=>some (k.wrap (BitVec.ofInt k.bits a &&& BitVec.ofInt k.bits b).toNat)
 | .or=>some (k.wrap (BitVec.ofInt k.bits a ||| BitVec.ofInt k.bits b).toNat)
 | .xor=>some (k.wrap (BitVec.ofInt k.bits a ^^^ BitVec.ofInt k.bits b).toNat)
 | .andNot=>some (k.wrap (BitVec.ofInt k.bits a &&& ~~~ (BitVec.ofInt k.bits b)).toNat)
 |_=>none
def Aw (a b:ByteArray):Bool:=a.toList==b.toList
def strLt (a b:ByteArray):Bool:=Op.bytesLess a.toList b.toList
def xX:AV→Option Bool
 | .ptr _ _=>some false
 | .aL _ _=>some false
 | .ae (.pointer p)=>some p.isNone
 |_=>none
def G3 (tab:Nat→Option TD) (T:Nat) (op:BinOp) (x y:AV):Option (List Prop×AV):=
 match y with
 | .ae (.int k' b)=>(match x with
  | .ae (.int k a)=>if k=k' then(match op with
    | .quo=>some ([¬b=0],.ae (.int k (k.wrap (a.tdiv b))))
    | .rem=>some ([¬b=0],.ae (.int k (a.tmod b)))
    |op=>(I5 op k a b).map fun n=>([],.ae (.int k n))) else none
  |_=>none)
 | .ae (.string b)=>(match x with
  | .ae (.string a)=>(match op with
    | .add=>some ([a.size+b.size≤9223372036854775807],.ae (.string (a++b)))
    | .eql=>some ([],.ae (.bool (Aw a b)))
    | .neq=>some ([],.ae (.bool (!(Aw a b))))
    | .lss=>some ([],.ae (.bool (strLt a b)))
    | .leq=>some ([],.ae (.bool (strLt a b||Aw a b)))
    | .gtr=>some ([],.ae (.bool (!(strLt a b||Aw a b))))
    | .geq=>some ([],.ae (.bool (!(strLt a b))))
    |_=>none)
  |_=>none)
 | .ae (.pointer none)=>(match xX x with
  |some b=>(match tab T with
   |some d=>(match d.kind with
    | .ptr _=>(match op with
     | .eql=>some ([],.ae (.bool b))
     | .neq=>some ([],.ae (.bool (!b)))
     |_=>none)
    |_=>none)
   |none=>none)
  |none=>none)
 |_=>none
theorem DK {tab:Nat→Option TD} {T:Nat} {op:BinOp} {x y:AV} {p:List Prop×AV} (h:G3 tab T op x y=some p):ja tab T op x y=none:=by
 unfold G3 at h
 split at h
 ·split at h
  ·split at h
   ·rename_i hk
    subst hk
    cases op<;>simp[I5] at h<;>simp[ja,xW]
   ·cases h
  ·cases h
 ·split at h
  ·simp[ja]
  ·cases h
 ·unfold ja
  split<;>first|rfl|(rename_i e;cases e)
 ·cases h
def RD:Operand→Bool
 | .const .nilIface=>true
 |_=>false
theorem Nn {y:Operand} (h:RD y=true):y=.const .nilIface:=by
 unfold RD at h
 split at h
 ·rfl
 ·cases h
def Np (tab:Nat→Option TD) (T:Nat) (op:BinOp) (x:AV) (y:Operand):Option AV:=
 match RD y with
 |true=>(match tab T,x with
  |some d,.ae .nilIface=>(match d.kind with
   | .Xb=>(match op with
    | .eql=>some (.ae (.bool true))
    | .neq=>some (.ae (.bool false))
    |_=>none)
   |_=>none)
  |_,_=>none)
 |false=>none
def xY (tab:Nat→Option TD) (T:Nat) (op:BinOp) (x y:AV):Option (Prop×AV):=
 match ja tab T op x y with
 |some r=>some r
 |none=>(G3 tab T op x y).map fun p=>(FA p.1,p.2)
def xZ (tab:Nat→Option TD) (S D:Nat) (x:AV):Option AV:=
 match tab S,tab D,x with
 |some _,some d,.ae (.int _ n)=>(match d.kind with
  | .int k=>some (.ae (.int k (k.wrap n)))
  |_=>none)
 |some _,some d,.ae (.string s)=>(match d.kind with
  | .str=>some (.ae (.string s))
  |_=>none)
 |_,_,_=>none
def Ax (b:ByteArray) (n:Int):Int:=(((b.data[n.toNat]?).map UInt8.toNat).getD 0:Nat)
def aC {κ:Type} [DecidableEq κ]:List (κ×Value)→κ→Option Value
 | [],_=>none
 |(k,v)::r,a=>if a=k then some v else aC r a
def AV.wS (hp:List af):AV→Option ME
 | .ea es=>some es
 | .mp r=>(match hp[r]? with|some (.aB es)=>some es|_=>none)
 |_=>none
def gK {κ:Type} [DecidableEq κ] (es:List (κ×Value)) (z:Value) (a:κ) (ok:Bool):AV:=
 if ok=true then .aX [.ae ((aC es a).getD z),.ae (.bool (aC es a).isSome)] else .ae ((aC es a).getD z)
def q9 (hp:List af) (x:AV):Option AV:=
 match x with
 | .ae (.string s)=>some (.ae (.int .i64 s.size))
 |x=>(x.fN hp).map fun els=>.ae (.int .i64 els.length)
def AV.kC:AV→Bool
 | .ae v=>v.oneCell'
 | .top | .aX _ | .eH _ _ _ _=>false
 |_=>true
def ub (n:Nat):List (Nat×Nat×Bool):=(List.range n).map fun i=>(i,1,false)
def cB (fs:List (Nat×Nat×Bool)) (cs:List AV):List (Nat×AV)→Option (List AV)
 | []=>some cs
 |(i,x)::rest=>
  match fs[i]? with
  |some p=>if x.cells.length=p.2.1∧p.1+p.2.1≤cs.length∧x.kC=true then cB fs (setCells cs p.1 x.cells) rest else none
  |none=>none
def pM:Nat→List (Nat×Operand)→Bool
 |_,[]=>true
 |k,(i,_)::r=>i==k&&pM (k+1) r
def oS (size:Nat):List AV→Prop
 | []=>True
 |x::xs=>(x.cells.length=size∧x.kC=true)∧oS size xs
def bx (ρ:Operand→AV) (d:Int):Option Operand→Option Int
 |none=>some d
 |some x=>(match ρ x with | .ae (.int _ n)=>some n|_=>none)
def ra (hp:List af):AV→Option (Nat×Nat×Nat×Nat×Nat)
 | .own r m=>(match hp[r]? with
  |some (.aI e size els)=>some (r,m,e,size,els.length)
  |_=>none)
 |_=>none
def bk (tab:Nat→Option TD) (hp:List af) (ρ:Operand→AV):Op→Option (Prop×AV)
 | .move x=>some (True,ρ x)
 | .assign x=>some (True,ρ x)
 | .nilCheck x=>(match ρ x with
  | .ptr r o=>some (True,.ptr r o)
  | .aL e o=>some (True,.aL e o)
  |_=>none)
 | .pick c x y=>(match ρ c with
  | .ae (.bool t)=>some (True,if t=true then ρ x else ρ y)
  |_=>none)
 | .fieldAddr T x f=>(match (fieldsOf tab T)[f]? with
  |some p=>if p.2.1=0 then none else(match ρ x with
   | .ptr r o=>some (True,.ptr r (o+p.1))
   | .aL e o=>some (True,.aL e (o+p.1))
   | .eH r m i z=>if p.1=0 then some (True,.eH r m i z) else none
   |_=>none)
  |none=>none)
 | .load T x=>(match tab T with
  |some d=>(match ρ x with
   | .ptr r o=>(match hp[r]? with
    |some (.box cs)=>(eC d.kind.agg d.size cs o).map fun v=>(True,v)
    |_=>none)
   | .aL e o=>(ua d.kind.agg d.size e o).map fun v=>(True,v)
   | .eH r m i z=>(match hp[r]? with
    |some (.aI _ z' els)=>if z'=z∧d.size=z then some (m=els.length∧i<els.length∧(els.getD i .top).isAgg=d.kind.agg,els.getD i .top) else none
    |_=>none)
   |_=>none)
  |none=>none)
 | .indexAddr T x i=>(match tab T with
  |some d=>(match d.kind with
   | .iW e=>(match tab e,(ρ x).fN hp,ρ i with
    |some d',some els,.ae (.int _ n)=>some (0≤n∧n<els.length∧(els.getD n.toNat .top).cells.length=d'.size,.aL (els.getD n.toNat .top) 0)
    |some d',none,.ae (.int _ n)=>(match ra hp (ρ x) with
     |some (r,m,e',size,k)=>if e'=e∧size=d'.size then some (0≤n∧n<m∧m=k,.eH r m n.toNat size) else none
     |none=>none)
    |_,_,_=>none)
   | .arr m=>(match ρ x,ρ i with
    | .ptr r 0,.ae (.int _ n)=>some (0≤n∧n<m,.ptr r n.toNat)
    | .aL e 0,.ae (.int _ n)=>some (0≤n∧n<m,.aL e n.toNat)
    |_,_=>none)
   |_=>none)
  |none=>none)
 | .binOp op T x y _=>(match Np tab T op (ρ x) y with
  |some v=>some (True,v)
  |none=>xY tab T op (ρ x) (ρ y))
 | .convert S D x=>(xZ tab S D (ρ x)).map fun v=>(True,v)
 | .unOp op _ x=>(match op,ρ x with
  | .not,.ae (.bool b)=>some (True,.ae (.bool (!b)))
  | .neg,.ae (.int k n)=>some (True,.ae (.int k (k.wrap (0-n))))
  |_,_=>none)
 | .build T parts=>(match tab T with
  |some d=>(match d.kind with
   | .bS fs=>(cB fs (d.zero.cells.toList.map .ae) (parts.toList.map fun p=>(p.1,ρ p.2))).map fun cs=>(True,.agg cs)
   | .arr n=>(cB (ub n) (d.zero.cells.toList.map .ae) (parts.toList.map fun p=>(p.1,ρ p.2))).map fun cs=>(True,.agg cs)
   |_=>none)
  |none=>none)
 | .buildSlice T n parts=>(match tab T with
  |some d=>(match d.kind with
   | .iW e=>(match tab e with
    |some d'=>if n=parts.toList.length∧pM 0 parts.toList=true∧n≤16777216∧n*d'.size≤16777216 then some (oS d'.size (parts.toList.map fun p=>(ρ p.2).bj hp),.clip (parts.toList.map fun p=>(ρ p.2).bj hp)) else none
    |none=>none)
   |_=>none)
  |none=>none)
 | .slice T x lo hi mx=>(match tab T with
  |some d=>(match d.kind,ρ x with
   | .str,.ae (.string b)=>(match mx,bx ρ 0 lo,bx ρ b.size hi with
    |none,some l,some h=>some (0≤l∧l≤h∧h≤b.size,.ae (.string (b.extract l.toNat h.toNat)))
    |_,_,_=>none)
   | .iW e,v=>(match v.fN hp,tab e with
    |some els,some d'=>(match bx ρ 0 lo,bx ρ els.length hi,mx.map fun m=>bx ρ 0 (some m) with
     |some l,some h,none=>some (0≤l∧l≤h∧h≤els.length∧(∀y:AV,y∈els→y.cells.length=d'.size),.sl ((els.take h.toNat).drop l.toNat))
     |some l,some h,some (some m)=>if hi.isSome=true then some (0≤l∧l≤h∧h=m∧h≤els.length∧(∀y:AV,y∈els→y.cells.length=d'.size),.clip ((els.take h.toNat).drop l.toNat)) else none
     |_,_,_=>none)
    |_,_=>none)
   |_,_=>none)
  |none=>none)
 | .field T x f=>(match (fieldsOf tab T)[f]?,ρ x with
  |some p,.agg cs=>if p.2.2=true∨p.2.1=1 then(eC p.2.2 p.2.1 cs p.1).map fun v=>(True,v) else none
  |_,_=>none)
 | .lookup T m k ok=>(match tab T,(ρ m).wS hp,ρ k with
  |some d,some (.i es),.ae (.int .i64 a)=>(match d.kind with
   | .mI kt et=>(match tab kt,tab et with
    |some dk,some de=>(match dk.kind with
     | .int _=>some (True,gK es de.zero a ok)
     |_=>none)
    |_,_=>none)
   |_=>none)
  |some d,some (.s es),.ae (.string a)=>(match d.kind with
   | .mI kt et=>(match tab kt,tab et with
    |some dk,some de=>(match dk.kind with
     | .str=>some (True,gK es de.zero a ok)
     |_=>none)
    |_,_=>none)
   |_=>none)
  |_,_,_=>none)
 | .index T x i=>(match tab T,ρ x,ρ i with
  |some d,.ae (.string b),.ae (.int _ n)=>(match d.kind with
   | .str=>some (0≤n∧n<b.size,.ae (.int .u8 (Ax b n)))
   |_=>none)
  |_,_,_=>none)
 | .extract x i=>(match ρ x with
  | .aX vs=>(vs[i]?).map fun v=>(True,v)
  |_=>none)
 | .makeFunc (.func f) first caps=>if first.size=0 then some (True,.aK f (caps.toList.map ρ)) else if caps.size=0 then some (True,.cK f (first.toList.map ρ)) else none
 | .call c=>(match c.callee,c.args.toList with
  | .builtin .len,[x]=>(match (c.argTypes[0]?).bind tab with
   |some d=>(match d.kind,ρ x with
    | .iW _,.ae (.string _)=>none
    | .iW _,v=>(match q9 hp v with
     |some u=>some (True,u)
     |none=>(match ra hp v with
      |some (_,m,_,_,k)=>some (m=k,.ae (.int .i64 (m:Nat)))
      |none=>none))
    | .str,.ae (.string b)=>some (True,.ae (.int .i64 b.size))
    |_,_=>none)
   |none=>none)
  | .builtin .min,[x,y]=>(match ρ x,ρ y with
   | .ae (.int k m),.ae (.int _ n)=>some (True,.ae (.int k (if n<m then n else m)))
   |_,_=>none)
  | .builtin .max,[x,y]=>(match ρ x,ρ y with
   | .ae (.int k m),.ae (.int _ n)=>some (True,.ae (.int k (if n>m then n else m)))
   |_,_=>none)
  |_,_=>none)
 |_=>none
def eI (Γ:Env G) (o:Oper) (s:AS G) (r:AV):Prop:=
 ∀a w η,Rel Γ s a w η→∃v w',(execOp a.eval o).run Γ.P w=.ok (.value v) w'∧bu w w'∧aY w' (aW Γ w' η s.hp) η s.hp r v
theorem aN {o:Oper} {r:AV} (h:∀a w η,Rel Γ s a w η→∃v,(execOp a.eval o).run Γ.P w=.ok (.value v) w∧aY w (aW Γ w η s.hp) η s.hp r v):eI Γ o s r:=
 fun a w η hr=>let ⟨v,h1,h2⟩:=h a w η hr;⟨v,w,h1,bu.refl w,h2⟩
theorem aY.al {u v:Value} (h:aY w F η hp (.ae u) v):v=u:=by cases h;rfl
theorem dU {agg:Bool} {size:Nat} {cs:List AV} {o:Nat} {r:AV} (bC:agg=false→size=1) {vs:List Value} (hl:vs.length=cs.length) (hr:∀(j:Nat) (x:AV) (u:Value),cs[j]?=some x→vs[j]?=some u→aY w F η hp x u∧u.oneCell'=true)
  (h:eC agg size cs o=some r):o+size≤vs.length∧aY w F η hp r (if agg then .agg ((vs.drop o).take size).toArray else((vs.drop o).take size).headD undef):=by
 unfold eC at h
 cases agg with
 |true=>
  simp only[if_true] at h ⊢
  split at h
  ·rename_i hle
   obtain rfl:=Option.some.inj h
   refine⟨by omega,.agg _ _ (by simp;omega) (fun v hv=>?_) fun j x v hx hv=>?_⟩
   ·have IF:v∈(vs.drop o).take size:=by simpa using hv
    obtain⟨k,hk⟩:=List.getElem?_of_mem IF
    rw[List.getElem?_take] at hk
    split at hk
    ·rw[List.getElem?_drop] at hk
     have ak:o+k<vs.length:=(List.getElem?_eq_some_iff.1 hk).1
     exact(hr (o+k) (cs[o+k]'(by omega)) v (by simp) hk).2
    ·cases hk
   ·have IF:((vs.drop o).take size)[j]?=some v:=by simpa using hv
    rw[List.getElem?_take] at hx IF
    split at hx
    ·rename_i hj
     rw[if_pos hj,List.getElem?_drop] at IF
     rw[List.getElem?_drop] at hx
     exact(hr (o+j) x v hx IF).1
    ·cases hx
  ·cases h
 |false=>
  simp only[Bool.false_eq_true,if_false] at h ⊢
  have ak:o<cs.length:=(List.getElem?_eq_some_iff.1 h).1
  have h1:=bC rfl
  subst h1
  refine⟨by omega,?_⟩
  have hv:vs[o]?=some (vs[o]'(by omega)):=by simp
  have:((vs.drop o).take 1).headD undef=vs[o]'(by omega):=by
   rw[List.headD_eq_head?_getD,List.head?_eq_getElem?,List.getElem?_take,if_pos (by omega),List.getElem?_drop]
   simp only[Nat.add_zero]
   rw[hv];rfl
  rw[this]
  exact(hr o r _ h hv).1
theorem jb {T:TypeId} {d:TD} (ht:fh P T d) {b o:Nat} {vs:List Value} (hc:∀(j:Nat) (u:Value),vs[j]?=some u→w.cell? ⟨b,j,none⟩=some u) (hle:o+d.size≤vs.length):
  (loadVar T ⟨b,o,none⟩).run P w=.ok (if d.kind.agg then .agg ((vs.drop o).take d.size).toArray else((vs.drop o).take d.size).headD undef) w:=by
 refine ht.run_load (vs:=(vs.drop o).take d.size) (by simp;omega) fun j u hj=>?_
 rw[List.getElem?_take] at hj
 split at hj
 ·rw[List.getElem?_drop] at hj;exact hc _ _ hj
 ·cases hj
theorem rf {b:Nat} {vs:Array Value} {T:TypeId} (hg:w.heap[b]?=some (.cells vs T (0,0))) (j:Nat) (u:Value) (hj:vs.toList[j]?=some u):w.cell? ⟨b,j,none⟩=some u:=by
 rw[cell_of_row w b j vs T (0,0) hg];simpa using hj
theorem aQ.sz {tab:Nat→Option TD} (ah:aQ P tab) {T:Nat} {d:TD} (h:tab T=some d):d.kind.agg=false→d.size=1:=fun h1=>((ah T d h).QB h1).1
theorem wT {tab:Nat→Option TD} (ah:aQ Γ.P tab) {o:Oper} {T:Nat} {x:Operand} (ho:o.op=.load T x) {d:TD} (hd:tab T=some d) {r:AV}
  (h:(∃n off cs,s.ev x=.ptr n off∧s.hp[n]?=some (.box cs)∧eC d.kind.agg d.size cs off=some r)∨(∃e off,s.ev x=.aL e off∧ua d.kind.agg d.size e off=some r)):eI Γ o s r:=by
 refine aN fun a w η hr=>?_
 have hx:=hr.ev x
 have fO:=ah T d hd
 rcases h with⟨n,off,cs,he,hn,Tp⟩|⟨e,off,he,Tp⟩
 ·rw[he] at hx
  cases uc:a.eval x<;>rw[uc] at hx<;>cases hx
  rename_i b dE
  obtain⟨b',vs,T',hb,hg,bC,hc⟩:=hr.heap.obj n _ _ hn dE
  simp only[Value.pointer.injEq,Option.some.injEq,Addr.mk.injEq,and_true] at hb
  subst hb
  obtain⟨h1,h2⟩:=dU (w:=w) (F:=aW Γ w η s.hp) (η:=η) (hp:=s.hp) (ah.sz hd) (vs:=vs.toList) (by simpa using bC) (fun j x u hx hu=>hc j x u hx (by simpa using hu)) Tp
  refine⟨_,?_,h2⟩
  simp only[execOp,ho,uc,Instr.loadAt,Instr.sureAddr,Sem.run_bind,Sem.run_pure,Result.andThen_ok]
  rw[jb fO (rf hg) h1]
  rfl
 ·rw[he] at hx
  cases uc:a.eval x<;>rw[uc] at hx<;>cases hx
  rename_i b o f ay cE
  have cS:∀(j:Nat) (x:AV) (u:Value),e.cells[j]?=some x→((List.range e.cells.length).map f)[j]?=some u→aY w (aW Γ w η s.hp) η s.hp x u∧u.oneCell'=true:=by
   intro j x u hx hu
   have ak:=(List.getElem?_eq_some_iff.1 hx).1
   rw[List.getElem?_map,List.getElem?_range ak] at hu
   obtain rfl:=Option.some.inj hu
   exact⟨(cE j x hx).lift,(ay j x hx).2.2⟩
  have fq:∀(j:Nat) (u:Value),((List.range e.cells.length).map f)[j]?=some u→w.cell? ⟨b,o+j,none⟩=some u:=by
   intro j u hj
   rw[List.getElem?_map] at hj
   by_cases ak:j<e.cells.length
   ·rw[List.getElem?_range ak] at hj
    obtain rfl:=Option.some.inj hj
    exact(ay j _ (List.getElem?_eq_some_iff.2 ⟨ak,rfl⟩)).1
   ·rw[List.getElem?_eq_none (by simp;omega)] at hj;cases hj
  have key:off+d.size≤e.cells.length∧aY w (aW Γ w η s.hp) η s.hp r (if d.kind.agg then .agg ((((List.range e.cells.length).map f).drop off).take d.size).toArray else((((List.range e.cells.length).map f).drop off).take d.size).headD undef):=by
   unfold ua at Tp
   split at Tp
   ·rename_i hc
    obtain⟨rfl,hlen,bJ⟩:=hc
    obtain rfl:=Option.some.inj Tp
    refine⟨by omega,?_⟩
    cases hk:d.kind.agg with
    |true=>
     rw[hk] at bJ
     cases e<;>simp only[AV.isAgg] at bJ<;>try (cases bJ;done)
     rename_i cs
     have pN:cs.length=d.size:=hlen
     have:=(dU (w:=w) (F:=aW Γ w η s.hp) (η:=η) (hp:=s.hp) (agg:=true) (size:=d.size) (cs:=cs) (o:=0) (r:=.agg cs) (fun h=>by cases h) (vs:=(List.range cs.length).map f) (by simp) cS (by simp[eC,←pN])).2
     simpa [AV.cells] using this
    |false=>
     have h1:=ah.sz hd hk
     have DL:e.cells=[e]:=by
      rw[hk] at bJ
      cases e<;>first|rfl|(simp[AV.isAgg] at bJ)
     have:=(dU (w:=w) (F:=aW Γ w η s.hp) (η:=η) (hp:=s.hp) (agg:=false) (size:=d.size) (cs:=e.cells) (o:=0) (r:=e) (fun _=>h1) (vs:=(List.range e.cells.length).map f) (by simp) cS (by rw[DL];rfl)).2
     simpa using this
   ·have:=dU (w:=w) (F:=aW Γ w η s.hp) (η:=η) (hp:=s.hp) (ah.sz hd) (vs:=(List.range e.cells.length).map f) (by simp) cS Tp
    simpa using this
  refine⟨_,?_,key.2⟩
  simp only[execOp,ho,uc,Instr.loadAt,Instr.sureAddr,Sem.run_bind,Sem.run_pure,Result.andThen_ok]
  rw[fO.run_load (vs:=(((List.range e.cells.length).map f).drop off).take d.size) (by simp;omega) (fun j u hj=>by
   rw[List.getElem?_take] at hj
   split at hj
   ·rw[List.getElem?_drop] at hj
    have:=fq _ _ hj
    rw[Nat.add_assoc];exact this
   ·cases hj)]
  rfl
end
section
variable {G:Type} {Γ:Env G} {s:AS G} {a:Act} {w w':World} {η:List Value} {hp:List af} {F:Nat→Nat→Prop} {P:Program}
theorem lB {tab:Nat→Option TD} {T:Nat} {f:Nat} {p:Nat×Nat×Bool} (h:(fieldsOf tab T)[f]?=some p):∃d fs,tab T=some d∧d.kind=.bS fs∧fs[f]?=some p:=by
 unfold fieldsOf at h
 split at h
 ·rename_i d hd
  split at h
  ·rename_i fs hk
   exact⟨d,fs,hd,hk,h⟩
  ·simp at h
 ·simp at h
theorem fh.field {T:Nat} {d:TD} (h:fh P T d) {fs:List (Nat×Nat×Bool)} (hk:d.kind=.bS fs) {f:Nat} {p:Nat×Nat×Bool} (hf:fs[f]?=some p):
  ∃fields fd i u,P.underlying T=some (.struct fields)∧fields[f]?=some fd∧fd.offset=p.1∧P.info? fd.type=some i∧i.size=p.2.1∧P.underlying fd.type=some u∧I0 u=p.2.2:=by
 obtain⟨u,h1,h2⟩:=h.jy
 rw[hk] at h2
 obtain⟨fields,rfl,h3⟩:=h2
 have h4:=congrArg (·[f]?) h3
 simp only[List.getElem?_map,hf,Option.map_some,Array.getElem?_toList] at h4
 cases XK:fields[f]? with
 |none=>rw[XK] at h4;cases h4
 |some fd=>
  rw[XK] at h4
  simp only[Option.map_some,Option.some.injEq,Prod.mk.injEq] at h4
  obtain⟨e1,e2,e3⟩:=h4
  cases hi:P.info? fd.type with
  |none=>rw[hi] at e2;cases e2
  |some i=>
   cases hu:P.underlying fd.type with
   |none=>rw[hu] at e3;cases e3
   |some u=>
    rw[hi] at e2;rw[hu] at e3
    exact⟨fields,fd,i,u,h1,XK,e1,hi,by simpa using e2,hu,by simpa using e3⟩
theorem mL {tab:Nat→Option TD} (ah:aQ Γ.P tab) {o:Oper} {T f:Nat} {x:Operand} (ho:o.op=.fieldAddr T x f) {p:Nat×Nat×Bool} (hp:(fieldsOf tab T)[f]?=some p) (h0:p.2.1≠0) {r:AV}
  (h:(∃n off,s.ev x=.ptr n off∧r=.ptr n (off+p.1))∨(∃e off,s.ev x=.aL e off∧r=.aL e (off+p.1))):eI Γ o s r:=by
 refine aN fun a w η hr=>?_
 have hx:=hr.ev x
 obtain⟨d,fs,hd,hk,hf⟩:=lB hp
 obtain⟨fields,fd,i,u,h1,h2,h3,h4,h5,_⟩:=(ah T d hd).field hk hf
 have h6:¬i.size=0:=by rw[h5];exact h0
 rcases h with⟨n,off,he,rfl⟩|⟨e,off,he,rfl⟩<;>rw[he] at hx
 ·cases uc:a.eval x<;>rw[uc] at hx<;>cases hx
  rename_i b dE
  exact⟨.pointer (some ⟨b,off+p.1,none⟩),by simp[execOp,ho,uc,Instr.fieldAt,run_underlying h1,h2,Instr.sureAddr,fieldPlace,sizeOf,typeInfo,h4,h6,h3,Addr.add_lit],.ptr n _ b dE⟩
 ·cases uc:a.eval x<;>rw[uc] at hx<;>cases hx
  rename_i b o f' ay cE
  refine⟨.pointer (some ⟨b,o+off+p.1,none⟩),by simp[execOp,ho,uc,Instr.fieldAt,run_underlying h1,h2,Instr.sureAddr,fieldPlace,sizeOf,typeInfo,h4,h6,h3,Addr.add_lit],?_⟩
  rw[Nat.add_assoc]
  exact .aL e _ b o f' ay cE
theorem sW {tab:Nat→Option TD} (ah:aQ Γ.P tab) {o:Oper} {T f:Nat} {x:Operand} (ho:o.op=.fieldAddr T x f) {p:Nat×Nat×Bool} (hp:(fieldsOf tab T)[f]?=some p) (h0:p.2.1≠0) {r m i z:Nat}
  (he:s.ev x=.eH r m i z) (hz:p.1=0):eI Γ o s (.eH r m i z):=by
 refine aN fun a w η hr=>?_
 have hx:=hr.ev x
 obtain⟨d,fs,hd,hk,hf⟩:=lB hp
 obtain⟨fields,fd,i',u,h1,h2,h3,h4,h5,_⟩:=(ah T d hd).field hk hf
 have h6:¬i'.size=0:=by rw[h5];exact h0
 rw[he] at hx
 cases uc:a.eval x<;>rw[uc] at hx<;>cases hx
 rename_i b o' c k rh
 exact⟨.pointer (some ⟨b,o'+i*z,none⟩),by simp[execOp,ho,uc,Instr.fieldAt,run_underlying h1,h2,Instr.sureAddr,fieldPlace,sizeOf,typeInfo,h4,h6,h3,Addr.add_lit,hz],.eH r m i z b o' c k rh⟩
theorem DM {tab:Nat→Option TD} (ah:aQ Γ.P tab) {o:Oper} {T:Nat} {x:Operand} (ho:o.op=.load T x) {d:TD} (hd:tab T=some d) {r m i z e:Nat} {els:List AV} (he:s.ev x=.eH r m i z) (ox:s.hp[r]?=some (.aI e z els))
  (hm:m=els.length) (Ay:d.size=z) (hi:i<els.length) (bJ:els[i].isAgg=d.kind.agg):eI Γ o s els[i]:=by
 refine aN fun a w η hr=>?_
 have hx:=hr.ev x
 have fO:=ah T d hd
 rw[he] at hx
 cases uc:a.eval x<;>rw[uc] at hx<;>cases hx
 rename_i b o' c k rh
 have ud:=rh
 unfold aT at ud
 rw[ox] at ud
 have dE:=ud.2 hm
 obtain⟨IG,xs,bW,cy⟩:=hr.heap.obj r _ _ ox dE
 rcases bW.2 with⟨h0,_⟩|⟨g,cap,cur,hve,h0,⟨v8,DN,hg⟩,Au,DG,fq,jH⟩
 ·omega
 simp only[Value.slice.injEq,Option.some.injEq,Addr.mk.injEq,and_true] at hve
 obtain⟨⟨rfl,rfl⟩,hnm,rfl⟩:=hve
 have Av:=cy i els[i] (List.getElem?_eq_getElem hi)
 have ay:(i+1)*z≤els.length*z:=Nat.mul_le_mul_right _ hi
 rw[Nat.add_mul,Nat.one_mul] at ay
 have MZ:((xs.drop (i*z)).take z).length=z:=by rw[List.length_take,List.length_drop,bW.1];omega
 have bR:∀(j:Nat) (u:Value),((xs.drop (i*z)).take z)[j]?=some u→j<z∧xs[i*z+j]?=some u:=by
  intro j u hj
  rw[List.getElem?_take] at hj
  split at hj
  ·rename_i ak;rw[List.getElem?_drop] at hj;exact⟨ak,hj⟩
  ·cases hj
 have cS:∀(j:Nat) (y:AV) (u:Value),els[i].cells[j]?=some y→((xs.drop (i*z)).take z)[j]?=some u→aY w (aW Γ w η s.hp) η s.hp y u∧u.oneCell'=true:=by
  intro j y u hy hu
  obtain⟨_,h2⟩:=bR j u hu
  obtain⟨u',q1,q2,q3⟩:=Av.2 j y hy
  rw[h2] at q1
  obtain rfl:=Option.some.inj q1
  exact⟨q2.lift,q3⟩
 have XL:∀(j:Nat) (u:Value),((xs.drop (i*z)).take z)[j]?=some u→w.cell? ⟨b,0+i*z+j,none⟩=some u:=by
  intro j u hj
  obtain⟨h1,h2⟩:=bR j u hj
  rw[←jH,List.getElem?_take] at h2
  split at h2
  ·rw[cell_of_row w b (0+i*z+j) cur e (0,v8) hg,Nat.zero_add];simpa using h2
  ·cases h2
 have key:aY w (aW Γ w η s.hp) η s.hp els[i] (if d.kind.agg then .agg ((xs.drop (i*z)).take z).toArray else((xs.drop (i*z)).take z).headD undef):=by
  have hlen:=Av.1
  generalize els[i]=el at bJ hlen cS
  cases hk:d.kind.agg with
  |true=>
   rw[hk] at bJ
   cases el<;>simp only[AV.isAgg] at bJ<;>try (cases bJ;done)
   rename_i cs
   have pN:cs.length=z:=hlen
   have:=(dU (w:=w) (F:=aW Γ w η s.hp) (η:=η) (hp:=s.hp) (agg:=true) (size:=z) (cs:=cs) (o:=0) (r:=.agg cs) (fun h=>by cases h) (vs:=(xs.drop (i*z)).take z) (by rw[MZ,pN]) cS (by simp[eC,←pN])).2
   simpa [List.take_take] using this
  |false=>
   have h1:=ah.sz hd hk
   have DL:el.cells=[el]:=by
    rw[hk] at bJ
    cases el<;>first|rfl|(simp[AV.isAgg] at bJ)
   have:=(dU (w:=w) (F:=aW Γ w η s.hp) (η:=η) (hp:=s.hp) (agg:=false) (size:=z) (cs:=el.cells) (o:=0) (r:=el) (fun _=>by rw[←Ay];exact h1) (vs:=(xs.drop (i*z)).take z) (by rw[MZ,hlen]) cS (by rw[DL];rfl)).2
   simpa [←Ay,h1,List.take_take] using this
 refine⟨_,?_,key⟩
 simp only[execOp,ho,uc,Instr.loadAt,Instr.sureAddr,Sem.run_bind,Sem.run_pure,Result.andThen_ok]
 rw[fO.run_load (vs:=(xs.drop (i*z)).take z) (by rw[MZ,Ay]) XL]
 rfl
theorem ue {tab:Nat→Option TD} (ah:aQ Γ.P tab) {o:Oper} {T e:Nat} {x i:Operand} (ho:o.op=.indexAddr T x i) {d d':TD} (hd:tab T=some d) (hk:d.kind=.iW e) (cO:tab e=some d') {els:List AV} (cy:(s.ev x).fN s.hp=some els)
  {k:IntKind} {n:Int} (hi:s.ev i=.ae (.int k n)) (h0:0≤n) (h1:n<els.length) (bC:(els.getD n.toNat .top).cells.length=d'.size):eI Γ o s (.aL (els.getD n.toNat .top) 0):=by
 refine aN fun a w η hr=>?_
 have hx:=iX hr.heap hr.bA (hr.ev x) cy
 have DO:=hr.ev i
 rw[hi] at DO
 have Nq:=DO.al
 have hu:Γ.P.underlying T=some (.slice e):=by
  obtain⟨u,h2,h3⟩:=(ah T d hd).jy
  rw[hk] at h3
  rw[h2];exact congrArg some h3
 have ak:n.toNat<els.length:=by omega
 have bR:els[n.toNat]?=some (els.getD n.toNat .top):=by simp[List.getD,ak]
 generalize qY:a.eval x=vx at hx
 cases hx with
 |ki=>simp at ak
 |sl size els b off c f hc hm hl ay cE=>
  have hs:size=d'.size:=by rw[←hl _ _ bR];exact bC
  subst hs
  obtain⟨i0,v8,nQ,_⟩:=(ah e d' cO).info
  refine⟨.pointer (some ⟨b,off+n.toNat*d'.size,none⟩),?_,.aL _ 0 b (off+n.toNat*d'.size) (f n.toNat) (fun j x hj=>ay _ _ _ _ bR hj) (fun j x hj=>cE _ _ _ _ bR hj)⟩
  have hb:0≤n∧n<(els.length:Int):=⟨h0,h1⟩
  simp[execOp,ho,qY,Nq,Instr.indexAt,asIntOf,run_underlying hu,hb,sizeOf,typeInfo,v8,nQ,Addr.add_lit]
theorem sX {tab:Nat→Option TD} (ah:aQ Γ.P tab) {o:Oper} {T m:Nat} {x i:Operand} (ho:o.op=.indexAddr T x i) {d:TD} (hd:tab T=some d) (hk:d.kind=.arr m) {r:Nat} (hx:s.ev x=.ptr r 0)
  {k:IntKind} {n:Int} (hi:s.ev i=.ae (.int k n)) (h0:0≤n) (h1:n<m):eI Γ o s (.ptr r n.toNat):=by
 refine aN fun a w η hr=>?_
 have dC:=hr.ev x
 rw[hx] at dC
 have DO:=hr.ev i
 rw[hi] at DO
 have Nq:=DO.al
 obtain⟨u,h2,h3⟩:=(ah T d hd).jy
 rw[hk] at h3
 obtain⟨e,i0,rfl,v8,nQ⟩:=h3
 generalize qY:a.eval x=vx at dC
 cases dC with
 |ptr _ _ b dE=>
  refine⟨.pointer (some ⟨b,n.toNat,none⟩),?_,.ptr _ _ b dE⟩
  have hb:0≤n∧n<(m:Int):=⟨h0,h1⟩
  simp[execOp,ho,qY,Nq,Instr.indexAt,asIntOf,run_underlying h2,hb,sizeOf,typeInfo,v8,nQ,Addr.add_lit,Instr.sureAddr]
theorem sY {tab:Nat→Option TD} (ah:aQ Γ.P tab) {o:Oper} {T m:Nat} {x i:Operand} (ho:o.op=.indexAddr T x i) {d:TD} (hd:tab T=some d) (hk:d.kind=.arr m) {e:AV} (hx:s.ev x=.aL e 0)
  {k:IntKind} {n:Int} (hi:s.ev i=.ae (.int k n)) (h0:0≤n) (h1:n<m):eI Γ o s (.aL e n.toNat):=by
 refine aN fun a w η hr=>?_
 have dC:=hr.ev x
 rw[hx] at dC
 have DO:=hr.ev i
 rw[hi] at DO
 have Nq:=DO.al
 obtain⟨u,h2,h3⟩:=(ah T d hd).jy
 rw[hk] at h3
 obtain⟨e',i0,rfl,v8,nQ⟩:=h3
 generalize qY:a.eval x=vx at dC
 cases dC with
 |aL _ _ b q f ay M0=>
  refine⟨.pointer (some ⟨b,q+n.toNat,none⟩),?_,.aL _ _ b q f ay M0⟩
  have hb:0≤n∧n<(m:Int):=⟨h0,h1⟩
  simp[execOp,ho,qY,Nq,Instr.indexAt,asIntOf,run_underlying h2,hb,sizeOf,typeInfo,v8,nQ,Addr.add_lit,Instr.sureAddr]
theorem nT {hp:List af} {x:AV} {r m e size k:Nat} (h:ra hp x=some (r,m,e,size,k)):x=.own r m∧∃els,hp[r]?=some (.aI e size els)∧k=els.length:=by
 unfold ra at h
 split at h
 ·split at h
  ·rename_i hr
   simp only[Option.some.injEq,Prod.mk.injEq] at h
   obtain⟨rfl,rfl,rfl,rfl,rfl⟩:=h
   exact⟨rfl,_,hr,rfl⟩
  ·cases h
 ·cases h
theorem sZ {tab:Nat→Option TD} (ah:aQ Γ.P tab) {o:Oper} {T e:Nat} {x i:Operand} (ho:o.op=.indexAddr T x i) {d d':TD} (hd:tab T=some d) (hk:d.kind=.iW e) (cO:tab e=some d') {r m:Nat} {els:List AV} (hx:s.ev x=.own r m) (ox:s.hp[r]?=some (.aI e d'.size els)) (hm:m=els.length)
  {k:IntKind} {n:Int} (hi:s.ev i=.ae (.int k n)) (h0:0≤n) (h1:n<m):eI Γ o s (.eH r m n.toNat d'.size):=by
 refine aN fun a w η hr=>?_
 have dC:=hr.ev x
 rw[hx] at dC
 have DO:=hr.ev i
 rw[hi] at DO
 have Nq:=DO.al
 have hu:Γ.P.underlying T=some (.slice e):=by
  obtain⟨u,h2,h3⟩:=(ah T d hd).jy
  rw[hk] at h3
  rw[h2];exact congrArg some h3
 generalize qY:a.eval x=vx at dC
 cases dC with
 |own _ _ _ uf rh=>
  have ud:=rh
  unfold aT at ud
  rw[ox] at ud
  have dE:=ud.2 hm
  obtain⟨IH,xs,bW,_⟩:=hr.heap.obj r _ _ ox dE
  rcases bW.2 with⟨hz,_⟩|⟨g,cap,cur,rfl,_⟩
  ·omega
  ·rw[←hm] at rh qY
   obtain⟨i0,v8,nQ,_⟩:=(ah e d' cO).info
   refine⟨.pointer (some ⟨g,0+n.toNat*d'.size,none⟩),?_,.eH r m n.toNat d'.size g 0 cap m rh⟩
   have hb:0≤n∧n<(m:Int):=⟨h0,h1⟩
   simp[execOp,ho,qY,Nq,Instr.indexAt,asIntOf,run_underlying hu,hb,sizeOf,typeInfo,v8,nQ,Addr.add_lit]
theorem DP {tab:Nat→Option TD} (ah:aQ Γ.P tab) {o:Oper} {T T':Nat} {op:BinOp} {x y:Operand} (ho:o.op=.binOp op T x y T') {c:Prop} {r:AV} (h:ja tab T op (s.ev x) (s.ev y)=some (c,r)) (_hc:c):eI Γ o s r:=by
 refine aN fun a w η hr=>?_
 have hx:=hr.ev x
 have hy:=hr.ev y
 unfold ja at h
 split at h
 ·rename_i k m k' n e1 e2
  rw[e1] at hx;rw[e2] at hy
  have mm:=hx.al
  have Dz:=hy.al
  split at h
  ·rename_i hkk
   subst hkk
   unfold xW at h
   split at h<;>first
    |cases h;done
    |(simp only[Option.some.injEq,Prod.mk.injEq] at h;obtain⟨_,rfl⟩:=h;exact⟨_,by simp[execOp,ho,mm,Dz,eqGuard,binOp,Op.intArith,Op.intCmp];try rfl,.ae _⟩)
  ·cases h
 ·rename_i b1 b2 e1 e2
  rw[e1] at hx;rw[e2] at hy
  have mm:=hx.al
  have Dz:=hy.al
  split at h
  ·rename_i d hd
   obtain⟨u,h2,h3⟩:=(ah T d hd).jy
   split at h
   ·rename_i hk
    rw[hk] at h3
    have hu:Γ.P.underlying T=some .bool:=by rw[h2];exact congrArg some h3
    simp only[Option.some.injEq,Prod.mk.injEq] at h
    obtain⟨_,rfl⟩:=h
    have he:(Op.equal T (.bool b1) (.bool b2)).run Γ.P w=.ok (b1==b2) w:=run_equalIn_bool' w 9999 T b1 b2 hu
    refine⟨_,?_,.ae _⟩
    simp only[execOp,ho,mm,Dz,eqGuard,binOp,Sem.run_bind,Bool.not_true,Bool.false_eq_true,if_false,he,Result.andThen_ok,Sem.run_pure]
   ·rename_i hk
    rw[hk] at h3
    have hu:Γ.P.underlying T=some .bool:=by rw[h2];exact congrArg some h3
    simp only[Option.some.injEq,Prod.mk.injEq] at h
    obtain⟨_,rfl⟩:=h
    have he:(Op.equal T (.bool b1) (.bool b2)).run Γ.P w=.ok (b1==b2) w:=run_equalIn_bool' w 9999 T b1 b2 hu
    refine⟨_,?_,.ae _⟩
    simp only[execOp,ho,mm,Dz,eqGuard,binOp,Sem.run_bind,Bool.not_true,Bool.false_eq_true,if_false,he,Result.andThen_ok,Sem.run_pure]
   ·cases h
  ·cases h
 ·rename_i a1 a2 b1 b2 e1 e2
  rw[e1] at hx;rw[e2] at hy
  have TJ:∀{m1 m2:Int} {v:Value},aY w (aW Γ w η s.hp) η s.hp (.agg [.ae (.int .i64 m1),.ae (.int .i64 m2)]) v→v=.agg #[.int .i64 m1,.int .i64 m2]:=by
   intro m1 m2 v hv
   cases hv with
   |agg cs vs hl h1 hr=>
    obtain⟨vs⟩:=vs
    match vs,hl with
    | [u1,u2],_=>
     have q1:=(hr 0 _ u1 rfl rfl).al
     have q2:=(hr 1 _ u2 rfl rfl).al
     rw[q1,q2]
  have mm:=TJ hx
  have Dz:=TJ hy
  split at h
  ·rename_i d hd
   split at h
   ·rename_i hfl
    obtain⟨g1,g2⟩:=(ah T d hd).feq hfl
    split at h
    ·simp only[Option.some.injEq,Prod.mk.injEq] at h
     obtain⟨_,rfl⟩:=h
     refine⟨.bool (a1==b1&&a2==b2),?_,.ae _⟩
     have:=run_eql_struct (P:=Γ.P) w T #[.int .i64 a1,.int .i64 a2] #[.int .i64 b1,.int .i64 b2]
     rw[g2] at this
     simp only[Result.andThen_ok] at this
     simp only[execOp,ho,mm,Dz,Sem.run_bind,run_eqGuard_agg (P:=Γ.P) w _ T x y _ _ g1,Result.andThen_ok,this]
     rfl
    ·simp only[Option.some.injEq,Prod.mk.injEq] at h
     obtain⟨_,rfl⟩:=h
     refine⟨.bool (!(a1==b1&&a2==b2)),?_,.ae _⟩
     have:=run_neq_struct (P:=Γ.P) w T #[.int .i64 a1,.int .i64 a2] #[.int .i64 b1,.int .i64 b2]
     rw[g2] at this
     simp only[Result.andThen_ok] at this
     simp only[execOp,ho,mm,Dz,Sem.run_bind,run_eqGuard_agg (P:=Γ.P) w _ T x y _ _ g1,Result.andThen_ok,this]
     rfl
    ·cases h
   ·cases h
  ·cases h
 ·cases h
theorem ft (h:Rel Γ s a w η):∀l:List Operand,bM w (aW Γ w η s.hp) η s.hp (l.map s.ev) (l.map a.eval)
 | []=>True.intro
 |x::l=>⟨h.ev x,ft h l⟩
theorem wb {o:Oper} {f:Nat} {first caps:Array Operand} (ho:o.op=.makeFunc (.func f) first caps) (h0:first.size=0):eI Γ o s (.aK f (caps.toList.map s.ev)):=by
 refine aN fun a w η hr=>⟨.func (.func f) #[] (caps.map a.eval),?_,.aK f _ _ (by simp) fun j x v hx hv=>?_⟩
 ·have:first=#[]:=Array.eq_empty_of_size_eq_zero h0
  subst this
  simp[execOp,ho,Instr.makeFunc]
 ·exact(ft hr caps.toList).get j x v hx (by simpa using hv)
theorem s8 {o:Oper} {f:Nat} {first caps:Array Operand} (ho:o.op=.makeFunc (.func f) first caps) (h0:caps.size=0):eI Γ o s (.cK f (first.toList.map s.ev)):=by
 refine aN fun a w η hr=>⟨.func (.func f) (first.map a.eval) #[],?_,.cK f _ _ (by simp) fun j x v hx hv=>?_⟩
 ·have:caps=#[]:=Array.eq_empty_of_size_eq_zero h0
  subst this
  simp[execOp,ho,Instr.makeFunc]
 ·exact(ft hr first.toList).get j x v hx (by simpa using hv)
theorem G4 {o:Oper} {c x y:Operand} {t:Bool} (ho:o.op=.pick c x y) (hc:s.ev c=.ae (.bool t)):eI Γ o s (if t=true then s.ev x else s.ev y):=by
 refine aN fun a w η hr=>?_
 have h:=hr.ev c
 rw[hc] at h
 have hv:=h.al
 cases t with
 |true=>exact⟨a.eval x,by simp[execOp,ho,hv,asBool],by simpa using hr.ev x⟩
 |false=>exact⟨a.eval y,by simp[execOp,ho,hv,asBool],by simpa using hr.ev y⟩
theorem nU {w:World} {η:List Value} {hp:List af} {F:Nat→Nat→Prop} {x:AV} {b:Bool} (h:xX x=some b) {v:Value} (hx:aY w F η hp x v):∃p,v=.pointer p∧p.isNone=b:=by
 unfold xX at h
 split at h
 ·cases hx;exact⟨_,rfl,by simpa using h⟩
 ·cases hx;exact⟨_,rfl,by simpa using h⟩
 ·cases hx;exact⟨_,rfl,by simpa using h⟩
 ·cases h
theorem G5 {tab:Nat→Option TD} (ah:aQ Γ.P tab) {o:Oper} {T T':Nat} {op:BinOp} {x y:Operand} (ho:o.op=.binOp op T x y T') {cs:List Prop} {r:AV} (h:G3 tab T op (s.ev x) (s.ev y)=some (cs,r)) (hc:FA cs):eI Γ o s r:=by
 unfold G3 at h
 split at h
 ·rename_i k' b hy
  split at h
  ·rename_i k a hx
   split at h
   ·rename_i hk
    subst hk
    refine aN fun ac w η hr=>?_
    have h1:=hr.ev x
    have h2:=hr.ev y
    rw[hx] at h1;rw[hy] at h2
    have h1:=h1.al
    have h2:=h2.al
    split at h
    ·simp only[Option.some.injEq,Prod.mk.injEq] at h
     obtain⟨rfl,rfl⟩:=h
     exact⟨_,by simp[execOp,ho,h1,h2,eqGuard,binOp,Op.intDiv,hc.1],.ae _⟩
    ·simp only[Option.some.injEq,Prod.mk.injEq] at h
     obtain⟨rfl,rfl⟩:=h
     exact⟨_,by simp[execOp,ho,h1,h2,eqGuard,binOp,Op.intDiv,hc.1],.ae _⟩
    ·obtain⟨n,hn,he⟩:=Option.map_eq_some_iff.1 h
     simp only[Prod.mk.injEq] at he
     obtain⟨rfl,rfl⟩:=he
     refine⟨_,?_,.ae _⟩
     unfold I5 at hn
     split at hn<;>first|cases hn;done|(obtain rfl:=Option.some.inj hn;simp[execOp,ho,h1,h2,eqGuard,binOp,Op.intBits])
   ·cases h
  ·cases h
 ·rename_i b hy
  split at h
  ·rename_i a hx
   refine aN fun ac w η hr=>?_
   have h1:=hr.ev x
   have h2:=hr.ev y
   rw[hx] at h1;rw[hy] at h2
   have h1:=h1.al
   have h2:=h2.al
   split at h
   all_goals first|(cases h;done)|skip
   all_goals simp only[Option.some.injEq,Prod.mk.injEq] at h
   all_goals obtain⟨rfl,rfl⟩:=h
   ·have DA:a.size+b.size≤9223372036854775807:=hc.1
    refine⟨_,?_,.ae _⟩
    simp[execOp,ho,h1,h2,eqGuard,binOp,Op.stringOp,show IntKind.i64.max=9223372036854775807 from rfl]
    omega
   all_goals exact⟨_,by simp[execOp,ho,h1,h2,eqGuard,binOp,Op.stringOp,Aw,strLt],.ae _⟩
  ·cases h
 ·rename_i hy
  split at h
  ·rename_i b hb
   split at h
   ·rename_i d hd
    split at h
    ·rename_i e hk
     have hu:Γ.P.underlying T=some (.pointer (Γ.P.pointee T)):=by
      obtain⟨u,q2,q3⟩:=(ah T d hd).jy
      rw[hk] at q3
      have:Γ.P.underlying T=some (.pointer e):=by rw[q2];exact congrArg some q3
      rw[this,Program.pointee,this]
     split at h
     ·simp only[Option.some.injEq,Prod.mk.injEq] at h
      obtain⟨rfl,rfl⟩:=h
      refine aN fun a w η hr=>?_
      obtain⟨p,hp,Nr⟩:=nU hb (hr.ev x)
      have h2:=hr.ev y
      rw[hy] at h2
      have h2:=h2.al
      refine⟨.bool b,?_,.ae _⟩
      simp only[execOp,ho,hp,h2,eqGuard,Bool.not_true,Bool.false_eq_true,if_false,Sem.run_bind,Sem.run_pure,Result.andThen_ok,run_eql_pointer_nil w T p hu,Nr]
     ·simp only[Option.some.injEq,Prod.mk.injEq] at h
      obtain⟨rfl,rfl⟩:=h
      refine aN fun a w η hr=>?_
      obtain⟨p,hp,Nr⟩:=nU hb (hr.ev x)
      have h2:=hr.ev y
      rw[hy] at h2
      have h2:=h2.al
      refine⟨.bool (!b),?_,.ae _⟩
      simp only[execOp,ho,hp,h2,eqGuard,Bool.not_true,Bool.false_eq_true,if_false,Sem.run_bind,Sem.run_pure,Result.andThen_ok,run_neq_pointer_nil w T p hu,Nr]
     ·cases h
    ·cases h
   ·cases h
  ·cases h
 ·cases h
theorem x3 {P:Program} (w:World) (k:Nat) (T:TypeId) {ms:Array (String×TypeId)} (hu:P.underlying T=some (.interface ms)):(Op.equalIn (k+1) T .nilIface .nilIface).run P w=.ok true w:=by
 simp[Op.equalIn,run_underlying hu]
theorem kD {P:Program} (w:World) (T:TypeId) {ms:Array (String×TypeId)} (hu:P.underlying T=some (.interface ms)):(Op.equal T .nilIface .nilIface).run P w=.ok true w:=x3 w 9999 T hu
theorem I6 {tab:Nat→Option TD} (ah:aQ Γ.P tab) {o:Oper} {T T':Nat} {op:BinOp} {x y:Operand} (ho:o.op=.binOp op T x y T') {r:AV} (h:Np tab T op (s.ev x) y=some r):eI Γ o s r:=by
 unfold Np at h
 split at h
 ·rename_i hy
  split at h
  ·rename_i d hd hx
   split at h
   ·rename_i hk
    obtain⟨u,q2,q3⟩:=(ah T d hd).jy
    rw[hk] at q3
    obtain⟨ms,rfl⟩:=q3
    obtain rfl:=Nn hy
    split at h
    ·obtain rfl:=Option.some.inj h
     refine aN fun a w η hr=>?_
     have h1:=hr.ev x
     rw[hx] at h1
     have h1:=h1.al
     have he:a.eval (.const .nilIface)=.nilIface:=rfl
     refine⟨.bool true,?_,.ae _⟩
     simp only[execOp,ho,h1,he,eqGuard_nil_constR,Sem.run_bind,Sem.run_pure,Result.andThen_ok,binOp,kD w T q2]
    ·obtain rfl:=Option.some.inj h
     refine aN fun a w η hr=>?_
     have h1:=hr.ev x
     rw[hx] at h1
     have h1:=h1.al
     have he:a.eval (.const .nilIface)=.nilIface:=rfl
     refine⟨.bool false,?_,.ae _⟩
     simp only[execOp,ho,h1,he,eqGuard_nil_constR,Sem.run_bind,Sem.run_pure,Result.andThen_ok,binOp,kD w T q2]
     rfl
    ·cases h
   ·cases h
  ·cases h
 ·cases h
theorem Az {tab:Nat→Option TD} (ah:aQ Γ.P tab) {o:Oper} {T T':Nat} {op:BinOp} {x y:Operand} (ho:o.op=.binOp op T x y T') {c:Prop} {r:AV} (h:xY tab T op (s.ev x) (s.ev y)=some (c,r)) (hc:c):eI Γ o s r:=by
 unfold xY at h
 split at h
 ·rename_i r' hr
  obtain rfl:=Option.some.inj h
  exact DP ah ho hr hc
 ·obtain⟨⟨cs,r'⟩,h1,h2⟩:=Option.map_eq_some_iff.1 h
  simp only[Prod.mk.injEq] at h2
  obtain⟨rfl,rfl⟩:=h2
  exact G5 ah ho h1 hc
theorem I7 {tab:Nat→Option TD} (ah:aQ Γ.P tab) {o:Oper} {S D:Nat} {x:Operand} (ho:o.op=.convert S D x) {r:AV} (h:xZ tab S D (s.ev x)=some r):eI Γ o s r:=by
 unfold xZ at h
 split at h
 ·rename_i d1 d k n hS hD hx
  split at h
  ·rename_i k2 hk
   obtain rfl:=Option.some.inj h
   refine aN fun a w η hr=>?_
   have h1:=hr.ev x
   rw[hx] at h1
   have h1:=h1.al
   obtain⟨u1,q1,_⟩:=(ah S d1 hS).jy
   have hu:Γ.P.underlying D=some (.int k2):=by
    obtain⟨u,q2,q3⟩:=(ah D d hD).jy
    rw[hk] at q3
    rw[q2];exact congrArg some q3
   refine⟨.int k2 (k2.wrap n),?_,.ae _⟩
   simp only[execOp,ho,h1,convert,Sem.run_bind,run_underlying q1,run_underlying hu,Result.andThen_ok]
   rfl
  ·cases h
 ·rename_i d1 d t hS hD hx
  split at h
  ·rename_i hk
   obtain rfl:=Option.some.inj h
   refine aN fun a w η hr=>?_
   have h1:=hr.ev x
   rw[hx] at h1
   have h1:=h1.al
   obtain⟨u1,q1,_⟩:=(ah S d1 hS).jy
   have hu:Γ.P.underlying D=some .string:=by
    obtain⟨u,q2,q3⟩:=(ah D d hD).jy
    rw[hk] at q3
    rw[q2];exact congrArg some q3
   refine⟨.string t,?_,.ae _⟩
   simp[execOp,ho,h1,convert,run_underlying hu,run_underlying q1]
  ·cases h
 ·cases h
theorem wU {o:Oper} {op:UnOp} {T:Nat} {x:Operand} (ho:o.op=.unOp op T x) {r:AV} (h:(∃b,op=.not∧s.ev x=.ae (.bool b)∧r=.ae (.bool (!b)))∨(∃k n,op=.neg∧s.ev x=.ae (.int k n)∧r=.ae (.int k (k.wrap (0-n))))):eI Γ o s r:=by
 refine aN fun a w η hr=>?_
 have hx:=hr.ev x
 rcases h with⟨b,rfl,he,rfl⟩|⟨k,n,rfl,he,rfl⟩<;>rw[he] at hx
 ·exact⟨_,by simp[execOp,ho,hx.al,Op.unary],.ae _⟩
 ·exact⟨_,by simp[execOp,ho,hx.al,Op.unary,Op.intArith],.ae _⟩
theorem x5 {o:Oper} {x:Operand} {i:Nat} (ho:o.op=.extract x i) {vs:List AV} {r:AV} (he:s.ev x=.aX vs) (hi:vs[i]?=some r):eI Γ o s r:=by
 refine aN fun a w η hr=>?_
 have hx:=hr.ev x
 rw[he] at hx
 generalize hv:a.eval x=v at hx
 cases hx with
 |aX cs us hl cE=>
  have ak:i<us.size:=by rw[hl];exact(List.getElem?_eq_some_iff.1 hi).1
  have hu:us[i]?=some us[i]:=by simp[ak]
  exact⟨us[i],by simp[execOp,ho,hv,Instr.extract,hu],cE i r _ hi hu⟩
theorem DQ {tab:Nat→Option TD} (ah:aQ Γ.P tab) {o:Oper} {T f:Nat} {x:Operand} (ho:o.op=.field T x f) {p:Nat×Nat×Bool} (hp:(fieldsOf tab T)[f]?=some p) {cs:List AV} (hx:s.ev x=.agg cs) {r:AV}
  (h:eC p.2.2 p.2.1 cs p.1=some r) (h1:p.2.2=false→p.2.1=1):eI Γ o s r:=by
 refine aN fun a w η hr=>?_
 have dC:=hr.ev x
 rw[hx] at dC
 obtain⟨d,fs,hd,hk,hf⟩:=lB hp
 obtain⟨fields,fd,i,u,e1,e2,e3,e4,e5,e6,e7⟩:=(ah T d hd).field hk hf
 generalize hv:a.eval x=v at dC
 cases dC with
 |agg _ vs hl uf cE=>
  obtain⟨g1,g2⟩:=dU (w:=w) (F:=aW Γ w η s.hp) (η:=η) (hp:=s.hp) h1 (vs:=vs.toList) (by simpa using hl) (fun j x u hx hu=>⟨cE j x u hx (by simpa using hu),uf u (by rw[←Array.mem_toList_iff];exact List.mem_of_getElem? hu)⟩) h
  refine⟨_,?_,g2⟩
  have bJ:(isAgg fd.type).run Γ.P w=.ok p.2.2 w:=by
   rw[←e7]
   simp only[isAgg,Sem.run_bind,run_underlying e6,Result.andThen_ok]
   cases u<;>rfl
  simp only[execOp,ho,hv,Instr.field,Sem.run_bind,run_underlying e1,Result.andThen_ok,e2,asAgg,Sem.run_pure,part,bJ]
  cases ri:p.2.2 with
  |true=>
   simp only[if_true,Sem.run_bind,sizeOf,typeInfo,run_program,Result.andThen_ok,e4,Sem.run_pure,e5,e3]
   congr 2
   apply congrArg
   apply Array.ext'
   simp[Array.toList_extract,List.extract_eq_take_drop]
  |false=>
   have hs:=h1 ri
   rw[hs] at g1 ⊢
   have ak:p.1<vs.size:=by simp at g1;omega
   have hu:vs[p.1]?=some vs[p.1]:=by simp[ak]
   simp only[Bool.false_eq_true,if_false,e3,hu,Sem.run_pure,Result.andThen_ok]
   congr 2
   have:(vs.toList.drop p.1).take 1=[vs[p.1]]:=by
    apply List.ext_getElem?
    intro k
    rw[List.getElem?_take]
    cases k with
    |zero=>simp[ak]
    |succ k=>simp
   rw[this];rfl
end
section
variable {G:Type} {Γ:Env G} {s:AS G} {a:Act} {w w':World} {η:List Value} {hp:List af} {F:Nat→Nat→Prop} {P:Program}
theorem aY.I8 {els:List AV} {v:Value} (h:aY w F η hp (.sl els) v):∃a c,v=.slice a els.length c:=by
 cases h with
 |ki a=>exact⟨a,0,rfl⟩
 |sl size els b o c f hc hm hl ay hr=>exact⟨_,c,rfl⟩
theorem iH {o:Oper} {c:Call} {b:Builtin} (ho:o.op=.call c) (hb:c.callee=.builtin b) {l:List Operand} (hl:c.args.toList=l) {r:AV}
  (h:∀a w η,Rel Γ s a w η→∃v w',(builtin b c.argTypes o.type ((c.args.map fun | .const _=>true|_=>false)) (l.map a.eval).toArray).run Γ.P w=.ok (.value v) w'∧bu w w'∧aY w' (aW Γ w' η s.hp) η s.hp r v):eI Γ o s r:=by
 intro a w η hr
 obtain⟨v,w',h1,h2,h3⟩:=h a w η hr
 refine⟨v,w',?_,h2,h3⟩
 have:c.args.map a.eval=(l.map a.eval).toArray:=by rw[←hl];apply Array.ext';simp
 simp only[execOp,ho,resolve,hb,Sem.run_bind,Sem.run_pure,Result.andThen_ok,invoke,this]
 exact h1
theorem AA {tab:Nat→Option TD} (ah:aQ Γ.P tab) {o:Oper} {c:Call} (ho:o.op=.call c) (hb:c.callee=.builtin .len) {x:Operand} (hl:c.args.toList=[x]) {T:Nat} (hT:c.argTypes[0]?=some T) {d:TD} (hd:tab T=some d) {r:AV}
  (h:(∃e els,d.kind=.iW e∧(s.ev x).fN s.hp=some els∧r=.ae (.int .i64 els.length))∨(∃b,d.kind=.str∧s.ev x=.ae (.string b)∧r=.ae (.int .i64 b.size))):eI Γ o s r:=by
 refine iH ho hb hl fun a w η hr=>?_
 obtain⟨u,h2,h3⟩:=(ah T d hd).jy
 rcases h with⟨e,els,hk,cy,rfl⟩|⟨b,hk,he,rfl⟩<;>rw[hk] at h3
 ·have hu:Γ.P.underlying T=some (.slice e):=by rw[h2];exact congrArg some h3
  obtain⟨a0,c0,hv⟩:=(iX hr.heap hr.bA (hr.ev x) cy).I8
  exact⟨_,w,by simp[builtin,Builtin.len_,hT,hv,run_underlying hu,goInt],bu.refl w,.ae _⟩
 ·have hu:Γ.P.underlying T=some .string:=by rw[h2];exact congrArg some h3
  have hx:=hr.ev x
  rw[he] at hx
  exact⟨_,w,by simp[builtin,Builtin.len_,hT,hx.al,run_underlying hu,goInt],bu.refl w,.ae _⟩
theorem G6 {tab:Nat→Option TD} (ah:aQ Γ.P tab) {o:Oper} {c:Call} (ho:o.op=.call c) (hb:c.callee=.builtin .len) {x:Operand} (hl:c.args.toList=[x]) {T:Nat} (hT:c.argTypes[0]?=some T) {d:TD} (hd:tab T=some d) {e r m e' z:Nat} {els:List AV}
  (hk:d.kind=.iW e) (he:s.ev x=.own r m) (ox:s.hp[r]?=some (.aI e' z els)) (hm:m=els.length):eI Γ o s (.ae (.int .i64 (m:Nat))):=by
 refine iH ho hb hl fun a w η hr=>?_
 obtain⟨u,h2,h3⟩:=(ah T d hd).jy
 rw[hk] at h3
 have hu:Γ.P.underlying T=some (.slice e):=by rw[h2];exact congrArg some h3
 have hx:=hr.ev x
 rw[he] at hx
 generalize hv:a.eval x=v at hx
 cases hx with
 |own _ _ _ h1 rh=>
  unfold aT at rh
  rw[ox] at rh
  obtain⟨IG,xs,bW,_⟩:=hr.heap.obj r _ _ ox (rh.2 hm)
  obtain⟨a0,c0,rfl⟩:∃a0 c0,v=.slice a0 m c0:=by
   rcases bW.2 with⟨h0,rfl|⟨ad,rfl⟩⟩|⟨g,cap,cur,rfl,_⟩
   ·exact⟨_,_,by rw[hm,h0]⟩
   ·exact⟨_,_,by rw[hm,h0]⟩
   ·exact⟨_,_,by rw[hm]⟩
  exact⟨_,w,by simp[builtin,Builtin.len_,hT,hv,run_underlying hu,goInt],bu.refl w,.ae _⟩
theorem I9 {o:Oper} {c:Call} (ho:o.op=.call c) (hb:c.callee=.builtin .min) {x y:Operand} (hl:c.args.toList=[x,y]) {k k':IntKind} {m n:Int} (hx:s.ev x=.ae (.int k m)) (hy:s.ev y=.ae (.int k' n)):eI Γ o s (.ae (.int k (if n<m then n else m))):=by
 refine iH ho hb hl fun a w η hr=>?_
 have h1:=hr.ev x
 have h2:=hr.ev y
 rw[hx] at h1;rw[hy] at h2
 exact⟨_,w,by simp[builtin,Builtin.min_,h1.al,h2.al,Builtin.min2],bu.refl w,.ae _⟩
theorem Ja {o:Oper} {c:Call} (ho:o.op=.call c) (hb:c.callee=.builtin .max) {x y:Operand} (hl:c.args.toList=[x,y]) {k k':IntKind} {m n:Int} (hx:s.ev x=.ae (.int k m)) (hy:s.ev y=.ae (.int k' n)):eI Γ o s (.ae (.int k (if n>m then n else m))):=by
 refine iH ho hb hl fun a w η hr=>?_
 have h1:=hr.ev x
 have h2:=hr.ev y
 rw[hx] at h1;rw[hy] at h2
 exact⟨_,w,by simp[builtin,Builtin.max_,h1.al,h2.al,Builtin.max2],bu.refl w,.ae _⟩
def eD (cs:List Value) (off:Nat):List Value→List Value
 | []=>cs
 |x::xs=>eD (cs.set off x) (off+1) xs
theorem fP (xs:List Value):∀(cs:List Value) (off:Nat),(eD cs off xs).length=cs.length:=by
 induction xs with
 |nil=>intro cs off;rfl
 |cons x xs ih=>intro cs off;simp[eD,ih]
def oT (w:World) (F:Nat→Nat→Prop) (η:List Value) (hp:List af) (cs:List AV) (vs:List Value):Prop:=
 vs.length=cs.length∧∀(j:Nat) (x:AV) (u:Value),cs[j]?=some x→vs[j]?=some u→aY w F η hp x u∧u.oneCell'=true
theorem oT.set {cs:List AV} {vs:List Value} (h:oT w F η hp cs vs) (off:Nat) {x:AV} {u:Value} (hx:aY w F η hp x u) (h1:u.oneCell'=true):oT w F η hp (cs.set off x) (vs.set off u):=by
 refine⟨by simp[h.1],fun j y z hy hz=>?_⟩
 by_cases hj:off=j
 ·subst hj
  rw[List.getElem?_set] at hy hz
  simp only[if_true] at hy hz
  split at hy
  ·rename_i h2
   rw[h.1,if_pos h2] at hz
   obtain rfl:=Option.some.inj hy
   obtain rfl:=Option.some.inj hz
   exact⟨hx,h1⟩
  ·cases hy
 ·rw[getElem?_set_ne hj] at hy hz
  exact h.2 j y z hy hz
theorem oT.RE (xs:List AV):∀{us:List Value} {cs:List AV} {vs:List Value} (off:Nat),oT w F η hp cs vs→oT w F η hp xs us→oT w F η hp (setCells cs off xs) (eD vs off us):=by
 induction xs with
 |nil=>
  intro us cs vs off h hu
  have:us=[]:=List.eq_nil_of_length_eq_zero hu.1
  subst this;exact h
 |cons x xs ih=>
  intro us cs vs off h hu
  match us,hu with
  | [],hu=>exact absurd hu.1 (by simp)
  |u::us,hu=>
   have h0:=hu.2 0 x u rfl rfl
   exact ih (off+1) (h.set off h0.1 h0.2) ⟨by simpa using hu.1,fun j y z hy hz=>hu.2 (j+1) y z (by simpa using hy) (by simpa using hz)⟩
theorem aY.AB {x:AV} {v:Value} (h:aY w F η hp x v) (hs:x.kC=true):oT w F η hp x.cells v.cells.toList:=by
 have one:x.isAgg=false→x.IZ=true:=by cases x<;>simp_all [AV.kC,AV.isAgg,AV.IZ]
 cases h with
 |agg cs vs hl h1 hr=>exact⟨by simpa [AV.cells,Value.cells] using hl,fun j y u hy hu=>⟨hr j y u hy (by simpa [Value.cells] using hu),h1 u (by have:=List.mem_of_getElem? hu;simpa [Value.cells] using this)⟩⟩
 |top v=>simp[AV.kC] at hs
 |aX cs vs hl hr=>simp[AV.kC] at hs
 |ae v=>
  have h1:v.oneCell'=true:=hs
  refine⟨by cases v<;>simp_all [AV.cells,Value.cells,Value.oneCell'],fun j y u hy hu=>?_⟩
  have hv:v.cells=#[v]:=by cases v<;>simp_all [Value.cells,Value.oneCell']
  rw[hv] at hu
  cases j with
  |zero=>simp[AV.cells] at hy hu;subst hy;subst hu;exact⟨.ae _,h1⟩
  |succ j=>simp[AV.cells] at hy
 |own r n v h1 h2=>
  refine⟨by cases v<;>simp_all [AV.cells,Value.cells,Value.oneCell'],fun j y u hy hu=>?_⟩
  have hv:v.cells=#[v]:=by cases v<;>simp_all [Value.cells,Value.oneCell']
  rw[hv] at hu
  cases j with
  |zero=>simp[AV.cells] at hy hu;subst hy;subst hu;exact⟨.own r n _ h1 h2,h1⟩
  |succ j=>simp[AV.cells] at hy
 |fn v h1=>
  refine⟨by cases v<;>simp_all [AV.cells,Value.cells,Value.oneCell'],fun j y u hy hu=>?_⟩
  have hv:v.cells=#[v]:=by cases v<;>simp_all [Value.cells,Value.oneCell']
  rw[hv] at hu
  cases j with
  |zero=>simp[AV.cells] at hy hu;subst hy;subst hu;exact⟨.fn _ h1,h1⟩
  |succ j=>simp[AV.cells] at hy
 |ki a=>exact⟨rfl,fun j y u hy hu=>by cases j<;>simp[AV.cells,Value.cells] at hy hu;subst hy;subst hu;exact⟨.ki a,rfl⟩⟩
 |iB a=>exact⟨rfl,fun j y u hy hu=>by cases j<;>simp[AV.cells,Value.cells] at hy hu;subst hy;subst hu;exact⟨.iB a,rfl⟩⟩
 |sl size els b o c f hc hm hl ay hr=>exact⟨rfl,fun j y u hy hu=>by cases j<;>simp[AV.cells,Value.cells] at hy hu;subst hy;subst hu;exact⟨.sl size els b o c f hc hm hl ay hr,rfl⟩⟩
 |clip size els b o f hm hl ay hr=>exact⟨rfl,fun j y u hy hu=>by cases j<;>simp[AV.cells,Value.cells] at hy hu;subst hy;subst hu;exact⟨.clip size els b o f hm hl ay hr,rfl⟩⟩
 |ptr r off b h=>exact⟨rfl,fun j y u hy hu=>by cases j<;>simp[AV.cells,Value.cells] at hy hu;subst hy;subst hu;exact⟨.ptr r off b h,rfl⟩⟩
 |aL e off b o f ay hr=>exact⟨rfl,fun j y u hy hu=>by cases j<;>simp[AV.cells,Value.cells] at hy hu;subst hy;subst hu;exact⟨.aL e off b o f ay hr,rfl⟩⟩
 |aK fn cs vs hl hr=>exact⟨rfl,fun j y u hy hu=>by cases j<;>simp[AV.cells,Value.cells] at hy hu;subst hy;subst hu;exact⟨.aK fn cs vs hl hr,rfl⟩⟩
 |mp r b h=>exact⟨rfl,fun j y u hy hu=>by cases j<;>simp[AV.cells,Value.cells] at hy hu;subst hy;subst hu;exact⟨.mp r b h,rfl⟩⟩
 |eH r n i size b o c k h=>simp[AV.kC] at hs
 |cK fn cs vs hl hr=>exact⟨rfl,fun j y u hy hu=>by cases j<;>simp[AV.cells,Value.cells] at hy hu;subst hy;subst hu;exact⟨.cK fn cs vs hl hr,rfl⟩⟩
 |ea b es c h hF l hl=>exact⟨rfl,fun j y u hy hu=>by cases j<;>simp[AV.cells,Value.cells] at hy hu;subst hy;subst hu;exact⟨.ea b es c h hF l hl,rfl⟩⟩
theorem ug (v:List Value):∀(cs:Array Value) (off k:Nat),((v.zipIdx k).foldl (fun cs (c,j)=>cs.setIfInBounds (off+j) c) cs).toList=eD cs.toList (off+k) v:=by
 induction v with
 |nil=>intro cs off k;rfl
 |cons x v ih=>
  intro cs off k
  simp only[List.zipIdx_cons,List.foldl_cons]
  rw[ih]
  simp[eD,Array.toList_setIfInBounds,Nat.add_assoc]
theorem FB {fs:List (Nat×Nat×Bool)} {places:Nat→Option (Nat×Nat)} (II:∀(i:Nat) (p:Nat×Nat×Bool),fs[i]?=some p→places i=some (p.1,p.2.1)):
  ∀(parts:List (Nat×AV)) (jV:List (Nat×Value)) (cs:List AV) (vs:Array Value) (r:List AV),cB fs cs parts=some r→oT w F η hp cs vs.toList→jV.map (·.1)=parts.map (·.1)→
   (∀(j:Nat) (p:Nat×AV) (q:Nat×Value),parts[j]?=some p→jV[j]?=some q→aY w F η hp p.2 q.2)→∃vr,Instr.fill places vs jV=some vr∧oT w F η hp r vr.toList:=by
 intro parts
 induction parts with
 |nil=>
  intro jV cs vs r h hc hm _
  have:jV=[]:=by cases jV<;>simp_all
  subst this
  simp only[cB,Option.some.injEq] at h
  subst h
  exact⟨vs,rfl,hc⟩
 |cons p parts ih=>
  intro jV cs vs r h hc hm hr
  cases jV with
  |nil=>simp at hm
  |cons q jV=>
   obtain⟨i,x⟩:=p
   obtain⟨i',v⟩:=q
   simp only[List.map_cons,List.cons.injEq] at hm
   obtain⟨rfl,RF⟩:=hm
   have h0:=hr 0 _ _ rfl rfl
   simp only at h0
   simp only[cB] at h
   split at h
   ·rename_i p hp
    split at h
    ·rename_i kE
     have AD:=h0.AB kE.2.2
     have bC:v.cells.size=p.2.1:=by rw[←kE.1,←AD.1];simp
     have XM:=II _ p hp
     have hle:p.1+p.2.1≤vs.size:=by have:=hc.1;simp at this;omega
     have uh:=ug v.cells.toList vs p.1 0
     rw[Nat.add_zero] at uh
     obtain⟨vr,e1,e2⟩:=ih jV (setCells cs p.1 x.cells) ((v.cells.zipIdx).foldl (fun cs (c,j)=>cs.setIfInBounds (p.1+j) c) vs) r h (by
      have e:((v.cells.zipIdx).foldl (fun cs (c,j)=>cs.setIfInBounds (p.1+j) c) vs).toList=eD vs.toList p.1 v.cells.toList:=by
       rw[←uh,←Array.foldl_toList];simp
      rw[e]
      exact oT.RE x.cells p.1 hc AD) RF (fun j p' q' h1 h2=>hr (j+1) p' q' (by simpa using h1) (by simpa using h2))
     refine⟨vr,?_,e2⟩
     simp only[Instr.fill,XM,bC]
     rw[if_neg (by simp;omega)]
     exact e1
    ·cases h
   ·cases h
end
section
variable {G:Type} {Γ:Env G} {s:AS G} {a:Act} {w w':World} {η:List Value} {hp:List af} {F:Nat→Nat→Prop} {P:Program}
theorem fh.x7 {T:Nat} {d:TD} (h:fh P T d):oT w F η hp (d.zero.cells.toList.map .ae) d.zero.cells.toList:=by
 refine⟨by simp,fun j x u hx hu=>?_⟩
 rw[List.getElem?_map,hu] at hx
 obtain rfl:=Option.some.inj hx
 exact⟨.ae _,h.XE u (by have:=List.mem_of_getElem? hu;simpa using this)⟩
theorem ui (fields:List Field) (w:World) (h:∀f:Field,f∈fields→∃i,P.info? f.type=some i):
  (fields.mapM fun f=>do pure (f.offset,←sizeOf f.type):Sem (List (Nat×Nat))).run P w=.ok (fields.map fun f=>(f.offset,((P.info? f.type).map (·.size)).getD 0)) w:=by
 induction fields with
 |nil=>rfl
 |cons f fs ih=>
  obtain⟨i,hi⟩:=h f List.mem_cons_self
  have ih':=ih fun g hg=>h g (List.mem_cons_of_mem _ hg)
  simp only[List.mapM_cons,Sem.run_bind,sizeOf,typeInfo,run_program,Result.andThen_ok,hi,Sem.run_pure,List.map_cons,Option.map_some,Option.getD_some]
  simp only[sizeOf,typeInfo] at ih'
  rw[ih']
  rfl
theorem DR {tab:Nat→Option TD} (ah:aQ Γ.P tab) {o:Oper} {T:Nat} {parts:Array (Nat×Operand)} (ho:o.op=.build T parts) {d:TD} (hd:tab T=some d) {fs:List (Nat×Nat×Bool)} (hk:d.kind=.bS fs) {r:List AV}
  (h:cB fs (d.zero.cells.toList.map .ae) (parts.toList.map fun p=>(p.1,s.ev p.2))=some r):eI Γ o s (.agg r):=by
 refine aN fun a w η hr=>?_
 have fO:=ah T d hd
 obtain⟨u,h2,h3⟩:=fO.jy
 rw[hk] at h3
 obtain⟨fields,rfl,h3⟩:=h3
 have TL:∀f:Field,f∈fields.toList→∃i,Γ.P.info? f.type=some i:=by
  intro f hf
  obtain⟨k,wa⟩:=List.getElem?_of_mem hf
  have h4:=congrArg (·[k]?) h3
  simp only[List.getElem?_map,wa,Option.map_some] at h4
  cases Ns:fs[k]? with
  |none=>rw[Ns] at h4;cases h4
  |some p=>
   rw[Ns] at h4
   simp only[Option.map_some,Option.some.injEq,Prod.mk.injEq] at h4
   cases hi:Γ.P.info? f.type with
   |none=>rw[hi] at h4;cases h4.2.1
   |some i=>exact⟨i,rfl⟩
 have II:∀(i:Nat) (p:Nat×Nat×Bool),fs[i]?=some p→((fields.toList.map fun f=>(f.offset,((Γ.P.info? f.type).map (·.size)).getD 0)).toArray)[i]?=some (p.1,p.2.1):=by
  intro i p hp
  have h4:=congrArg (·[i]?) h3
  simp only[List.getElem?_map,hp,Option.map_some] at h4
  cases hf:fields.toList[i]? with
  |none=>rw[hf] at h4;cases h4
  |some f=>
   rw[hf] at h4
   simp only[Option.map_some,Option.some.injEq,Prod.mk.injEq] at h4
   simp only[List.getElem?_toArray,List.getElem?_map,hf,Option.map_some,h4.1,h4.2.1,Option.getD_some]
 obtain⟨vr,e1,e2⟩:=FB (w:=w) (F:=aW Γ w η s.hp) (η:=η) (hp:=s.hp) II (parts.toList.map fun p=>(p.1,s.ev p.2)) (parts.toList.map fun p=>(p.1,a.eval p.2)) _ d.zero.cells r h fO.x7 (by simp) (fun j p q h1 h2=>by
  simp only[List.getElem?_map] at h1 h2
  cases hj:parts.toList[j]? with
  |none=>rw[hj] at h1;cases h1
  |some x=>
   rw[hj] at h1 h2
   obtain rfl:=Option.some.inj h1
   obtain rfl:=Option.some.inj h2
   exact hr.ev x.2)
 refine⟨.agg vr,?_,.agg r vr (by have:=e2.1;simpa using this) (fun v hv=>?_) fun j x v hx hv=>(e2.2 j x v hx (by simpa using hv)).1⟩
 ·have hm:=ui (P:=Γ.P) fields.toList w TL
  simp only[execOp,ho,Instr.build,Sem.run_bind,fO.fM,Result.andThen_ok,run_underlying h2,Array.mapM_eq_mapM_toList,Sem.run_map,hm,Array.toList_map,e1,Sem.run_pure]
 ·obtain⟨k,wa⟩:=List.getElem?_of_mem (Array.mem_toList_iff.2 hv)
  have ak:k<r.length:=by rw[←e2.1];exact(List.getElem?_eq_some_iff.1 wa).1
  exact(e2.2 k r[k] v (by simp[ak]) wa).2
theorem AE {tab:Nat→Option TD} (ah:aQ Γ.P tab) {o:Oper} {T:Nat} {parts:Array (Nat×Operand)} (ho:o.op=.build T parts) {d:TD} (hd:tab T=some d) {n:Nat} (hk:d.kind=.arr n) {r:List AV}
  (h:cB (ub n) (d.zero.cells.toList.map .ae) (parts.toList.map fun p=>(p.1,s.ev p.2))=some r):eI Γ o s (.agg r):=by
 refine aN fun a w η hr=>?_
 have fO:=ah T d hd
 obtain⟨u,h2,h3⟩:=fO.jy
 rw[hk] at h3
 obtain⟨e,i0,rfl,v8,nQ⟩:=h3
 have II:∀(i:Nat) (p:Nat×Nat×Bool),(ub n)[i]?=some p→(fun i=>some (i*1,1):Nat→Option (Nat×Nat)) i=some (p.1,p.2.1):=by
  intro i p hp
  simp only[ub,List.getElem?_map] at hp
  obtain⟨j,hj,rfl⟩:=Option.map_eq_some_iff.1 hp
  obtain rfl:j=i:=by
   obtain⟨h5,h6⟩:=List.getElem?_eq_some_iff.1 hj
   rw[←h6];simp
  simp
 obtain⟨vr,e1,e2⟩:=FB (w:=w) (F:=aW Γ w η s.hp) (η:=η) (hp:=s.hp) II (parts.toList.map fun p=>(p.1,s.ev p.2)) (parts.toList.map fun p=>(p.1,a.eval p.2)) _ d.zero.cells r h fO.x7 (by simp) (fun j p q h1 h2=>by
  simp only[List.getElem?_map] at h1 h2
  cases hj:parts.toList[j]? with
  |none=>rw[hj] at h1;cases h1
  |some x=>
   rw[hj] at h1 h2
   obtain rfl:=Option.some.inj h1
   obtain rfl:=Option.some.inj h2
   exact hr.ev x.2)
 refine⟨.agg vr,?_,.agg r vr (by have:=e2.1;simpa using this) (fun v hv=>?_) fun j x v hx hv=>(e2.2 j x v hx (by simpa using hv)).1⟩
 ·simp only[execOp,ho,Instr.build,Sem.run_bind,fO.fM,Result.andThen_ok,run_underlying h2,sizeOf,typeInfo,run_program,v8,Sem.run_pure,nQ,Array.toList_map,e1]
 ·obtain⟨k,wa⟩:=List.getElem?_of_mem (Array.mem_toList_iff.2 hv)
  have ak:k<r.length:=by rw[←e2.1];exact(List.getElem?_eq_some_iff.1 wa).1
  exact(e2.2 k r[k] v (by simp[ak]) wa).2
theorem ct (us:List Value):∀(cs:List Value) (off t:Nat),off+us.length≤cs.length→(eD cs off us)[t]?=if off≤t∧t<off+us.length then us[t-off]? else cs[t]?:=by
 induction us with
 |nil=>
  intro cs off t _
  simp only[eD,List.length_nil,Nat.add_zero]
  rw[if_neg (by omega)]
 |cons u us ih=>
  intro cs off t h
  simp only[List.length_cons] at h
  simp only[eD,List.length_cons]
  rw[ih (cs.set off u) (off+1) t (by simp;omega)]
  by_cases h1:off+1≤t∧t<off+1+us.length
  ·rw[if_pos h1,if_pos (by omega)]
   have:t-off=(t-(off+1))+1:=by omega
   rw[this,List.getElem?_cons_succ]
  ·rw[if_neg h1]
   by_cases h2:t=off
   ·subst h2
    rw[if_pos (by omega),Nat.sub_self,List.getElem?_cons_zero,List.getElem?_set]
    simp;omega
   ·rw[if_neg (by omega),getElem?_set_ne (fun e=>h2 e.symm)]
theorem wc (v:Array Value) (cs:Array Value) (off:Nat):(v.zipIdx.foldl (fun cs (c,j)=>cs.setIfInBounds (off+j) c) cs).toList=eD cs.toList off v.toList:=by
 have h:=ug v.toList cs off 0
 rw[Nat.add_zero] at h
 rw[←h,←Array.foldl_toList]
 simp
theorem uj {size:Nat}:∀(l:List Value) (k:Nat) (parts:List (Nat×Value)) (cs:Array Value),parts.map (·.2)=l→(∀(j:Nat) (p:Nat×Value),parts[j]?=some p→p.1=k+j)→(∀v:Value,v∈l→v.cells.size=size)→cs.size=(k+l.length)*size→
  ∃r,Instr.fill (fun i=>some (i*size,size)) cs parts=some r∧r.size=cs.size∧(∀t,t<k*size→r.toList[t]?=cs.toList[t]?)∧
   ∀(i:Nat) (v:Value) (j:Nat) (u:Value),l[i]?=some v→v.cells.toList[j]?=some u→r.toList[(k+i)*size+j]?=some u:=by
 intro l
 induction l with
 |nil=>
  intro k parts cs hm _ _ _
  have:parts=[]:=by cases parts<;>simp_all
  subst this
  exact⟨cs,rfl,rfl,fun _ _=>rfl,fun i v j u hi=>by simp at hi⟩
 |cons v l ih=>
  intro k parts cs hm kF bC fq
  cases parts with
  |nil=>simp at hm
  |cons p parts=>
   obtain⟨i0,v0⟩:=p
   simp only[List.map_cons,List.cons.injEq] at hm
   obtain⟨rfl,RF⟩:=hm
   have v8:i0=k:=by have:=kF 0 _ rfl;simpa using this
   subst v8
   have pL:=bC v0 List.mem_cons_self
   simp only[List.length_cons] at fq
   have hle:i0*size+size≤cs.size:=by
    rw[fq]
    have:(i0+(l.length+1))*size=i0*size+size+l.length*size:=by rw[Nat.add_mul,Nat.add_mul];omega
    omega
   have uh:=wc v0.cells cs (i0*size)
   obtain⟨r,e1,e2,e3,e4⟩:=ih (i0+1) parts (v0.cells.zipIdx.foldl (fun cs (c,j)=>cs.setIfInBounds (i0*size+j) c) cs) RF
    (fun j p hj=>by have:=kF (j+1) p (by simpa using hj);omega) (fun v hv=>bC v (List.mem_cons_of_mem _ hv))
    (by rw[←Array.length_toList,uh,fP,Array.length_toList,fq];congr 1;omega)
   have hlen:(v0.cells.zipIdx.foldl (fun cs (c,j)=>cs.setIfInBounds (i0*size+j) c) cs).size=cs.size:=by
    rw[←Array.length_toList,uh,fP,Array.length_toList]
   have hmul:(i0+1)*size=i0*size+size:=by rw[Nat.add_mul];omega
   refine⟨r,?_,by rw[e2,hlen],fun t ht=>?_,fun i v j u hi hj=>?_⟩
   ·simp only[Instr.fill,pL]
    rw[if_neg (by simp;omega)]
    exact e1
   ·rw[e3 t (by omega),uh,ct _ _ _ _ (by simp;omega),if_neg (by omega)]
   ·cases i with
    |zero=>
     simp only[List.getElem?_cons_zero,Option.some.injEq] at hi
     subst hi
     have pE:j<size:=by rw[←pL,←Array.length_toList];exact(List.getElem?_eq_some_iff.1 hj).1
     rw[Nat.add_zero,e3 _ (by omega),uh,ct _ _ _ _ (by simp;omega),if_pos ⟨by omega,by rw[Array.length_toList,pL];omega⟩]
     rw[Nat.add_sub_cancel_left];exact hj
    |succ i=>
     have:=e4 i v j u (by simpa using hi) hj
     rw[show i0+(i+1)=i0+1+i from by omega]
     exact this
theorem DS:∀(l:List (Nat×Operand)) (k:Nat),pM k l=true→∀(j:Nat) (p:Nat×Operand),l[j]?=some p→p.1=k+j:=by
 intro l
 induction l with
 |nil=>intro k _ j p h;simp at h
 |cons q l ih=>
  intro k h j p hj
  obtain⟨i,x⟩:=q
  simp only[pM,Bool.and_eq_true,beq_iff_eq] at h
  cases j with
  |zero=>simp only[List.getElem?_cons_zero,Option.some.injEq] at hj;subst hj;simpa using h.1
  |succ j=>have:=ih (k+1) h.2 j p (by simpa using hj);omega
theorem mM {size:Nat}:∀(l:List AV),oS size l→∀x:AV,x∈l→x.cells.length=size∧x.kC=true:=by
 intro l
 induction l with
 |nil=>intro _ x h;cases h
 |cons y l ih=>
  intro h x hx
  rcases List.mem_cons.1 hx with rfl|h1
  ·exact h.1
  ·exact ih h.2 x h1
theorem FC {T:TypeId} {cs:Array Value} (h:Rel Γ s a w η) (k:Nat) (hX:∀b o,Γ.No b o→b<Γ.w0.heap.size):aW Γ (w.alloc (.cells cs T)) η s.hp w.heap.size k:=by
 refine⟨.inr (.inl h.keeps.size),by simp,fun hx=>by have:=hX _ _ hx;have:=h.keeps.size;omega,(aR _ _).2 fun r v hv hb=>?_⟩
 have ec:r<s.hp.length:=by rw[←h.heap.len];exact(List.getElem?_eq_some_iff.1 hv).1
 refine⟨s.hp[r],by simp[ec],?_⟩
 have ho:s.hp[r]?=some s.hp[r]:=by simp[ec]
 cases hk:s.hp[r] with
 |dead=>exact True.intro
 |_=>
  rw[hk] at ho
  have:=h.heap.block ho True.intro hv hb
  omega
theorem mn (ao:Γ.Ok) {tab:Nat→Option TD} (ah:aQ Γ.P tab) {o:Oper} {T n e:Nat} {parts:Array (Nat×Operand)} (ho:o.op=.buildSlice T n parts) {d d':TD} (hd:tab T=some d) (hk:d.kind=.iW e) (cO:tab e=some d')
  (hn:n=parts.toList.length) (kF:pM 0 parts.toList=true) (Nt:n≤16777216) (Nu:n*d'.size≤16777216) (hl:oS d'.size (parts.toList.map fun p=>(s.ev p.2).bj s.hp)) (hr:Rel Γ s a w η):
  ∃r:Array Value,(execOp a.eval o).run Γ.P w=.ok (.value (.slice (some ⟨w.heap.size,0,none⟩) n n)) (w.alloc (.cells r e))∧r.size=n*d'.size∧
   (parts.toList.map fun p=>(s.ev p.2).bj s.hp).length=n∧
   ∀(i:Nat) (el:AV) (j:Nat) (x:AV),(parts.toList.map fun p=>(s.ev p.2).bj s.hp)[i]?=some el→el.cells[j]?=some x→∃u,r[i*d'.size+j]?=some u∧aY w (aW Γ w η s.hp) [] [] x u∧u.oneCell'=true:=by
 have fO:=ah e d' cO
 have hu:Γ.P.underlying T=some (.slice e):=by
  obtain⟨u,h2,h3⟩:=(ah T d hd).jy
  rw[hk] at h3
  rw[h2];exact congrArg some h3
 have M1:=mM _ hl
 have cE:∀(j:Nat) (x:AV) (v:Value),(parts.toList.map fun p=>(s.ev p.2).bj s.hp)[j]?=some x→(parts.toList.map fun p=>a.eval p.2)[j]?=some v→aY w (aW Γ w η s.hp) [] [] x v:=by
  intro j x v h1 h2
  simp only[List.getElem?_map] at h1 h2
  cases hj:parts.toList[j]? with
  |none=>rw[hj] at h1;cases h1
  |some p=>
   rw[hj] at h1 h2
   obtain rfl:=Option.some.inj h1
   obtain rfl:=Option.some.inj h2
   exact fu hr.heap hr.bA (hr.ev p.2)
 have kG:(parts.toList.map fun p=>(s.ev p.2).bj s.hp).length=n:=by simp[hn]
 have Jb:(parts.toList.map fun p=>a.eval p.2).length=n:=by simp[hn]
 have AD:∀(j:Nat) (x:AV) (v:Value),(parts.toList.map fun p=>(s.ev p.2).bj s.hp)[j]?=some x→(parts.toList.map fun p=>a.eval p.2)[j]?=some v→oT w (aW Γ w η s.hp) [] [] x.cells v.cells.toList:=
  fun j x v h1 h2=>(cE j x v h1 h2).AB (M1 x (List.mem_of_getElem? h1)).2
 have XN:∀v:Value,v∈(parts.toList.map fun p=>a.eval p.2)→v.cells.size=d'.size:=by
  intro v hv
  obtain⟨j,hj⟩:=List.getElem?_of_mem hv
  have ak:j<n:=by rw[←Jb];exact(List.getElem?_eq_some_iff.1 hj).1
  have hx:(parts.toList.map fun p=>(s.ev p.2).bj s.hp)[j]?=some (parts.toList.map fun p=>(s.ev p.2).bj s.hp)[j]:=by rw[List.getElem?_eq_getElem (by rw[kG];exact ak)]
  have:=(AD j _ v hx hj).1
  rw[Array.length_toList] at this
  rw[this]
  exact(M1 _ (List.mem_of_getElem? hx)).1
 have fin:∀Xe:Array Value,Xe.size=n*d'.size→∃r,Instr.fill (fun i=>some (i*d'.size,d'.size)) Xe (parts.toList.map fun p=>(p.1,a.eval p.2))=some r∧r.size=n*d'.size∧
   ∀(i:Nat) (el:AV) (j:Nat) (x:AV),(parts.toList.map fun p=>(s.ev p.2).bj s.hp)[i]?=some el→el.cells[j]?=some x→∃u,r[i*d'.size+j]?=some u∧aY w (aW Γ w η s.hp) [] [] x u∧u.oneCell'=true:=by
  intro Xe fq
  obtain⟨r,e1,e2,e3,e4⟩:=uj (parts.toList.map fun p=>a.eval p.2) 0 (parts.toList.map fun p=>(p.1,a.eval p.2)) Xe (by simp[Function.comp_def]) (fun j p hj=>by
   rw[List.getElem?_map] at hj
   cases pE:parts.toList[j]? with
   |none=>rw[pE] at hj;cases hj
   |some q=>
    rw[pE] at hj
    obtain rfl:=Option.some.inj hj
    exact DS _ _ kF j q pE) XN (by rw[Jb,Nat.zero_add];exact fq)
  refine⟨r,e1,by rw[e2];exact fq,?_⟩
  intro i el j x hi hj
  have ak:i<n:=by rw[←kG];exact(List.getElem?_eq_some_iff.1 hi).1
  have hv:(parts.toList.map fun p=>a.eval p.2)[i]?=some (parts.toList.map fun p=>a.eval p.2)[i]:=by rw[List.getElem?_eq_getElem (by rw[Jb];exact ak)]
  have h1:=AD i el _ hi hv
  have pE:j<(parts.toList.map fun p=>a.eval p.2)[i].cells.toList.length:=by rw[h1.1];exact(List.getElem?_eq_some_iff.1 hj).1
  have hu:(parts.toList.map fun p=>a.eval p.2)[i].cells.toList[j]?=some ((parts.toList.map fun p=>a.eval p.2)[i].cells.toList[j]):=by rw[List.getElem?_eq_getElem pE]
  have h2:=e4 i _ j _ hv hu
  rw[Nat.zero_add] at h2
  exact⟨_,by simpa using h2,h1.2 j x _ hj hu⟩
 have hb:¬n*d'.size>2 ^ 24:=by omega
 by_cases hz:n*d'.size=0
 ·obtain⟨r,e1,e2,e3⟩:=fin ((Array.range (n*d'.size)).map ((#[]:Array Value)[· % (#[]:Array Value).size]!)) (by simp)
  refine⟨r,?_,e2,kG,e3⟩
  simp only[execOp,ho,Instr.buildSlice,Sem.run_bind,run_underlying hu,Result.andThen_ok,fO.run_sizeOf,Sem.run_ite,if_neg hb,Sem.run_pure,if_pos hz,Array.toList_map,e1,newRow,run_newObj]
  rfl
 ·obtain⟨r,e1,e2,e3⟩:=fin ((Array.range (n*d'.size)).map (d'.zero.cells[· % d'.zero.cells.size]!)) (by simp)
  refine⟨r,?_,e2,kG,e3⟩
  simp only[execOp,ho,Instr.buildSlice,Sem.run_bind,run_underlying hu,Result.andThen_ok,fO.run_sizeOf,Sem.run_ite,if_neg hb,Sem.run_pure,if_neg hz,fO.fM,Array.toList_map,e1,newRow,run_newObj]
  rfl
theorem s9 (ao:Γ.Ok) {tab:Nat→Option TD} (ah:aQ Γ.P tab) {o:Oper} {T n e:Nat} {parts:Array (Nat×Operand)} (ho:o.op=.buildSlice T n parts) {d d':TD} (hd:tab T=some d) (hk:d.kind=.iW e) (cO:tab e=some d')
  (hn:n=parts.toList.length) (kF:pM 0 parts.toList=true) (Nt:n≤16777216) (Nu:n*d'.size≤16777216) (hl:oS d'.size (parts.toList.map fun p=>(s.ev p.2).bj s.hp)):eI Γ o s (.clip (parts.toList.map fun p=>(s.ev p.2).bj s.hp)):=by
 intro a w η hr
 obtain⟨r,e1,_,kG,bR⟩:=mn ao ah ho hd hk cO hn kF Nt Nu hl hr
 have M1:=mM _ hl
 have he:=mK (Γ:=Γ) (η:=η) (hp:=s.hp) (bu.alloc w (.cells r e)) (fun _ _=>dL)
 refine⟨_,_,e1,bu.alloc w (.cells r e),?_⟩
 have hm:(parts.toList.map fun p=>(s.ev p.2).bj s.hp).length≤maxLen:=by
  rw[kG];simp only[maxLen];omega
 have:=aY.clip (w:=w.alloc (.cells r e)) (F:=aW Γ (w.alloc (.cells r e)) η s.hp) (η:=η) (hp:=s.hp) d'.size (parts.toList.map fun p=>(s.ev p.2).bj s.hp) w.heap.size 0 (fun i j=>(r[i*d'.size+j]?).getD undef) hm
  (fun i el hi=>(M1 el (List.mem_of_getElem? hi)).1) (fun i el j x hi hj=>by
   obtain⟨u,h1,_,h3⟩:=bR i el j x hi hj
   rw[h1]
   refine⟨?_,FC hr _ (fun _ _=>ao.no),h3⟩
   rw[Nat.zero_add,World.cell?_alloc_new];exact h1) (fun i el j x hi hj=>by
   obtain⟨u,h1,h2,_⟩:=bR i el j x hi hj
   rw[h1];exact h2.ext he.ko.ext)
 rw[kG] at this
 exact this
end
section
variable {G:Type} {Γ:Env G} {s:AS G} {a:Act} {w w':World} {η:List Value} {hp:List af} {F:Nat→Nat→Prop} {P:Program}
theorem fQ (h:Rel Γ s a w η) {d n:Int} {x:Operand} (hb:bx s.ev d (some x)=some n):∃k,a.eval x=.int k n:=by
 unfold bx at hb
 simp only at hb
 split at hb
 ·rename_i k m he
  obtain rfl:=Option.some.inj hb
  have hx:=h.ev x
  rw[he] at hx
  exact⟨k,hx.al⟩
 ·cases hb
theorem run_sliceBound (w:World) {v:Value} {k:IntKind} {n:Int} (hv:v=.int k n) {y:Nat} (h0:0≤n) (h1:n≤y) (code:BoundsCode):(Instr.sliceBound v y code).run P w=.ok n.toNat w:=by
 subst hv
 have:0≤n∧n≤(y:Int):=⟨h0,h1⟩
 simp[Instr.sliceBound,asIntOf,this]
theorem aY.Nv {els:List AV} {b o c size:Nat} {x:Value} (bC:∀y:AV,y∈els→y.cells.length=size) (hx:aY w F η hp (.sl els) x) (hv:x=.slice (some ⟨b,o,none⟩) els.length c) {l h m:Nat} (hlh:l≤h) (hh:h≤els.length) (hm:h≤m) (hmc:m≤c):
  aY w F η hp (.sl ((els.take h).drop l)) (.slice (some ⟨b,if m=l then o else o+l*size,none⟩) (h-l) (m-l))∧(h=m→aY w F η hp (.clip ((els.take h).drop l)) (.slice (some ⟨b,if m=l then o else o+l*size,none⟩) (h-l) (h-l))):=by
 have hlen:((els.take h).drop l).length=h-l:=by simp;omega
 cases hx with
 |ki a=>
  simp only[List.length_nil,Value.slice.injEq,true_and] at hv
  obtain⟨rfl,rfl⟩:=hv
  obtain rfl:m=0:=by omega
  obtain rfl:h=0:=by omega
  obtain rfl:l=0:=by omega
  exact⟨.ki _,fun _=>.iB _⟩
 |sl rU _ b' o' c' f hc RF hl ay cE=>
  simp only[Value.slice.injEq,Option.some.injEq,Addr.mk.injEq,and_true,true_and] at hv
  obtain⟨⟨rfl,rfl⟩,rfl⟩:=hv
  have bR:∀(i:Nat) (e:AV),((els.take h).drop l)[i]?=some e→els[l+i]?=some e∧m≠l∧rU=size:=by
   intro i e hi
   have ak:=(List.getElem?_eq_some_iff.1 hi).1
   rw[hlen] at ak
   rw[List.getElem?_drop,List.getElem?_take,if_pos (by omega)] at hi
   exact⟨hi,by omega,by rw[←hl _ _ hi];exact bC e (List.mem_of_getElem? hi)⟩
  have AF:∀(i j:Nat),m≠l→rU=size→(if m=l then o' else o'+l*size)+i*size+j=o'+(l+i)*rU+j:=by
   intro i j h1 h2
   rw[if_neg h1,h2,Nat.add_mul];omega
  have key:∀c2,h-l≤c2→c2≤maxLen→aY w F η hp (.sl ((els.take h).drop l)) (.slice (some ⟨b',if m=l then o' else o'+l*size,none⟩) (h-l) c2)∧(c2=h-l→aY w F η hp (.clip ((els.take h).drop l)) (.slice (some ⟨b',if m=l then o' else o'+l*size,none⟩) (h-l) (h-l))):=by
   intro c2 h1 h2
   have p1:∀(i:Nat) (e:AV),((els.take h).drop l)[i]?=some e→e.cells.length=size:=fun i e hi=>bC e (List.mem_of_getElem? (bR i e hi).1)
   have p2:∀(i:Nat) (e:AV) (j:Nat) (x:AV),((els.take h).drop l)[i]?=some e→e.cells[j]?=some x→
     w.cell? ⟨b',(if m=l then o' else o'+l*size)+i*size+j,none⟩=some (f (l+i) j)∧F b' ((if m=l then o' else o'+l*size)+i*size+j)∧(f (l+i) j).oneCell'=true:=by
    intro i e j x hi hj
    obtain⟨g1,g2,g3⟩:=bR i e hi
    rw[AF i j g2 g3]
    exact ay _ _ _ _ g1 hj
   have p3:∀(i:Nat) (e:AV) (j:Nat) (x:AV),((els.take h).drop l)[i]?=some e→e.cells[j]?=some x→aY w F [] [] x (f (l+i) j):=
    fun i e j x hi hj=>cE _ _ _ _ (bR i e hi).1 hj
   have q1:=aY.sl (η:=η) (hp:=hp) size ((els.take h).drop l) b' (if m=l then o' else o'+l*size) c2 (fun i j=>f (l+i) j) (by rw[hlen];exact h1) h2 p1 p2 p3
   rw[hlen] at q1
   refine⟨q1,fun _=>?_⟩
   have q2:=aY.clip (η:=η) (hp:=hp) size ((els.take h).drop l) b' (if m=l then o' else o'+l*size) (fun i j=>f (l+i) j) (by rw[hlen];omega) p1 p2 p3
   rw[hlen] at q2
   exact q2
  refine⟨(key (m-l) (by omega) (by omega)).1,fun e=>?_⟩
  exact(key (m-l) (by omega) (by omega)).2 (by omega)
theorem uk {tab:Nat→Option TD} (ah:aQ Γ.P tab) {o:Oper} {T e:Nat} {x:Operand} {lo hi mx:Option Operand} (ho:o.op=.slice T x lo hi mx) {d d':TD} (hd:tab T=some d) (hk:d.kind=.iW e) (cO:tab e=some d') {els:List AV} (cy:(s.ev x).fN s.hp=some els)
  {l h:Int} (hl:bx s.ev 0 lo=some l) (hh:bx s.ev els.length hi=some h) (h0:0≤l) (h1:l≤h) (h2:h≤els.length) (bC:∀y:AV,y∈els→y.cells.length=d'.size) {r:AV}
  (hr:(mx=none∧r=.sl ((els.take h.toNat).drop l.toNat))∨(∃y m,mx=some y∧hi.isSome∧bx s.ev 0 (some y)=some m∧h=m∧r=.clip ((els.take h.toNat).drop l.toNat))):eI Γ o s r:=by
 refine aN fun a w η hrel=>?_
 have hx:=iX hrel.heap hrel.bA (hrel.ev x) cy
 have hu:Γ.P.underlying T=some (.slice e):=by
  obtain⟨u,q2,q3⟩:=(ah T d hd).jy
  rw[hk] at q3
  rw[q2];exact congrArg some q3
 have um:lo=none∧l=0∨∃y k,lo=some y∧a.eval y=.int k l:=by
  cases lo with
  |none=>simp[bx] at hl;exact .inl ⟨rfl,hl.symm⟩
  |some y=>obtain⟨k,hk⟩:=fQ hrel hl;exact .inr ⟨y,k,rfl,hk⟩
 have Xf:hi=none∧h=els.length∨∃y k,hi=some y∧a.eval y=.int k h:=by
  cases hi with
  |none=>simp[bx] at hh;exact .inl ⟨rfl,hh.symm⟩
  |some y=>obtain⟨k,hk⟩:=fQ hrel hh;exact .inr ⟨y,k,rfl,hk⟩
 have q7:∃ad c,a.eval x=.slice ad els.length c∧els.length≤c:=by
  generalize a.eval x=v at hx
  cases hx with
  |ki a=>exact⟨a,0,rfl,Nat.le_refl _⟩
  |sl size els b o c f hc hm hl ay hr=>exact⟨_,c,rfl,hc⟩
 obtain⟨ad,c,qY,RG⟩:=q7
 have kH:=(ah e d' cO).run_sizeOf w
 have hb:∃m:Nat,(Instr.sliceBounds true els.length c (lo.map a.eval) (hi.map a.eval) (mx.map a.eval)).run Γ.P w=.ok (l.toNat,h.toNat,m) w∧h.toNat≤m∧m≤c∧(mx≠none→m=h.toNat):=by
  rcases hr with⟨rfl,_⟩|⟨y,m,rfl,XO,hm,rfl,_⟩
  ·refine⟨c,?_,by omega,Nat.le_refl _,fun h=>(h rfl).elim⟩
   rcases Xf with⟨rfl,rfl⟩|⟨y,k,rfl,hv⟩
   ·rcases um with⟨rfl,rfl⟩|⟨y0,k0,rfl,pL⟩
    ·simp[Instr.sliceBounds]
    ·have IH:=run_sliceBound (P:=Γ.P) w pL (y:=els.length) h0 (by omega) .sliceB
     simp[Instr.sliceBounds,IH]
   ·have hs:=run_sliceBound (P:=Γ.P) w hv (y:=c) (by omega) (by omega) .sliceAcap
    rcases um with⟨rfl,rfl⟩|⟨y0,k0,rfl,pL⟩
    ·simp[Instr.sliceBounds,hs]
    ·have IH:=run_sliceBound (P:=Γ.P) w pL (y:=h.toNat) h0 (by omega) .sliceB
     simp[Instr.sliceBounds,hs,IH]
  ·obtain⟨k2,Xd⟩:=fQ hrel hm
   refine⟨h.toNat,?_,Nat.le_refl _,by omega,fun _=>rfl⟩
   rcases Xf with⟨rfl,_⟩|⟨y',k,rfl,hv⟩
   ·simp at XO
   ·have QF:=run_sliceBound (P:=Γ.P) w Xd (y:=c) (by omega) (by omega) .slice3Acap
    have hs:=run_sliceBound (P:=Γ.P) w hv (y:=h.toNat) (by omega) (by omega) .slice3B
    rcases um with⟨rfl,rfl⟩|⟨y0,k0,rfl,pL⟩
    ·simp[Instr.sliceBounds,hs,QF]
    ·have IH:=run_sliceBound (P:=Γ.P) w pL (y:=h.toNat) h0 (by omega) .slice3C
     simp[Instr.sliceBounds,hs,QF,IH]
 obtain⟨m,eV,hm1,xU,hm3⟩:=hb
 have hex:(execOp a.eval o).run Γ.P w=.ok (.value (.slice (if m=l.toNat then ad else ad.map (·.add (l.toNat*d'.size))) (h.toNat-l.toNat) (m-l.toNat))) w:=by
  simp only[execOp,ho,Instr.sliceAt,Sem.run_bind,run_underlying hu,Result.andThen_ok,Instr.slice,qY,eV,kH,Sem.run_pure]
 refine⟨_,hex,?_⟩
 have Jc:(els=[]∧c=0)∨∃b o,ad=some ⟨b,o,none⟩:=by
  have mm:=hx
  rw[qY] at mm
  generalize hv:Value.slice ad els.length c=v at mm
  cases mm with
  |ki a=>simp at hv;exact .inl ⟨rfl,hv.2⟩
  |sl size els b o c f hc hm hl ay hr=>simp at hv;exact .inr ⟨b,o,hv.1⟩
 rw[qY] at hx
 rcases Jc with⟨rfl,rfl⟩|⟨b,o',rfl⟩
 ·have e1:l.toNat=0:=by simp at h2;omega
  have e2:h.toNat=0:=by simp at h2;omega
  have e3:m=0:=by omega
  rw[e1,e2,e3]
  simp only[if_true,Nat.sub_self]
  rcases hr with⟨_,rfl⟩|⟨_,_,_,_,_,_,rfl⟩
  ·simpa using aY.ki ad
  ·simpa using aY.iB ad
 ·have qY:=qY
  obtain⟨q1,q2⟩:=hx.Nv bC rfl (l:=l.toNat) (h:=h.toNat) (m:=m) (by omega) (by omega) hm1 xU
  have AG:(if m=l.toNat then some (⟨b,o',none⟩:Addr) else(some (⟨b,o',none⟩:Addr)).map (·.add (l.toNat*d'.size)))=some ⟨b,if m=l.toNat then o' else o'+l.toNat*d'.size,none⟩:=by
   split<;>simp[Addr.add_lit]
  rw[AG]
  rcases hr with⟨_,rfl⟩|⟨y,m',XP,_,_,_,rfl⟩
  ·exact q1
  ·have:=hm3 (by rw[XP];simp)
   subst this
   exact q2 rfl
theorem Jd (a b:ByteArray):(a==b)=decide (a=b):=by
 obtain⟨a⟩:=a;obtain⟨b⟩:=b
 show (a==b)=_
 by_cases h:a=b
 ·subst h;simp
 ·have:¬(ByteArray.mk a=ByteArray.mk b):=fun e=>h (by injection e)
  rw[decide_eq_false this];simpa using h
structure G7 {κ:Type} [DecidableEq κ] (td:TypeDesc) (kv:κ→Value) (me:List (κ×Value)→ME):Prop where
 me:∀l,GZ (me l)=l.map fun p=>(kv p.1,p.2)
 same:∀a b,Instr.sameNow td (kv a) (kv b)=some (decide (a=b))
 check:∀(P:Program) (kt:TypeId) (e:Bool) (v:Value) (w:World),P.underlying kt=some td→(Instr.checkKey e 10000 kt v).run P w=.ok () w
 bits:∀a,Instr.sameBits 10000 (kv a) (kv a)=true
theorem x8 {κ:Type} [DecidableEq κ] {td:TypeDesc} {kv:κ→Value} {me:List (κ×Value)→ME} (K:G7 td kv me) {a:κ}:∀(es:List MapEntry) (l:List (κ×Value)) (i:Nat),(es.map fun e=>(e.key,e.val))=l.map (fun p=>(kv p.1,p.2))→
  (∃r,Instr.findNow td (kv a) es i=some r∧r.map (·.2)=aC l a)∧
   (aC l a=none→Instr.findNow td (kv a) es i=some none):=by
 intro es
 induction es with
 |nil=>
  intro l i h
  cases l with
  |nil=>exact⟨⟨none,rfl,rfl⟩,fun _=>rfl⟩
  |cons p l=>simp at h
 |cons e es ih=>
  intro l i h
  cases l with
  |nil=>simp at h
  |cons p l=>
   obtain⟨key,v⟩:=p
   simp only[List.map_cons,List.cons.injEq,Prod.mk.injEq] at h
   obtain⟨⟨h1,h2⟩,h3⟩:=h
   obtain⟨⟨r,g1,g2⟩,g3⟩:=ih l (i+1) h3
   simp only[Instr.findNow,h1,K.same,aC]
   by_cases RH:a=key
   ·subst RH
    simp[h2]
   ·simp only[if_neg RH,decide_eq_false RH]
    exact⟨⟨r,g1,g2⟩,g3⟩
theorem pO {kt:TypeId} {k:IntKind} (hk:P.underlying kt=some (.int k)) (e:Bool) (n:Nat) (v:Value) (w:World):(Instr.checkKey e (n+1) kt v).run P w=.ok () w:=by
 unfold Instr.checkKey
 simp only[Sem.run_bind,run_underlying hk,Result.andThen]
 cases v<;>rfl
theorem TM (k:IntKind):G7 (.int k) (fun a:Int=>.int .i64 a) .i:=
 ⟨fun _=>rfl,fun a b=>by simp[Instr.sameNow];rfl,fun P kt e v w hk=>pO hk e 9999 v w,fun a=>by simp[Instr.sameBits]⟩
theorem TN:G7 .string (fun a:ByteArray=>.string a) .s:=
 ⟨fun _=>rfl,fun a b=>by simp only[Instr.sameNow,Jd],fun P kt e v w hk=>by
  unfold Instr.checkKey
  simp only[Sem.run_bind,run_underlying hk,Result.andThen]
  cases v<;>rfl,fun a=>by simp[Instr.sameBits,Jd]⟩
theorem rV {κ:Type} [DecidableEq κ] {td:TypeDesc} {kv:κ→Value} {me:List (κ×Value)→ME} (K:G7 td kv me) {tab:Nat→Option TD} (ah:aQ Γ.P tab) {o:Oper} {T kt et:Nat} {m key:Operand} {ok:Bool} (ho:o.op=.lookup T m key ok) {d dk de:TD} (hd:tab T=some d) (hk:d.kind=.mI kt et) (mo:tab kt=some dk) (tA:∀u,dk.kind.fits Γ.P u→u=td) (AH:tab et=some de)
  {es:List (κ×Value)} (hm:(s.ev m).wS s.hp=some (me es)) {a:κ} (XQ:s.ev key=.ae (kv a)):eI Γ o s (gK es de.zero a ok):=by
 refine aN fun act w η hr=>?_
 have hu:Γ.P.underlying T=some (.map kt et):=by
  obtain⟨u,q2,q3⟩:=(ah T d hd).jy
  rw[hk] at q3
  rw[q2];exact congrArg some q3
 have Nw:Γ.P.underlying kt=some td:=by
  obtain⟨u,q2,q3⟩:=(ah kt dk mo).jy
  rw[q2];exact congrArg some (tA u q3)
 have FD:=hr.ev key
 rw[XQ] at FD
 have RI:=FD.al
 have Nx:=hr.ev m
 have RC:∃b en c,act.eval m=.map (some b)∧w.heap[b]?=some (.map en c)∧kl en=GZ (me es):=by
  generalize s.ev m=x at hm Nx
  cases x with
  |ea l=>
   simp only[AV.wS,Option.some.injEq] at hm
   subst hm
   generalize act.eval m=v at Nx
   cases Nx with
   |ea b en c h1 h2 _ hl=>exact⟨b,en,c,rfl,h1,hl⟩
  |mp r=>
   simp only[AV.wS] at hm
   split at hm
   ·rename_i Xg Ny
    obtain rfl:=Option.some.inj hm
    generalize act.eval m=v at Nx
    cases Nx with
    |mp _ b dE=>
     obtain⟨b',en,c,e1,e2,e3⟩:=hr.heap.obj r _ _ Ny dE
     simp only[Value.map.injEq,Option.some.injEq] at e1
     subst e1
     exact⟨b,en,c,rfl,e2,e3⟩
   ·cases hm
  |_=>simp[AV.wS] at hm
 obtain⟨b,en,c,IJ,iC,uo⟩:=RC
 obtain⟨⟨r,g1,g2⟩,g3⟩:=x8 K (a:=a) en.toList es 0 (uo.trans (K.me es))
 have bR:(getObj b).run Γ.P w=.ok (.map en c) w:=by simp[getObj,Sem.run,iC]
 have mN:(Instr.findKey kt (kv a) en.toList).run Γ.P w=.ok r w:=by
  simp only[Instr.findKey,Sem.run_bind,run_underlying Nw,Result.andThen_ok,g1,Sem.run_pure]
 have hz:=(ah et de AH).fM w
 cases r with
 |none=>
  have hg:aC es a=none:=g2.symm
  cases ok with
  |true=>
   refine⟨.tuple #[de.zero,.bool false],?_,?_⟩
   ·simp only[execOp,ho,IJ,RI,Instr.lookup,Sem.run_bind,run_underlying hu,Result.andThen_ok,bR,Sem.run_pure,K.check _ _ _ _ _ Nw,mN,hz,if_true]
   ·simp only[gK,hg,if_true,Option.getD_none,Option.isSome_none]
    exact .aX _ _ rfl fun j x v hx hv=>by
     match j with
     |0=>simp at hx hv;subst hx;subst hv;exact .ae _
     |1=>simp at hx hv;subst hx;subst hv;exact .ae _
     |j+2=>simp at hx
  |false=>
   refine⟨de.zero,?_,?_⟩
   ·simp only[execOp,ho,IJ,RI,Instr.lookup,Sem.run_bind,run_underlying hu,Result.andThen_ok,bR,Sem.run_pure,K.check _ _ _ _ _ Nw,mN,hz,Bool.false_eq_true,if_false]
   ·simp only[gK,hg,Bool.false_eq_true,if_false,Option.getD_none]
    exact .ae _
 |some q=>
  obtain⟨i,v⟩:=q
  have hg:aC es a=some v:=g2.symm
  cases ok with
  |true=>
   refine⟨.tuple #[v,.bool true],?_,?_⟩
   ·simp only[execOp,ho,IJ,RI,Instr.lookup,Sem.run_bind,run_underlying hu,Result.andThen_ok,bR,Sem.run_pure,K.check _ _ _ _ _ Nw,mN,if_true]
   ·simp only[gK,hg,if_true,Option.getD_some,Option.isSome_some]
    exact .aX _ _ rfl fun j x v hx hv=>by
     match j with
     |0=>simp at hx hv;subst hx;subst hv;exact .ae _
     |1=>simp at hx hv;subst hx;subst hv;exact .ae _
     |j+2=>simp at hx
  |false=>
   refine⟨v,?_,?_⟩
   ·simp only[execOp,ho,IJ,RI,Instr.lookup,Sem.run_bind,run_underlying hu,Result.andThen_ok,bR,Sem.run_pure,K.check _ _ _ _ _ Nw,mN,Bool.false_eq_true,if_false]
   ·simp only[gK,hg,Bool.false_eq_true,if_false,Option.getD_some]
    exact .ae _
end
section
variable {G:Type} {Γ:Env G} {s:AS G} {a:Act} {w w':World} {η:List Value} {hp:List af} {F:Nat→Nat→Prop} {P:Program}
theorem we {tab:Nat→Option TD} (ah:aQ Γ.P tab) {o:Oper} {T:Nat} {x:Operand} {lo hi:Option Operand} (ho:o.op=.slice T x lo hi none) {d:TD} (hd:tab T=some d) (hk:d.kind=.str) {b:ByteArray} (hx:s.ev x=.ae (.string b))
  {l h:Int} (hl:bx s.ev 0 lo=some l) (hh:bx s.ev b.size hi=some h) (h0:0≤l) (h1:l≤h) (h2:h≤b.size):eI Γ o s (.ae (.string (b.extract l.toNat h.toNat))):=by
 refine aN fun a w η hrel=>⟨_,?_,.ae _⟩
 have dC:=hrel.ev x
 rw[hx] at dC
 have qY:=dC.al
 have hu:Γ.P.underlying T=some .string:=by
  obtain⟨u,q2,q3⟩:=(ah T d hd).jy
  rw[hk] at q3
  rw[q2];exact congrArg some q3
 have um:lo=none∧l=0∨∃y k,lo=some y∧a.eval y=.int k l:=by
  cases lo with
  |none=>simp[bx] at hl;exact .inl ⟨rfl,hl.symm⟩
  |some y=>obtain⟨k,hk⟩:=fQ hrel hl;exact .inr ⟨y,k,rfl,hk⟩
 have Xf:hi=none∧h=b.size∨∃y k,hi=some y∧a.eval y=.int k h:=by
  cases hi with
  |none=>simp[bx] at hh;exact .inl ⟨rfl,hh.symm⟩
  |some y=>obtain⟨k,hk⟩:=fQ hrel hh;exact .inr ⟨y,k,rfl,hk⟩
 rcases Xf with⟨rfl,rfl⟩|⟨y,k,rfl,hv⟩
 ·rcases um with⟨rfl,rfl⟩|⟨y0,k0,rfl,pL⟩
  ·simp[execOp,ho,Instr.sliceAt,run_underlying hu,Instr.slice,qY,Instr.sliceBounds]
  ·have IH:=run_sliceBound (P:=Γ.P) w pL (y:=b.size) h0 (by omega) .sliceB
   simp[execOp,ho,Instr.sliceAt,run_underlying hu,Instr.slice,qY,Instr.sliceBounds,IH]
 ·have hs:=run_sliceBound (P:=Γ.P) w hv (y:=b.size) (by omega) (by omega) .sliceAlen
  rcases um with⟨rfl,rfl⟩|⟨y0,k0,rfl,pL⟩
  ·simp[execOp,ho,Instr.sliceAt,run_underlying hu,Instr.slice,qY,Instr.sliceBounds,hs]
  ·have IH:=run_sliceBound (P:=Γ.P) w pL (y:=h.toNat) h0 (by omega) .sliceB
   simp[execOp,ho,Instr.sliceAt,run_underlying hu,Instr.slice,qY,Instr.sliceBounds,hs,IH]
theorem oU (ao:Γ.Ok) {tab:Nat→Option TD} (ah:aQ Γ.P tab) {o:Oper} {c:Prop} {r:AV} (h:bk tab s.hp s.ev o.op=some (c,r)) (hc:c):eI Γ o s r:=by
 generalize ho:o.op=op at h
 cases op with
 |move x=>
  simp only[bk,Option.some.injEq,Prod.mk.injEq] at h
  obtain⟨_,rfl⟩:=h
  exact aN fun a w η hr=>⟨a.eval x,by simp[execOp,ho],hr.ev x⟩
 |assign x=>
  simp only[bk,Option.some.injEq,Prod.mk.injEq] at h
  obtain⟨_,rfl⟩:=h
  exact aN fun a w η hr=>⟨a.eval x,by simp[execOp,ho],hr.ev x⟩
 |nilCheck x=>
  simp only[bk] at h
  split at h
  ·rename_i r0 o0 hx
   simp only[Option.some.injEq,Prod.mk.injEq] at h
   obtain⟨_,rfl⟩:=h
   refine aN fun a w η hr=>?_
   have hp:=hr.ev x
   rw[hx] at hp
   obtain⟨b,hb⟩:∃b,a.eval x=.pointer (some b):=by
    generalize a.eval x=v at hp
    cases hp
    exact⟨_,rfl⟩
   exact⟨a.eval x,by simp[execOp,ho,hb],hp⟩
  ·rename_i r0 o0 hx
   simp only[Option.some.injEq,Prod.mk.injEq] at h
   obtain⟨_,rfl⟩:=h
   refine aN fun a w η hr=>?_
   have hp:=hr.ev x
   rw[hx] at hp
   obtain⟨b,hb⟩:∃b,a.eval x=.pointer (some b):=by
    generalize a.eval x=v at hp
    cases hp
    exact⟨_,rfl⟩
   exact⟨a.eval x,by simp[execOp,ho,hb],hp⟩
  ·cases h
 |pick cc x y=>
  simp only[bk] at h
  split at h
  ·rename_i t ht
   simp only[Option.some.injEq,Prod.mk.injEq] at h
   obtain⟨_,rfl⟩:=h
   exact G4 ho ht
  ·cases h
 |fieldAddr T x f=>
  simp only[bk] at h
  split at h
  ·rename_i p hp
   split at h
   ·cases h
   ·rename_i h0
    split at h
    ·rename_i n off he
     simp only[Option.some.injEq,Prod.mk.injEq] at h
     exact mL ah ho hp h0 (.inl ⟨n,off,he,h.2.symm⟩)
    ·rename_i e off he
     simp only[Option.some.injEq,Prod.mk.injEq] at h
     exact mL ah ho hp h0 (.inr ⟨e,off,he,h.2.symm⟩)
    ·rename_i r0 m0 i0 z0 he
     split at h
     ·rename_i hz
      simp only[Option.some.injEq,Prod.mk.injEq] at h
      obtain⟨_,rfl⟩:=h
      exact sW ah ho hp h0 he hz
     ·cases h
    ·cases h
  ·cases h
 |load T x=>
  simp only[bk] at h
  split at h
  ·rename_i d hd
   split at h
   ·rename_i n off he
    split at h
    ·rename_i cs fq
     cases hl:eC d.kind.agg d.size cs off with
     |none=>rw[hl] at h;cases h
     |some v=>
      rw[hl] at h
      simp only[Option.map_some,Option.some.injEq,Prod.mk.injEq] at h
      obtain⟨_,rfl⟩:=h
      exact wT ah ho hd (.inl ⟨n,off,cs,he,fq,hl⟩)
    ·cases h
   ·rename_i e off he
    cases hl:ua d.kind.agg d.size e off with
    |none=>rw[hl] at h;cases h
    |some v=>
     rw[hl] at h
     simp only[Option.map_some,Option.some.injEq,Prod.mk.injEq] at h
     obtain⟨_,rfl⟩:=h
     exact wT ah ho hd (.inr ⟨e,off,he,hl⟩)
   ·rename_i r0 m0 i0 z0 he
    split at h
    ·rename_i e0 z' els ox
     split at h
     ·rename_i oy
      obtain⟨rfl,Ay⟩:=oy
      simp only[Option.some.injEq,Prod.mk.injEq] at h
      obtain⟨rfl,rfl⟩:=h
      have hg:els.getD i0 .top=els[i0]'hc.2.1:=by simp[List.getD,hc.2.1]
      rw[hg] at hc ⊢
      exact DM ah ho hd he ox hc.1 Ay hc.2.1 hc.2.2
     ·cases h
    ·cases h
   ·cases h
  ·cases h
 |indexAddr T x i=>
  simp only[bk] at h
  split at h
  ·rename_i d hd
   split at h
   ·rename_i e hk
    split at h
    ·rename_i d' els k n cO cy hi
     simp only[Option.some.injEq,Prod.mk.injEq] at h
     obtain⟨rfl,rfl⟩:=h
     exact ue ah ho hd hk cO cy hi hc.1 hc.2.1 hc.2.2
    ·rename_i d' k n cO cy hi
     split at h
     ·rename_i r m e' size k' hm
      split at h
      ·rename_i oy
       simp only[Option.some.injEq,Prod.mk.injEq] at h
       obtain⟨rfl,rfl⟩:=h
       obtain⟨hx,els,ox,rfl⟩:=nT hm
       obtain⟨rfl,rfl⟩:=oy
       exact sZ ah ho hd hk cO hx ox hc.2.2 hi hc.1 hc.2.1
      ·cases h
     ·cases h
    ·cases h
   ·rename_i m hk
    split at h
    ·rename_i r k n hx hi
     simp only[Option.some.injEq,Prod.mk.injEq] at h
     obtain⟨rfl,rfl⟩:=h
     exact sX ah ho hd hk hx hi hc.1 hc.2
    ·rename_i e k n hx hi
     simp only[Option.some.injEq,Prod.mk.injEq] at h
     obtain⟨rfl,rfl⟩:=h
     exact sY ah ho hd hk hx hi hc.1 hc.2
    ·cases h
   ·cases h
  ·cases h
 |binOp op T x y T'=>
  simp only[bk] at h
  split at h
  ·rename_i v hv
   simp only[Option.some.injEq,Prod.mk.injEq] at h
   obtain⟨_,rfl⟩:=h
   exact I6 ah ho hv
  ·exact Az ah ho h hc
 |convert S D x=>
  simp only[bk] at h
  obtain⟨r',h1,h2⟩:=Option.map_eq_some_iff.1 h
  simp only[Prod.mk.injEq] at h2
  rw[←h2.2]
  exact I7 ah ho h1
 |unOp op T x=>
  simp only[bk] at h
  split at h
  ·rename_i b he
   simp only[Option.some.injEq,Prod.mk.injEq] at h
   exact wU ho (.inl ⟨b,rfl,he,h.2.symm⟩)
  ·rename_i k n he
   simp only[Option.some.injEq,Prod.mk.injEq] at h
   exact wU ho (.inr ⟨k,n,rfl,he,h.2.symm⟩)
  ·cases h
 |build T parts=>
  simp only[bk] at h
  split at h
  ·rename_i d hd
   split at h
   ·rename_i fs hk
    cases hl:cB fs (d.zero.cells.toList.map .ae) (parts.toList.map fun p=>(p.1,s.ev p.2)) with
    |none=>rw[hl] at h;cases h
    |some cs=>
     rw[hl] at h
     simp only[Option.map_some,Option.some.injEq,Prod.mk.injEq] at h
     obtain⟨_,rfl⟩:=h
     exact DR ah ho hd hk hl
   ·rename_i n hk
    cases hl:cB (ub n) (d.zero.cells.toList.map .ae) (parts.toList.map fun p=>(p.1,s.ev p.2)) with
    |none=>rw[hl] at h;cases h
    |some cs=>
     rw[hl] at h
     simp only[Option.map_some,Option.some.injEq,Prod.mk.injEq] at h
     obtain⟨_,rfl⟩:=h
     exact AE ah ho hd hk hl
   ·cases h
  ·cases h
 |buildSlice T n parts=>
  simp only[bk] at h
  split at h
  ·rename_i d hd
   split at h
   ·rename_i e hk
    split at h
    ·rename_i d' cO
     split at h
     ·rename_i kE
      simp only[Option.some.injEq,Prod.mk.injEq] at h
      obtain⟨rfl,rfl⟩:=h
      exact s9 ao ah ho hd hk cO kE.1 kE.2.1 kE.2.2.1 kE.2.2.2 hc
     ·cases h
    ·cases h
   ·cases h
  ·cases h
 |field T x f=>
  simp only[bk] at h
  split at h
  ·rename_i p cs hp hx
   split at h
   ·rename_i kE
    cases hl:eC p.2.2 p.2.1 cs p.1 with
    |none=>rw[hl] at h;cases h
    |some v=>
     rw[hl] at h
     simp only[Option.map_some,Option.some.injEq,Prod.mk.injEq] at h
     obtain⟨_,rfl⟩:=h
     exact DQ ah ho hp hx hl fun hf=>by
      rcases kE with h1|h1
      ·rw[h1] at hf;cases hf
      ·exact h1
   ·cases h
  ·cases h
 |lookup T m k ok=>
  simp only[bk] at h
  split at h
  ·rename_i d es a hd hm hk
   split at h
   ·rename_i kt et kI
    split at h
    ·rename_i dk de mo AH
     split at h
     ·rename_i ik tA
      simp only[Option.some.injEq,Prod.mk.injEq] at h
      obtain⟨_,rfl⟩:=h
      exact rV (TM ik) ah ho hd kI mo (fun u hu=>by rw[tA] at hu;exact hu) AH hm hk
     ·cases h
    ·cases h
   ·cases h
  ·rename_i d es a hd hm hk
   split at h
   ·rename_i kt et kI
    split at h
    ·rename_i dk de mo AH
     split at h
     ·rename_i tA
      simp only[Option.some.injEq,Prod.mk.injEq] at h
      obtain⟨_,rfl⟩:=h
      exact rV TN ah ho hd kI mo (fun u hu=>by rw[tA] at hu;exact hu) AH hm hk
     ·cases h
    ·cases h
   ·cases h
  ·cases h
 |index T x i=>
  simp only[bk] at h
  split at h
  ·rename_i d b k n hd hx hi
   split at h
   ·rename_i hk
    simp only[Option.some.injEq,Prod.mk.injEq] at h
    obtain⟨rfl,rfl⟩:=h
    refine aN fun a w η hr=>?_
    have h1:=hr.ev x
    rw[hx] at h1
    have h1:=h1.al
    have h2:=hr.ev i
    rw[hi] at h2
    have h2:=h2.al
    have hu:Γ.P.underlying T=some .string:=by
     obtain⟨u,q2,q3⟩:=(ah T d hd).jy
     rw[hk] at q3
     rw[q2];exact congrArg some q3
    obtain⟨h3,h4⟩:=hc
    have ak:n.toNat<b.size:=by omega
    refine⟨.int .u8 (Ax b n),?_,.ae _⟩
    have e:b[n.toNat]?=some b[n.toNat]:=getElem?_pos b n.toNat ak
    have e2:Ax b n=(b[n.toNat].toNat:Int):=by
     unfold Ax
     have:b.data[n.toNat]?=some b[n.toNat]:=by
      rw[Array.getElem?_eq_getElem (by exact ak)];rfl
     rw[this];rfl
    simp only[execOp,ho,h1,h2,Instr.index,asIntOf,Sem.run_bind,Sem.run_pure,Result.andThen_ok,run_underlying hu,if_pos h3,e,e2]
   ·cases h
  ·cases h
 |extract x i=>
  simp only[bk] at h
  split at h
  ·rename_i vs he
   cases hl:vs[i]? with
   |none=>rw[hl] at h;cases h
   |some v=>
    rw[hl] at h
    simp only[Option.map_some,Option.some.injEq,Prod.mk.injEq] at h
    obtain⟨_,rfl⟩:=h
    exact x5 ho he hl
  ·cases h
 |makeFunc fn first caps=>
  cases fn with
  |func f=>
   simp only[bk] at h
   split at h
   ·rename_i h0
    simp only[Option.some.injEq,Prod.mk.injEq] at h
    obtain⟨_,rfl⟩:=h
    exact wb ho h0
   ·split at h
    ·rename_i h0
     simp only[Option.some.injEq,Prod.mk.injEq] at h
     obtain⟨_,rfl⟩:=h
     exact s8 ho h0
    ·cases h
  |_=>simp[bk] at h
 |slice T x lo hi mx=>
  simp only[bk] at h
  split at h
  ·rename_i d hd
   split at h
   ·rename_i b hk hx
    split at h
    ·rename_i l h' hl hh
     simp only[Option.some.injEq,Prod.mk.injEq] at h
     obtain⟨rfl,rfl⟩:=h
     exact we ah ho hd hk hx hl hh hc.1 hc.2.1 hc.2.2
    ·cases h
   ·rename_i e hk
    split at h
    ·rename_i els d' cy cO
     split at h
     ·rename_i l h' hl hh hm
      simp only[Option.some.injEq,Prod.mk.injEq] at h
      obtain⟨rfl,rfl⟩:=h
      have XP:mx=none:=by cases mx<;>simp_all
      exact uk ah ho hd hk cO cy hl hh hc.1 hc.2.1 hc.2.2.1 hc.2.2.2 (.inl ⟨XP,rfl⟩)
     ·rename_i l h' m hl hh hm
      split at h
      ·rename_i XO
       simp only[Option.some.injEq,Prod.mk.injEq] at h
       obtain⟨rfl,rfl⟩:=h
       cases mx with
       |none=>simp at hm
       |some y=>
        simp only[Option.map_some,Option.some.injEq] at hm
        exact uk ah ho hd hk cO cy hl hh hc.1 hc.2.1 hc.2.2.2.1 hc.2.2.2.2 (.inr ⟨y,m,rfl,XO,hm,hc.2.2.1,rfl⟩)
      ·cases h
     ·cases h
    ·cases h
   ·cases h
  ·cases h
 |call cl=>
  simp only[bk] at h
  split at h
  ·rename_i x hb hl
   split at h
   ·rename_i d hd
    have hT:∃T,cl.argTypes[0]?=some T∧tab T=some d:=by
     cases hT:cl.argTypes[0]? with
     |none=>rw[hT] at hd;cases hd
     |some T=>rw[hT] at hd;exact⟨T,rfl,hd⟩
    obtain⟨T,hT,hd⟩:=hT
    split at h
    ·cases h
    ·rename_i e hk hns
     split at h
     case h_2=>
      split at h
      ·rename_i r0 m0 e0 z0 k0 hm
       simp only[Option.some.injEq,Prod.mk.injEq] at h
       obtain⟨rfl,rfl⟩:=h
       obtain⟨hx,els,ox,rfl⟩:=nT hm
       exact G6 ah ho hb hl hT hd hk hx ox hc
      ·cases h
     rename_i u hu
     simp only[Option.some.injEq,Prod.mk.injEq] at h
     obtain⟨_,rfl⟩:=h
     have h:(q9 s.hp (s.ev x))=some u:=hu
     have um:∃els,(s.ev x).fN s.hp=some els∧u=.ae (.int .i64 els.length):=by
      unfold q9 at h
      split at h
      ·rename_i sb he
       exact(hns sb he).elim
      ·cases cy:(s.ev x).fN s.hp with
       |none=>rw[cy] at h;cases h
       |some els=>
        rw[cy] at h
        exact⟨els,rfl,(Option.some.inj h).symm⟩
     obtain⟨els,h1,h2⟩:=um
     exact AA ah ho hb hl hT hd (.inl ⟨e,els,hk,h1,h2⟩)
    ·rename_i b hk hx
     simp only[Option.some.injEq,Prod.mk.injEq] at h
     exact AA ah ho hb hl hT hd (.inr ⟨b,hk,hx,h.2.symm⟩)
    ·cases h
   ·cases h
  ·rename_i x y hb hl
   split at h
   ·rename_i k m k' n hx hy
    simp only[Option.some.injEq,Prod.mk.injEq] at h
    obtain⟨_,rfl⟩:=h
    exact I9 ho hb hl hx hy
   ·cases h
  ·rename_i x y hb hl
   split at h
   ·rename_i k m k' n hx hy
    simp only[Option.some.injEq,Prod.mk.injEq] at h
    obtain⟨_,rfl⟩:=h
    exact Ja ho hb hl hx hy
   ·cases h
  ·cases h
 |_=>simp[bk] at h
end
section
variable {G:Type} {Γ:Env G} {s:AS G} {a:Act} {w w':World} {η:List Value} {hp:List af} {F:Nat→Nat→Prop} {P:Program}
def eW (Γ:Env G) (o:Oper) (s:AS G) (r:AV) (hp':List af):Prop:=
 ∀a w η,Rel Γ s a w η→∃v w' aH,((execOp a.eval o).run Γ.P w=.ok (.value v) w'∨(execOp a.eval o).run Γ.P w=.ok .skip w'∧v=undef)∧
  Rel Γ { s with hp:=hp' } a w' aH∧aY w' (aW Γ w' aH hp') aH hp' r v
def bF (d:TD) (n:Nat) (els av:List AV):Prop:=
 (∀x:AV,x∈els→x.cells.length=d.size)∧(∀x:AV,x∈av→x.cells.length=d.size)∧n≤maxLen∧n*d.bytes≤140737488355328
def bB {κ:Type} [DecidableEq κ]:List (κ×Value)→κ→Value→List (κ×Value)
 | [],a,v=>[(a,v)]
 |(k,u)::r,a,v=>if a=k then(k,v)::r else(k,u)::bB r a v
def tB:Operand→Operand→Bool
 | .tmp a,.tmp b=>Nat.beq a b
 |_,_=>false
theorem DT {l c:Operand} (h:tB l c=true):l=c:=by
 unfold tB at h
 split at h
 ·rw[Nat.eq_of_beq_eq_true h]
 ·cases h
def AI (d:TD):Option Value:=
 match Nat.beq d.size 1,d.zero.cells.toList with
 |true,[z]=>if z.oneCell'=true then some z else none
 |_,_=>none
theorem Je {d:TD} {z:Value} (h:AI d=some z):d.size=1∧d.zero.cells=#[z]∧z.oneCell'=true:=by
 unfold AI at h
 split at h
 ·rename_i z' h1 h2
  split at h
  ·rename_i h3
   obtain rfl:=Option.some.inj h
   exact⟨Nat.eq_of_beq_eq_true h1,by apply Array.ext';simpa using h2,h3⟩
  ·cases h
 ·cases h
def cT (tab:Nat→Option TD) (hp:List af) (ρ:Operand→AV):Op→Option (Prop×AV×List af)
 | .alloc T=>(match tab T with
  |some d=>some (True,.ptr hp.length 0,hp++[.box (d.zero.cells.toList.map .ae)])
  |none=>none)
 | .box _ x=>if(ρ x).kC=true then some (True,.ptr hp.length 0,hp++[.box (ρ x).cells]) else none
 | .store T p x=>(match tab T,ρ p with
  |some d,.ptr r o=>(match hp[r]? with
   |some (.box cs)=>if(ρ x).kC=true then some ((ρ x).cells.length=d.size∧o+d.size≤cs.length,.top,hp.set r (.box (setCells cs o (ρ x).cells))) else none
   |_=>none)
  |some d,.eH r m i z=>(match hp[r]? with
   |some (.aI e size els)=>if((ρ x).ee hp).kC=true∧size=z then(if d.size=z then some (((ρ x).ee hp).cells.length=d.size∧m=els.length∧i<els.length,.top,hp.set r (.aI e size (els.set i ((ρ x).ee hp))))
     else some (((ρ x).ee hp).cells.length=d.size∧d.size≤z∧m=els.length∧i<els.length,.top,hp.set r (.aI e size (els.set i (.agg (setCells (els.getD i .top).cells 0 ((ρ x).ee hp).cells)))))) else none
   |_=>none)
  |_,_=>none)
 | .makeSlice T l c=>(match tab T with
  |some d=>(match d.kind with
   | .iW e=>(match tB l c with
    |true=>(match tab e,ρ c with
     |some d',.ae (.int _ n)=>(match AI d' with
      |some z=>some (0≤n∧n≤9223372036854775807∧(d'.bytes:Int)*n≤281474976710656,.own hp.length (List.replicate n.toNat (AV.ae z)).length,hp++[.aI e 1 (List.replicate n.toNat (.ae z))])
      |none=>none)
     |_,_=>none)
    |false=>(match tab e,ρ l,ρ c with
     |some d',.ae (.int _ 0),.ae (.int _ n)=>some (0≤n∧n≤9223372036854775807∧(d'.bytes:Int)*n≤281474976710656∧0<d'.size,.own hp.length 0,hp++[.row e d'.size []])
     |_,_,_=>none))
   |_=>none)
  |none=>none)
 | .makeMap T none=>(match tab T with
  |some d=>(match d.kind with
   | .mI kt _=>(match tab kt with
    |some dk=>(match dk.kind with
     | .str=>some (True,.mp hp.length,hp++[.aB (.s [])])
     |_=>some (True,.mp hp.length,hp++[.aB (.i [])]))
    |none=>none)
   |_=>none)
  |none=>none)
 | .mapUpdate T m k x=>(match tab T,ρ m,ρ k,ρ x with
  |some d,.mp r,.ae (.int .i64 a),.ae v=>(match d.kind,hp[r]? with
   | .mI kt _,some (.aB (.i es))=>(match tab kt with
    |some dk=>(match dk.kind with
     | .int _=>some (True,.top,hp.set r (.aB (.i (bB es a v))))
     |_=>none)
    |none=>none)
   |_,_=>none)
  |some d,.mp r,.ae (.string a),.ae v=>(match d.kind,hp[r]? with
   | .mI kt _,some (.aB (.s es))=>(match tab kt with
    |some dk=>(match dk.kind with
     | .str=>some (True,.top,hp.set r (.aB (.s (bB es a v))))
     |_=>none)
    |none=>none)
   |_,_=>none)
  |_,_,_,_=>none)
 | .call c=>(match c.callee,c.args.toList,c.argTypes.toList with
  | .builtin .append,[b,x],[T,T']=>if T=T' then(match tab T with
   |some d=>(match d.kind with
    | .iW e=>(match tab e,(ρ x).fN hp with
     |some d',some av=>(match ρ b with
      | .ae (.slice none 0 0)=>some (0<d'.size∧bF d' av.length [] av,.own hp.length av.length,hp++[.row e d'.size av])
      | .clip els=>some (0<d'.size∧(av=[]→els=[])∧bF d' (els.length+av.length) els av,.own hp.length (els.length+av.length),hp++[.row e d'.size (els++av)])
      | .own r n=>(match hp[r]? with
       |some (.row e' size els)=>if e'=e∧size=d'.size∧n=els.length then some (bF d' (els.length+av.length) [] av,.own r (els.length+av.length),hp.set r (.row e size (els++av))) else none
       |some (.aI e' size els)=>if e'=e∧size=d'.size∧n=els.length then some (bF d' (els.length+av.length) [] av,.own r (els.length+av.length),hp.set r (.aI e size (els++av))) else none
       |_=>none)
      |_=>none)
     |_,_=>none)
    |_=>none)
   |none=>none) else none
  |_,_,_=>none)
 |_=>none
theorem Jf (ao:Γ.Ok) {o:Oper} {T:Nat} {x:Operand} (ho:o.op=.box T x) (hs:(s.ev x).kC=true):eW Γ o s (.ptr s.hp.length 0) (s.hp++[.box (s.ev x).cells]):=by
 intro a w η hr
 have AD:=(hr.ev x).AB hs
 have jz:=bu.alloc w (.cells (a.eval x).cells T)
 have he:=pF (Γ:=Γ) (o:=.box (s.ev x).cells) (v:=.pointer (some ⟨w.heap.size,0,none⟩)) hr.heap.len jz (fun b hb=>by simp only[bU,Option.some.injEq] at hb;omega)
 refine⟨.pointer (some ⟨w.heap.size,0,none⟩),_,η++[.pointer (some ⟨w.heap.size,0,none⟩)],.inl (by simp[execOp,ho,Instr.box,newVar,newRow];rfl),?_,?_⟩
 ·exact hr.add ao jz (fun b hb=>by simp only[bU,Option.some.injEq] at hb;omega) ⟨w.heap.size,(a.eval x).cells,T,rfl,heap_alloc_new w _,by simpa using AD.1,fun j y u hy hu=>by
   have:=AD.2 j y u hy (by simpa using hu)
   exact⟨this.1.ext he,this.2⟩⟩
 ·exact .ptr _ 0 w.heap.size (by rw[←hr.heap.len];simp)
theorem DU (ao:Γ.Ok) {tab:Nat→Option TD} (ah:aQ Γ.P tab) {o:Oper} {T:Nat} (ho:o.op=.alloc T) {d:TD} (hd:tab T=some d):eW Γ o s (.ptr s.hp.length 0) (s.hp++[.box (d.zero.cells.toList.map .ae)]):=by
 intro a w η hr
 have fO:=ah T d hd
 have jz:=bu.alloc w (.cells d.zero.cells T)
 refine⟨.pointer (some ⟨w.heap.size,0,none⟩),_,η++[.pointer (some ⟨w.heap.size,0,none⟩)],.inl (by simp[execOp,ho,Instr.alloc,fO.fM,newVar,newRow];rfl),?_,?_⟩
 ·refine hr.add ao jz (fun b hb=>by simp only[bU,Option.some.injEq] at hb;omega) ⟨w.heap.size,d.zero.cells,T,rfl,heap_alloc_new w _,by simp,fun j y u hy hu=>?_⟩
  exact(fO.x7 (w:=_) (F:=_) (η:=_) (hp:=_)).2 j y u hy (by simpa using hu)
 ·exact .ptr _ 0 w.heap.size (by rw[←hr.heap.len];simp)
theorem AJ (ao:Γ.Ok) {b r:Nat}:∀(us:List Value) (xs:List AV) (k off:Nat) (cs:List AV) (s:AS G) (w:World),Rel Γ s a w η→s.hp[r]?=some (.box cs)→η[r]?=some (.pointer (some ⟨b,0,none⟩))→
  oT w (aW Γ w η s.hp) η s.hp xs us→off+k+xs.length≤cs.length→
  ∃w',(storeCells ⟨b,off,none⟩ us k).run Γ.P w=.ok () w'∧Rel Γ { s with hp:=s.hp.set r (.box (setCells cs (off+k) xs)) } a w' η:=by
 intro us
 induction us with
 |nil=>
  intro xs k off cs s w hr hb dE AD hle
  have:xs=[]:=List.eq_nil_of_length_eq_zero (by have:=AD.1;simpa using this.symm)
  subst this
  refine⟨w,rfl,?_⟩
  have:s.hp.set r (.box (setCells cs (off+k) []))=s.hp:=by
   apply List.ext_getElem?
   intro i
   by_cases hi:r=i
   ·subst hi;rw[aj hb,hb];rfl
   ·rw[getElem?_set_ne hi]
  rw[this];exact hr
 |cons u us ih=>
  intro xs k off cs s w hr hb dE AD hle
  cases xs with
  |nil=>have:=AD.1;simp at this
  |cons x xs=>
   have h0:=AD.2 0 x u rfl rfl
   simp only[List.length_cons] at hle
   obtain⟨h1,h2,u',h3⟩:=hr.write ao (off:=off+k) hb dE (by omega) h0.2 h0.1
   have bZ:oT (w.setCell ⟨b,off+k,none⟩ u) (aW Γ (w.setCell ⟨b,off+k,none⟩ u) η (s.hp.set r (.box (cs.set (off+k) x)))) η (s.hp.set r (.box (cs.set (off+k) x))) xs us:=by
    refine⟨by simpa using AD.1,fun j y z hy hz=>?_⟩
    have h4:=AD.2 (j+1) y z (by simpa using hy) (by simpa using hz)
    refine⟨?_,h4.2⟩
    refine h4.1.ext ?_
    refine⟨fun b' o v hf hc=>?_,fun b' es c hf hc=>?_,fun b' o hf=>?_,fun _ _ h=>h,fun _ _ h=>h,fun r' n v ho=>?_⟩
    ·have bh:b'≠b:=by
      intro e
      subst e
      obtain⟨o1,q1,q2⟩:=(aR b' o).1 hf.2.2.2 r _ dE rfl
      rw[hb] at q1
      obtain rfl:=Option.some.inj q1
      exact q2
     rw[World.cell?_of_block (Go.heap_setCell_other w _ b' u (by simpa using bh))]
     exact hc
    ·have bh:b'≠b:=by
      intro e
      subst e
      obtain⟨o1,q1,q2⟩:=(aR b' 0).1 hf.2.2.2 r _ dE rfl
      rw[hb] at q1
      obtain rfl:=Option.some.inj q1
      exact q2
     rw[Go.heap_setCell_other w _ b' u (by simpa using bh)]
     exact hc
    ·refine⟨hf.1,by simpa using hf.2.1,hf.2.2.1,(aR b' o).2 fun r' v hv mO=>?_⟩
     obtain⟨o1,q1,q2⟩:=(aR b' o).1 hf.2.2.2 r' v hv mO
     by_cases G8:r=r'
     ·subst G8
      rw[hb] at q1
      obtain rfl:=Option.some.inj q1
      exact q2.elim
     ·exact⟨o1,by rw[getElem?_set_ne G8];exact q1,q2⟩
    ·unfold aT at ho ⊢
     by_cases G8:r=r'
     ·subst G8;rw[hb] at ho;exact ho.elim
     ·rw[getElem?_set_ne G8];exact ho
   obtain⟨w',e1,e2⟩:=ih xs (k+1) off (cs.set (off+k) x) { s with hp:=s.hp.set r (.box (cs.set (off+k) x)) } (w.setCell ⟨b,off+k,none⟩ u) h1 (aj hb) dE bZ (by simp;omega)
   refine⟨w',?_,?_⟩
   ·simp only[storeCells,Sem.run_bind,Addr.add_lit]
    rw[run_store _ _ _ _ _ h0.2,h3]
    simp only[h2,Bool.false_eq_true,if_false,Result.andThen_ok]
    exact e1
   ·have:(s.hp.set r (.box (cs.set (off+k) x))).set r (.box (setCells (cs.set (off+k) x) (off+(k+1)) xs))=s.hp.set r (.box (setCells cs (off+k) (x::xs))):=by
     rw[List.set_set];rfl
    simp only[this] at e2
    exact e2
theorem DV (ao:Γ.Ok) {tab:Nat→Option TD} (ah:aQ Γ.P tab) {o:Oper} {T r off:Nat} {p x:Operand} (ho:o.op=.store T p x) {d:TD} (hd:tab T=some d) (hp:s.ev p=.ptr r off) {cs:List AV} (hb:s.hp[r]?=some (.box cs))
  (hs:(s.ev x).kC=true) (hl:(s.ev x).cells.length=d.size) (hle:off+d.size≤cs.length):eW Γ o s .top (s.hp.set r (.box (setCells cs off (s.ev x).cells))):=by
 intro a w η hr
 have oz:=hr.ev p
 rw[hp] at oz
 have dC:=(hr.ev x).AB hs
 generalize hv:a.eval p=v at oz
 cases oz with
 |ptr _ _ b dE=>
  obtain⟨w',e1,e2⟩:=AJ ao (a.eval x).cells.toList (s.ev x).cells 0 off cs s w hr hb dE dC (by omega)
  refine⟨undef,w',η,.inr ⟨?_,rfl⟩,by simpa using e2,.top _⟩
  have bC:(a.eval x).cells.size=d.size:=by rw[←hl,←dC.1];simp
  simp only[execOp,ho,hv,Instr.storeAt,Instr.sureAddr,Sem.run_bind,Sem.run_pure,Result.andThen_ok,storeVar,(ah T d hd).run_sizeOf,bC,ne_eq,not_true_eq_false,if_false,e1]
theorem wV {b off:Nat} {T:TypeId}:∀(us:List Value) (k:Nat) (cs:Array Value) (w:World),w.heap[b]?=some (.cells cs T (0,0))→off+k+us.length≤cs.size→(∀u∈us,u.oneCell'=true)→
  ∃w' cs',(storeCells ⟨b,off,none⟩ us k).run P w=.ok () w'∧w'.heap[b]?=some (.cells cs' T (0,0))∧cs'.toList=eD cs.toList (off+k) us∧bo (fun x=>x=b) w w'
 | [],k,cs,w,hb,_,_=>⟨w,cs,rfl,hb,rfl,bo.refl _ _⟩
 |u::us,k,cs,w,hb,hle,h1=>by
  simp only[List.length_cons] at hle
  have ou:(w.setCell ⟨b,off+k,none⟩ u).heap[b]?=some (.cells (cs.setIfInBounds (off+k) u) T (0,0)):=Go.heap_setCell_same w b (off+k) cs T u hb
  obtain⟨w',cs',e1,e2,e3,e4⟩:=wV (off:=off) us (k+1) _ _ ou (by simp;omega) fun v hv=>h1 v (List.mem_cons_of_mem _ hv)
  refine⟨w',cs',?_,e2,?_,?_⟩
  ·have hc:w.cell? ⟨b,off+k,none⟩=some (cs[off+k]'(by omega)):=by
    rw[cell_of_row w b (off+k) cs T (0,0) hb];simp
   have hf:=frozen_of_row w b (off+k) cs T hb
   simp only[storeCells,Sem.run_bind,Addr.add_lit]
   rw[run_store _ _ _ _ _ (h1 u List.mem_cons_self),hc]
   simp only[hf,Bool.false_eq_true,if_false,Result.andThen_ok]
   exact e1
  ·rw[e3];simp[eD,Nat.add_assoc]
  ·exact(show bo (fun x=>x=b) w (w.setCell ⟨b,off+k,none⟩ u) from⟨rfl,rfl,rfl,by simp[World.setCell],fun i _ hi=>Go.heap_setCell_other w _ i u hi⟩).trans e4 fun _ _ h=>h
theorem rW (ao:Γ.Ok) {tab:Nat→Option TD} (ah:aQ Γ.P tab) {o:Oper} {T r m i z e:Nat} {p x:Operand} (ho:o.op=.store T p x) {d:TD} (hd:tab T=some d) (hp:s.ev p=.eH r m i z) {els:List AV} (hb:s.hp[r]?=some (.aI e z els))
  (hs:((s.ev x).ee s.hp).kC=true) (hl:((s.ev x).ee s.hp).cells.length=d.size) (hm:m=els.length) (Ay:d.size≤z) (hi:i<els.length) {Xh:AV} (hle:els[i].cells.length=z→Xh.cells.length=z)
  (kJ:els[i].cells.length=z→∀(j:Nat) (y:AV),Xh.cells[j]?=some y→(j<d.size→((s.ev x).ee s.hp).cells[j]?=some y)∧(d.size≤j→els[i].cells[j]?=some y)):eW Γ o s .top (s.hp.set r (.aI e z (els.set i Xh))):=by
 intro a w η hr
 have oz:=hr.ev p
 rw[hp] at oz
 have dC:=(kA hr.heap hr.bA (hr.ev x)).AB hs
 generalize (s.ev x).ee s.hp=el at hs hl dC kJ
 generalize hv:a.eval p=v at oz
 cases oz with
 |eH _ _ _ _ b o' c k rh=>
  have ud:=rh
  unfold aT at ud
  rw[hb] at ud
  have dE:=ud.2 hm
  obtain⟨IG,xs,bW,cy⟩:=hr.heap.obj r _ _ hb dE
  rcases bW.2 with⟨h0,_⟩|⟨g,cap,cur,he,h0,⟨v8,DN,hg⟩,Au,DG,fq,jH⟩
  ·omega
  obtain rfl:v8=0:=Nat.le_zero.1 DN
  ·simp only[Value.slice.injEq,Option.some.injEq,Addr.mk.injEq,and_true] at he
   obtain⟨⟨rfl,rfl⟩,rfl,rfl⟩:=he
   generalize TP:(a.eval x).cells.toList=us at dC
   have XR:us.length=d.size:=by rw[dC.1,hl]
   have hold:=cy i els[i] (List.getElem?_eq_getElem hi)
   have kJ:=kJ hold.1
   have hle:=hle hold.1
   have ay:(i+1)*z≤els.length*z:=Nat.mul_le_mul_right _ hi
   have q7:els.length*z≤c*z:=Nat.mul_le_mul_right _ Au
   rw[Nat.add_mul,Nat.one_mul] at ay
   obtain⟨w',cs',e1,e2,e3,e4⟩:=wV (P:=Γ.P) (off:=0+i*z) us 0 cur w hg (by omega) fun u hu=>by
    obtain⟨j,hj⟩:=List.getElem?_of_mem hu
    have ak:j<el.cells.length:=by rw[←dC.1];exact(List.getElem?_eq_some_iff.1 hj).1
    exact(dC.2 j _ u (List.getElem?_eq_getElem ak) hj).2
   have bC:(a.eval x).cells.size=d.size:=by rw[←hl,←dC.1,←TP];simp
   have nP:bU (.slice (some ⟨b,0,none⟩) els.length c)=some b:=bd h0
   have Nz:η.set r (.slice (some ⟨b,0,none⟩) els.length c)=η:=by
    apply List.ext_getElem?
    intro k
    by_cases hk:r=k
    ·subst hk;rw[aj dE,dE]
    ·rw[getElem?_set_ne hk]
   have:=Rel.change (w':=w') (o':=.aI e z (els.set i Xh)) (v':=.slice (some ⟨b,0,none⟩) els.length c) ao hr hb True.intro dE
    ⟨e4.os,e4.tape,e4.output,e4.size,fun k hk hkb=>e4.block k hk fun h=>hkb (by rw[nP,h])⟩
    (fun c hc=>.inl hc) (fun k hk=>hk.elim) (fun _ _ _ _ hk=>hk.elim) (fun _ _ _ _ hk=>hk.elim)
    (fun n u ho=>by
     unfold aT at ho ⊢
     rw[hb] at ho
     rw[aj hb,Nz]
     exact⟨by rw[List.length_set];exact ho.1,fun h=>ho.2 (by rw[List.length_set] at h;exact h)⟩)
    (fun _ _=>rfl) (fun _ hx=>by cases hx)
    (fun b' d' er cO=>by rw[nP] at er;obtain rfl:=Option.some.inj er;rw[hg] at cO;cases cO)
    (fun he=>⟨IG,eD xs (i*z) us,⟨by rw[fP,List.length_set];exact bW.1,.inr ⟨b,c,cs',by rw[List.length_set],h0,⟨0,Nat.le_refl _,e2⟩,by rw[List.length_set];exact Au,DG,by
      have:cs'.toList.length=cur.toList.length:=by rw[e3,fP]
      simp only[Array.length_toList] at this
      rw[this,fq],by
      rw[List.length_set]
      apply List.ext_getElem?
      intro k
      have hlen:i*z+us.length≤cur.toList.length:=by simp only[Array.length_toList];omega
      have AK:i*z+us.length≤xs.length:=by rw[bW.1];omega
      rw[List.getElem?_take,ct us xs _ _ AK,e3,Nat.add_zero,Nat.zero_add,ct us _ _ _ hlen]
      by_cases hk:k<els.length*z
      ·rw[if_pos hk]
       by_cases kJ:i*z≤k∧k<i*z+us.length
       ·rw[if_pos kJ,if_pos kJ]
       ·rw[if_neg kJ,if_neg kJ,←jH,List.getElem?_take,if_pos hk]
      ·rw[if_neg hk,if_neg (by omega),List.getElem?_eq_none (by rw[bW.1];omega)]⟩⟩,fun i' XS oG=>by
      have AK:i*z+us.length≤xs.length:=by rw[bW.1];omega
      by_cases DO:i=i'
      ·subst DO
       rw[List.getElem?_set_self hi] at oG
       obtain rfl:=Option.some.inj oG
       refine⟨hle,fun j x hj=>?_⟩
       by_cases hjd:j<d.size
       ·have hj:=(kJ j x hj).1 hjd
        have rX:j<us.length:=by omega
        refine⟨us[j],?_,((dC.2 j x _ hj (List.getElem?_eq_getElem rX)).1).ext he.ko.ext,(dC.2 j x _ hj (List.getElem?_eq_getElem rX)).2⟩
        rw[ct us xs _ _ AK,if_pos (by omega),show i*z+j-i*z=j from by omega,List.getElem?_eq_getElem rX]
       ·obtain⟨u,q1,q2,q3⟩:=hold.2 j x ((kJ j x hj).2 (by omega))
        refine⟨u,?_,q2.ext he.ko.ext,q3⟩
        rw[ct us xs _ _ AK,if_neg (by omega)]
        exact q1
      ·rw[getElem?_set_ne DO] at oG
       refine⟨(cy i' XS oG).1,fun j x hj=>?_⟩
       obtain⟨u,q1,q2,q3⟩:=(cy i' XS oG).2 j x hj
       refine⟨u,?_,q2.ext he.ko.ext,q3⟩
       have hjz:j<z:=by rw[←(cy i' XS oG).1];exact(List.getElem?_eq_some_iff.1 hj).1
       rw[ct us xs _ _ AK,if_neg ?_]
       ·exact q1
       ·rw[XR]
        rcases Nat.lt_or_gt_of_ne DO with h|h
        ·have:=Nat.mul_le_mul_right z (show i+1≤i' from h)
         rw[Nat.add_mul,Nat.one_mul] at this;omega
        ·have:=Nat.mul_le_mul_right z (show i'+1≤i from h)
         rw[Nat.add_mul,Nat.one_mul] at this;omega⟩)
   rw[Nz] at this
   refine⟨undef,w',η,.inr ⟨?_,rfl⟩,this,.top _⟩
   simp only[execOp,ho,hv,Instr.storeAt,Instr.sureAddr,Sem.run_bind,Sem.run_pure,Result.andThen_ok,storeVar,(ah T d hd).run_sizeOf,bC,ne_eq,not_true_eq_false,if_false,TP,e1]
theorem AL (ao:Γ.Ok) {tab:Nat→Option TD} (ah:aQ Γ.P tab) {o:Oper} {T r m i z e:Nat} {p x:Operand} (ho:o.op=.store T p x) {d:TD} (hd:tab T=some d) (hp:s.ev p=.eH r m i z) {els:List AV} (hb:s.hp[r]?=some (.aI e z els))
  (hs:((s.ev x).ee s.hp).kC=true) (hl:((s.ev x).ee s.hp).cells.length=d.size) (hm:m=els.length) (Ay:d.size=z) (hi:i<els.length):eW Γ o s .top (s.hp.set r (.aI e z (els.set i ((s.ev x).ee s.hp)))):=
 rW ao ah ho hd hp hb hs hl hm (Nat.le_of_eq Ay) hi (fun _=>by rw[hl,Ay]) fun _ j y hy=>⟨fun _=>hy,fun h=>by have:=(List.getElem?_eq_some_iff.1 hy).1;omega⟩
theorem jI:∀(xs cs:List AV) (k j:Nat),k+xs.length≤cs.length→(setCells cs k xs)[j]?=if k≤j∧j<k+xs.length then xs[j-k]? else cs[j]?
 | [],cs,k,j,_=>by rw[setCells,if_neg (by simp only[List.length_nil];omega)]
 |x::xs,cs,k,j,h=>by
  simp only[List.length_cons] at h
  rw[setCells,jI xs _ _ _ (by rw[List.length_set];omega)]
  by_cases e:k=j
  ·subst e
   rw[if_neg (by omega),if_pos (by simp only[List.length_cons];omega),Nat.sub_self,List.getElem?_cons_zero,List.getElem?_set_self (by omega)]
  ·rw[getElem?_set_ne e]
   by_cases h2:k+1≤j∧j<k+1+xs.length
   ·rw[if_pos h2,if_pos (by simp only[List.length_cons];omega),show j-k=j-(k+1)+1 from by omega,List.getElem?_cons_succ]
   ·rw[if_neg h2,if_neg (by simp only[List.length_cons];omega)]
theorem AM (ao:Γ.Ok) {tab:Nat→Option TD} (ah:aQ Γ.P tab) {o:Oper} {T r m i z e:Nat} {p x:Operand} (ho:o.op=.store T p x) {d:TD} (hd:tab T=some d) (hp:s.ev p=.eH r m i z) {els:List AV} (hb:s.hp[r]?=some (.aI e z els))
  (hs:((s.ev x).ee s.hp).kC=true) (hl:((s.ev x).ee s.hp).cells.length=d.size) (hm:m=els.length) (Ay:d.size≤z) (hi:i<els.length):eW Γ o s .top (s.hp.set r (.aI e z (els.set i (.agg (setCells (els.getD i .top).cells 0 ((s.ev x).ee s.hp).cells))))):=by
 have hg:els.getD i .top=els[i]:=by simp[List.getD,hi]
 rw[hg]
 refine rW ao ah ho hd hp hb hs hl hm Ay hi (fun h=>by show (setCells _ 0 _).length=z;rw[sV,h]) fun h j y hy=>?_
 have Dz:(setCells els[i].cells 0 ((s.ev x).ee s.hp).cells)[j]?=some y:=hy
 rw[jI _ _ _ _ (by rw[hl,h];omega),hl] at Dz
 refine⟨fun hj=>?_,fun hj=>?_⟩
 ·rw[if_pos (by omega)] at Dz;exact Dz
 ·rw[if_neg (by omega)] at Dz;exact Dz
theorem uq (ao:Γ.Ok) {tab:Nat→Option TD} (ah:aQ Γ.P tab) {o:Oper} {T e:Nat} {l c:Operand} (ho:o.op=.makeSlice T l c) {d d':TD} (hd:tab T=some d) (hk:d.kind=.iW e) (cO:tab e=some d')
  {k k':IntKind} {n:Int} (hl:s.ev l=.ae (.int k 0)) (hc:s.ev c=.ae (.int k' n)) (h0:0≤n) (xT:n≤9223372036854775807) (TH:(d'.bytes:Int)*n≤281474976710656) (bC:0<d'.size):
  eW Γ o s (.own s.hp.length 0) (s.hp++[.row e d'.size []]):=by
 intro a w η hr
 have DH:=hr.ev l
 have DA:=hr.ev c
 rw[hl] at DH;rw[hc] at DA
 have fO:=ah e d' cO
 obtain⟨i,nQ,pG,Al,Fx⟩:=fO.info
 have hu:Γ.P.underlying T=some (.slice e):=by
  obtain⟨u,q2,q3⟩:=(ah T d hd).jy
  rw[hk] at q3
  rw[q2];exact congrArg some q3
 have hw:IntKind.i64.wrap n=n:=by
  simp only[IntKind.wrap,IntKind.bits,IntKind.signed];simp;omega
 have hw0:IntKind.i64.wrap 0=0:=by decide
 have M3:((decide (n<0)||decide ((d'.bytes:Int)*n>2 ^ 48))||decide ((0:Int)<0)||decide ((0:Int)>n))=false:=by
  simp;omega
 have eV:∃arr:Array Value,arr.size=n.toNat*d'.size∧(execOp a.eval o).run Γ.P w=.ok (.value (.slice (some ⟨w.heap.size,0,none⟩) 0 n.toNat)) (w.alloc (.cells arr e)):=by
  by_cases hz:n.toNat*d'.size=0
  ·refine⟨(Array.range (n.toNat*d'.size)).map ((#[]:Array Value)[· % (#[]:Array Value).size]!),by simp,?_⟩
   simp only[execOp,ho,Instr.makeSlice,Sem.run_bind,run_underlying hu,Result.andThen_ok,asInt,DH.al,DA.al,asIntOf,Sem.run_pure,typeInfo,run_program,nQ,Al,hw,hw0,M3,Bool.false_eq_true,if_false,run_askRoom,sizeOf,pG,if_pos hz,newRow,run_newObj]
   rfl
  ·refine⟨(Array.range (n.toNat*d'.size)).map (d'.zero.cells[· % d'.zero.cells.size]!),by simp,?_⟩
   simp only[execOp,ho,Instr.makeSlice,Sem.run_bind,run_underlying hu,Result.andThen_ok,asInt,DH.al,DA.al,asIntOf,Sem.run_pure,typeInfo,run_program,nQ,Al,hw,hw0,M3,Bool.false_eq_true,if_false,run_askRoom,sizeOf,pG,if_neg hz,fO.fM,newRow,run_newObj]
   rfl
 obtain⟨arr,kH,eV⟩:=eV
 have jz:=bu.alloc w (.cells arr e)
 refine⟨_,_,η++[.slice (some ⟨w.heap.size,0,none⟩) 0 n.toNat],.inl eV,?_,?_⟩
 ·refine hr.add ao jz (fun b hb=>?_) ⟨bC,[],⟨by simp,?_⟩,fun i el hi=>by simp at hi⟩
  ·simp only[bU] at hb
   split at hb
   ·cases hb
   ·obtain rfl:=Option.some.inj hb;exact Nat.le_refl _
  ·by_cases hn:n.toNat=0
   ·exact .inl ⟨rfl,.inr ⟨_,by rw[hn]⟩⟩
   ·exact .inr ⟨w.heap.size,n.toNat,arr,rfl,by omega,⟨0,Nat.zero_le _,heap_alloc_new w _⟩,Nat.zero_le _,by simp only[maxLen];omega,kH,by simp⟩
 ·refine .own _ 0 _ rfl ?_
  unfold aT
  have:(s.hp++[af.row e d'.size []])[s.hp.length]?=some (.row e d'.size []):=by simp
  rw[this]
  exact⟨Nat.le_refl _,fun _=>by rw[←hr.heap.len];simp⟩
theorem DW (ao:Γ.Ok) {tab:Nat→Option TD} (ah:aQ Γ.P tab) {o:Oper} {T e:Nat} {l c:Operand} (ho:o.op=.makeSlice T l c) {d d':TD} (hd:tab T=some d) (hk:d.kind=.iW e) (cO:tab e=some d')
  {k k':IntKind} {n:Int} (hl:s.ev l=.ae (.int k n)) (hc:s.ev c=.ae (.int k' n)) (h0:0≤n) (xT:n≤9223372036854775807) (TH:(d'.bytes:Int)*n≤281474976710656) {z:Value} (hz:AI d'=some z):
  eW Γ o s (.own s.hp.length (List.replicate n.toNat (AV.ae z)).length) (s.hp++[.aI e 1 (List.replicate n.toNat (.ae z))]):=by
 intro a w η hr
 have DH:=hr.ev l
 have DA:=hr.ev c
 rw[hl] at DH;rw[hc] at DA
 have fO:=ah e d' cO
 obtain⟨i,nQ,pG,Al,Fx⟩:=fO.info
 obtain⟨Tq,XT,uf⟩:=Je hz
 have hu:Γ.P.underlying T=some (.slice e):=by
  obtain⟨u,q2,q3⟩:=(ah T d hd).jy
  rw[hk] at q3
  rw[q2];exact congrArg some q3
 have hw:IntKind.i64.wrap n=n:=by
  simp only[IntKind.wrap,IntKind.bits,IntKind.signed];simp;omega
 have M3:((decide (n<0)||decide ((d'.bytes:Int)*n>2 ^ 48))||decide (n<0)||decide (n>n))=false:=by
  simp;omega
 have eV:∃arr:Array Value,arr.toList=List.replicate n.toNat z∧(execOp a.eval o).run Γ.P w=.ok (.value (.slice (some ⟨w.heap.size,0,none⟩) n.toNat n.toNat)) (w.alloc (.cells arr e)):=by
  by_cases hz:n.toNat*d'.size=0
  ·have lC:n.toNat=0:=by rw[Tq] at hz;omega
   refine⟨(Array.range (n.toNat*d'.size)).map ((#[]:Array Value)[· % (#[]:Array Value).size]!),by rw[hz,lC];simp,?_⟩
   simp only[execOp,ho,Instr.makeSlice,Sem.run_bind,run_underlying hu,Result.andThen_ok,asInt,DH.al,DA.al,asIntOf,Sem.run_pure,typeInfo,run_program,nQ,Al,hw,M3,Bool.false_eq_true,if_false,run_askRoom,sizeOf,pG,if_pos hz,newRow,run_newObj]
   rfl
  ·refine⟨(Array.range (n.toNat*d'.size)).map (d'.zero.cells[· % d'.zero.cells.size]!),?_,?_⟩
   ·rw[Tq,XT,Nat.mul_one]
    refine List.ext_getElem (by simp) fun j h1 h2=>?_
    simp[Nat.mod_one]
   simp only[execOp,ho,Instr.makeSlice,Sem.run_bind,run_underlying hu,Result.andThen_ok,asInt,DH.al,DA.al,asIntOf,Sem.run_pure,typeInfo,run_program,nQ,Al,hw,M3,Bool.false_eq_true,if_false,run_askRoom,sizeOf,pG,if_neg hz,fO.fM,newRow,run_newObj]
   rfl
 obtain⟨arr,gA,eV⟩:=eV
 have kH:arr.size=n.toNat:=by rw[←Array.length_toList,gA,List.length_replicate]
 have jz:=bu.alloc w (.cells arr e)
 have hle:=List.length_replicate (n:=n.toNat) (a:=AV.ae z)
 refine⟨_,_,η++[.slice (some ⟨w.heap.size,0,none⟩) n.toNat n.toNat],.inl eV,?_,?_⟩
 ·refine hr.add ao jz (fun b hb=>?_) ⟨Nat.one_pos,List.replicate n.toNat z,⟨by simp,?_⟩,fun i el hi=>?_⟩
  ·simp only[bU] at hb
   split at hb
   ·cases hb
   ·obtain rfl:=Option.some.inj hb;exact Nat.le_refl _
  ·rw[hle]
   by_cases hn:n.toNat=0
   ·exact .inl ⟨hn,.inr ⟨_,by rw[hn]⟩⟩
   ·exact .inr ⟨w.heap.size,n.toNat,arr,rfl,by omega,⟨0,Nat.le_refl _,heap_alloc_new w _⟩,Nat.le_refl _,by simp only[maxLen];omega,by omega,by rw[gA,List.take_of_length_le (by simp)]⟩
  ·obtain⟨ak,rfl⟩:i<n.toNat∧el=.ae z:=by
    rw[List.getElem?_replicate] at hi
    split at hi
    ·rename_i ak;exact⟨ak,(Option.some.inj hi).symm⟩
    ·cases hi
   refine⟨rfl,fun j x hj=>?_⟩
   have pE:[AV.ae z][j]?=some x:=hj
   cases j with
   |zero=>
    obtain rfl:=Option.some.inj pE
    exact⟨z,by rw[List.getElem?_replicate,if_pos (by omega)],.ae z,uf⟩
   |succ j=>simp at pE
 ·refine .own _ _ _ rfl ?_
  unfold aT
  have:(s.hp++[af.aI e 1 (List.replicate n.toNat (.ae z))])[s.hp.length]?=some (.aI e 1 (List.replicate n.toNat (.ae z))):=by simp
  rw[this]
  refine⟨Nat.le_refl _,fun _=>?_⟩
  have hlen:η.length=s.hp.length:=hr.heap.len
  rw[←hlen];simp
theorem jJ (ao:Γ.Ok) {tab:Nat→Option TD} (ah:aQ Γ.P tab) {o:Oper} {c:Call} (ho:o.op=.call c) (hb:c.callee=.builtin .append) {b x:Operand} (hl:c.args.toList=[b,x]) {T e:Nat} (hT:c.argTypes.toList=[T,T]) {d d':TD} (hd:tab T=some d)
  (hk:d.kind=.iW e) (cO:tab e=some d') {av:List AV} (hx:(s.ev x).fN s.hp=some av) {r:AV} {hp':List af}
  (h:(∃els,(s.ev b=.ae (.slice none 0 0)∧els=[]∨s.ev b=.clip els)∧0<d'.size∧(av=[]→els=[])∧bF d' (els.length+av.length) els av∧r=.own s.hp.length (els.length+av.length)∧hp'=s.hp++[.row e d'.size (els++av)])∨
   (∃M n els,s.ev b=.own n els.length∧s.hp[n]?=some (eU M e d'.size els)∧bF d' (els.length+av.length) [] av∧r=.own n (els.length+av.length)∧hp'=s.hp.set n (eU M e d'.size (els++av)))):eW Γ o s r hp':=by
 intro a w η hr
 have hu:Γ.P.underlying T=some (.slice e):=by
  obtain⟨u,q2,q3⟩:=(ah T d hd).jy
  rw[hk] at q3
  rw[q2];exact congrArg some q3
 have dC:=iX hr.heap hr.bA (hr.ev x) hx
 have FE:=hr.ev b
 have mP:c.argTypes=#[T,T]:=by rw[←Array.toArray_toList (xs:=c.argTypes),hT]
 have aw:c.args=#[b,x]:=by rw[←Array.toArray_toList (xs:=c.args),hl]
 have mq:∀v w',(Builtin.append_ #[T,T] o.type #[a.eval b,a.eval x]).run Γ.P w=.ok v w'→(execOp a.eval o).run Γ.P w=.ok (.value v) w':=by
  intro v w' eV
  simp only[execOp,ho,resolve,hb,Sem.run_bind,Sem.run_pure,Result.andThen_ok,invoke,builtin,mP,aw,List.map_toArray,List.map_cons,List.map_nil,eV]
 rcases h with⟨els,mO,bC,bh,pP,rfl,rfl⟩|⟨M,n,els,mO,bW,pP,rfl,rfl⟩
 ·have AF:a.eval b=.slice none 0 0∧els=[]∨aY w (aW Γ w η s.hp) η s.hp (.clip els) (a.eval b):=by
   rcases mO with⟨h1,h2⟩|h1
   ·rw[h1] at FE;exact .inl ⟨FE.al,h2⟩
   ·rw[h1] at FE;exact .inr FE
  obtain⟨v',w',h1,h2,h3⟩:=tX ao hr (ty:=o.type) hu (ah e d' cO) bC AF dC pP.1 pP.2.1 bh pP.2.2.1 pP.2.2.2 (ob:=.row e d'.size (els++av)) (.inl rfl)
  refine⟨v',w',η++[v'],.inl (mq _ _ h1),h2,.own _ _ _ h3 ?_⟩
  unfold aT
  have:(s.hp++[af.row e d'.size (els++av)])[s.hp.length]?=some (.row e d'.size (els++av)):=by simp
  rw[this]
  exact⟨by simp,fun _=>by rw[←hr.heap.len];simp⟩
 ·rw[mO] at FE
  have qZ:aT η s.hp n els.length (a.eval b):=by cases FE;assumption
  have pL:η[n]?=some (a.eval b):=((iZ bW).1 qZ).2 rfl
  obtain⟨news,hn⟩:=pH (ty:=o.type) hu (ah e d' cO) (ky.1 (hr.heap.obj n _ _ bW pL)).1 dC pP.2.1
  obtain⟨v',w',aH,h1,h2,h3,h4⟩:=tZ ao hr (ah e d' cO) bW qZ hn pP.2.1 pP.2.2.1 pP.2.2.2
  exact⟨v',w',aH,.inl (mq _ _ h1),h2,.own _ _ _ h3 ((iZ (aj bW)).2 ⟨by simp,fun _=>h4⟩)⟩
theorem x9 (ao:Γ.Ok) {tab:Nat→Option TD} (ah:aQ Γ.P tab) {o:Oper} {c:Call} (ho:o.op=.call c) (hb:c.callee=.builtin .append) {b x:Operand} (hl:c.args.toList=[b,x]) {T e:Nat} (hT:c.argTypes.toList=[T,T]) {d d':TD} (hd:tab T=some d)
  (hk:d.kind=.iW e) (cO:tab e=some d') {av:List AV} (hx:(s.ev x).fN s.hp=some av) {els:List AV} (mO:s.ev b=.ae (.slice none 0 0)∧els=[]∨s.ev b=.clip els) (bC:0<d'.size) (bh:av=[]→els=[]) (pP:bF d' (els.length+av.length) els av):
  eW Γ o s (.own s.hp.length (els++av).length) (s.hp++[.aI e d'.size (els++av)]):=by
 intro a w η hr
 have hu:Γ.P.underlying T=some (.slice e):=by
  obtain⟨u,q2,q3⟩:=(ah T d hd).jy
  rw[hk] at q3
  rw[q2];exact congrArg some q3
 have dC:=iX hr.heap hr.bA (hr.ev x) hx
 have FE:=hr.ev b
 have mP:c.argTypes=#[T,T]:=by rw[←Array.toArray_toList (xs:=c.argTypes),hT]
 have aw:c.args=#[b,x]:=by rw[←Array.toArray_toList (xs:=c.args),hl]
 have mq:∀v w',(Builtin.append_ #[T,T] o.type #[a.eval b,a.eval x]).run Γ.P w=.ok v w'→(execOp a.eval o).run Γ.P w=.ok (.value v) w':=by
  intro v w' eV
  simp only[execOp,ho,resolve,hb,Sem.run_bind,Sem.run_pure,Result.andThen_ok,invoke,builtin,mP,aw,List.map_toArray,List.map_cons,List.map_nil,eV]
 have AF:a.eval b=.slice none 0 0∧els=[]∨aY w (aW Γ w η s.hp) η s.hp (.clip els) (a.eval b):=by
  rcases mO with⟨h1,h2⟩|h1
  ·rw[h1] at FE;exact .inl ⟨FE.al,h2⟩
  ·rw[h1] at FE;exact .inr FE
 obtain⟨v',w',h1,h2,h3⟩:=tX ao hr (ty:=o.type) hu (ah e d' cO) bC AF dC pP.1 pP.2.1 bh pP.2.2.1 pP.2.2.2 (ob:=.aI e d'.size (els++av)) (.inr rfl)
 refine⟨v',w',η++[v'],.inl (mq _ _ h1),h2,.own _ _ _ h3 ?_⟩
 unfold aT
 have:(s.hp++[af.aI e d'.size (els++av)])[s.hp.length]?=some (.aI e d'.size (els++av)):=by simp
 rw[this]
 exact⟨Nat.le_refl _,fun _=>by rw[←hr.heap.len];simp⟩
theorem pQ (ao:Γ.Ok) {o:Oper} {T:Nat} (ho:o.op=.makeMap T none) {me:ME} (hme:GZ me=[]):eW Γ o s (.mp s.hp.length) (s.hp++[.aB me]):=by
 intro a w η hr
 have jz:=bu.alloc w (.map #[] 0)
 refine⟨.map (some w.heap.size),_,η++[.map (some w.heap.size)],.inl (by simp[execOp,ho,Instr.makeMap];rfl),?_,?_⟩
 ·exact hr.add ao jz (fun b hb=>by simp only[bU,Option.some.injEq] at hb;omega) ⟨w.heap.size,#[],0,rfl,World.alloc_heap_new w _,hme.symm⟩
 ·exact .mp _ w.heap.size (by rw[←hr.heap.len];simp)
theorem Jg {κ:Type} [DecidableEq κ] {td:TypeDesc} {kv:κ→Value} {me:List (κ×Value)→ME} (K:G7 td kv me) {a:κ} {v:Value}:∀(es:List MapEntry) (l:List (κ×Value)) (i:Nat),(es.map fun e=>(e.key,e.val))=l.map (fun p=>(kv p.1,p.2))→
  (∃j u,Instr.findNow td (kv a) es i=some (some (i+j,u))∧(es[j]?).map (·.key)=some (kv a)∧((es.modify j fun e=>{ e with key:=kv a,val:=v }).map fun e=>(e.key,e.val))=(bB l a v).map (fun p=>(kv p.1,p.2)))∨
   (Instr.findNow td (kv a) es i=some none∧(bB l a v).map (fun p=>(kv p.1,p.2))=(es.map fun e=>(e.key,e.val))++[(kv a,v)]):=by
 intro es
 induction es with
 |nil=>
  intro l i h
  cases l with
  |nil=>exact .inr ⟨rfl,rfl⟩
  |cons p l=>simp at h
 |cons e es ih=>
  intro l i h
  cases l with
  |nil=>simp at h
  |cons p l=>
   obtain⟨key,u⟩:=p
   simp only[List.map_cons,List.cons.injEq,Prod.mk.injEq] at h
   obtain⟨⟨h1,h2⟩,h3⟩:=h
   simp only[Instr.findNow,h1,K.same,bB]
   by_cases RH:a=key
   ·subst RH
    simp only[decide_true,if_true]
    refine .inl ⟨0,e.val,rfl,by simp[h1],?_⟩
    simp only[List.modify_zero_cons,List.map_cons]
    rw[h3]
   ·simp only[if_neg RH,decide_eq_false RH]
    rcases ih l (i+1) h3 with⟨j,u',g1,g2,g3⟩|⟨g1,g2⟩
    ·refine .inl ⟨j+1,u',by rw[g1];congr 3;omega,by simpa using g2,?_⟩
     simp only[List.modify_succ_cons,List.map_cons,h1,h2]
     rw[g3]
    ·refine .inr ⟨g1,?_⟩
     simp only[List.map_cons,List.cons_append,h1,h2] at g2 ⊢
     rw[g2]
theorem mQ {κ:Type} [DecidableEq κ] {td:TypeDesc} {kv:κ→Value} {me:List (κ×Value)→ME} (K:G7 td kv me) (ao:Γ.Ok) {tab:Nat→Option TD} (ah:aQ Γ.P tab) {o:Oper} {T kt et r:Nat} {m k x:Operand} (ho:o.op=.mapUpdate T m k x) {d dk:TD} (hd:tab T=some d) (kI:d.kind=.mI kt et) (mo:tab kt=some dk) (tA:∀u,dk.kind.fits Γ.P u→u=td)
  (hm:s.ev m=.mp r) {es:List (κ×Value)} (Ny:s.hp[r]?=some (.aB (me es))) {a:κ} (hk:s.ev k=.ae (kv a)) {v:Value} (hx:s.ev x=.ae v):eW Γ o s .top (s.hp.set r (.aB (me (bB es a v)))):=by
 intro act w η hr
 have hu:Γ.P.underlying T=some (.map kt et):=by
  obtain⟨u,q2,q3⟩:=(ah T d hd).jy
  rw[kI] at q3
  rw[q2];exact congrArg some q3
 have Nw:Γ.P.underlying kt=some td:=by
  obtain⟨u,q2,q3⟩:=(ah kt dk mo).jy
  rw[q2];exact congrArg some (tA u q3)
 have FD:=hr.ev k
 rw[hk] at FD
 have RI:=FD.al
 have dC:=hr.ev x
 rw[hx] at dC
 have qY:=dC.al
 have Nx:=hr.ev m
 rw[hm] at Nx
 generalize IJ:act.eval m=mv at Nx
 cases Nx with
 |mp _ b dE=>
  obtain⟨b',en,c,e1,iC,uo⟩:=hr.heap.obj r _ _ Ny dE
  simp only[Value.map.injEq,Option.some.injEq] at e1
  subst e1
  have ak:=ba iC
  have bR:(getObj b).run Γ.P w=.ok (.map en c) w:=by simp[getObj,Sem.run,iC]
  have ou:∀o',(setObj b o').run Γ.P w=.ok () (w.putObj b o'):=fun o'=>by simp[setObj,Sem.run,iC,World.putObj]
  have key:∀TQ c',kl TQ=GZ (me (bB es a v))→Rel Γ { s with hp:=s.hp.set r (.aB (me (bB es a v))) } act (w.putObj b (.map TQ c')) η:=by
   intro TQ c' hp'
   have Nz:η.set r (.map (some b))=η:=by
    apply List.ext_getElem?
    intro i
    by_cases hi:r=i
    ·subst hi;rw[aj dE,dE]
    ·rw[getElem?_set_ne hi]
   have:=Rel.change (w':=w.putObj b (.map TQ c')) (o':=.aB (me (bB es a v))) (v':=.map (some b)) ao hr Ny True.intro dE
    ⟨rfl,rfl,rfl,by simp,fun q hq hb=>World.putObj_heap_other (fun e=>hb (by rw[e];rfl))⟩
    (fun q hq=>.inl hq) (fun q hq=>hq.elim) (fun _ _ _ _ hq=>hq.elim) (fun _ _ _ _ hq=>hq.elim)
    (fun n u tW=>by simp[aT,Ny] at tW) (fun _ hq=>by cases hq) (fun _ _=>rfl)
    (fun q dd hb hdd=>by simp only[bU,Option.some.injEq] at hb;subst hb;rw[iC] at hdd;cases hdd)
    (fun _=>⟨b,TQ,c',rfl,World.putObj_heap_same ak,hp'⟩)
   rw[Nz] at this
   exact this
  have Xi:∀q,Instr.findNow td (kv a) en.toList 0=some q→(Instr.findKey kt (kv a) en.toList).run Γ.P w=.ok q w:=fun q hq=>by
   simp only[Instr.findKey,Sem.run_bind,run_underlying Nw,Result.andThen_ok,hq,Sem.run_pure]
  rcases Jg K (a:=a) (v:=v) en.toList es 0 (uo.trans (K.me es)) with⟨j,u,g1,g2,g3⟩|⟨g1,g2⟩
  ·rw[Nat.zero_add] at g1
   have hj:(en[j]?).map (·.key)=some (kv a):=by simpa using g2
   have XU:(Instr.keyThatStays (((en[j]?).map (·.key)).getD (kv a)) (kv a)).run Γ.P w=.ok (kv a) w:=by
    rw[hj]
    simp[Instr.keyThatStays,K.bits]
   refine⟨undef,_,η,.inr ⟨?_,rfl⟩,key (en.modify j fun e=>{ e with key:=kv a,val:=v }) c ?_,.top _⟩
   ·simp only[execOp,ho,IJ,RI,qY,Instr.mapUpdate,Sem.run_bind,run_underlying hu,Result.andThen_ok,bR,K.check _ _ _ _ _ Nw,Xi _ g1,XU,ou,Sem.run_pure]
   ·unfold kl;rw[Array.toList_modify,K.me];exact g3
  ·refine⟨undef,_,η,.inr ⟨?_,rfl⟩,key (en.push { key:=kv a,val:=v,born:=c }) (c+1) ?_,.top _⟩
   ·simp only[execOp,ho,IJ,RI,qY,Instr.mapUpdate,Sem.run_bind,run_underlying hu,Result.andThen_ok,bR,K.check _ _ _ _ _ Nw,Xi _ g1,ou,Sem.run_pure]
   ·unfold kl;rw[K.me,g2];simp
theorem gB (ao:Γ.Ok) {tab:Nat→Option TD} (ah:aQ Γ.P tab) {o:Oper} {c:Prop} {r:AV} {hp':List af} (h:cT tab s.hp s.ev o.op=some (c,r,hp')) (hc:c):eW Γ o s r hp':=by
 generalize ho:o.op=op at h
 cases op with
 |alloc T=>
  simp only[cT] at h
  split at h
  ·rename_i d hd
   simp only[Option.some.injEq,Prod.mk.injEq] at h
   obtain⟨_,rfl,rfl⟩:=h
   exact DU ao ah ho hd
  ·cases h
 |box T x=>
  simp only[cT] at h
  split at h
  ·rename_i hs
   simp only[Option.some.injEq,Prod.mk.injEq] at h
   obtain⟨_,rfl,rfl⟩:=h
   exact Jf ao ho hs
  ·cases h
 |store T p x=>
  simp only[cT] at h
  split at h
  ·rename_i d r' off hd hp
   split at h
   ·rename_i cs fq
    split at h
    ·rename_i hs
     simp only[Option.some.injEq,Prod.mk.injEq] at h
     obtain⟨rfl,rfl,rfl⟩:=h
     exact DV ao ah ho hd hp fq hs hc.1 hc.2
    ·cases h
   ·cases h
  ·rename_i d r' m i z hd hp
   split at h
   ·rename_i e size els fq
    split at h
    ·rename_i hs
     obtain⟨hs,rfl⟩:=hs
     split at h
     ·rename_i Ay
      simp only[Option.some.injEq,Prod.mk.injEq] at h
      obtain⟨rfl,rfl,rfl⟩:=h
      exact AL ao ah ho hd hp fq hs hc.1 hc.2.1 Ay hc.2.2
     ·simp only[Option.some.injEq,Prod.mk.injEq] at h
      obtain⟨rfl,rfl,rfl⟩:=h
      exact AM ao ah ho hd hp fq hs hc.1 hc.2.2.1 hc.2.1 hc.2.2.2
    ·cases h
   ·cases h
  ·cases h
 |makeSlice T l c'=>
  simp only[cT] at h
  split at h
  ·rename_i d hd
   split at h
   ·rename_i e hk
    split at h
    ·rename_i RG
     obtain rfl:=DT RG
     split at h
     ·rename_i d' k n cO AN
      split at h
      ·rename_i z hz
       simp only[Option.some.injEq,Prod.mk.injEq] at h
       obtain⟨rfl,rfl,rfl⟩:=h
       exact DW ao ah ho hd hk cO AN AN hc.1 hc.2.1 hc.2.2 hz
      ·cases h
     ·cases h
    split at h
    ·rename_i d' k k' n cO hl AN
     simp only[Option.some.injEq,Prod.mk.injEq] at h
     obtain⟨rfl,rfl,rfl⟩:=h
     exact uq ao ah ho hd hk cO hl AN hc.1 hc.2.1 hc.2.2.1 hc.2.2.2
    ·cases h
   ·cases h
  ·cases h
 |makeMap T r'=>
  cases r' with
  |some r'=>simp[cT] at h
  |none=>
   simp only[cT] at h
   split at h
   ·split at h
    ·split at h
     ·split at h
      ·simp only[Option.some.injEq,Prod.mk.injEq] at h
       obtain⟨_,rfl,rfl⟩:=h
       exact pQ ao ho rfl
      ·simp only[Option.some.injEq,Prod.mk.injEq] at h
       obtain⟨_,rfl,rfl⟩:=h
       exact pQ ao ho rfl
     ·cases h
    ·cases h
   ·cases h
 |mapUpdate T m k x=>
  simp only[cT] at h
  split at h
  ·rename_i d r' a v hd hm hk hx
   split at h
   ·rename_i kt et es kI Ny
    split at h
    ·rename_i dk mo
     split at h
     ·rename_i ik tA
      simp only[Option.some.injEq,Prod.mk.injEq] at h
      obtain⟨_,rfl,rfl⟩:=h
      exact mQ (TM ik) ao ah ho hd kI mo (fun u hu=>by rw[tA] at hu;exact hu) hm Ny hk hx
     ·cases h
    ·cases h
   ·cases h
  ·rename_i d r' a v hd hm hk hx
   split at h
   ·rename_i kt et es kI Ny
    split at h
    ·rename_i dk mo
     split at h
     ·rename_i tA
      simp only[Option.some.injEq,Prod.mk.injEq] at h
      obtain⟨_,rfl,rfl⟩:=h
      exact mQ TN ao ah ho hd kI mo (fun u hu=>by rw[tA] at hu;exact hu) hm Ny hk hx
     ·cases h
    ·cases h
   ·cases h
  ·cases h
 |call cl=>
  simp only[cT] at h
  split at h
  ·rename_i b x T T' hb hl hT
   split at h
   ·rename_i Tr
    subst Tr
    split at h
    ·rename_i d hd
     split at h
     ·rename_i e hk
      split at h
      ·rename_i d' av cO hx
       split at h
       ·rename_i mO
        simp only[Option.some.injEq,Prod.mk.injEq] at h
        obtain⟨rfl,rfl,rfl⟩:=h
        exact jJ ao ah ho hb hl hT hd hk cO hx (.inl ⟨[],.inl ⟨mO,rfl⟩,hc.1,fun _=>rfl,by simpa using hc.2,by simp,by simp⟩)
       ·rename_i els mO
        simp only[Option.some.injEq,Prod.mk.injEq] at h
        obtain⟨rfl,rfl,rfl⟩:=h
        exact jJ ao ah ho hb hl hT hd hk cO hx (.inl ⟨els,.inr mO,hc.1,hc.2.1,hc.2.2,rfl,rfl⟩)
       ·rename_i n m mO
        split at h
        ·rename_i e' size els bW
         split at h
         ·rename_i kE
          obtain⟨rfl,rfl,rfl⟩:=kE
          simp only[Option.some.injEq,Prod.mk.injEq] at h
          obtain⟨rfl,rfl,rfl⟩:=h
          exact jJ ao ah ho hb hl hT hd hk cO hx (.inr ⟨false,n,els,mO,bW,hc,rfl,rfl⟩)
         ·cases h
        ·rename_i e' size els bW
         split at h
         ·rename_i kE
          obtain⟨rfl,rfl,rfl⟩:=kE
          simp only[Option.some.injEq,Prod.mk.injEq] at h
          obtain⟨rfl,rfl,rfl⟩:=h
          exact jJ ao ah ho hb hl hT hd hk cO hx (.inr ⟨true,n,els,mO,bW,hc,rfl,rfl⟩)
         ·cases h
        ·cases h
       ·cases h
      ·cases h
     ·cases h
    ·cases h
   ·cases h
  ·cases h
 |_=>simp[cT] at h
end
end Go.Proofs.YtdcikhleahfknaaGreatDoor
