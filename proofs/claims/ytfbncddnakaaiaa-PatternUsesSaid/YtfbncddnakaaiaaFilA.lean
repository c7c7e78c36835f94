/- An abstract layer over the model's walk, its first part: abstract values, what it is that a value reads as one, and what keeps such a reading; for every program. -/
import Derived.WalkKit
import Derived.CallsIn
import Derived.RangeFuncRecord
import Derived.Laws.AppendOwn
namespace Go.Proofs.Ytfbncddnakaaiaa
open Go
set_option linter.unusedSimpArgs false
set_option linter.unusedVariables false

/-- Abstract values: exact values; slices with what they hold; slices that the call itself owns; places; structs; results; closures; maps. -/
inductive AV where
  | top
  | prim (v : Value)
  | fn (v : Value)
  | sl (els : List AV)
  | clip (els : List AV)
  | own (r n : Nat)
  | ptr (r off : Nat)
  | eptr (e : AV) (off : Nat)
  | agg (cs : List AV)
  | tup (vs : List AV)
  | clo (f : Nat) (caps : List AV)
  | mp (r : Nat)
  | mapv (es : List (Int × Value))

instance : Inhabited AV := ⟨.top⟩

def AV.cells : AV → List AV
  | .agg cs => cs
  | v => [v]

/-- What the call itself has made, by number. -/
inductive AObj where
  | dead
  | box (cs : List AV)
  | row (e size : Nat) (els : List AV)
  | mapo (es : List (Int × Value))

def AObj.live : AObj → Prop
  | .dead => False
  | _ => True

def blk : Value → Option Nat
  | .pointer (some a) => some a.block
  | .slice (some a) _ c => if c = 0 then none else some a.block
  | .map (some b) => some b
  | _ => none

def OwnOk (η : List Value) (hp : List AObj) (r n : Nat) (v : Value) : Prop :=
  match hp[r]? with
  | some (.row _ _ els) => n ≤ els.length ∧ (n = els.length → η[r]? = some v)
  | some .dead => True
  | _ => False

def mapPairs (es : Array MapEntry) : List (Value × Value) := es.toList.map fun e => (e.key, e.val)
/-- What a map with ints as keys holds. -/
def imap (l : List (Int × Value)) : List (Value × Value) := l.map fun p => (.int .i64 p.1, p.2)

/-- What a value reads as: in slices lies data alone, nothing that the call owns. -/
inductive Rep (w : World) (F : Nat → Nat → Prop) : List Value → List AObj → AV → Value → Prop
  | top {η : List Value} {hp : List AObj} (v : Value) : Rep w F η hp .top v
  | prim {η : List Value} {hp : List AObj} (v : Value) : Rep w F η hp (.prim v) v
  | fn {η : List Value} {hp : List AObj} (v : Value) (h1 : v.oneCell' = true) : Rep w F η hp (.fn v) v
  | sl0 {η : List Value} {hp : List AObj} (a : Option Addr) : Rep w F η hp (.sl []) (.slice a 0 0)
  | clip0 {η : List Value} {hp : List AObj} (a : Option Addr) : Rep w F η hp (.clip []) (.slice a 0 0)
  | sl {η : List Value} {hp : List AObj} (size : Nat) (els : List AV) (b o c : Nat) (f : Nat → Nat → Value) (hc : els.length ≤ c) (hm : c ≤ maxLen)
      (hl : ∀ (i : Nat) (e : AV), els[i]? = some e → e.cells.length = size)
      (hcell : ∀ (i : Nat) (e : AV) (j : Nat) (x : AV), els[i]? = some e → e.cells[j]? = some x → w.cell? ⟨b, o + i * size + j, none⟩ = some (f i j) ∧ F b (o + i * size + j) ∧ (f i j).oneCell' = true)
      (hr : ∀ (i : Nat) (e : AV) (j : Nat) (x : AV), els[i]? = some e → e.cells[j]? = some x → Rep w F [] [] x (f i j)) :
      Rep w F η hp (.sl els) (.slice (some ⟨b, o, none⟩) els.length c)
  | clip {η : List Value} {hp : List AObj} (size : Nat) (els : List AV) (b o : Nat) (f : Nat → Nat → Value) (hm : els.length ≤ maxLen)
      (hl : ∀ (i : Nat) (e : AV), els[i]? = some e → e.cells.length = size)
      (hcell : ∀ (i : Nat) (e : AV) (j : Nat) (x : AV), els[i]? = some e → e.cells[j]? = some x → w.cell? ⟨b, o + i * size + j, none⟩ = some (f i j) ∧ F b (o + i * size + j) ∧ (f i j).oneCell' = true)
      (hr : ∀ (i : Nat) (e : AV) (j : Nat) (x : AV), els[i]? = some e → e.cells[j]? = some x → Rep w F [] [] x (f i j)) :
      Rep w F η hp (.clip els) (.slice (some ⟨b, o, none⟩) els.length els.length)
  | own {η : List Value} {hp : List AObj} (r n : Nat) (v : Value) (h1 : v.oneCell' = true) (h : OwnOk η hp r n v) : Rep w F η hp (.own r n) v
  | ptr {η : List Value} {hp : List AObj} (r off b : Nat) (h : η[r]? = some (.pointer (some ⟨b, 0, none⟩))) : Rep w F η hp (.ptr r off) (.pointer (some ⟨b, off, none⟩))
  | eptr {η : List Value} {hp : List AObj} (e : AV) (off b o : Nat) (f : Nat → Value)
      (hcell : ∀ (j : Nat) (x : AV), e.cells[j]? = some x → w.cell? ⟨b, o + j, none⟩ = some (f j) ∧ F b (o + j) ∧ (f j).oneCell' = true)
      (hr : ∀ (j : Nat) (x : AV), e.cells[j]? = some x → Rep w F [] [] x (f j)) :
      Rep w F η hp (.eptr e off) (.pointer (some ⟨b, o + off, none⟩))
  | agg {η : List Value} {hp : List AObj} (cs : List AV) (vs : Array Value) (hl : vs.size = cs.length) (h1 : ∀ v : Value, v ∈ vs → v.oneCell' = true)
      (hr : ∀ (j : Nat) (x : AV) (v : Value), cs[j]? = some x → vs[j]? = some v → Rep w F η hp x v) : Rep w F η hp (.agg cs) (.agg vs)
  | tup {η : List Value} {hp : List AObj} (cs : List AV) (vs : Array Value) (hl : vs.size = cs.length)
      (hr : ∀ (j : Nat) (x : AV) (v : Value), cs[j]? = some x → vs[j]? = some v → Rep w F η hp x v) : Rep w F η hp (.tup cs) (.tuple vs)
  | clo {η : List Value} {hp : List AObj} (fn : Nat) (cs : List AV) (vs : Array Value) (hl : vs.size = cs.length)
      (hr : ∀ (j : Nat) (x : AV) (v : Value), cs[j]? = some x → vs[j]? = some v → Rep w F η hp x v) : Rep w F η hp (.clo fn cs) (.func (.func fn) #[] vs)
  | mp {η : List Value} {hp : List AObj} (r b : Nat) (h : η[r]? = some (.map (some b))) : Rep w F η hp (.mp r) (.map (some b))
  | mapv {η : List Value} {hp : List AObj} (b : Nat) (es : Array MapEntry) (c : Nat) (h : w.heap[b]? = some (.map es c)) (hF : F b 0) (l : List (Int × Value)) (hl : mapPairs es = imap l) : Rep w F η hp (.mapv l) (.map (some b))

/-- What keeps every reading of data. -/
structure Ext0 (w : World) (F : Nat → Nat → Prop) (w' : World) (F' : Nat → Nat → Prop) : Prop where
  cell : ∀ b o v, F b o → w.cell? ⟨b, o, none⟩ = some v → w'.cell? ⟨b, o, none⟩ = some v
  mapb : ∀ b es c, F b 0 → w.heap[b]? = some (.map es c) → w'.heap[b]? = some (.map es c)
  foot : ∀ b o, F b o → F' b o

/-- What keeps every reading. -/
structure Ext (w : World) (F : Nat → Nat → Prop) (η : List Value) (hp : List AObj) (w' : World) (F' : Nat → Nat → Prop) (η' : List Value) (hp' : List AObj) : Prop where
  cell : ∀ b o v, F b o → w.cell? ⟨b, o, none⟩ = some v → w'.cell? ⟨b, o, none⟩ = some v
  mapb : ∀ b es c, F b 0 → w.heap[b]? = some (.map es c) → w'.heap[b]? = some (.map es c)
  foot : ∀ b o, F b o → F' b o
  ptr : ∀ (r : Nat) a, η[r]? = some (.pointer a) → η'[r]? = some (.pointer a)
  mp : ∀ (r : Nat) a, η[r]? = some (.map a) → η'[r]? = some (.map a)
  own : ∀ r n v, OwnOk η hp r n v → OwnOk η' hp' r n v

variable {w w' : World} {F F' : Nat → Nat → Prop} {η η' : List Value} {hp hp' : List AObj}

theorem Ext0.ext (h : Ext0 w F w' F') : Ext w F [] [] w' F' [] [] :=
  ⟨h.cell, h.mapb, h.foot, fun _ _ h => h, fun _ _ h => h, fun _ _ _ h => h⟩
theorem Ext.ext0 (h : Ext w F η hp w' F' η' hp') : Ext0 w F w' F' := ⟨h.cell, h.mapb, h.foot⟩

theorem Rep.ext (h : Ext w F η hp w' F' η' hp') {x : AV} {v : Value} (hx : Rep w F η hp x v) : Rep w' F' η' hp' x v := by
  induction hx generalizing η' hp' with
  | top v => exact .top v
  | prim v => exact .prim v
  | fn v h1 => exact .fn v h1
  | sl0 a => exact .sl0 a
  | clip0 a => exact .clip0 a
  | sl size els b o c f hc hm hl hcell _ ih =>
    exact .sl size els b o c f hc hm hl (fun i e j x hi hj => let ⟨h1, h2, h3⟩ := hcell i e j x hi hj; ⟨h.cell _ _ _ h2 h1, h.foot _ _ h2, h3⟩) fun i e j x hi hj => ih i e j x hi hj h.ext0.ext
  | clip size els b o f hm hl hcell _ ih =>
    exact .clip size els b o f hm hl (fun i e j x hi hj => let ⟨h1, h2, h3⟩ := hcell i e j x hi hj; ⟨h.cell _ _ _ h2 h1, h.foot _ _ h2, h3⟩) fun i e j x hi hj => ih i e j x hi hj h.ext0.ext
  | own r n v h1 h2 => exact .own r n v h1 (h.own _ _ _ h2)
  | ptr r off b h1 => exact .ptr r off b (h.ptr _ _ h1)
  | eptr e off b o f hcell _ ih =>
    exact .eptr e off b o f (fun j x hj => let ⟨h1, h2, h3⟩ := hcell j x hj; ⟨h.cell _ _ _ h2 h1, h.foot _ _ h2, h3⟩) fun j x hj => ih j x hj h.ext0.ext
  | agg cs vs hl h1 _ ih => exact .agg cs vs hl h1 fun j x v h1 h2 => ih j x v h1 h2 h
  | tup cs vs hl _ ih => exact .tup cs vs hl fun j x v h1 h2 => ih j x v h1 h2 h
  | clo fn cs vs hl _ ih => exact .clo fn cs vs hl fun j x v h1 h2 => ih j x v h1 h2 h
  | mp r b h1 => exact .mp r b (h.mp _ _ h1)
  | mapv b es c h1 h2 l hl => exact .mapv b es c (h.mapb _ _ _ h2 h1) (h.foot _ _ h2) l hl

/-- Data reads as data whatever the call owns. -/
theorem Rep.lift {x : AV} {v : Value} (hx : Rep w F [] [] x v) : Rep w F η hp x v :=
  hx.ext ⟨fun _ _ _ _ h => h, fun _ _ _ _ h => h, fun _ _ h => h, fun _ _ h => by simp at h, fun _ _ h => by simp at h, fun _ _ _ h => by simp [OwnOk] at h⟩

theorem Ext.trans {w1 w2 w3 : World} {F1 F2 F3 : Nat → Nat → Prop} {η1 η2 η3 : List Value} {h1 h2 h3 : List AObj} (h : Ext w1 F1 η1 h1 w2 F2 η2 h2) (k : Ext w2 F2 η2 h2 w3 F3 η3 h3) : Ext w1 F1 η1 h1 w3 F3 η3 h3 :=
  ⟨fun b o v hf hc => k.cell b o v (h.foot _ _ hf) (h.cell b o v hf hc), fun b es c hf hc => k.mapb b es c (h.foot _ _ hf) (h.mapb b es c hf hc), fun b o hf => k.foot _ _ (h.foot _ _ hf),
   fun r a hr => k.ptr r a (h.ptr r a hr), fun r a hr => k.mp r a (h.mp r a hr), fun r n v ho => k.own r n v (h.own r n v ho)⟩

theorem Ext.refl (w : World) (F : Nat → Nat → Prop) (η : List Value) (hp : List AObj) : Ext w F η hp w F η hp :=
  ⟨fun _ _ _ _ h => h, fun _ _ _ _ h => h, fun _ _ h => h, fun _ _ h => h, fun _ _ h => h, fun _ _ _ h => h⟩

/-- Values that lie in one cell. -/
def AV.isCell : AV → Bool
  | .prim v => v.oneCell'
  | .top | .agg _ | .tup _ => false
  | _ => true

theorem Rep.oneCell {x : AV} {v : Value} (h : Rep w F η hp x v) (hx : x.isCell = true) : v.oneCell' = true := by
  cases h <;> first | rfl | exact hx | assumption | (simp [AV.isCell] at hx; done)

/-- A list of values reads as a list of abstract ones. -/
def RepL (w : World) (F : Nat → Nat → Prop) (η : List Value) (hp : List AObj) : List AV → List Value → Prop
  | [], [] => True
  | x :: xs, v :: vs => Rep w F η hp x v ∧ RepL w F η hp xs vs
  | _, _ => False

theorem RepL.length {xs : List AV} {vs : List Value} (h : RepL w F η hp xs vs) : vs.length = xs.length := by
  induction xs generalizing vs with
  | nil => cases vs <;> simp_all [RepL]
  | cons x xs ih => cases vs with
    | nil => simp [RepL] at h
    | cons v vs => simp only [List.length_cons]; rw [ih h.2]

theorem RepL.get {xs : List AV} {vs : List Value} (h : RepL w F η hp xs vs) : ∀ (j : Nat) (x : AV) (v : Value), xs[j]? = some x → vs[j]? = some v → Rep w F η hp x v := by
  induction xs generalizing vs with
  | nil => intro j x v hx; simp at hx
  | cons x xs ih => cases vs with
    | nil => simp [RepL] at h
    | cons v vs =>
      intro j y u hy hu
      cases j with
      | zero => simp at hy hu; subst hy; subst hu; exact h.1
      | succ j => exact ih h.2 j y u (by simpa using hy) (by simpa using hu)

theorem repL_of_get {xs : List AV} {vs : List Value} (hl : vs.length = xs.length) (h : ∀ (j : Nat) (x : AV) (v : Value), xs[j]? = some x → vs[j]? = some v → Rep w F η hp x v) : RepL w F η hp xs vs := by
  induction xs generalizing vs with
  | nil => cases vs with
    | nil => exact True.intro
    | cons v vs => simp at hl
  | cons x xs ih => cases vs with
    | nil => simp at hl
    | cons v vs =>
      exact ⟨h 0 x v rfl rfl, ih (by simpa using hl) fun j y u hy hu => h (j + 1) y u (by simpa using hy) (by simpa using hu)⟩

theorem RepL.ext (h : Ext w F η hp w' F' η' hp') {xs : List AV} {vs : List Value} (hx : RepL w F η hp xs vs) : RepL w' F' η' hp' xs vs :=
  repL_of_get hx.length fun j x v h1 h2 => (hx.get j x v h1 h2).ext h

/-- Nothing that was there has turned; new blocks may have come. -/
structure Same (w w' : World) : Prop where
  os : w'.os = w.os
  tape : w'.tape = w.tape
  output : w'.output = w.output
  size : w.heap.size ≤ w'.heap.size
  block : ∀ k, k < w.heap.size → w'.heap[k]? = w.heap[k]?

/-- Nothing but the blocks of X has turned. -/
structure Keeps (X : Nat → Prop) (w w' : World) : Prop where
  os : w'.os = w.os
  tape : w'.tape = w.tape
  output : w'.output = w.output
  size : w.heap.size ≤ w'.heap.size
  block : ∀ k, k < w.heap.size → ¬ X k → w'.heap[k]? = w.heap[k]?

/-- A slice with no room behind its end is a slice. -/
theorem Rep.of_clip {els : List AV} {v : Value} (h : Rep w F η hp (.clip els) v) : Rep w F η hp (.sl els) v := by
  cases h with
  | clip0 a => exact .sl0 a
  | clip size els b o f hm hl hcell hr => exact .sl size els b o _ f (Nat.le_refl _) hm hl hcell hr

/-- A row that the call owns: no cells at all, or all of a block of its own, whose first cells are known. -/
def RowOk (w : World) (e : TypeId) (size : Nat) (v : Value) (n : Nat) (xs : List Value) : Prop :=
  xs.length = n * size ∧ ((n = 0 ∧ (v = .slice none 0 0 ∨ ∃ ad : Addr, v = .slice (some ad) 0 0)) ∨
    ∃ g cap cur, v = .slice (some ⟨g, 0, none⟩) n cap ∧ 0 < cap ∧ w.heap[g]? = some (.cells cur e (0, 0)) ∧ n ≤ cap ∧ cap ≤ maxLen ∧ cur.size = cap * size ∧ cur.toList.take (n * size) = xs)

theorem blk_slice {a : Addr} {n c : Nat} (h : 0 < c) : blk (.slice (some a) n c) = some a.block := by simp [blk]; omega

theorem RowOk.lt {w : World} {e size n : Nat} {v : Value} {xs : List Value} (h : RowOk w e size v n xs) {b : Nat} (hb : blk v = some b) : ∃ cur, w.heap[b]? = some (.cells cur e (0, 0)) := by
  rcases h.2 with ⟨_, rfl | ⟨ad, rfl⟩⟩ | ⟨g, cap, cur, rfl, h0, h1, _⟩
  · simp [blk] at hb
  · simp [blk] at hb
  · rw [blk_slice h0] at hb; obtain rfl := Option.some.inj hb; exact ⟨cur, h1⟩

theorem RowOk.keep {w w' : World} {e size n : Nat} {v : Value} {xs : List Value} (h : RowOk w e size v n xs) (hb : ∀ b, blk v = some b → b < w.heap.size → w'.heap[b]? = w.heap[b]?) : RowOk w' e size v n xs := by
  refine ⟨h.1, ?_⟩
  rcases h.2 with h1 | ⟨g, cap, cur, rfl, h0, h1, h2⟩
  · exact .inl h1
  · exact .inr ⟨g, cap, cur, rfl, h0, by rw [hb g (blk_slice h0) (Array.getElem?_eq_some_iff.1 h1).1]; exact h1, h2⟩

theorem Same.refl (w : World) : Same w w := ⟨rfl, rfl, rfl, Nat.le_refl _, fun _ _ => rfl⟩
theorem Same.trans {a b c : World} (h : Same a b) (k : Same b c) : Same a c :=
  ⟨k.os.trans h.os, k.tape.trans h.tape, k.output.trans h.output, Nat.le_trans h.size k.size, fun i hi => (k.block i (Nat.lt_of_lt_of_le hi h.size)).trans (h.block i hi)⟩
theorem Same.alloc (w : World) (o : Obj) : Same w (w.alloc o) := ⟨rfl, rfl, rfl, by simp, fun k hk => heap_alloc_old w o hk⟩
theorem Same.drew (w : World) : Same w w.drew := ⟨rfl, rfl, rfl, Nat.le_refl _, fun _ _ => rfl⟩
theorem Same.keeps {w w' : World} (X : Nat → Prop) (h : Same w w') : Keeps X w w' := ⟨h.os, h.tape, h.output, h.size, fun k hk _ => h.block k hk⟩
theorem Keeps.same {w w' : World} {X : Nat → Prop} (h : Keeps X w w') (hX : ∀ b, b < w.heap.size → ¬ X b) : Same w w' := ⟨h.os, h.tape, h.output, h.size, fun k hk => h.block k hk (hX k hk)⟩
theorem Keeps.refl (X : Nat → Prop) (w : World) : Keeps X w w := ⟨rfl, rfl, rfl, Nat.le_refl _, fun _ _ _ => rfl⟩
theorem Keeps.trans {X Z : Nat → Prop} {a b c : World} (h : Keeps X a b) (k : Keeps Z b c) (hZ : ∀ i, i < a.heap.size → Z i → X i) : Keeps X a c :=
  ⟨k.os.trans h.os, k.tape.trans h.tape, k.output.trans h.output, Nat.le_trans h.size k.size,
   fun i hi hx => (k.block i (Nat.lt_of_lt_of_le hi h.size) (fun hz => hx (hZ i hi hz))).trans (h.block i hi hx)⟩
theorem Keeps.cell {X : Nat → Prop} {w w' : World} (h : Keeps X w w') {b o : Nat} (hb : b < w.heap.size) (hx : ¬ X b) : w'.cell? ⟨b, o, none⟩ = w.cell? ⟨b, o, none⟩ := by
  simp [World.cell?, h.block b hb hx]
theorem block_lt {w : World} {b : Nat} {o : Obj} (h : w.heap[b]? = some o) : b < w.heap.size := (Array.getElem?_eq_some_iff.1 h).1

end Go.Proofs.Ytfbncddnakaaiaa
