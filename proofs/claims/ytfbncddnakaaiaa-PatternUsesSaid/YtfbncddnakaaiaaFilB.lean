/- An abstract layer over the model's walk, its second part: the relation between an abstract state and a frame with its world, and what each kind of step does to it; for every program. -/
import Derived.Test.YtfbncddnakaaiaaFilA
namespace Go.Proofs.Ytfbncddnakaaiaa
open Go
set_option linter.unusedSimpArgs false
set_option linter.unusedVariables false

/-- What a walk is done in: the program, the world at its beginning, the cells that may be read, the blocks that callees which we do not know may turn (X), the blocks of the caller's own objects (Y), what is known of X, the number of slots. -/
structure Env (G : Type) where
  P : Program
  w0 : World
  F0 : Nat → Nat → Prop
  X : Nat → Prop
  Y : Nat → Prop
  Inv : G → World → Prop
  nt : Nat
  rnd : Option Nat
  m0 : Nat
  Z : Nat → Nat → Prop
  η0 : List Value
  hp0 : List AObj

/-- What the call leaves alone: blocks and cells. -/
def Env.No {G : Type} (Γ : Env G) (b o : Nat) : Prop := Γ.X b ∨ Γ.Z b o

structure Env.Ok {G : Type} (Γ : Env G) : Prop where
  l0 : Γ.η0.length = Γ.hp0.length
  x : ∀ b, Γ.X b → b < Γ.w0.heap.size
  y : ∀ b, Γ.Y b → b < Γ.w0.heap.size
  stable : ∀ g w w', (∀ b, Γ.X b → w'.heap[b]? = w.heap[b]?) → w.heap.size ≤ w'.heap.size → Γ.Inv g w → Γ.Inv g w'
  z : ∀ b o, Γ.Z b o → b < Γ.w0.heap.size

theorem Env.Ok.no {G : Type} {Γ : Env G} (h : Γ.Ok) {b o : Nat} (hb : Γ.No b o) : b < Γ.w0.heap.size := hb.elim (h.x b) (h.z b o)

structure AS (G : Type) where
  tmps : Nat → AV
  hp : List AObj
  g : G

/-- The cells of the call's own blocks that may be read as data: those of a row that hold elements. -/
def ObjF (η : List Value) (hp : List AObj) (b o : Nat) : Prop :=
  ∀ (r : Nat) (v : Value), η[r]? = some v → blk v = some b →
    match hp[r]? with
    | some (.row _ size els) => o < els.length * size
    | some .dead => True
    | _ => False

def Fok {G : Type} (Γ : Env G) (w : World) (η : List Value) (hp : List AObj) (b o : Nat) : Prop :=
  (Γ.F0 b o ∨ Γ.w0.heap.size ≤ b ∨ Γ.Y b) ∧ b < w.heap.size ∧ ¬ Γ.No b o ∧ ObjF η hp b o

def ObjOk (w : World) (F : Nat → Nat → Prop) (η : List Value) (hp : List AObj) : AObj → Value → Prop
  | .dead, _ => True
  | .box cs, v => ∃ (b : Nat) (vs : Array Value) (T : TypeId), v = .pointer (some ⟨b, 0, none⟩) ∧ w.heap[b]? = some (.cells vs T (0, 0)) ∧ vs.size = cs.length ∧
      ∀ (j : Nat) (x : AV) (u : Value), cs[j]? = some x → vs[j]? = some u → Rep w F η hp x u ∧ u.oneCell' = true
  | .row e size els, v => 0 < size ∧ ∃ xs : List Value, RowOk w e size v els.length xs ∧
      ∀ (i : Nat) (el : AV), els[i]? = some el → el.cells.length = size ∧
        ∀ (j : Nat) (x : AV), el.cells[j]? = some x → ∃ u, xs[i * size + j]? = some u ∧ Rep w F [] [] x u ∧ u.oneCell' = true
  | .mapo es, v => ∃ (b : Nat) (en : Array MapEntry) (c : Nat), v = .map (some b) ∧ w.heap[b]? = some (.map en c) ∧ mapPairs en = imap es

structure HeapOk (w : World) (F : Nat → Nat → Prop) (η : List Value) (hp : List AObj) : Prop where
  len : η.length = hp.length
  obj : ∀ (r : Nat) (o : AObj) (v : Value), hp[r]? = some o → η[r]? = some v → ObjOk w F η hp o v
  sep : ∀ (r r' : Nat) (o o' : AObj) (v v' : Value) (b : Nat), r ≠ r' → hp[r]? = some o → hp[r']? = some o' → o.live → o'.live →
    η[r]? = some v → η[r']? = some v' → blk v = some b → blk v' ≠ some b

/-- Where the call's own blocks lie. -/
def Mine {G : Type} (Γ : Env G) (η : List Value) (hp : List AObj) : Prop :=
  ∀ (r : Nat) (o : AObj) (v : Value) (b : Nat), hp[r]? = some o → o.live → η[r]? = some v → blk v = some b → (Γ.w0.heap.size ≤ b ∨ Γ.Y b) ∧ ∀ o, ¬ Γ.No b o

/-- The marks among the deferred calls that a range over a function leaves. -/
structure Marks (N : Nat) (ds : List Deferred) (w : World) : Prop where
  all : ∀ d, d ∈ ds → ∃ r, d.target = .collected r ∧ w.heap[r]? = some (.deferred (some [])) ∧ N ≤ r
  apart : ds.Pairwise fun d d' => d.target ≠ d'.target

structure Rel {G : Type} (Γ : Env G) (s : AS G) (a : Act) (w : World) (η : List Value) : Prop where
  nt : a.tmps.size = Γ.nt
  tmps : ∀ t, Rep w (Fok Γ w η s.hp) η s.hp (s.tmps t) (a.tmps.getD t undef)
  heap : HeapOk w (Fok Γ w η s.hp) η s.hp
  mine : Mine Γ η s.hp
  keeps : Keeps (fun b => Γ.X b ∨ Γ.Y b) Γ.w0 w
  inv : Γ.Inv s.g w
  marks : Marks Γ.m0 a.defers w
  ext : Ext Γ.w0 Γ.F0 Γ.η0 Γ.hp0 w (Fok Γ w η s.hp) η s.hp

def upd (f : Nat → AV) (t : Nat) (x : AV) : Nat → AV := fun u => if u = t then x else f u
theorem upd_eq (f : Nat → AV) (t : Nat) (x : AV) (u : Nat) : upd f t x u = if u = t then x else f u := rfl

def AS.put {G : Type} (s : AS G) (d : Option Nat) (x : AV) : AS G :=
  match d with
  | some d => { s with tmps := upd s.tmps d x }
  | none => s

variable {G : Type} {Γ : Env G} {s : AS G} {a : Act} {w w' : World} {η η' : List Value} {hp : List AObj}

theorem Keeps.marks {X : Nat → Prop} {N : Nat} {ds : List Deferred} (h : Marks N ds w) (k : Keeps X w w') (hX : ∀ b, X b → b < N ∨ ∀ d, w.heap[b]? ≠ some (.deferred d)) : Marks N ds w' := by
  refine ⟨fun d hd => ?_, h.apart⟩
  obtain ⟨r, h1, h2, h3⟩ := h.all d hd
  refine ⟨r, h1, ?_, h3⟩
  rw [k.block r (block_lt h2)]
  · exact h2
  · intro hx
    rcases hX r hx with h4 | h4
    · omega
    · exact h4 _ h2

/-- A step that turns nothing keeps all that reads. -/
theorem ext_same (hs : Same w w') (hF : ∀ b o, Fok Γ w η hp b o → b < w.heap.size) : Ext w (Fok Γ w η hp) η hp w' (Fok Γ w' η hp) η hp where
  cell b o v hf hc := by rw [World.cell?_of_block (hs.block b (hF b o hf))]; exact hc
  mapb b es c hf hc := by rw [hs.block b (hF b 0 hf)]; exact hc
  foot b o hf := ⟨hf.1, Nat.lt_of_lt_of_le hf.2.1 hs.size, hf.2.2⟩
  ptr _ _ h := h
  mp _ _ h := h
  own _ _ _ h := h

theorem fok_lt {b o : Nat} (h : Fok Γ w η hp b o) : b < w.heap.size := h.2.1

/-- An object reads on where all readings are kept and its own block lies as it lay. -/
theorem ObjOk.ext {F F' : Nat → Nat → Prop} {hp' : List AObj} {o : AObj} {v : Value} (h : ObjOk w F η hp o v) (he : Ext w F η hp w' F' η' hp') (hsz : w.heap.size ≤ w'.heap.size)
    (hb : ∀ b, blk v = some b → b < w.heap.size → w'.heap[b]? = w.heap[b]?) : ObjOk w' F' η' hp' o v := by
  cases o with
  | dead => exact True.intro
  | box cs =>
    obtain ⟨b, vs, T, rfl, h1, h2, h3⟩ := h
    exact ⟨b, vs, T, rfl, by rw [hb b rfl (block_lt h1)]; exact h1, h2, fun j x u hx hu => ⟨(h3 j x u hx hu).1.ext he, (h3 j x u hx hu).2⟩⟩
  | row e size els =>
    obtain ⟨h0, xs, h1, h2⟩ := h
    refine ⟨h0, xs, h1.keep hb, fun i el hi => ⟨(h2 i el hi).1, fun j x hj => ?_⟩⟩
    · obtain ⟨u, h3, h4, h5⟩ := (h2 i el hi).2 j x hj
      exact ⟨u, h3, h4.ext he.ext0.ext, h5⟩
  | mapo es =>
    obtain ⟨b, en, c, rfl, h1, h2⟩ := h
    exact ⟨b, en, c, rfl, by rw [hb b rfl (block_lt h1)]; exact h1, h2⟩

theorem HeapOk.same (h : HeapOk w (Fok Γ w η hp) η hp) (hs : Same w w') : HeapOk w' (Fok Γ w' η hp) η hp :=
  ⟨h.len, fun r o v h1 h2 => (h.obj r o v h1 h2).ext (ext_same hs fun _ _ => fok_lt) hs.size fun b _ hlt => hs.block b hlt, h.sep⟩

theorem Keeps.addSame {X : Nat → Prop} {w0 : World} (h : Keeps X w0 w) (hs : Same w w') : Keeps X w0 w' :=
  h.trans (hs.keeps fun _ => False) fun _ _ hf => hf.elim

theorem Rel.same (hok : Γ.Ok) (h : Rel Γ s a w η) (hs : Same w w') : Rel Γ s a w' η where
  nt := h.nt
  tmps t := (h.tmps t).ext (ext_same hs fun _ _ => fok_lt)
  heap := h.heap.same hs
  mine := h.mine
  keeps := h.keeps.addSame hs
  inv := hok.stable _ _ _ (fun b hb => hs.block b (Nat.lt_of_lt_of_le (hok.x b hb) h.keeps.size)) hs.size h.inv
  marks := (hs.keeps fun _ => False).marks h.marks fun _ hf => hf.elim
  ext := h.ext.trans (ext_same hs fun _ _ => fok_lt)

theorem Rel.put (h : Rel Γ s a w η) {d : Option Nat} {x : AV} {v : Value} (hd : ∀ t, d = some t → t < Γ.nt) (hr : Rep w (Fok Γ w η s.hp) η s.hp x v) : Rel Γ (s.put d x) (a.put d v) w η := by
  cases d with
  | none => exact h
  | some d =>
    refine ⟨by simpa [Act.put] using h.nt, fun t => ?_, h.heap, h.mine, h.keeps, h.inv, h.marks, h.ext⟩
    show Rep w _ η s.hp (upd s.tmps d x t) ((a.tmps.setIfInBounds d v).getD t undef)
    by_cases htd : t = d
    · subst htd
      have hlt : t < a.tmps.size := by rw [h.nt]; exact hd t rfl
      have e : (a.tmps.setIfInBounds t v).getD t undef = v := by simp [hlt]
      rw [upd_eq, if_pos rfl, e]
      exact hr
    · have e : (a.tmps.setIfInBounds d v).getD t undef = a.tmps.getD t undef := by
        simp only [Array.getD_eq_getD_getElem?]
        rw [Array.getElem?_setIfInBounds_ne (Ne.symm htd)]
      rw [upd_eq, if_neg htd, e]
      exact h.tmps t

/-- A new object of the call's own, in a new block. -/
def AS.add (s : AS G) (o : AObj) : AS G := { s with hp := s.hp ++ [o] }

theorem getElem?_snoc_lt {α : Type} {l : List α} {x y : α} {r : Nat} (h : l[r]? = some y) : (l ++ [x])[r]? = some y := by
  rw [List.getElem?_append_left (List.getElem?_eq_some_iff.1 h).1]; exact h

theorem getElem?_snoc {α : Type} {l : List α} {x y : α} {r : Nat} (h : (l ++ [x])[r]? = some y) : l[r]? = some y ∨ (r = l.length ∧ y = x) := by
  rcases Nat.lt_trichotomy r l.length with h1 | h1 | h1
  · rw [List.getElem?_append_left h1] at h; exact .inl h
  · subst h1; simp at h; exact .inr ⟨rfl, h.symm⟩
  · rw [List.getElem?_append_right (by omega)] at h
    have : r - l.length ≠ 0 := by omega
    cases hk : r - l.length with
    | zero => omega
    | succ k => rw [hk] at h; simp at h

theorem ObjF.snoc {o : AObj} {v : Value} {b k : Nat} (hl : η.length = hp.length) (h : ObjF η hp b k) (hv : blk v = some b → False) : ObjF (η ++ [v]) (hp ++ [o]) b k := by
  intro r u hu hb
  rcases getElem?_snoc hu with h1 | ⟨rfl, rfl⟩
  · have := h r u h1 hb
    have hr : r < hp.length := by rw [← hl]; exact (List.getElem?_eq_some_iff.1 h1).1
    rw [List.getElem?_append_left hr]
    exact this
  · exact (hv hb).elim

theorem OwnOk.snoc {o : AObj} {v u : Value} {r n : Nat} (h : OwnOk η hp r n u) : OwnOk (η ++ [v]) (hp ++ [o]) r n u := by
  unfold OwnOk at h ⊢
  cases hr : hp[r]? with
  | none => simp [hr] at h
  | some x =>
    rw [getElem?_snoc_lt hr]
    rw [hr] at h
    cases x with
    | row e size els => exact ⟨h.1, fun hn => getElem?_snoc_lt (h.2 hn)⟩
    | dead => exact True.intro
    | box cs => exact h
    | mapo es => exact h

theorem ext_new {o : AObj} {v : Value} (hl : η.length = hp.length) (hs : Same w w') (hv : ∀ b, blk v = some b → w.heap.size ≤ b) :
    Ext w (Fok Γ w η hp) η hp w' (Fok Γ w' (η ++ [v]) (hp ++ [o])) (η ++ [v]) (hp ++ [o]) where
  cell b k u hf hc := by rw [World.cell?_of_block (hs.block b (fok_lt hf))]; exact hc
  mapb b es c hf hc := by rw [hs.block b (fok_lt hf)]; exact hc
  foot b k hf := ⟨hf.1, Nat.lt_of_lt_of_le hf.2.1 hs.size, hf.2.2.1, hf.2.2.2.snoc hl fun hb => by have := hv b hb; have := fok_lt hf; omega⟩
  ptr _ _ h := getElem?_snoc_lt h
  mp _ _ h := getElem?_snoc_lt h
  own _ _ _ h := h.snoc

/-- A new object: its block is new; all that reads reads on. -/
theorem Rel.add (hok : Γ.Ok) (h : Rel Γ s a w η) {o : AObj} {v : Value} (hs : Same w w') (hv : ∀ b, blk v = some b → w.heap.size ≤ b)
    (ho : ObjOk w' (Fok Γ w' (η ++ [v]) (s.hp ++ [o])) (η ++ [v]) (s.hp ++ [o]) o v) : Rel Γ (s.add o) a w' (η ++ [v]) := by
  have he := ext_new (Γ := Γ) (o := o) (v := v) h.heap.len hs hv
  have hsz := h.keeps.size
  have hblk : ∀ (r : Nat) (u : Value) (b : Nat), η[r]? = some u → blk u = some b → b < w.heap.size ∨ ¬ ∃ o : AObj, s.hp[r]? = some o ∧ o.live := by
    intro r u b hu hb
    by_cases hlt : b < w.heap.size
    · exact .inl hlt
    · refine .inr fun ⟨o', ho', hli⟩ => hlt ?_
      have hob := h.heap.obj r o' u ho' hu
      cases o' with
      | dead => exact hli.elim
      | box cs => obtain ⟨b', vs, T, rfl, h1, _⟩ := hob; simp only [blk, Option.some.injEq] at hb; subst hb; exact block_lt h1
      | row e size els =>
        obtain ⟨_, xs, h1, _⟩ := hob
        obtain ⟨cur, h5⟩ := h1.lt hb
        exact block_lt h5
      | mapo es => obtain ⟨b', en, c, rfl, h1, _⟩ := hob; simp only [blk, Option.some.injEq] at hb; subst hb; exact block_lt h1
  refine ⟨h.nt, fun t => (h.tmps t).ext he, ⟨by simp [AS.add, h.heap.len], ?_, ?_⟩, ?_, h.keeps.addSame hs,
    hok.stable _ _ _ (fun b hb => hs.block b (Nat.lt_of_lt_of_le (hok.x b hb) h.keeps.size)) hs.size h.inv, (hs.keeps fun _ => False).marks h.marks fun _ hf => hf.elim, h.ext.trans he⟩
  · intro r o' u h1 h2
    rcases getElem?_snoc h1 with h3 | ⟨rfl, rfl⟩
    · rcases getElem?_snoc h2 with h4 | ⟨rfl, rfl⟩
      · exact (h.heap.obj r o' u h3 h4).ext he hs.size fun b _ hlt => hs.block b hlt
      · have := (List.getElem?_eq_some_iff.1 h3).1; have := h.heap.len; omega
    · have : (η ++ [v])[s.hp.length]? = some v := by rw [← h.heap.len]; simp
      rw [this] at h2
      obtain rfl := Option.some.inj h2
      exact ho
  · intro r r' o1 o2 v1 v2 b hne h1 h2 l1 l2 e1 e2 hb
    rcases getElem?_snoc h1 with h3 | ⟨rfl, rfl⟩ <;> rcases getElem?_snoc h2 with h4 | ⟨rfl, rfl⟩
    · have hr : r < η.length := by rw [h.heap.len]; exact (List.getElem?_eq_some_iff.1 h3).1
      have hr' : r' < η.length := by rw [h.heap.len]; exact (List.getElem?_eq_some_iff.1 h4).1
      rw [List.getElem?_append_left hr] at e1
      rw [List.getElem?_append_left hr'] at e2
      exact h.heap.sep r r' o1 o2 v1 v2 b hne h3 h4 l1 l2 e1 e2 hb
    · have hr : r < η.length := by rw [h.heap.len]; exact (List.getElem?_eq_some_iff.1 h3).1
      rw [List.getElem?_append_left hr] at e1
      have : (η ++ [v])[s.hp.length]? = some v := by rw [← h.heap.len]; simp
      rw [this] at e2
      obtain rfl := Option.some.inj e2
      intro hb'
      have := hv b hb'
      rcases hblk r v1 b e1 hb with h5 | h5
      · omega
      · exact h5 ⟨o1, h3, l1⟩
    · have hr' : r' < η.length := by rw [h.heap.len]; exact (List.getElem?_eq_some_iff.1 h4).1
      rw [List.getElem?_append_left hr'] at e2
      have : (η ++ [v])[s.hp.length]? = some v := by rw [← h.heap.len]; simp
      rw [this] at e1
      obtain rfl := Option.some.inj e1
      intro hb'
      have := hv b hb
      rcases hblk r' v2 b e2 hb' with h5 | h5
      · omega
      · exact h5 ⟨o2, h4, l2⟩
    · exact (hne rfl).elim
  · intro r o' u b h1 hli h2 hb
    rcases getElem?_snoc h1 with h3 | ⟨rfl, rfl⟩
    · have hr : r < η.length := by rw [h.heap.len]; exact (List.getElem?_eq_some_iff.1 h3).1
      rw [List.getElem?_append_left hr] at h2
      exact h.mine r o' u b h3 hli h2 hb
    · have : (η ++ [v])[s.hp.length]? = some v := by rw [← h.heap.len]; simp
      rw [this] at h2
      obtain rfl := Option.some.inj h2
      have h5 := hv b hb
      exact ⟨.inl (Nat.le_trans hsz h5), fun o hx => by have := hok.no hx; omega⟩

end Go.Proofs.Ytfbncddnakaaiaa
