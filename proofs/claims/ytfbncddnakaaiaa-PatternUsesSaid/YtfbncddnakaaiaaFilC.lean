/- An abstract layer over the model's walk, its third part: what a write to one of the call's own objects does; for every program. -/
import Derived.Test.YtfbncddnakaaiaaFilB
namespace Go.Proofs.Ytfbncddnakaaiaa
open Go
set_option linter.unusedSimpArgs false
set_option linter.unusedVariables false

variable {G : Type} {Γ : Env G} {s : AS G} {a : Act} {w w' : World} {η η' : List Value} {hp : List AObj}

theorem getElem?_set_ne {α : Type} {l : List α} {r r' : Nat} {x : α} (h : r ≠ r') : (l.set r x)[r']? = l[r']? := by
  rw [List.getElem?_set]; simp [h]
theorem getElem?_set_same {α : Type} {l : List α} {r : Nat} {x y : α} (h : l[r]? = some y) : (l.set r x)[r]? = some x := by
  rw [List.getElem?_set]; simp [(List.getElem?_eq_some_iff.1 h).1]

def AObj.foot (k : Nat) : AObj → Prop
  | .row _ size els => k < els.length * size
  | .dead => True
  | _ => False

theorem objF_iff (b k : Nat) : ObjF η hp b k ↔ ∀ (r : Nat) (v : Value), η[r]? = some v → blk v = some b → ∃ o, hp[r]? = some o ∧ o.foot k := by
  constructor
  · intro h r v h1 h2
    have := h r v h1 h2
    cases hr : hp[r]? with
    | none => simp [hr] at this
    | some o => rw [hr] at this; refine ⟨o, rfl, ?_⟩; cases o <;> exact this
  · intro h r v h1 h2
    obtain ⟨o, h3, h4⟩ := h r v h1 h2
    rw [h3]
    cases o <;> exact h4

theorem HeapOk.block (h : HeapOk w (Fok Γ w η hp) η hp) {r : Nat} {o : AObj} {u : Value} {b : Nat} (ho : hp[r]? = some o) (hl : o.live) (hu : η[r]? = some u) (hb : blk u = some b) : b < w.heap.size := by
  have hob := h.obj r o u ho hu
  cases o with
  | dead => exact hl.elim
  | box cs => obtain ⟨b', vs, T, rfl, h1, _⟩ := hob; simp only [blk, Option.some.injEq] at hb; subst hb; exact block_lt h1
  | row e size els =>
    obtain ⟨_, xs, h1, _⟩ := hob
    obtain ⟨cur, h5⟩ := h1.lt hb
    exact block_lt h5
  | mapo es => obtain ⟨b', en, c, rfl, h1, _⟩ := hob; simp only [blk, Option.some.injEq] at hb; subst hb; exact block_lt h1

/-- One object turns, in its own block or into a new one; all that reads reads on. -/
theorem Rel.change (hok : Γ.Ok) (h : Rel Γ s a w η) {r : Nat} {o o' : AObj} {v v' : Value} (hr : s.hp[r]? = some o) (hlive : o.live) (hv : η[r]? = some v)
    (hk : Keeps (fun k => blk v = some k) w w') (hv' : ∀ b, blk v' = some b → blk v = some b ∨ w.heap.size ≤ b)
    (hfoot : ∀ k, o.foot k → o'.foot k)
    (hcell : ∀ b k u, blk v = some b → o.foot k → w.cell? ⟨b, k, none⟩ = some u → w'.cell? ⟨b, k, none⟩ = some u)
    (hmapb : ∀ b es c, blk v = some b → o.foot 0 → w.heap[b]? = some (.map es c) → False)
    (hown : ∀ n u, OwnOk η s.hp r n u → OwnOk (η.set r v') (s.hp.set r o') r n u)
    (hptr : ∀ x, v = .pointer x → v' = v) (hmp : ∀ x, v = .map x → v' = v)
    (hdefer : ∀ b d, blk v = some b → w.heap[b]? = some (.deferred d) → False)
    (ho' : Ext w (Fok Γ w η s.hp) η s.hp w' (Fok Γ w' (η.set r v') (s.hp.set r o')) (η.set r v') (s.hp.set r o') → ObjOk w' (Fok Γ w' (η.set r v') (s.hp.set r o')) (η.set r v') (s.hp.set r o') o' v') :
    Rel Γ { s with hp := s.hp.set r o' } a w' (η.set r v') := by
  have hob : ∀ b k, Fok Γ w η s.hp b k → blk v = some b → o.foot k := fun b k hf hb => by
    obtain ⟨o1, h1, h2⟩ := (objF_iff b k).1 hf.2.2.2 r v hv hb
    rw [hr] at h1
    obtain rfl := Option.some.inj h1
    exact h2
  have he : Ext w (Fok Γ w η s.hp) η s.hp w' (Fok Γ w' (η.set r v') (s.hp.set r o')) (η.set r v') (s.hp.set r o') := by
    refine ⟨fun b k u hf hc => ?_, fun b es c hf hc => ?_, fun b k hf => ?_, fun r1 x h1 => ?_, fun r1 x h1 => ?_, fun r1 n u h1 => ?_⟩
    · by_cases hb : blk v = some b
      · exact hcell b k u hb (hob b k hf hb) hc
      · rw [hk.cell (fok_lt hf) hb]; exact hc
    · by_cases hb : blk v = some b
      · exact (hmapb b es c hb (hob b 0 hf hb) hc).elim
      · rw [hk.block b (fok_lt hf) hb]; exact hc
    · refine ⟨hf.1, Nat.lt_of_lt_of_le hf.2.1 hk.size, hf.2.2.1, (objF_iff b k).2 fun r1 u h1 hb => ?_⟩
      by_cases hne : r = r1
      · subst hne
        rw [getElem?_set_same hv] at h1
        obtain rfl := Option.some.inj h1
        refine ⟨o', getElem?_set_same hr, ?_⟩
        rcases hv' b hb with h2 | h2
        · exact hfoot k (hob b k hf h2)
        · have := fok_lt hf; omega
      · rw [getElem?_set_ne hne] at h1 ⊢
        exact (objF_iff b k).1 hf.2.2.2 r1 u h1 hb
    · by_cases hne : r = r1
      · subst hne
        rw [hv] at h1
        obtain rfl := Option.some.inj h1
        rw [getElem?_set_same hv, hptr _ rfl]
      · rw [getElem?_set_ne hne]; exact h1
    · by_cases hne : r = r1
      · subst hne
        rw [hv] at h1
        obtain rfl := Option.some.inj h1
        rw [getElem?_set_same hv, hmp _ rfl]
      · rw [getElem?_set_ne hne]; exact h1
    · by_cases hne : r = r1
      · subst hne; exact hown n u h1
      · unfold OwnOk at h1 ⊢
        rw [getElem?_set_ne hne, getElem?_set_ne hne]; exact h1
  refine ⟨h.nt, fun t => (h.tmps t).ext he, ⟨by simp [h.heap.len], fun r1 o1 u h1 h2 => ?_, fun r1 r2 o1 o2 v1 v2 b hne h1 h2 l1 l2 e1 e2 hb => ?_⟩, fun r1 o1 u b h1 hl h2 hb => ?_, ?_, ?_, ?_, h.ext.trans he⟩
  · simp only at h1
    by_cases hne : r = r1
    · subst hne
      rw [getElem?_set_same hr] at h1
      rw [getElem?_set_same hv] at h2
      obtain rfl := Option.some.inj h1
      obtain rfl := Option.some.inj h2
      exact ho' he
    · rw [getElem?_set_ne hne] at h1 h2
      by_cases hl1 : o1.live
      · exact (h.heap.obj r1 o1 u h1 h2).ext he hk.size fun b hb hlt => hk.block b hlt fun hb' => h.heap.sep r1 r o1 o u v b (Ne.symm hne) h1 hr hl1 hlive h2 hv hb hb'
      · cases o1 <;> first | exact True.intro | exact (hl1 True.intro).elim
  · simp only at h1 h2
    by_cases n1 : r = r1
    · subst n1
      rw [getElem?_set_same hv] at e1
      obtain rfl := Option.some.inj e1
      rw [getElem?_set_ne hne] at h2 e2
      intro hb'
      rcases hv' b hb with h3 | h3
      · exact h.heap.sep r r2 o o2 v v2 b hne hr h2 hlive l2 hv e2 h3 hb'
      · have := h.heap.block h2 l2 e2 hb'; omega
    · rw [getElem?_set_ne n1] at h1 e1
      by_cases n2 : r = r2
      · subst n2
        rw [getElem?_set_same hv] at e2
        obtain rfl := Option.some.inj e2
        intro hb'
        rcases hv' b hb' with h3 | h3
        · exact h.heap.sep r r1 o o1 v v1 b (fun e => n1 e) hr h1 hlive l1 hv e1 h3 hb
        · have := h.heap.block h1 l1 e1 hb; omega
      · rw [getElem?_set_ne n2] at h2 e2
        exact h.heap.sep r1 r2 o1 o2 v1 v2 b hne h1 h2 l1 l2 e1 e2 hb
  · simp only at h1
    by_cases hne : r = r1
    · subst hne
      rw [getElem?_set_same hv] at h2
      obtain rfl := Option.some.inj h2
      rcases hv' b hb with h3 | h3
      · exact h.mine r o v b hr hlive hv h3
      · exact ⟨.inl (Nat.le_trans h.keeps.size h3), fun o hx => by have := hok.no hx; have := h.keeps.size; omega⟩
    · rw [getElem?_set_ne hne] at h1 h2
      exact h.mine r1 o1 u b h1 hl h2 hb
  · refine h.keeps.trans hk fun b hb hbk => ?_
    rcases (h.mine r o v b hr hlive hv hbk).1 with h1 | h1
    · omega
    · exact .inr h1
  · refine hok.stable _ _ _ (fun b hb => hk.block b (Nat.lt_of_lt_of_le (hok.x b hb) h.keeps.size) fun hbk => ?_) hk.size h.inv
    exact (h.mine r o v b hr hlive hv hbk).2 0 (.inl hb)
  · exact hk.marks h.marks fun b hbk => .inr fun d hd => hdefer b d hbk hd

/-- A store of a run of cells into a box. -/
def setCells (cs : List AV) (off : Nat) : List AV → List AV
  | [] => cs
  | x :: xs => setCells (cs.set off x) (off + 1) xs

theorem length_setCells (xs : List AV) : ∀ (cs : List AV) (off : Nat), (setCells cs off xs).length = cs.length := by
  induction xs with
  | nil => intro cs off; rfl
  | cons x xs ih => intro cs off; simp [setCells, ih]

/-- One cell of a box is written. -/
theorem Rel.write (hok : Γ.Ok) (h : Rel Γ s a w η) {r off b : Nat} {cs : List AV} {x : AV} {v : Value} (hr : s.hp[r]? = some (.box cs)) (hv : η[r]? = some (.pointer (some ⟨b, 0, none⟩)))
    (hoff : off < cs.length) (h1 : v.oneCell' = true) (hx : Rep w (Fok Γ w η s.hp) η s.hp x v) :
    Rel Γ { s with hp := s.hp.set r (.box (cs.set off x)) } a (w.setCell ⟨b, off, none⟩ v) η ∧ w.frozen? ⟨b, off, none⟩ = false ∧ ∃ u, w.cell? ⟨b, off, none⟩ = some u := by
  have hob := h.heap.obj r _ _ hr hv
  obtain ⟨b', vs, T, he, hg, hsz, hc⟩ := hob
  simp only [Value.pointer.injEq, Option.some.injEq, Addr.mk.injEq, and_true] at he
  subst he
  have hset : (w.setCell ⟨b, off, none⟩ v).heap[b]? = some (.cells (vs.setIfInBounds off v) T (0, 0)) := Go.heap_setCell_same w b off vs T v hg
  have hη : η.set r (.pointer (some ⟨b, 0, none⟩)) = η := by
    apply List.ext_getElem?
    intro i
    by_cases hi : r = i
    · subst hi; rw [getElem?_set_same hv, hv]
    · rw [getElem?_set_ne hi]
  refine ⟨?_, frozen_of_row w b off vs T hg, ?_⟩
  · have := Rel.change (w' := w.setCell ⟨b, off, none⟩ v) (o' := .box (cs.set off x)) (v' := .pointer (some ⟨b, 0, none⟩)) hok h hr True.intro hv
      ⟨rfl, rfl, rfl, by simp [World.setCell], fun k hk hb => Go.heap_setCell_other w _ k v (by intro e; exact hb (by rw [e]; rfl))⟩
      (fun c hc => .inl hc) (fun k hk => hk.elim) (fun _ _ _ _ hk => hk.elim) (fun _ _ _ _ hk => hk.elim)
      (fun n u ho => by simp [OwnOk, hr] at ho)
      (fun _ _ => rfl) (fun _ hx => by cases hx)
      (fun c d hb hd => by simp only [blk, Option.some.injEq] at hb; subst hb; rw [hg] at hd; cases hd)
      (fun he => ⟨b, vs.setIfInBounds off v, T, rfl, hset, by simp [hsz], fun j y u hy hu => by
        by_cases hj : off = j
        · subst hj
          have hlt : off < vs.size := by rw [hsz]; exact hoff
          have e1 : (cs.set off x)[off]? = some x := by rw [List.getElem?_set]; simp [hoff]
          have e2 : (vs.setIfInBounds off v)[off]? = some v := by rw [Array.getElem?_setIfInBounds]; simp [hlt]
          rw [e1] at hy
          rw [e2] at hu
          obtain rfl := Option.some.inj hy
          obtain rfl := Option.some.inj hu
          exact ⟨hx.ext he, h1⟩
        · rw [getElem?_set_ne hj] at hy
          have e2 : (vs.setIfInBounds off v)[j]? = vs[j]? := by rw [Array.getElem?_setIfInBounds]; simp [hj]
          rw [e2] at hu
          exact ⟨(hc j y u hy hu).1.ext he, (hc j y u hy hu).2⟩⟩)
    rw [hη] at this
    exact this
  · rw [cell_of_row w b off vs T (0, 0) hg]
    exact ⟨vs[off]'(by rw [hsz]; exact hoff), by simp [hsz, hoff]⟩

end Go.Proofs.Ytfbncddnakaaiaa
