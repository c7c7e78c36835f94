/- An abstract layer over the model's walk, its fifth part: slices as lists of cells; append; for every program. -/
import Derived.Test.YtfbncddnakaaiaaFilD
namespace Go.Proofs.Ytfbncddnakaaiaa
open Go
set_option linter.unusedSimpArgs false
set_option linter.unusedVariables false

variable {G : Type} {Γ : Env G} {s : AS G} {a : Act} {w w' : World} {η : List Value} {hp : List AObj} {F : Nat → Nat → Prop} {P : Program}

theorem fok_row (h : HeapOk w (Fok Γ w η hp) η hp) (hm : Mine Γ η hp) {r n e size : Nat} {els : List AV} {v : Value} (hr : hp[r]? = some (.row e size els)) (ho : OwnOk η hp r n v) (hn : n = els.length) :
    Rep w (Fok Γ w η hp) η hp (.sl els) v := by
  have hv : η[r]? = some v := by
    unfold OwnOk at ho
    rw [hr] at ho
    exact ho.2 hn
  exact Rel.row_sl (fun b k ⟨u, h1, h2⟩ hk => fok_own h hm hr h1 h2 hk) (h.obj r _ v hr hv) hv

/-- Whatever is a slice of data reads as one. -/
theorem asSl_rep (h : HeapOk w (Fok Γ w η hp) η hp) (hm : Mine Γ η hp) {x : AV} {els : List AV} {v : Value} (hx : Rep w (Fok Γ w η hp) η hp x v) (he : x.asSl hp = some els) :
    Rep w (Fok Γ w η hp) η hp (.sl els) v := by
  cases x with
  | sl l => simp only [AV.asSl, Option.some.injEq] at he; subst he; exact hx
  | clip l => simp only [AV.asSl, Option.some.injEq] at he; subst he; exact hx.of_clip
  | prim u =>
    have : u = v := by cases hx; rfl
    subst this
    unfold AV.asSl at he
    split at he <;> try (simp at he; done)
    · rename_i h1; cases h1
    · rename_i h1; cases h1
    · rename_i h1
      simp only [AV.prim.injEq] at h1
      subst h1
      obtain rfl := Option.some.inj he
      exact .sl0 _
    · rename_i h1; cases h1
  | own r n =>
    have ho : OwnOk η hp r n v := by cases hx; assumption
    simp only [AV.asSl] at he
    cases hr : hp[r]? with
    | none => simp [hr] at he
    | some o =>
      cases o with
      | row e size l =>
        simp only [hr] at he
        split at he
        · rename_i hn
          obtain rfl := Option.some.inj he
          exact fok_row h hm hr ho hn
        · cases he
      | _ => simp [hr] at he
  | _ => simp [AV.asSl] at he

/-- The cells of a slice, one behind the other. -/
structure SlCells (w : World) (F : Nat → Nat → Prop) (size : Nat) (els : List AV) (v : Value) (news : List Value) : Prop where
  shape : (∃ ad : Option Addr, v = .slice ad 0 0 ∧ els = []) ∨ ∃ b o c, v = .slice (some ⟨b, o, none⟩) els.length c ∧ els.length ≤ c ∧ c ≤ maxLen ∧ ∀ (k : Nat) (u : Value), news[k]? = some u → w.cell? ⟨b, o + k, none⟩ = some u
  len : news.length = els.length * size
  one : ∀ u : Value, u ∈ news → u.oneCell' = true
  rep : ∀ (i : Nat) (e : AV) (j : Nat) (x : AV), els[i]? = some e → e.cells[j]? = some x → ∃ u, news[i * size + j]? = some u ∧ Rep w F [] [] x u ∧ u.oneCell' = true

theorem Rep.slCells {size : Nat} {els : List AV} {v : Value} (h : Rep w F η hp (.sl els) v) (hsz : 0 < size) (hl : ∀ e : AV, e ∈ els → e.cells.length = size) : ∃ news, SlCells w F size els v news := by
  cases h with
  | sl0 a => exact ⟨[], .inl ⟨a, rfl, rfl⟩, by simp, (fun u hu => by cases hu), fun i e j x hi => by simp at hi⟩
  | sl size' els b o c f hc hm hl' hcell hr =>
    have hdec : ∀ k, k < els.length * size → k / size < els.length ∧ k % size < size ∧ k = k / size * size + k % size := fun k hk =>
      ⟨Nat.div_lt_of_lt_mul (by rw [Nat.mul_comm]; exact hk), Nat.mod_lt _ hsz, by rw [Nat.mul_comm]; exact (Nat.div_add_mod k size).symm⟩
    have hget : ∀ k, k < els.length * size → w.cell? ⟨b, o + k, none⟩ = some (f (k / size) (k % size)) ∧ (f (k / size) (k % size)).oneCell' = true := fun k hk => by
      obtain ⟨h1, h2, h3⟩ := hdec k hk
      have he : els[k / size]? = some els[k / size] := by simp [h1]
      have hlen := hl _ (List.getElem_mem h1)
      have hj : els[k / size].cells[k % size]? = some (els[k / size].cells[k % size]'(by rw [hlen]; exact h2)) := by simp [hlen, h2]
      have hs' : size' = size := by rw [← hl' _ _ he]; exact hlen
      have := hcell _ _ _ _ he hj
      rw [hs', Nat.add_assoc, ← h3] at this
      exact ⟨this.1, this.2.2⟩
    refine ⟨(List.range (els.length * size)).map fun k => f (k / size) (k % size), .inr ⟨b, o, c, rfl, hc, hm, fun k u hk => ?_⟩, by simp, fun u hu => ?_, fun i e j x hi hj => ?_⟩
    · rw [List.getElem?_map] at hk
      by_cases hlt : k < els.length * size
      · rw [List.getElem?_range hlt] at hk
        obtain rfl := Option.some.inj hk
        exact (hget k hlt).1
      · rw [List.getElem?_eq_none (by simp; omega)] at hk
        cases hk
    · obtain ⟨k, hk, rfl⟩ := List.mem_map.1 hu
      exact (hget k (List.mem_range.1 hk)).2
    · have hlen := hl e (List.mem_of_getElem? hi)
      have hi' : i < els.length := (List.getElem?_eq_some_iff.1 hi).1
      have hj' : j < size := by rw [← hlen]; exact (List.getElem?_eq_some_iff.1 hj).1
      have hlt : i * size + j < els.length * size := by
        have := Nat.mul_le_mul_right size (show i + 1 ≤ els.length from hi')
        rw [Nat.add_mul] at this; omega
      have e1 : (i * size + j) / size = i := by rw [Nat.mul_comm, Nat.mul_add_div hsz, Nat.div_eq_of_lt hj', Nat.add_zero]
      have e2 : (i * size + j) % size = j := by rw [Nat.mul_comm, Nat.mul_add_mod, Nat.mod_eq_of_lt hj']
      refine ⟨f i j, ?_, hr i e j x hi hj, (hcell i e j x hi hj).2.2⟩
      rw [List.getElem?_map, List.getElem?_range hlt]
      simp [e1, e2]

theorem SlCells.ext {w' : World} {F' : Nat → Nat → Prop} {size : Nat} {els : List AV} {v : Value} {news : List Value} (h : SlCells w F size els v news) (he : Ext0 w F w' F') :
    ∀ (i : Nat) (e : AV) (j : Nat) (x : AV), els[i]? = some e → e.cells[j]? = some x → ∃ u, news[i * size + j]? = some u ∧ Rep w' F' [] [] x u ∧ u.oneCell' = true :=
  fun i e j x hi hj => let ⟨u, h1, h2, h3⟩ := h.rep i e j x hi hj; ⟨u, h1, h2.ext he.ext, h3⟩

/-- The elements of two lists, one behind the other, as cells. -/
theorem cells_append {R : AV → Value → Prop} {size : Nat} {l1 l2 : List AV} {x1 x2 : List Value} (hx1 : x1.length = l1.length * size)
    (h1 : ∀ (i : Nat) (e : AV) (j : Nat) (x : AV), l1[i]? = some e → e.cells[j]? = some x → ∃ u, x1[i * size + j]? = some u ∧ R x u ∧ u.oneCell' = true)
    (h2 : ∀ (i : Nat) (e : AV) (j : Nat) (x : AV), l2[i]? = some e → e.cells[j]? = some x → ∃ u, x2[i * size + j]? = some u ∧ R x u ∧ u.oneCell' = true) :
    ∀ (i : Nat) (e : AV) (j : Nat) (x : AV), (l1 ++ l2)[i]? = some e → e.cells[j]? = some x → ∃ u, (x1 ++ x2)[i * size + j]? = some u ∧ R x u ∧ u.oneCell' = true := by
  intro i e j x hi hj
  by_cases hlt : i < l1.length
  · rw [List.getElem?_append_left hlt] at hi
    obtain ⟨u, h3, h4⟩ := h1 i e j x hi hj
    exact ⟨u, by rw [List.getElem?_append_left (List.getElem?_eq_some_iff.1 h3).1]; exact h3, h4⟩
  · rw [List.getElem?_append_right (by omega)] at hi
    obtain ⟨u, h3, h4⟩ := h2 _ e j x hi hj
    refine ⟨u, ?_, h4⟩
    have : x1.length ≤ i * size + j := by
      rw [hx1]
      have := Nat.mul_le_mul_right size (show l1.length ≤ i by omega)
      omega
    rw [List.getElem?_append_right this, hx1, ← h3]
    congr 1
    rw [Nat.sub_mul]
    have := Nat.mul_le_mul_right size (show l1.length ≤ i by omega)
    omega

/-- append of nothing. -/
theorem run_append_none {t ty e : TypeId} {ed : TD} (ht : P.underlying t = some (.slice e)) (he : TyOk P e ed) (b : Option Addr) (n c : Nat) (hn : n ≤ c) (x : Value) (hx : x = .slice none 0 0 ∨ ∃ ad k, x = .slice (some ad) 0 k) :
    (Builtin.append_ #[t, t] ty #[.slice b n c, x]).run P w = .ok (.slice b n c) w := by
  obtain ⟨i, h1, h2, _⟩ := he.info
  rcases hx with rfl | ⟨ad, k, rfl⟩ <;> cases b <;>
    simp [Builtin.append_, run_underlying ht, sizeOf, typeInfo, h1, Builtin.lenOf, hn, Builtin.firstCells, storeCells, loadCells, loadCellsFrom]

/-- The new row of an append that does not fit. -/
theorem rowOk_new {e size : Nat} {n m : Nat} {z : Array Value} (olds news : List Value) (ho : olds.length = n * size) (hnw : news.length = m * size) (hz : z.size = size) (old : Nat) (hm : 0 < m) (h63 : n + m ≤ maxLen) :
    RowOk (w.drew.alloc (.cells (olds.toArray ++ news.toArray ++ Builtin.zeroCells z (grownCap w (n + m) old e - (n + m))) e)) e size
      (.slice (some ⟨w.heap.size, 0, none⟩) (n + m) (grownCap w (n + m) old e)) (n + m) (olds ++ news) := by
  have hge := grownCap_ge w (n + m) old e
  have hcm : grownCap w (n + m) old e ≤ maxLen := grownCap_le_maxLen w (n + m) old e h63
  have hlen : (olds ++ news).length = (n + m) * size := by rw [List.length_append, ho, hnw, Nat.add_mul]
  refine ⟨hlen, .inr ⟨w.heap.size, _, _, rfl, by omega, heap_alloc_new w.drew _, hge, hcm, ?_, ?_⟩⟩
  · simp only [Array.size_append, List.size_toArray, size_zeroCells, hz, ho, hnw, ← Nat.add_mul]
    congr 1
    omega
  · simp only [Array.toList_append, List.append_assoc]
    rw [← List.append_assoc, ← hlen]
    exact List.take_left

end Go.Proofs.Ytfbncddnakaaiaa
