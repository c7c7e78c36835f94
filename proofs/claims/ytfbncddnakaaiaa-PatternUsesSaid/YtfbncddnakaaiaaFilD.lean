/- An abstract layer over the model's walk, its fourth part: types as a table; slices as data; append; for every program. -/
import Derived.Test.YtfbncddnakaaiaaFilC
namespace Go.Proofs.Ytfbncddnakaaiaa
open Go
set_option linter.unusedSimpArgs false
set_option linter.unusedVariables false

inductive TK where
  | other
  | int (k : IntKind)
  | str
  | bool
  | strct (fields : List (Nat × Nat × Bool))
  | slc (e : Nat)
  | mapk (k e : Nat)

structure TD where
  flat : Bool := false
  kind : TK
  size : Nat
  bytes : Nat
  zero : Value

def TK.agg : TK → Bool
  | .strct _ => true
  | _ => false

def aggD : TypeDesc → Bool
  | .struct _ | .array _ _ => true
  | _ => false

def TK.fits (P : Program) (u : TypeDesc) : TK → Prop
  | .other => (match u with | .struct _ | .array _ _ => False | _ => True)
  | .int k => u = .int k
  | .str => u = .string
  | .bool => u = .bool
  | .strct fs => ∃ fields, u = .struct fields ∧ fields.toList.map (fun f => (f.offset, (P.info? f.type).map (·.size), (P.underlying f.type).map aggD)) = fs.map fun p => (p.1, some p.2.1, some p.2.2)
  | .slc e => u = .slice e
  | .mapk k e => u = .map k e

structure TyOk (P : Program) (T : TypeId) (d : TD) : Prop where
  info : ∃ i, P.info? T = some i ∧ i.size = d.size ∧ i.bytes = d.bytes ∧ i.zero = some d.zero
  und : ∃ u, P.underlying T = some u ∧ d.kind.fits P u
  zsize : d.zero.cells.size = d.size
  zone : ∀ v : Value, v ∈ d.zero.cells → v.oneCell' = true
  zagg : d.kind.agg = true → ∃ cs, d.zero = .agg cs
  zagg' : d.kind.agg = false → d.size = 1 ∧ d.zero.oneCell' = true
  feq : d.flat = true → P.eqGuardType P.depth T = false ∧ ∀ (w : World) (a1 a2 b1 b2 : Int), (Op.equalIn 10000 T (.agg #[.int .i64 a1, .int .i64 a2]) (.agg #[.int .i64 b1, .int .i64 b2])).run P w = .ok (a1 == b1 && a2 == b2) w

def TabOk (P : Program) (tab : Nat → Option TD) : Prop := ∀ T d, tab T = some d → TyOk P T d

variable {G : Type} {Γ : Env G} {s : AS G} {a : Act} {w w' : World} {η : List Value} {hp : List AObj} {F : Nat → Nat → Prop} {P : Program}

theorem TyOk.run_isAgg {T : TypeId} {d : TD} (h : TyOk P T d) (w : World) : (isAgg T).run P w = .ok d.kind.agg w := by
  obtain ⟨u, h1, h2⟩ := h.und
  simp only [isAgg, Sem.run_bind, run_underlying h1, Result.andThen_ok]
  revert h2
  cases hk : d.kind <;> intro h2 <;> simp only [TK.fits] at h2
  · cases u <;> first | rfl | exact h2.elim
  · subst h2; rfl
  · subst h2; rfl
  · subst h2; rfl
  · obtain ⟨f, rfl, _⟩ := h2; rfl
  · subst h2; rfl
  · subst h2; rfl

theorem TyOk.run_sizeOf {T : TypeId} {d : TD} (h : TyOk P T d) (w : World) : (sizeOf T).run P w = .ok d.size w := by
  obtain ⟨i, h1, h2, _⟩ := h.info
  simp [sizeOf, typeInfo, h1, h2]

theorem TyOk.run_zero {T : TypeId} {d : TD} (h : TyOk P T d) (w : World) : (zeroValue T).run P w = .ok d.zero w := by
  obtain ⟨i, h1, _, _, h4⟩ := h.info
  simp [zeroValue, typeInfo, h1, h4]

/-- A load of a variable whose cells are known. -/
theorem TyOk.run_load {T : TypeId} {d : TD} (h : TyOk P T d) {b o : Nat} {vs : List Value} (hl : vs.length = d.size) (hc : ∀ (j : Nat) (v : Value), vs[j]? = some v → w.cell? ⟨b, o + j, none⟩ = some v) :
    (loadVar T ⟨b, o, none⟩).run P w = .ok (if d.kind.agg then .agg vs.toArray else vs.headD undef) w := by
  simp only [loadVar, Sem.run_bind, h.run_isAgg, Result.andThen_ok]
  cases hk : d.kind.agg with
  | true =>
    simp only [if_true, Sem.run_bind, h.run_sizeOf, Result.andThen_ok]
    rw [← hl, run_loadCells_list (P := P) w ⟨b, o, none⟩ vs (fun j v hj => by rw [Addr.add_lit]; exact hc j v hj)]
    rfl
  | false =>
    have h1 := (h.zagg' hk).1
    rw [h1] at hl
    match vs, hl with
    | [v], _ =>
      have := hc 0 v rfl
      simp only [Nat.add_zero] at this
      simp [run_load, this]

/-- What an abstract value is as a slice of data. -/
def AV.asSl (hp : List AObj) : AV → Option (List AV)
  | .sl els => some els
  | .clip els => some els
  | .prim (.slice none 0 0) => some []
  | .own r n => match hp[r]? with
    | some (.row _ _ els) => if n = els.length then some els else none
    | _ => none
  | _ => none

/-- A row that the call owns reads as data. -/
theorem Rel.row_sl {r : Nat} {e size : Nat} {els : List AV} {v : Value} (hF : ∀ b k, (∃ u, η[r]? = some u ∧ blk u = some b) → k < els.length * size → F b k)
    (hob : ObjOk w F η hp (.row e size els) v) (hv : η[r]? = some v) : Rep w F η hp (.sl els) v := by
  obtain ⟨h0, xs, hrow, hels⟩ := hob
  rcases hrow.2 with ⟨hn, rfl | ⟨ad, rfl⟩⟩ | ⟨g, cap, cur, rfl, hc0, hg, hnc, hcm, hcs, htake⟩
  · have : els = [] := List.eq_nil_of_length_eq_zero hn
    subst this; exact .sl0 _
  · have : els = [] := List.eq_nil_of_length_eq_zero hn
    subst this
    exact .sl0 _
  · have hcell : ∀ (i : Nat) (el : AV) (j : Nat) (x : AV), els[i]? = some el → el.cells[j]? = some x → ∃ u, w.cell? ⟨g, 0 + i * size + j, none⟩ = some u ∧ xs.getD (i * size + j) undef = u ∧ F g (0 + i * size + j) ∧ u.oneCell' = true ∧ Rep w F [] [] x u := by
      intro i el j x hi hj
      obtain ⟨hlen, hx⟩ := hels i el hi
      obtain ⟨u, hu, hrep, h1⟩ := hx j x hj
      have hi' : i < els.length := (List.getElem?_eq_some_iff.1 hi).1
      have hj' : j < size := by rw [← hlen]; exact (List.getElem?_eq_some_iff.1 hj).1
      have hlt : i * size + j < els.length * size := by
        have := Nat.mul_le_mul_right size (show i + 1 ≤ els.length from hi')
        rw [Nat.add_mul] at this; omega
      refine ⟨u, ?_, by simp [List.getD, hu], hF _ _ ⟨_, hv, blk_slice hc0⟩ (by omega), h1, hrep⟩
      rw [Nat.zero_add, cell_of_row w g _ cur e (0, 0) hg]
      rw [← htake, List.getElem?_take, if_pos hlt] at hu
      simpa using hu
    refine .sl size els g 0 cap (fun i j => xs.getD (i * size + j) undef) hnc hcm (fun i el hi => (hels i el hi).1) (fun i el j x hi hj => ?_) (fun i el j x hi hj => ?_)
    · obtain ⟨u, h1, h2, h3, h4, _⟩ := hcell i el j x hi hj
      exact ⟨by rw [h2]; exact h1, h3, by rw [h2]; exact h4⟩
    · obtain ⟨u, h1, h2, h3, h4, h5⟩ := hcell i el j x hi hj
      rw [h2]; exact h5

theorem fok_own (h : HeapOk w (Fok Γ w η hp) η hp) (hm : Mine Γ η hp) {r e size : Nat} {els : List AV} {v : Value} (hr : hp[r]? = some (.row e size els)) (hv : η[r]? = some v)
    {b k : Nat} (hb : blk v = some b) (hk' : k < els.length * size) : Fok Γ w η hp b k := by
  have h1 := hm r _ v b hr True.intro hv hb
  refine ⟨.inr h1.1, h.block hr True.intro hv hb, h1.2 _, (objF_iff b k).2 fun r' u hu hb' => ?_⟩
  · by_cases hne : r = r'
    · subst hne
      exact ⟨_, hr, hk'⟩
    · have hr' : r' < hp.length := by rw [← h.len]; exact (List.getElem?_eq_some_iff.1 hu).1
      refine ⟨hp[r'], by simp [hr'], ?_⟩
      cases ho : hp[r'] with
      | dead => exact True.intro
      | box cs => exact (h.sep r r' _ (.box cs) v u b hne hr (by rw [← ho]; simp [hr']) True.intro True.intro hv hu hb hb').elim
      | row e' s' els' => exact (h.sep r r' _ (.row e' s' els') v u b hne hr (by rw [← ho]; simp [hr']) True.intro True.intro hv hu hb hb').elim
      | mapo es => exact (h.sep r r' _ (.mapo es) v u b hne hr (by rw [← ho]; simp [hr']) True.intro True.intro hv hu hb hb').elim

end Go.Proofs.Ytfbncddnakaaiaa
