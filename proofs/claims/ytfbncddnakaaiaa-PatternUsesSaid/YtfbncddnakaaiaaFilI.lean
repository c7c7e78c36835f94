/- An abstract layer over the model's walk, its ninth part: len, min, max, struct and slice literals, slice expressions; what pval reckons is what the operation does; for every program. -/
import Derived.Test.YtfbncddnakaaiaaFilH
namespace Go.Proofs.Ytfbncddnakaaiaa
open Go
set_option linter.unusedSimpArgs false
set_option linter.unusedVariables false

variable {G : Type} {Γ : Env G} {s : AS G} {a : Act} {w w' : World} {η : List Value} {hp : List AObj} {F : Nat → Nat → Prop} {P : Program}

theorem Rep.sl_shape {els : List AV} {v : Value} (h : Rep w F η hp (.sl els) v) : ∃ a c, v = .slice a els.length c := by
  cases h with
  | sl0 a => exact ⟨a, 0, rfl⟩
  | sl size els b o c f hc hm hl hcell hr => exact ⟨_, c, rfl⟩

theorem vrun_builtin {o : Oper} {c : Call} {b : Builtin} (ho : o.op = .call c) (hb : c.callee = .builtin b) {l : List Operand} (hl : c.args.toList = l) {r : AV}
    (h : ∀ a w η, Rel Γ s a w η → ∃ v w', (builtin b c.argTypes o.type ((c.args.map fun | .const _ => true | _ => false)) (l.map a.eval).toArray).run Γ.P w = .ok (.value v) w' ∧ Same w w' ∧ Rep w' (Fok Γ w' η s.hp) η s.hp r v) : VRun Γ o s r := by
  intro a w η hr
  obtain ⟨v, w', h1, h2, h3⟩ := h a w η hr
  refine ⟨v, w', ?_, h2, h3⟩
  have : c.args.map a.eval = (l.map a.eval).toArray := by rw [← hl]; apply Array.ext'; simp
  simp only [execOp, ho, resolve, hb, Sem.run_bind, Sem.run_pure, Result.andThen_ok, invoke, this]
  exact h1

theorem vrun_len {tab : Nat → Option TD} (htab : TabOk Γ.P tab) {o : Oper} {c : Call} (ho : o.op = .call c) (hb : c.callee = .builtin .len) {x : Operand} (hl : c.args.toList = [x]) {T : Nat} (hT : c.argTypes[0]? = some T) {d : TD} (hd : tab T = some d) {r : AV}
    (h : (∃ e els, d.kind = .slc e ∧ (s.ev x).asSl s.hp = some els ∧ r = .prim (.int .i64 els.length)) ∨ (∃ b, d.kind = .str ∧ s.ev x = .prim (.string b) ∧ r = .prim (.int .i64 b.size))) : VRun Γ o s r := by
  refine vrun_builtin ho hb hl fun a w η hr => ?_
  obtain ⟨u, h2, h3⟩ := (htab T d hd).und
  rcases h with ⟨e, els, hk, hels, rfl⟩ | ⟨b, hk, he, rfl⟩ <;> rw [hk] at h3
  · have hu : Γ.P.underlying T = some (.slice e) := by rw [h2]; exact congrArg some h3
    obtain ⟨a0, c0, hv⟩ := (asSl_rep hr.heap hr.mine (hr.ev x) hels).sl_shape
    exact ⟨_, w, by simp [builtin, Builtin.len_, hT, hv, run_underlying hu, goInt], Same.refl w, .prim _⟩
  · have hu : Γ.P.underlying T = some .string := by rw [h2]; exact congrArg some h3
    have hx := hr.ev x
    rw [he] at hx
    exact ⟨_, w, by simp [builtin, Builtin.len_, hT, hx.prim_inv, run_underlying hu, goInt], Same.refl w, .prim _⟩

theorem vrun_min {o : Oper} {c : Call} (ho : o.op = .call c) (hb : c.callee = .builtin .min) {x y : Operand} (hl : c.args.toList = [x, y]) {k k' : IntKind} {m n : Int} (hx : s.ev x = .prim (.int k m)) (hy : s.ev y = .prim (.int k' n)) : VRun Γ o s (.prim (.int k (if n < m then n else m))) := by
  refine vrun_builtin ho hb hl fun a w η hr => ?_
  have h1 := hr.ev x
  have h2 := hr.ev y
  rw [hx] at h1; rw [hy] at h2
  exact ⟨_, w, by simp [builtin, Builtin.min_, h1.prim_inv, h2.prim_inv, Builtin.min2], Same.refl w, .prim _⟩

theorem vrun_max {o : Oper} {c : Call} (ho : o.op = .call c) (hb : c.callee = .builtin .max) {x y : Operand} (hl : c.args.toList = [x, y]) {k k' : IntKind} {m n : Int} (hx : s.ev x = .prim (.int k m)) (hy : s.ev y = .prim (.int k' n)) : VRun Γ o s (.prim (.int k (if n > m then n else m))) := by
  refine vrun_builtin ho hb hl fun a w η hr => ?_
  have h1 := hr.ev x
  have h2 := hr.ev y
  rw [hx] at h1; rw [hy] at h2
  exact ⟨_, w, by simp [builtin, Builtin.max_, h1.prim_inv, h2.prim_inv, Builtin.max2], Same.refl w, .prim _⟩

/-- Cells laid over cells, one by one. -/
def setVals (cs : List Value) (off : Nat) : List Value → List Value
  | [] => cs
  | x :: xs => setVals (cs.set off x) (off + 1) xs

theorem length_setVals (xs : List Value) : ∀ (cs : List Value) (off : Nat), (setVals cs off xs).length = cs.length := by
  induction xs with
  | nil => intro cs off; rfl
  | cons x xs ih => intro cs off; simp [setVals, ih]

/-- Cells that read as cells. -/
def RepC (w : World) (F : Nat → Nat → Prop) (η : List Value) (hp : List AObj) (cs : List AV) (vs : List Value) : Prop :=
  vs.length = cs.length ∧ ∀ (j : Nat) (x : AV) (u : Value), cs[j]? = some x → vs[j]? = some u → Rep w F η hp x u ∧ u.oneCell' = true

theorem RepC.set {cs : List AV} {vs : List Value} (h : RepC w F η hp cs vs) (off : Nat) {x : AV} {u : Value} (hx : Rep w F η hp x u) (h1 : u.oneCell' = true) : RepC w F η hp (cs.set off x) (vs.set off u) := by
  refine ⟨by simp [h.1], fun j y z hy hz => ?_⟩
  by_cases hj : off = j
  · subst hj
    rw [List.getElem?_set] at hy hz
    simp only [if_true] at hy hz
    split at hy
    · rename_i h2
      rw [h.1, if_pos h2] at hz
      obtain rfl := Option.some.inj hy
      obtain rfl := Option.some.inj hz
      exact ⟨hx, h1⟩
    · cases hy
  · rw [getElem?_set_ne hj] at hy hz
    exact h.2 j y z hy hz

theorem RepC.setAll (xs : List AV) : ∀ {us : List Value} {cs : List AV} {vs : List Value} (off : Nat), RepC w F η hp cs vs → RepC w F η hp xs us → RepC w F η hp (setCells cs off xs) (setVals vs off us) := by
  induction xs with
  | nil =>
    intro us cs vs off h hu
    have : us = [] := List.eq_nil_of_length_eq_zero hu.1
    subst this; exact h
  | cons x xs ih =>
    intro us cs vs off h hu
    match us, hu with
    | [], hu => exact absurd hu.1 (by simp)
    | u :: us, hu =>
      have h0 := hu.2 0 x u rfl rfl
      exact ih (off + 1) (h.set off h0.1 h0.2) ⟨by simpa using hu.1, fun j y z hy hz => hu.2 (j + 1) y z (by simpa using hy) (by simpa using hz)⟩

theorem Rep.repC {x : AV} {v : Value} (h : Rep w F η hp x v) (hs : x.stor = true) : RepC w F η hp x.cells v.cells.toList := by
  have one : x.isAgg = false → x.isCell = true := by cases x <;> simp_all [AV.stor, AV.isAgg, AV.isCell]
  cases h with
  | agg cs vs hl h1 hr => exact ⟨by simpa [AV.cells, Value.cells] using hl, fun j y u hy hu => ⟨hr j y u hy (by simpa [Value.cells] using hu), h1 u (by have := List.mem_of_getElem? hu; simpa [Value.cells] using this)⟩⟩
  | top v => simp [AV.stor] at hs
  | tup cs vs hl hr => simp [AV.stor] at hs
  | prim v =>
    have h1 : v.oneCell' = true := hs
    refine ⟨by cases v <;> simp_all [AV.cells, Value.cells, Value.oneCell'], fun j y u hy hu => ?_⟩
    have hv : v.cells = #[v] := by cases v <;> simp_all [Value.cells, Value.oneCell']
    rw [hv] at hu
    cases j with
    | zero => simp [AV.cells] at hy hu; subst hy; subst hu; exact ⟨.prim _, h1⟩
    | succ j => simp [AV.cells] at hy
  | own r n v h1 h2 =>
    refine ⟨by cases v <;> simp_all [AV.cells, Value.cells, Value.oneCell'], fun j y u hy hu => ?_⟩
    have hv : v.cells = #[v] := by cases v <;> simp_all [Value.cells, Value.oneCell']
    rw [hv] at hu
    cases j with
    | zero => simp [AV.cells] at hy hu; subst hy; subst hu; exact ⟨.own r n _ h1 h2, h1⟩
    | succ j => simp [AV.cells] at hy
  | fn v h1 =>
    refine ⟨by cases v <;> simp_all [AV.cells, Value.cells, Value.oneCell'], fun j y u hy hu => ?_⟩
    have hv : v.cells = #[v] := by cases v <;> simp_all [Value.cells, Value.oneCell']
    rw [hv] at hu
    cases j with
    | zero => simp [AV.cells] at hy hu; subst hy; subst hu; exact ⟨.fn _ h1, h1⟩
    | succ j => simp [AV.cells] at hy
  | sl0 a => exact ⟨rfl, fun j y u hy hu => by cases j <;> simp [AV.cells, Value.cells] at hy hu; subst hy; subst hu; exact ⟨.sl0 a, rfl⟩⟩
  | clip0 a => exact ⟨rfl, fun j y u hy hu => by cases j <;> simp [AV.cells, Value.cells] at hy hu; subst hy; subst hu; exact ⟨.clip0 a, rfl⟩⟩
  | sl size els b o c f hc hm hl hcell hr => exact ⟨rfl, fun j y u hy hu => by cases j <;> simp [AV.cells, Value.cells] at hy hu; subst hy; subst hu; exact ⟨.sl size els b o c f hc hm hl hcell hr, rfl⟩⟩
  | clip size els b o f hm hl hcell hr => exact ⟨rfl, fun j y u hy hu => by cases j <;> simp [AV.cells, Value.cells] at hy hu; subst hy; subst hu; exact ⟨.clip size els b o f hm hl hcell hr, rfl⟩⟩
  | ptr r off b h => exact ⟨rfl, fun j y u hy hu => by cases j <;> simp [AV.cells, Value.cells] at hy hu; subst hy; subst hu; exact ⟨.ptr r off b h, rfl⟩⟩
  | eptr e off b o f hcell hr => exact ⟨rfl, fun j y u hy hu => by cases j <;> simp [AV.cells, Value.cells] at hy hu; subst hy; subst hu; exact ⟨.eptr e off b o f hcell hr, rfl⟩⟩
  | clo fn cs vs hl hr => exact ⟨rfl, fun j y u hy hu => by cases j <;> simp [AV.cells, Value.cells] at hy hu; subst hy; subst hu; exact ⟨.clo fn cs vs hl hr, rfl⟩⟩
  | mp r b h => exact ⟨rfl, fun j y u hy hu => by cases j <;> simp [AV.cells, Value.cells] at hy hu; subst hy; subst hu; exact ⟨.mp r b h, rfl⟩⟩
  | mapv b es c h hF l hl => exact ⟨rfl, fun j y u hy hu => by cases j <;> simp [AV.cells, Value.cells] at hy hu; subst hy; subst hu; exact ⟨.mapv b es c h hF l hl, rfl⟩⟩

theorem cells_fold (v : List Value) : ∀ (cs : Array Value) (off k : Nat), ((v.zipIdx k).foldl (fun cs (c, j) => cs.setIfInBounds (off + j) c) cs).toList = setVals cs.toList (off + k) v := by
  induction v with
  | nil => intro cs off k; rfl
  | cons x v ih =>
    intro cs off k
    simp only [List.zipIdx_cons, List.foldl_cons]
    rw [ih]
    simp [setVals, Array.toList_setIfInBounds, Nat.add_assoc]

/-- The fill of a struct's cells, as the model makes it. -/
theorem fill_ok {fs : List (Nat × Nat × Bool)} {places : Nat → Option (Nat × Nat)} (hpl : ∀ (i : Nat) (p : Nat × Nat × Bool), fs[i]? = some p → places i = some (p.1, p.2.1)) :
    ∀ (parts : List (Nat × AV)) (vparts : List (Nat × Value)) (cs : List AV) (vs : Array Value) (r : List AV), fillCells fs cs parts = some r → RepC w F η hp cs vs.toList → vparts.map (·.1) = parts.map (·.1) →
      (∀ (j : Nat) (p : Nat × AV) (q : Nat × Value), parts[j]? = some p → vparts[j]? = some q → Rep w F η hp p.2 q.2) → ∃ vr, Instr.fill places vs vparts = some vr ∧ RepC w F η hp r vr.toList := by
  intro parts
  induction parts with
  | nil =>
    intro vparts cs vs r h hc hm _
    have : vparts = [] := by cases vparts <;> simp_all
    subst this
    simp only [fillCells, Option.some.injEq] at h
    subst h
    exact ⟨vs, rfl, hc⟩
  | cons p parts ih =>
    intro vparts cs vs r h hc hm hr
    cases vparts with
    | nil => simp at hm
    | cons q vparts =>
      obtain ⟨i, x⟩ := p
      obtain ⟨i', v⟩ := q
      simp only [List.map_cons, List.cons.injEq] at hm
      obtain ⟨rfl, hm'⟩ := hm
      have h0 := hr 0 _ _ rfl rfl
      simp only at h0
      simp only [fillCells] at h
      split at h
      · rename_i p hp
        split at h
        · rename_i hcond
          have hrc := h0.repC hcond.2.2
          have hsz : v.cells.size = p.2.1 := by rw [← hcond.1, ← hrc.1]; simp
          have hpl' := hpl _ p hp
          have hle : p.1 + p.2.1 ≤ vs.size := by have := hc.1; simp at this; omega
          have hfold := cells_fold v.cells.toList vs p.1 0
          rw [Nat.add_zero] at hfold
          obtain ⟨vr, e1, e2⟩ := ih vparts (setCells cs p.1 x.cells) ((v.cells.zipIdx).foldl (fun cs (c, j) => cs.setIfInBounds (p.1 + j) c) vs) r h (by
            have e : ((v.cells.zipIdx).foldl (fun cs (c, j) => cs.setIfInBounds (p.1 + j) c) vs).toList = setVals vs.toList p.1 v.cells.toList := by
              rw [← hfold, ← Array.foldl_toList]; simp
            rw [e]
            exact RepC.setAll x.cells p.1 hc hrc) hm' (fun j p' q' h1 h2 => hr (j + 1) p' q' (by simpa using h1) (by simpa using h2))
          refine ⟨vr, ?_, e2⟩
          simp only [Instr.fill, hpl', hsz]
          rw [if_neg (by simp; omega)]
          exact e1
        · cases h
      · cases h

end Go.Proofs.Ytfbncddnakaaiaa
