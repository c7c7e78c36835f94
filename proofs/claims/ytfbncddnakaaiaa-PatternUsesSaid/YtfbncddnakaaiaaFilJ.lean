/- An abstract layer over the model's walk, its tenth part: struct and slice literals, slice expressions; pval is sound; for every program. -/
import Derived.Test.YtfbncddnakaaiaaFilI
namespace Go.Proofs.Ytfbncddnakaaiaa
open Go
set_option linter.unusedSimpArgs false
set_option linter.unusedVariables false

variable {G : Type} {Γ : Env G} {s : AS G} {a : Act} {w w' : World} {η : List Value} {hp : List AObj} {F : Nat → Nat → Prop} {P : Program}

theorem TyOk.repZero {T : Nat} {d : TD} (h : TyOk P T d) : RepC w F η hp (d.zero.cells.toList.map .prim) d.zero.cells.toList := by
  refine ⟨by simp, fun j x u hx hu => ?_⟩
  rw [List.getElem?_map, hu] at hx
  obtain rfl := Option.some.inj hx
  exact ⟨.prim _, h.zone u (by have := List.mem_of_getElem? hu; simpa using this)⟩

theorem run_mapM_field (fields : List Field) (w : World) (h : ∀ f : Field, f ∈ fields → ∃ i, P.info? f.type = some i) :
    (fields.mapM fun f => do pure (f.offset, ← sizeOf f.type) : Sem (List (Nat × Nat))).run P w = .ok (fields.map fun f => (f.offset, ((P.info? f.type).map (·.size)).getD 0)) w := by
  induction fields with
  | nil => rfl
  | cons f fs ih =>
    obtain ⟨i, hi⟩ := h f List.mem_cons_self
    have ih' := ih fun g hg => h g (List.mem_cons_of_mem _ hg)
    simp only [List.mapM_cons, Sem.run_bind, sizeOf, typeInfo, run_program, Result.andThen_ok, hi, Sem.run_pure, List.map_cons, Option.map_some, Option.getD_some]
    simp only [sizeOf, typeInfo] at ih'
    rw [ih']
    rfl

theorem vrun_build {tab : Nat → Option TD} (htab : TabOk Γ.P tab) {o : Oper} {T : Nat} {parts : Array (Nat × Operand)} (ho : o.op = .build T parts) {d : TD} (hd : tab T = some d) {fs : List (Nat × Nat × Bool)} (hk : d.kind = .strct fs) {r : List AV}
    (h : fillCells fs (d.zero.cells.toList.map .prim) (parts.toList.map fun p => (p.1, s.ev p.2)) = some r) : VRun Γ o s (.agg r) := by
  refine vrun_pure fun a w η hr => ?_
  have hty := htab T d hd
  obtain ⟨u, h2, h3⟩ := hty.und
  rw [hk] at h3
  obtain ⟨fields, rfl, h3⟩ := h3
  have hinfo : ∀ f : Field, f ∈ fields.toList → ∃ i, Γ.P.info? f.type = some i := by
    intro f hf
    obtain ⟨k, hk'⟩ := List.getElem?_of_mem hf
    have h4 := congrArg (·[k]?) h3
    simp only [List.getElem?_map, hk', Option.map_some] at h4
    cases hfs : fs[k]? with
    | none => rw [hfs] at h4; cases h4
    | some p =>
      rw [hfs] at h4
      simp only [Option.map_some, Option.some.injEq, Prod.mk.injEq] at h4
      cases hi : Γ.P.info? f.type with
      | none => rw [hi] at h4; cases h4.2.1
      | some i => exact ⟨i, rfl⟩
  have hpl : ∀ (i : Nat) (p : Nat × Nat × Bool), fs[i]? = some p → ((fields.toList.map fun f => (f.offset, ((Γ.P.info? f.type).map (·.size)).getD 0)).toArray)[i]? = some (p.1, p.2.1) := by
    intro i p hp
    have h4 := congrArg (·[i]?) h3
    simp only [List.getElem?_map, hp, Option.map_some] at h4
    cases hf : fields.toList[i]? with
    | none => rw [hf] at h4; cases h4
    | some f =>
      rw [hf] at h4
      simp only [Option.map_some, Option.some.injEq, Prod.mk.injEq] at h4
      simp only [List.getElem?_toArray, List.getElem?_map, hf, Option.map_some, h4.1, h4.2.1, Option.getD_some]
  obtain ⟨vr, e1, e2⟩ := fill_ok (w := w) (F := Fok Γ w η s.hp) (η := η) (hp := s.hp) hpl (parts.toList.map fun p => (p.1, s.ev p.2)) (parts.toList.map fun p => (p.1, a.eval p.2)) _ d.zero.cells r h hty.repZero (by simp) (fun j p q h1 h2 => by
    simp only [List.getElem?_map] at h1 h2
    cases hj : parts.toList[j]? with
    | none => rw [hj] at h1; cases h1
    | some x =>
      rw [hj] at h1 h2
      obtain rfl := Option.some.inj h1
      obtain rfl := Option.some.inj h2
      exact hr.ev x.2)
  refine ⟨.agg vr, ?_, .agg r vr (by have := e2.1; simpa using this) (fun v hv => ?_) fun j x v hx hv => (e2.2 j x v hx (by simpa using hv)).1⟩
  · have hm := run_mapM_field (P := Γ.P) fields.toList w hinfo
    simp only [execOp, ho, Instr.build, Sem.run_bind, hty.run_zero, Result.andThen_ok, run_underlying h2, Array.mapM_eq_mapM_toList, Sem.run_map, hm, Array.toList_map, e1, Sem.run_pure]
  · obtain ⟨k, hk'⟩ := List.getElem?_of_mem (Array.mem_toList_iff.2 hv)
    have hlt : k < r.length := by rw [← e2.1]; exact (List.getElem?_eq_some_iff.1 hk').1
    exact (e2.2 k r[k] v (by simp [hlt]) hk').2

theorem getElem?_setVals (us : List Value) : ∀ (cs : List Value) (off t : Nat), off + us.length ≤ cs.length → (setVals cs off us)[t]? = if off ≤ t ∧ t < off + us.length then us[t - off]? else cs[t]? := by
  induction us with
  | nil =>
    intro cs off t _
    simp only [setVals, List.length_nil, Nat.add_zero]
    rw [if_neg (by omega)]
  | cons u us ih =>
    intro cs off t h
    simp only [List.length_cons] at h
    simp only [setVals, List.length_cons]
    rw [ih (cs.set off u) (off + 1) t (by simp; omega)]
    by_cases h1 : off + 1 ≤ t ∧ t < off + 1 + us.length
    · rw [if_pos h1, if_pos (by omega)]
      have : t - off = (t - (off + 1)) + 1 := by omega
      rw [this, List.getElem?_cons_succ]
    · rw [if_neg h1]
      by_cases h2 : t = off
      · subst h2
        rw [if_pos (by omega), Nat.sub_self, List.getElem?_cons_zero, List.getElem?_set]
        simp; omega
      · rw [if_neg (by omega), getElem?_set_ne (fun e => h2 e.symm)]

theorem foldl_setVals (v : Array Value) (cs : Array Value) (off : Nat) : (v.zipIdx.foldl (fun cs (c, j) => cs.setIfInBounds (off + j) c) cs).toList = setVals cs.toList off v.toList := by
  have h := cells_fold v.toList cs off 0
  rw [Nat.add_zero] at h
  rw [← h, ← Array.foldl_toList]
  simp

/-- The fill of a slice literal whose elements stand in order. -/
theorem fill_slice {size : Nat} : ∀ (l : List Value) (k : Nat) (parts : List (Nat × Value)) (cs : Array Value), parts.map (·.2) = l → (∀ (j : Nat) (p : Nat × Value), parts[j]? = some p → p.1 = k + j) → (∀ v : Value, v ∈ l → v.cells.size = size) → cs.size = (k + l.length) * size →
    ∃ r, Instr.fill (fun i => some (i * size, size)) cs parts = some r ∧ r.size = cs.size ∧ (∀ t, t < k * size → r.toList[t]? = cs.toList[t]?) ∧
      ∀ (i : Nat) (v : Value) (j : Nat) (u : Value), l[i]? = some v → v.cells.toList[j]? = some u → r.toList[(k + i) * size + j]? = some u := by
  intro l
  induction l with
  | nil =>
    intro k parts cs hm _ _ _
    have : parts = [] := by cases parts <;> simp_all
    subst this
    exact ⟨cs, rfl, rfl, fun _ _ => rfl, fun i v j u hi => by simp at hi⟩
  | cons v l ih =>
    intro k parts cs hm hidx hsz hcs
    cases parts with
    | nil => simp at hm
    | cons p parts =>
      obtain ⟨i0, v0⟩ := p
      simp only [List.map_cons, List.cons.injEq] at hm
      obtain ⟨rfl, hm'⟩ := hm
      have hi0 : i0 = k := by have := hidx 0 _ rfl; simpa using this
      subst hi0
      have hv0 := hsz v0 List.mem_cons_self
      simp only [List.length_cons] at hcs
      have hle : i0 * size + size ≤ cs.size := by
        rw [hcs]
        have : (i0 + (l.length + 1)) * size = i0 * size + size + l.length * size := by rw [Nat.add_mul, Nat.add_mul]; omega
        omega
      have hfold := foldl_setVals v0.cells cs (i0 * size)
      obtain ⟨r, e1, e2, e3, e4⟩ := ih (i0 + 1) parts (v0.cells.zipIdx.foldl (fun cs (c, j) => cs.setIfInBounds (i0 * size + j) c) cs) hm'
        (fun j p hj => by have := hidx (j + 1) p (by simpa using hj); omega) (fun v hv => hsz v (List.mem_cons_of_mem _ hv))
        (by rw [← Array.length_toList, hfold, length_setVals, Array.length_toList, hcs]; congr 1; omega)
      have hlen : (v0.cells.zipIdx.foldl (fun cs (c, j) => cs.setIfInBounds (i0 * size + j) c) cs).size = cs.size := by
        rw [← Array.length_toList, hfold, length_setVals, Array.length_toList]
      have hmul : (i0 + 1) * size = i0 * size + size := by rw [Nat.add_mul]; omega
      refine ⟨r, ?_, by rw [e2, hlen], fun t ht => ?_, fun i v j u hi hj => ?_⟩
      · simp only [Instr.fill, hv0]
        rw [if_neg (by simp; omega)]
        exact e1
      · rw [e3 t (by omega), hfold, getElem?_setVals _ _ _ _ (by simp; omega), if_neg (by omega)]
      · cases i with
        | zero =>
          simp only [List.getElem?_cons_zero, Option.some.injEq] at hi
          subst hi
          have hj' : j < size := by rw [← hv0, ← Array.length_toList]; exact (List.getElem?_eq_some_iff.1 hj).1
          rw [Nat.add_zero, e3 _ (by omega), hfold, getElem?_setVals _ _ _ _ (by simp; omega), if_pos ⟨by omega, by rw [Array.length_toList, hv0]; omega⟩]
          rw [Nat.add_sub_cancel_left]; exact hj
        | succ i =>
          have := e4 i v j u (by simpa using hi) hj
          rw [show i0 + (i + 1) = i0 + 1 + i from by omega]
          exact this

theorem idxOk_spec : ∀ (l : List (Nat × Operand)) (k : Nat), idxOk k l = true → ∀ (j : Nat) (p : Nat × Operand), l[j]? = some p → p.1 = k + j := by
  intro l
  induction l with
  | nil => intro k _ j p h; simp at h
  | cons q l ih =>
    intro k h j p hj
    obtain ⟨i, x⟩ := q
    simp only [idxOk, Bool.and_eq_true, beq_iff_eq] at h
    cases j with
    | zero => simp only [List.getElem?_cons_zero, Option.some.injEq] at hj; subst hj; simpa using h.1
    | succ j => have := ih (k + 1) h.2 j p (by simpa using hj); omega

theorem lensOk_spec {size : Nat} : ∀ (l : List AV), lensOk size l → ∀ x : AV, x ∈ l → x.cells.length = size ∧ x.stor = true := by
  intro l
  induction l with
  | nil => intro _ x h; cases h
  | cons y l ih =>
    intro h x hx
    rcases List.mem_cons.1 hx with rfl | h1
    · exact h.1
    · exact ih h.2 x h1

theorem fok_new {T : TypeId} {cs : Array Value} (h : Rel Γ s a w η) (k : Nat) (hX : ∀ b o, Γ.No b o → b < Γ.w0.heap.size) : Fok Γ (w.alloc (.cells cs T)) η s.hp w.heap.size k := by
  refine ⟨.inr (.inl h.keeps.size), by simp, fun hx => by have := hX _ _ hx; have := h.keeps.size; omega, (objF_iff _ _).2 fun r v hv hb => ?_⟩
  have hr' : r < s.hp.length := by rw [← h.heap.len]; exact (List.getElem?_eq_some_iff.1 hv).1
  refine ⟨s.hp[r], by simp [hr'], ?_⟩
  have ho : s.hp[r]? = some s.hp[r] := by simp [hr']
  cases hk : s.hp[r] with
  | dead => exact True.intro
  | _ =>
    rw [hk] at ho
    have := h.heap.block ho True.intro hv hb
    omega

theorem vrun_buildSlice (hok : Γ.Ok) {tab : Nat → Option TD} (htab : TabOk Γ.P tab) {o : Oper} {T n e : Nat} {parts : Array (Nat × Operand)} (ho : o.op = .buildSlice T n parts) {d d' : TD} (hd : tab T = some d) (hk : d.kind = .slc e) (hd' : tab e = some d')
    (hn : n = parts.toList.length) (hidx : idxOk 0 parts.toList = true) (hn24 : n ≤ 16777216) (hbig : n * d'.size ≤ 16777216) (hl : lensOk d'.size (parts.toList.map fun p => (s.ev p.2).toData s.hp)) : VRun Γ o s (.clip (parts.toList.map fun p => (s.ev p.2).toData s.hp)) := by
  intro a w η hr
  have hty := htab e d' hd'
  have hu : Γ.P.underlying T = some (.slice e) := by
    obtain ⟨u, h2, h3⟩ := (htab T d hd).und
    rw [hk] at h3
    rw [h2]; exact congrArg some h3
  have hls := lensOk_spec _ hl
  have hrep : ∀ (j : Nat) (x : AV) (v : Value), (parts.toList.map fun p => (s.ev p.2).toData s.hp)[j]? = some x → (parts.toList.map fun p => a.eval p.2)[j]? = some v → Rep w (Fok Γ w η s.hp) [] [] x v := by
    intro j x v h1 h2
    simp only [List.getElem?_map] at h1 h2
    cases hj : parts.toList[j]? with
    | none => rw [hj] at h1; cases h1
    | some p =>
      rw [hj] at h1 h2
      obtain rfl := Option.some.inj h1
      obtain rfl := Option.some.inj h2
      exact toData_rep hr.heap hr.mine (hr.ev p.2)
  have hlenE : (parts.toList.map fun p => (s.ev p.2).toData s.hp).length = n := by simp [hn]
  have hlenV : (parts.toList.map fun p => a.eval p.2).length = n := by simp [hn]
  have hrc : ∀ (j : Nat) (x : AV) (v : Value), (parts.toList.map fun p => (s.ev p.2).toData s.hp)[j]? = some x → (parts.toList.map fun p => a.eval p.2)[j]? = some v → RepC w (Fok Γ w η s.hp) [] [] x.cells v.cells.toList :=
    fun j x v h1 h2 => (hrep j x v h1 h2).repC (hls x (List.mem_of_getElem? h1)).2
  have hvsz : ∀ v : Value, v ∈ (parts.toList.map fun p => a.eval p.2) → v.cells.size = d'.size := by
    intro v hv
    obtain ⟨j, hj⟩ := List.getElem?_of_mem hv
    have hlt : j < n := by rw [← hlenV]; exact (List.getElem?_eq_some_iff.1 hj).1
    have hx : (parts.toList.map fun p => (s.ev p.2).toData s.hp)[j]? = some (parts.toList.map fun p => (s.ev p.2).toData s.hp)[j] := by rw [List.getElem?_eq_getElem (by rw [hlenE]; exact hlt)]
    have := (hrc j _ v hx hj).1
    rw [Array.length_toList] at this
    rw [this]
    exact (hls _ (List.mem_of_getElem? hx)).1
  have fin : ∀ cs0 : Array Value, cs0.size = n * d'.size → ∃ r, Instr.fill (fun i => some (i * d'.size, d'.size)) cs0 (parts.toList.map fun p => (p.1, a.eval p.2)) = some r ∧
      Rep (w.alloc (.cells r e)) (Fok Γ (w.alloc (.cells r e)) η s.hp) η s.hp (.clip (parts.toList.map fun p => (s.ev p.2).toData s.hp)) (.slice (some ⟨w.heap.size, 0, none⟩) n n) := by
    intro cs0 hcs
    obtain ⟨r, e1, e2, e3, e4⟩ := fill_slice (parts.toList.map fun p => a.eval p.2) 0 (parts.toList.map fun p => (p.1, a.eval p.2)) cs0 (by simp [Function.comp_def]) (fun j p hj => by
      rw [List.getElem?_map] at hj
      cases hj' : parts.toList[j]? with
      | none => rw [hj'] at hj; cases hj
      | some q =>
        rw [hj'] at hj
        obtain rfl := Option.some.inj hj
        exact idxOk_spec _ _ hidx j q hj') hvsz (by rw [hlenV, Nat.zero_add]; exact hcs)
    refine ⟨r, e1, ?_⟩
    have he := ext_same (Γ := Γ) (η := η) (hp := s.hp) (Same.alloc w (.cells r e)) (fun _ _ => fok_lt)
    have hget : ∀ (i : Nat) (el : AV) (j : Nat) (x : AV), (parts.toList.map fun p => (s.ev p.2).toData s.hp)[i]? = some el → el.cells[j]? = some x → ∃ u, r[i * d'.size + j]? = some u ∧ Rep w (Fok Γ w η s.hp) [] [] x u ∧ u.oneCell' = true := by
      intro i el j x hi hj
      have hlt : i < n := by rw [← hlenE]; exact (List.getElem?_eq_some_iff.1 hi).1
      have hv : (parts.toList.map fun p => a.eval p.2)[i]? = some (parts.toList.map fun p => a.eval p.2)[i] := by rw [List.getElem?_eq_getElem (by rw [hlenV]; exact hlt)]
      have h1 := hrc i el _ hi hv
      have hj' : j < (parts.toList.map fun p => a.eval p.2)[i].cells.toList.length := by rw [h1.1]; exact (List.getElem?_eq_some_iff.1 hj).1
      have hu : (parts.toList.map fun p => a.eval p.2)[i].cells.toList[j]? = some ((parts.toList.map fun p => a.eval p.2)[i].cells.toList[j]) := by rw [List.getElem?_eq_getElem hj']
      have h2 := e4 i _ j _ hv hu
      rw [Nat.zero_add] at h2
      exact ⟨_, by simpa using h2, h1.2 j x _ hj hu⟩
    have hm : (parts.toList.map fun p => (s.ev p.2).toData s.hp).length ≤ maxLen := by
      rw [hlenE]; simp only [maxLen]; omega
    have := Rep.clip (w := w.alloc (.cells r e)) (F := Fok Γ (w.alloc (.cells r e)) η s.hp) (η := η) (hp := s.hp) d'.size (parts.toList.map fun p => (s.ev p.2).toData s.hp) w.heap.size 0 (fun i j => (r[i * d'.size + j]?).getD undef) hm
      (fun i el hi => (hls el (List.mem_of_getElem? hi)).1) (fun i el j x hi hj => by
        obtain ⟨u, h1, _, h3⟩ := hget i el j x hi hj
        rw [h1]
        refine ⟨?_, fok_new hr _ (fun _ _ => hok.no), h3⟩
        rw [Nat.zero_add, World.cell?_alloc_new]; exact h1) (fun i el j x hi hj => by
        obtain ⟨u, h1, h2, _⟩ := hget i el j x hi hj
        rw [h1]; exact h2.ext he.ext0.ext)
    rw [hlenE] at this
    exact this
  have hb : ¬ n * d'.size > 2 ^ 24 := by omega
  by_cases hz : n * d'.size = 0
  · obtain ⟨r, e1, e2⟩ := fin ((Array.range (n * d'.size)).map ((#[] : Array Value)[· % (#[] : Array Value).size]!)) (by simp)
    refine ⟨_, _, ?_, Same.alloc w (.cells r e), e2⟩
    simp only [execOp, ho, Instr.buildSlice, Sem.run_bind, run_underlying hu, Result.andThen_ok, hty.run_sizeOf, Sem.run_ite, if_neg hb, Sem.run_pure, if_pos hz, Array.toList_map, e1, newRow, run_newObj]
    rfl
  · obtain ⟨r, e1, e2⟩ := fin ((Array.range (n * d'.size)).map (d'.zero.cells[· % d'.zero.cells.size]!)) (by simp)
    refine ⟨_, _, ?_, Same.alloc w (.cells r e), e2⟩
    simp only [execOp, ho, Instr.buildSlice, Sem.run_bind, run_underlying hu, Result.andThen_ok, hty.run_sizeOf, Sem.run_ite, if_neg hb, Sem.run_pure, if_neg hz, hty.run_zero, Array.toList_map, e1, newRow, run_newObj]
    rfl

end Go.Proofs.Ytfbncddnakaaiaa
