/- An abstract layer over the model's walk, its eighth part: what pval reckons is what the operation does; for every program. -/
import Derived.Test.YtfbncddnakaaiaaFilG
namespace Go.Proofs.Ytfbncddnakaaiaa
open Go
set_option linter.unusedSimpArgs false
set_option linter.unusedVariables false

variable {G : Type} {Γ : Env G} {s : AS G} {a : Act} {w w' : World} {η : List Value} {hp : List AObj} {F : Nat → Nat → Prop} {P : Program}

theorem fieldsOf_tab {tab : Nat → Option TD} {T : Nat} {f : Nat} {p : Nat × Nat × Bool} (h : (fieldsOf tab T)[f]? = some p) : ∃ d fs, tab T = some d ∧ d.kind = .strct fs ∧ fs[f]? = some p := by
  unfold fieldsOf at h
  split at h
  · rename_i d hd
    split at h
    · rename_i fs hk
      exact ⟨d, fs, hd, hk, h⟩
    · simp at h
  · simp at h

theorem TyOk.field {T : Nat} {d : TD} (h : TyOk P T d) {fs : List (Nat × Nat × Bool)} (hk : d.kind = .strct fs) {f : Nat} {p : Nat × Nat × Bool} (hf : fs[f]? = some p) :
    ∃ fields fd i u, P.underlying T = some (.struct fields) ∧ fields[f]? = some fd ∧ fd.offset = p.1 ∧ P.info? fd.type = some i ∧ i.size = p.2.1 ∧ P.underlying fd.type = some u ∧ aggD u = p.2.2 := by
  obtain ⟨u, h1, h2⟩ := h.und
  rw [hk] at h2
  obtain ⟨fields, rfl, h3⟩ := h2
  have h4 := congrArg (·[f]?) h3
  simp only [List.getElem?_map, hf, Option.map_some, Array.getElem?_toList] at h4
  cases hfd : fields[f]? with
  | none => rw [hfd] at h4; cases h4
  | some fd =>
    rw [hfd] at h4
    simp only [Option.map_some, Option.some.injEq, Prod.mk.injEq] at h4
    obtain ⟨e1, e2, e3⟩ := h4
    cases hi : P.info? fd.type with
    | none => rw [hi] at e2; cases e2
    | some i =>
      cases hu : P.underlying fd.type with
      | none => rw [hu] at e3; cases e3
      | some u =>
        rw [hi] at e2; rw [hu] at e3
        exact ⟨fields, fd, i, u, h1, hfd, e1, hi, by simpa using e2, hu, by simpa using e3⟩

theorem vrun_fieldAddr {tab : Nat → Option TD} (htab : TabOk Γ.P tab) {o : Oper} {T f : Nat} {x : Operand} (ho : o.op = .fieldAddr T x f) {p : Nat × Nat × Bool} (hp : (fieldsOf tab T)[f]? = some p) (h0 : p.2.1 ≠ 0) {r : AV}
    (h : (∃ n off, s.ev x = .ptr n off ∧ r = .ptr n (off + p.1)) ∨ (∃ e off, s.ev x = .eptr e off ∧ r = .eptr e (off + p.1))) : VRun Γ o s r := by
  refine vrun_pure fun a w η hr => ?_
  have hx := hr.ev x
  obtain ⟨d, fs, hd, hk, hf⟩ := fieldsOf_tab hp
  obtain ⟨fields, fd, i, u, h1, h2, h3, h4, h5, _⟩ := (htab T d hd).field hk hf
  have h6 : ¬ i.size = 0 := by rw [h5]; exact h0
  rcases h with ⟨n, off, he, rfl⟩ | ⟨e, off, he, rfl⟩ <;> rw [he] at hx
  · cases hev : a.eval x <;> rw [hev] at hx <;> cases hx
    rename_i b hη
    exact ⟨.pointer (some ⟨b, off + p.1, none⟩), by simp [execOp, ho, hev, Instr.fieldAt, run_underlying h1, h2, Instr.sureAddr, fieldPlace, sizeOf, typeInfo, h4, h6, h3, Addr.add_lit], .ptr n _ b hη⟩
  · cases hev : a.eval x <;> rw [hev] at hx <;> cases hx
    rename_i b o f' hcell hrep
    refine ⟨.pointer (some ⟨b, o + off + p.1, none⟩), by simp [execOp, ho, hev, Instr.fieldAt, run_underlying h1, h2, Instr.sureAddr, fieldPlace, sizeOf, typeInfo, h4, h6, h3, Addr.add_lit], ?_⟩
    rw [Nat.add_assoc]
    exact .eptr e _ b o f' hcell hrep

theorem vrun_indexAddr {tab : Nat → Option TD} (htab : TabOk Γ.P tab) {o : Oper} {T e : Nat} {x i : Operand} (ho : o.op = .indexAddr T x i) {d d' : TD} (hd : tab T = some d) (hk : d.kind = .slc e) (hd' : tab e = some d') {els : List AV} (hels : (s.ev x).asSl s.hp = some els)
    {k : IntKind} {n : Int} (hi : s.ev i = .prim (.int k n)) (h0 : 0 ≤ n) (h1 : n < els.length) (hsz : (els.getD n.toNat .top).cells.length = d'.size) : VRun Γ o s (.eptr (els.getD n.toNat .top) 0) := by
  refine vrun_pure fun a w η hr => ?_
  have hx := asSl_rep hr.heap hr.mine (hr.ev x) hels
  have hii := hr.ev i
  rw [hi] at hii
  have hiv := hii.prim_inv
  have hu : Γ.P.underlying T = some (.slice e) := by
    obtain ⟨u, h2, h3⟩ := (htab T d hd).und
    rw [hk] at h3
    rw [h2]; exact congrArg some h3
  have hlt : n.toNat < els.length := by omega
  have hget : els[n.toNat]? = some (els.getD n.toNat .top) := by simp [List.getD, hlt]
  generalize hxv : a.eval x = vx at hx
  cases hx with
  | sl0 => simp at hlt
  | sl size els b off c f hc hm hl hcell hrep =>
    have hs : size = d'.size := by rw [← hl _ _ hget]; exact hsz
    subst hs
    obtain ⟨i0, hi0, hi1, _⟩ := (htab e d' hd').info
    refine ⟨.pointer (some ⟨b, off + n.toNat * d'.size, none⟩), ?_, .eptr _ 0 b (off + n.toNat * d'.size) (f n.toNat) (fun j x hj => hcell _ _ _ _ hget hj) (fun j x hj => hrep _ _ _ _ hget hj)⟩
    have hb : 0 ≤ n ∧ n < (els.length : Int) := ⟨h0, h1⟩
    simp [execOp, ho, hxv, hiv, Instr.indexAt, asIntOf, run_underlying hu, hb, sizeOf, typeInfo, hi0, hi1, Addr.add_lit]

theorem vrun_binOp {tab : Nat → Option TD} (htab : TabOk Γ.P tab) {o : Oper} {T T' : Nat} {op : BinOp} {x y : Operand} (ho : o.op = .binOp op T x y T') {c : Prop} {r : AV} (h : bopVal tab T op (s.ev x) (s.ev y) = some (c, r)) (_hc : c) : VRun Γ o s r := by
  refine vrun_pure fun a w η hr => ?_
  have hx := hr.ev x
  have hy := hr.ev y
  unfold bopVal at h
  split at h
  · rename_i k m k' n e1 e2
    rw [e1] at hx; rw [e2] at hy
    have hx' := hx.prim_inv
    have hy' := hy.prim_inv
    split at h
    · rename_i hkk
      subst hkk
      unfold bopInt at h
      split at h <;> first
        | cases h; done
        | (simp only [Option.some.injEq, Prod.mk.injEq] at h; obtain ⟨_, rfl⟩ := h; exact ⟨_, by simp [execOp, ho, hx', hy', eqGuard, binOp, Op.intArith, Op.intCmp]; try rfl, .prim _⟩)
    · cases h
  · rename_i b1 b2 e1 e2
    rw [e1] at hx; rw [e2] at hy
    have hx' := hx.prim_inv
    have hy' := hy.prim_inv
    split at h
    · rename_i d hd
      obtain ⟨u, h2, h3⟩ := (htab T d hd).und
      split at h
      · rename_i hk
        rw [hk] at h3
        have hu : Γ.P.underlying T = some .bool := by rw [h2]; exact congrArg some h3
        simp only [Option.some.injEq, Prod.mk.injEq] at h
        obtain ⟨_, rfl⟩ := h
        have he : (Op.equal T (.bool b1) (.bool b2)).run Γ.P w = .ok (b1 == b2) w := run_equalIn_bool' w 9999 T b1 b2 hu
        refine ⟨_, ?_, .prim _⟩
        simp only [execOp, ho, hx', hy', eqGuard, binOp, Sem.run_bind, Bool.not_true, Bool.false_eq_true, if_false, he, Result.andThen_ok, Sem.run_pure]
      · rename_i hk
        rw [hk] at h3
        have hu : Γ.P.underlying T = some .bool := by rw [h2]; exact congrArg some h3
        simp only [Option.some.injEq, Prod.mk.injEq] at h
        obtain ⟨_, rfl⟩ := h
        have he : (Op.equal T (.bool b1) (.bool b2)).run Γ.P w = .ok (b1 == b2) w := run_equalIn_bool' w 9999 T b1 b2 hu
        refine ⟨_, ?_, .prim _⟩
        simp only [execOp, ho, hx', hy', eqGuard, binOp, Sem.run_bind, Bool.not_true, Bool.false_eq_true, if_false, he, Result.andThen_ok, Sem.run_pure]
      · cases h
    · cases h
  · rename_i a1 a2 b1 b2 e1 e2
    rw [e1] at hx; rw [e2] at hy
    have hagg : ∀ {m1 m2 : Int} {v : Value}, Rep w (Fok Γ w η s.hp) η s.hp (.agg [.prim (.int .i64 m1), .prim (.int .i64 m2)]) v → v = .agg #[.int .i64 m1, .int .i64 m2] := by
      intro m1 m2 v hv
      cases hv with
      | agg cs vs hl h1 hr =>
        obtain ⟨vs⟩ := vs
        match vs, hl with
        | [u1, u2], _ =>
          have q1 := (hr 0 _ u1 rfl rfl).prim_inv
          have q2 := (hr 1 _ u2 rfl rfl).prim_inv
          rw [q1, q2]
    have hx' := hagg hx
    have hy' := hagg hy
    split at h
    · rename_i d hd
      split at h
      · rename_i hfl
        obtain ⟨g1, g2⟩ := (htab T d hd).feq hfl
        split at h
        · simp only [Option.some.injEq, Prod.mk.injEq] at h
          obtain ⟨_, rfl⟩ := h
          refine ⟨.bool (a1 == b1 && a2 == b2), ?_, .prim _⟩
          have := run_eql_struct (P := Γ.P) w T #[.int .i64 a1, .int .i64 a2] #[.int .i64 b1, .int .i64 b2]
          rw [g2] at this
          simp only [Result.andThen_ok] at this
          simp only [execOp, ho, hx', hy', Sem.run_bind, run_eqGuard_agg (P := Γ.P) w _ T x y _ _ g1, Result.andThen_ok, this]
          rfl
        · simp only [Option.some.injEq, Prod.mk.injEq] at h
          obtain ⟨_, rfl⟩ := h
          refine ⟨.bool (!(a1 == b1 && a2 == b2)), ?_, .prim _⟩
          have := run_neq_struct (P := Γ.P) w T #[.int .i64 a1, .int .i64 a2] #[.int .i64 b1, .int .i64 b2]
          rw [g2] at this
          simp only [Result.andThen_ok] at this
          simp only [execOp, ho, hx', hy', Sem.run_bind, run_eqGuard_agg (P := Γ.P) w _ T x y _ _ g1, Result.andThen_ok, this]
          rfl
        · cases h
      · cases h
    · cases h
  · cases h

theorem vrun_simple {o : Oper} {r : AV} (h : ∀ a w η, Rel Γ s a w η → ∃ v, (execOp a.eval o).run Γ.P w = .ok (.value v) w ∧ Rep w (Fok Γ w η s.hp) η s.hp r v) : VRun Γ o s r := vrun_pure h

theorem repArgs (h : Rel Γ s a w η) : ∀ l : List Operand, RepL w (Fok Γ w η s.hp) η s.hp (l.map s.ev) (l.map a.eval)
  | [] => True.intro
  | x :: l => ⟨h.ev x, repArgs h l⟩

theorem vrun_makeFunc {o : Oper} {f : Nat} {first caps : Array Operand} (ho : o.op = .makeFunc (.func f) first caps) (h0 : first.size = 0) : VRun Γ o s (.clo f (caps.toList.map s.ev)) := by
  refine vrun_pure fun a w η hr => ⟨.func (.func f) #[] (caps.map a.eval), ?_, .clo f _ _ (by simp) fun j x v hx hv => ?_⟩
  · have : first = #[] := Array.eq_empty_of_size_eq_zero h0
    subst this
    simp [execOp, ho, Instr.makeFunc]
  · exact (repArgs hr caps.toList).get j x v hx (by simpa using hv)

theorem vrun_pick {o : Oper} {c x y : Operand} {t : Bool} (ho : o.op = .pick c x y) (hc : s.ev c = .prim (.bool t)) : VRun Γ o s (if t = true then s.ev x else s.ev y) := by
  refine vrun_pure fun a w η hr => ?_
  have h := hr.ev c
  rw [hc] at h
  have hv := h.prim_inv
  cases t with
  | true => exact ⟨a.eval x, by simp [execOp, ho, hv, asBool], by simpa using hr.ev x⟩
  | false => exact ⟨a.eval y, by simp [execOp, ho, hv, asBool], by simpa using hr.ev y⟩

theorem vrun_unOp {o : Oper} {op : UnOp} {T : Nat} {x : Operand} (ho : o.op = .unOp op T x) {r : AV} (h : (∃ b, op = .not ∧ s.ev x = .prim (.bool b) ∧ r = .prim (.bool (!b))) ∨ (∃ k n, op = .neg ∧ s.ev x = .prim (.int k n) ∧ r = .prim (.int k (k.wrap (0 - n))))) : VRun Γ o s r := by
  refine vrun_pure fun a w η hr => ?_
  have hx := hr.ev x
  rcases h with ⟨b, rfl, he, rfl⟩ | ⟨k, n, rfl, he, rfl⟩ <;> rw [he] at hx
  · exact ⟨_, by simp [execOp, ho, hx.prim_inv, Op.unary], .prim _⟩
  · exact ⟨_, by simp [execOp, ho, hx.prim_inv, Op.unary, Op.intArith], .prim _⟩

theorem vrun_extract {o : Oper} {x : Operand} {i : Nat} (ho : o.op = .extract x i) {vs : List AV} {r : AV} (he : s.ev x = .tup vs) (hi : vs[i]? = some r) : VRun Γ o s r := by
  refine vrun_pure fun a w η hr => ?_
  have hx := hr.ev x
  rw [he] at hx
  generalize hv : a.eval x = v at hx
  cases hx with
  | tup cs us hl hrep =>
    have hlt : i < us.size := by rw [hl]; exact (List.getElem?_eq_some_iff.1 hi).1
    have hu : us[i]? = some us[i] := by simp [hlt]
    exact ⟨us[i], by simp [execOp, ho, hv, Instr.extract, hu], hrep i r _ hi hu⟩

theorem vrun_field {tab : Nat → Option TD} (htab : TabOk Γ.P tab) {o : Oper} {T f : Nat} {x : Operand} (ho : o.op = .field T x f) {p : Nat × Nat × Bool} (hp : (fieldsOf tab T)[f]? = some p) {cs : List AV} (hx : s.ev x = .agg cs) {r : AV}
    (h : ldCells p.2.2 p.2.1 cs p.1 = some r) (h1 : p.2.2 = false → p.2.1 = 1) : VRun Γ o s r := by
  refine vrun_pure fun a w η hr => ?_
  have hxr := hr.ev x
  rw [hx] at hxr
  obtain ⟨d, fs, hd, hk, hf⟩ := fieldsOf_tab hp
  obtain ⟨fields, fd, i, u, e1, e2, e3, e4, e5, e6, e7⟩ := (htab T d hd).field hk hf
  generalize hv : a.eval x = v at hxr
  cases hxr with
  | agg _ vs hl hone hrep =>
    obtain ⟨g1, g2⟩ := ldCells_rep (w := w) (F := Fok Γ w η s.hp) (η := η) (hp := s.hp) h1 (vs := vs.toList) (by simpa using hl) (fun j x u hx hu => ⟨hrep j x u hx (by simpa using hu), hone u (by rw [← Array.mem_toList_iff]; exact List.mem_of_getElem? hu)⟩) h
    refine ⟨_, ?_, g2⟩
    have hag : (isAgg fd.type).run Γ.P w = .ok p.2.2 w := by
      rw [← e7]
      simp only [isAgg, Sem.run_bind, run_underlying e6, Result.andThen_ok]
      cases u <;> rfl
    simp only [execOp, ho, hv, Instr.field, Sem.run_bind, run_underlying e1, Result.andThen_ok, e2, asAgg, Sem.run_pure, part, hag]
    cases hpa : p.2.2 with
    | true =>
      simp only [if_true, Sem.run_bind, sizeOf, typeInfo, run_program, Result.andThen_ok, e4, Sem.run_pure, e5, e3]
      congr 2
      apply congrArg
      apply Array.ext'
      simp [Array.toList_extract, List.extract_eq_take_drop]
    | false =>
      have hs := h1 hpa
      rw [hs] at g1 ⊢
      have hlt : p.1 < vs.size := by simp at g1; omega
      have hu : vs[p.1]? = some vs[p.1] := by simp [hlt]
      simp only [Bool.false_eq_true, if_false, e3, hu, Sem.run_pure, Result.andThen_ok]
      congr 2
      have : (vs.toList.drop p.1).take 1 = [vs[p.1]] := by
        apply List.ext_getElem?
        intro k
        rw [List.getElem?_take]
        cases k with
        | zero => simp [hlt]
        | succ k => simp
      rw [this]; rfl

end Go.Proofs.Ytfbncddnakaaiaa
