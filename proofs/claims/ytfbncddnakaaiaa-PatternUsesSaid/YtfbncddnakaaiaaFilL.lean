/- An abstract layer over the model's walk, its twelfth part: what pval reckons, the operation does; for every program. -/
import Derived.Test.YtfbncddnakaaiaaFilK
namespace Go.Proofs.Ytfbncddnakaaiaa
open Go
set_option linter.unusedSimpArgs false
set_option linter.unusedVariables false

variable {G : Type} {Γ : Env G} {s : AS G} {a : Act} {w w' : World} {η : List Value} {hp : List AObj} {F : Nat → Nat → Prop} {P : Program}

theorem vrun_sliceStr {tab : Nat → Option TD} (htab : TabOk Γ.P tab) {o : Oper} {T : Nat} {x : Operand} {lo hi : Option Operand} (ho : o.op = .slice T x lo hi none) {d : TD} (hd : tab T = some d) (hk : d.kind = .str) {b : ByteArray} (hx : s.ev x = .prim (.string b))
    {l h : Int} (hl : boundOf s.ev 0 lo = some l) (hh : boundOf s.ev b.size hi = some h) (h0 : 0 ≤ l) (h1 : l ≤ h) (h2 : h ≤ b.size) : VRun Γ o s (.prim (.string (b.extract l.toNat h.toNat))) := by
  refine vrun_pure fun a w η hrel => ⟨_, ?_, .prim _⟩
  have hxr := hrel.ev x
  rw [hx] at hxr
  have hxv := hxr.prim_inv
  have hu : Γ.P.underlying T = some .string := by
    obtain ⟨u, q2, q3⟩ := (htab T d hd).und
    rw [hk] at q3
    rw [q2]; exact congrArg some q3
  have hlv : lo = none ∧ l = 0 ∨ ∃ y k, lo = some y ∧ a.eval y = .int k l := by
    cases lo with
    | none => simp [boundOf] at hl; exact .inl ⟨rfl, hl.symm⟩
    | some y => obtain ⟨k, hk⟩ := boundOf_eval hrel hl; exact .inr ⟨y, k, rfl, hk⟩
  have hhv : hi = none ∧ h = b.size ∨ ∃ y k, hi = some y ∧ a.eval y = .int k h := by
    cases hi with
    | none => simp [boundOf] at hh; exact .inl ⟨rfl, hh.symm⟩
    | some y => obtain ⟨k, hk⟩ := boundOf_eval hrel hh; exact .inr ⟨y, k, rfl, hk⟩
  rcases hhv with ⟨rfl, rfl⟩ | ⟨y, k, rfl, hv⟩
  · rcases hlv with ⟨rfl, rfl⟩ | ⟨y0, k0, rfl, hv0⟩
    · simp [execOp, ho, Instr.sliceAt, run_underlying hu, Instr.slice, hxv, Instr.sliceBounds]
    · have hs0 := run_sliceBound (P := Γ.P) w hv0 (y := b.size) h0 (by omega) .sliceB
      simp [execOp, ho, Instr.sliceAt, run_underlying hu, Instr.slice, hxv, Instr.sliceBounds, hs0]
  · have hs := run_sliceBound (P := Γ.P) w hv (y := b.size) (by omega) (by omega) .sliceAlen
    rcases hlv with ⟨rfl, rfl⟩ | ⟨y0, k0, rfl, hv0⟩
    · simp [execOp, ho, Instr.sliceAt, run_underlying hu, Instr.slice, hxv, Instr.sliceBounds, hs]
    · have hs0 := run_sliceBound (P := Γ.P) w hv0 (y := h.toNat) h0 (by omega) .sliceB
      simp [execOp, ho, Instr.sliceAt, run_underlying hu, Instr.slice, hxv, Instr.sliceBounds, hs, hs0]

theorem pval_sound (hok : Γ.Ok) {tab : Nat → Option TD} (htab : TabOk Γ.P tab) {o : Oper} {c : Prop} {r : AV} (h : pval tab s.hp s.ev o.op = some (c, r)) (hc : c) : VRun Γ o s r := by
  generalize ho : o.op = op at h
  cases op with
  | move x =>
    simp only [pval, Option.some.injEq, Prod.mk.injEq] at h
    obtain ⟨_, rfl⟩ := h
    exact vrun_pure fun a w η hr => ⟨a.eval x, by simp [execOp, ho], hr.ev x⟩
  | assign x =>
    simp only [pval, Option.some.injEq, Prod.mk.injEq] at h
    obtain ⟨_, rfl⟩ := h
    exact vrun_pure fun a w η hr => ⟨a.eval x, by simp [execOp, ho], hr.ev x⟩
  | pick cc x y =>
    simp only [pval] at h
    split at h
    · rename_i t ht
      simp only [Option.some.injEq, Prod.mk.injEq] at h
      obtain ⟨_, rfl⟩ := h
      exact vrun_pick ho ht
    · cases h
  | fieldAddr T x f =>
    simp only [pval] at h
    split at h
    · rename_i p hp
      split at h
      · cases h
      · rename_i h0
        split at h
        · rename_i n off he
          simp only [Option.some.injEq, Prod.mk.injEq] at h
          exact vrun_fieldAddr htab ho hp h0 (.inl ⟨n, off, he, h.2.symm⟩)
        · rename_i e off he
          simp only [Option.some.injEq, Prod.mk.injEq] at h
          exact vrun_fieldAddr htab ho hp h0 (.inr ⟨e, off, he, h.2.symm⟩)
        · cases h
    · cases h
  | load T x =>
    simp only [pval] at h
    split at h
    · rename_i d hd
      split at h
      · rename_i n off he
        split at h
        · rename_i cs hcs
          cases hl : ldCells d.kind.agg d.size cs off with
          | none => rw [hl] at h; cases h
          | some v =>
            rw [hl] at h
            simp only [Option.map_some, Option.some.injEq, Prod.mk.injEq] at h
            obtain ⟨_, rfl⟩ := h
            exact vrun_load htab ho hd (.inl ⟨n, off, cs, he, hcs, hl⟩)
        · cases h
      · rename_i e off he
        cases hl : ldElem d.kind.agg d.size e off with
        | none => rw [hl] at h; cases h
        | some v =>
          rw [hl] at h
          simp only [Option.map_some, Option.some.injEq, Prod.mk.injEq] at h
          obtain ⟨_, rfl⟩ := h
          exact vrun_load htab ho hd (.inr ⟨e, off, he, hl⟩)
      · cases h
    · cases h
  | indexAddr T x i =>
    simp only [pval] at h
    split at h
    · rename_i d hd
      split at h
      · rename_i e hk
        split at h
        · rename_i d' els k n hd' hels hi
          simp only [Option.some.injEq, Prod.mk.injEq] at h
          obtain ⟨rfl, rfl⟩ := h
          exact vrun_indexAddr htab ho hd hk hd' hels hi hc.1 hc.2.1 hc.2.2
        · cases h
      · cases h
    · cases h
  | binOp op T x y T' => exact vrun_binOp htab ho (by simpa only [pval] using h) hc
  | unOp op T x =>
    simp only [pval] at h
    split at h
    · rename_i b he
      simp only [Option.some.injEq, Prod.mk.injEq] at h
      exact vrun_unOp ho (.inl ⟨b, rfl, he, h.2.symm⟩)
    · rename_i k n he
      simp only [Option.some.injEq, Prod.mk.injEq] at h
      exact vrun_unOp ho (.inr ⟨k, n, rfl, he, h.2.symm⟩)
    · cases h
  | build T parts =>
    simp only [pval] at h
    split at h
    · rename_i d hd
      split at h
      · rename_i fs hk
        cases hl : fillCells fs (d.zero.cells.toList.map .prim) (parts.toList.map fun p => (p.1, s.ev p.2)) with
        | none => rw [hl] at h; cases h
        | some cs =>
          rw [hl] at h
          simp only [Option.map_some, Option.some.injEq, Prod.mk.injEq] at h
          obtain ⟨_, rfl⟩ := h
          exact vrun_build htab ho hd hk hl
      · cases h
    · cases h
  | buildSlice T n parts =>
    simp only [pval] at h
    split at h
    · rename_i d hd
      split at h
      · rename_i e hk
        split at h
        · rename_i d' hd'
          split at h
          · rename_i hcond
            simp only [Option.some.injEq, Prod.mk.injEq] at h
            obtain ⟨rfl, rfl⟩ := h
            exact vrun_buildSlice hok htab ho hd hk hd' hcond.1 hcond.2.1 hcond.2.2.1 hcond.2.2.2 hc
          · cases h
        · cases h
      · cases h
    · cases h
  | field T x f =>
    simp only [pval] at h
    split at h
    · rename_i p cs hp hx
      split at h
      · rename_i hcond
        cases hl : ldCells p.2.2 p.2.1 cs p.1 with
        | none => rw [hl] at h; cases h
        | some v =>
          rw [hl] at h
          simp only [Option.map_some, Option.some.injEq, Prod.mk.injEq] at h
          obtain ⟨_, rfl⟩ := h
          exact vrun_field htab ho hp hx hl fun hf => by
            rcases hcond with h1 | h1
            · rw [h1] at hf; cases hf
            · exact h1
      · cases h
    · cases h
  | lookup T m k ok =>
    simp only [pval] at h
    split at h
    · rename_i d es a hd hm hk
      split at h
      · rename_i kt et hkind
        split at h
        · rename_i dk de hdk hde
          split at h
          · rename_i ik hik
            simp only [Option.some.injEq, Prod.mk.injEq] at h
            obtain ⟨_, rfl⟩ := h
            exact vrun_lookup htab ho hd hkind hdk hik hde hm hk
          · cases h
        · cases h
      · cases h
    · cases h
  | extract x i =>
    simp only [pval] at h
    split at h
    · rename_i vs he
      cases hl : vs[i]? with
      | none => rw [hl] at h; cases h
      | some v =>
        rw [hl] at h
        simp only [Option.map_some, Option.some.injEq, Prod.mk.injEq] at h
        obtain ⟨_, rfl⟩ := h
        exact vrun_extract ho he hl
    · cases h
  | makeFunc fn first caps =>
    cases fn with
    | func f =>
      simp only [pval] at h
      split at h
      · rename_i h0
        simp only [Option.some.injEq, Prod.mk.injEq] at h
        obtain ⟨_, rfl⟩ := h
        exact vrun_makeFunc ho h0
      · cases h
    | _ => simp [pval] at h
  | slice T x lo hi mx =>
    simp only [pval] at h
    split at h
    · rename_i d hd
      split at h
      · rename_i b hk hx
        split at h
        · rename_i l h' hl hh
          simp only [Option.some.injEq, Prod.mk.injEq] at h
          obtain ⟨rfl, rfl⟩ := h
          exact vrun_sliceStr htab ho hd hk hx hl hh hc.1 hc.2.1 hc.2.2
        · cases h
      · rename_i e hk
        split at h
        · rename_i els d' hels hd'
          split at h
          · rename_i l h' hl hh hm
            simp only [Option.some.injEq, Prod.mk.injEq] at h
            obtain ⟨rfl, rfl⟩ := h
            have hmx : mx = none := by cases mx <;> simp_all
            exact vrun_slice htab ho hd hk hd' hels hl hh hc.1 hc.2.1 hc.2.2.1 hc.2.2.2 (.inl ⟨hmx, rfl⟩)
          · rename_i l h' m hl hh hm
            split at h
            · rename_i his
              simp only [Option.some.injEq, Prod.mk.injEq] at h
              obtain ⟨rfl, rfl⟩ := h
              cases mx with
              | none => simp at hm
              | some y =>
                simp only [Option.map_some, Option.some.injEq] at hm
                exact vrun_slice htab ho hd hk hd' hels hl hh hc.1 hc.2.1 hc.2.2.2.1 hc.2.2.2.2 (.inr ⟨y, m, rfl, his, hm, hc.2.2.1, rfl⟩)
            · cases h
          · cases h
        · cases h
      · cases h
    · cases h
  | call cl =>
    simp only [pval] at h
    split at h
    · rename_i x hb hl
      split at h
      · rename_i d hd
        have hT : ∃ T, cl.argTypes[0]? = some T ∧ tab T = some d := by
          cases hT : cl.argTypes[0]? with
          | none => rw [hT] at hd; cases hd
          | some T => rw [hT] at hd; exact ⟨T, rfl, hd⟩
        obtain ⟨T, hT, hd⟩ := hT
        split at h
        · cases h
        · rename_i e hk hns
          have hlv : ∃ els, (s.ev x).asSl s.hp = some els ∧ r = .prim (.int .i64 els.length) := by
            unfold lenVal at h
            split at h
            · rename_i sb he
              exact (hns sb he).elim
            · cases hels : (s.ev x).asSl s.hp with
              | none => rw [hels] at h; cases h
              | some els =>
                rw [hels] at h
                simp only [Option.map_some, Option.some.injEq, Prod.mk.injEq] at h
                exact ⟨els, rfl, h.2.symm⟩
          obtain ⟨els, h1, h2⟩ := hlv
          exact vrun_len htab ho hb hl hT hd (.inl ⟨e, els, hk, h1, h2⟩)
        · rename_i b hk hx
          simp only [Option.some.injEq, Prod.mk.injEq] at h
          exact vrun_len htab ho hb hl hT hd (.inr ⟨b, hk, hx, h.2.symm⟩)
        · cases h
      · cases h
    · rename_i x y hb hl
      split at h
      · rename_i k m k' n hx hy
        simp only [Option.some.injEq, Prod.mk.injEq] at h
        obtain ⟨_, rfl⟩ := h
        exact vrun_min ho hb hl hx hy
      · cases h
    · rename_i x y hb hl
      split at h
      · rename_i k m k' n hx hy
        simp only [Option.some.injEq, Prod.mk.injEq] at h
        obtain ⟨_, rfl⟩ := h
        exact vrun_max ho hb hl hx hy
      · cases h
    · cases h
  | _ => simp [pval] at h

end Go.Proofs.Ytfbncddnakaaiaa
