/- Proved: the law 'filigreelaw11.PatternUses' returns true, and leaves its arguments as they read, for every term and every number. Conditions: none beyond the given statement's own (PatternUsesSaid). -/
import Derived.Test.YtfbncddnakaaiaaP14
import Derived.Test.YtfbncddnakaaiaaJ03
namespace Go.Proofs.Ytfbncddnakaaiaa
open Go Go.ChangeShapes Go.WideShapes Go.ChangeAt Go.RowKit
set_option linter.unusedSimpArgs false
set_option linter.unusedVariables false

theorem PatternUses_params : Try.f5.params = #[27, 3] := by kernel_rfl
theorem PatternUses_rows : ∀ t ∈ Try.f5.params.toList, Try.prog.readableRec t = true ∧ t < Try.prog.types.size := by
  rw [PatternUses_params]
  intro t ht
  have h : t = 27 ∨ t = 3 := by simpa using ht
  rcases h with rfl | rfl
  · exact ⟨by kernel_rfl, of_decide_eq_true (by kernel_rfl)⟩
  · exact ⟨by kernel_rfl, of_decide_eq_true (by kernel_rfl)⟩
theorem PatternUses_results : Try.f5.resultTypes = #[4] := by kernel_rfl
theorem PatternUses_bool : Try.prog.underlying 4 = some .bool := by kernel_rfl

set_option maxRecDepth 100000 in
theorem PatternUses_contract {H : Type} {enc : TypeId × Value → H} (W : World) (base : Nat) (args : Array Value) (ds gs : List (DataW H)) (before : List MemPlace)
    (hval : ∀ (j : Nat) t v, Try.f5.params[j]? = some t → args[j]? = some v → Value.okWide Try.prog W .any base t v)
    (hW : DataW.Whole enc Try.prog Try.f5.params.toList Rows.patternUsesSpec.vars false W args.toList ds gs before) :
    Calls Try.prog 5 args W fun e W' => ∃ v, e = .returned v ∧ Rows.patternUsesSpec.post enc Try.prog Try.f5 false true false false W args v W' := by
  have hW' := hW
  obtain ⟨p, q, hA, hV, rfl, _, _⟩ := hW
  obtain ⟨rfl, rfl⟩ := trodVars_none hV
  rw [PatternUses_params] at hA hval
  obtain ⟨v0, vs0, d0, ds0, p0, q0, e0, rfl, rfl, h0, r0⟩ := trodAll_cons hA
  obtain ⟨v1, vs1, d1, ds1, p1, q1, e1, rfl, rfl, h1, r1⟩ := trodAll_cons r0
  obtain ⟨rfl, rfl, rfl⟩ := trodAll_nil r1
  obtain rfl : args = #[v0, v1] := by cases args; simp_all
  obtain ⟨x0, k0, w0⟩ := arg_term sorts (hval 0 27 v0 rfl rfl) h0
  obtain ⟨x1, k1, w1⟩ := arg_int sorts (hval 1 3 v1 rfl rfl) h1
  exact calls_true (tb := 4) laidOut rfl PatternUses_bool PatternUses_results PatternUses_rows hW' rfl rfl rfl (PatternUses_calls k0) ⟨w0, w1, True.intro⟩

set_option maxRecDepth 100000 in
theorem PatternUses_lifted (os : Os) (started : os.Started) (H : Type) (enc : TypeId × Value → H) :
    ReturnsInHanded {} Try.checked os 5 .any (Rows.patternUsesSpec.pre6 enc Try.prog Try.f5 Rows.patternUsesRow.domain false) (Rows.patternUsesSpec.post enc Try.prog Try.f5 false true false false) := by
  refine returnsInHanded_of_change (C := Try.checked) own started (by kernel_rfl) Try.func5
    (ChangeSpec.witness6 (enc := enc) (C := Try.checked) false ⟨#[], #[.agg #[.slice none 0 0, .int .i64 0, .int .i64 0, .slice none 0 0], .int .i64 0], []⟩ 8 (by kernel_rfl) (by kernel_rfl) (by kernel_rfl) (by kernel_rfl)) ?_
  intro W base args ds gs before hval hW _ _
  exact PatternUses_contract W base args ds gs before hval hW

theorem PatternUses_over : Rows.patternUsesRow.holds Try.pinned (OpenSpec.ofChange Rows.patternUsesSpec) :=
  OpenClaim.holds_of_wide 5 Try.f5 rfl rfl rfl rfl rfl rfl rfl ⟨rfl, rfl, rfl, rfl, rfl⟩ rfl rfl rfl rfl rfl (by kernel_rfl) Try.func5 (by kernel_rfl)
    (of_decide_eq_true (by kernel_rfl)) (by unfold Func.isWrapper; first | (rw [if_pos (by decide +kernel)]; kernel_rfl) | (rw [if_neg (by decide +kernel)]; exact ⟨rfl, rfl⟩))
    (fun os started H enc _ => PatternUses_lifted os started H enc)

theorem PatternUses_proved : Rows.PatternUsesSaid := PatternUses_over

end Go.Proofs.Ytfbncddnakaaiaa
