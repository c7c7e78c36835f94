/- Proved: the law 'filigreelaw11.PatternTakes' returns true, and leaves its arguments as they read, for every term, every types and every numbers. Conditions: none beyond the given statement's own (PatternTakesSaid). -/
import Derived.Test.YtfbncddnakaaiaaP10
import Derived.Test.YtfbncddnakaaiaaJ03
namespace Go.Proofs.Ytfbncddnakaaiaa
open Go Go.ChangeShapes Go.WideShapes Go.ChangeAt Go.RowKit
set_option linter.unusedSimpArgs false
set_option linter.unusedVariables false

theorem PatternTakes_params : Try.f3.params = #[27, 22, 28] := by kernel_rfl
theorem PatternTakes_rows : ∀ t ∈ Try.f3.params.toList, Try.prog.readableRec t = true ∧ t < Try.prog.types.size := by
  rw [PatternTakes_params]
  intro t ht
  have h : t = 27 ∨ t = 22 ∨ t = 28 := by simpa using ht
  rcases h with rfl | rfl | rfl
  · exact ⟨by kernel_rfl, of_decide_eq_true (by kernel_rfl)⟩
  · exact ⟨by kernel_rfl, of_decide_eq_true (by kernel_rfl)⟩
  · exact ⟨by kernel_rfl, of_decide_eq_true (by kernel_rfl)⟩
theorem PatternTakes_results : Try.f3.resultTypes = #[4] := by kernel_rfl
theorem PatternTakes_bool : Try.prog.underlying 4 = some .bool := by kernel_rfl

set_option maxRecDepth 100000 in
theorem PatternTakes_contract {H : Type} {enc : TypeId × Value → H} (W : World) (base : Nat) (args : Array Value) (ds gs : List (DataW H)) (before : List MemPlace)
    (hval : ∀ (j : Nat) t v, Try.f3.params[j]? = some t → args[j]? = some v → Value.okWide Try.prog W .any base t v)
    (hW : DataW.Whole enc Try.prog Try.f3.params.toList Rows.patternTakesSpec.vars false W args.toList ds gs before) :
    Calls Try.prog 3 args W fun e W' => ∃ v, e = .returned v ∧ Rows.patternTakesSpec.post enc Try.prog Try.f3 false true false false W args v W' := by
  have hW' := hW
  obtain ⟨p, q, hA, hV, rfl, _, _⟩ := hW
  obtain ⟨rfl, rfl⟩ := trodVars_none hV
  rw [PatternTakes_params] at hA hval
  obtain ⟨v0, vs0, d0, ds0, p0, q0, e0, rfl, rfl, h0, r0⟩ := trodAll_cons hA
  obtain ⟨v1, vs1, d1, ds1, p1, q1, e1, rfl, rfl, h1, r1⟩ := trodAll_cons r0
  obtain ⟨v2, vs2, d2, ds2, p2, q2, e2, rfl, rfl, h2, r2⟩ := trodAll_cons r1
  obtain ⟨rfl, rfl, rfl⟩ := trodAll_nil r2
  obtain rfl : args = #[v0, v1, v2] := by cases args; simp_all
  obtain ⟨x0, k0, w0⟩ := arg_term sorts (hval 0 27 v0 rfl rfl) h0
  obtain ⟨x1, w1⟩ := arg_types sorts (hval 1 22 v1 rfl rfl) h1
  obtain ⟨x2, k2, w2⟩ := arg_nums sorts (hval 2 28 v2 rfl rfl) h2
  exact calls_true (tb := 4) laidOut rfl PatternTakes_bool PatternTakes_results PatternTakes_rows hW' rfl rfl rfl (PatternTakes_calls k0) ⟨w0, w1, w2, True.intro⟩

set_option maxRecDepth 100000 in
theorem PatternTakes_lifted (os : Os) (started : os.Started) (H : Type) (enc : TypeId × Value → H) :
    ReturnsInHanded {} Try.checked os 3 .any (Rows.patternTakesSpec.pre6 enc Try.prog Try.f3 Rows.patternTakesRow.domain false) (Rows.patternTakesSpec.post enc Try.prog Try.f3 false true false false) := by
  refine returnsInHanded_of_change (C := Try.checked) own started (by kernel_rfl) Try.func3
    (ChangeSpec.witness6 (enc := enc) (C := Try.checked) false ⟨#[], #[.agg #[.slice none 0 0, .int .i64 0, .int .i64 0, .slice none 0 0], .slice none 0 0, .slice none 0 0], []⟩ 8 (by kernel_rfl) (by kernel_rfl) (by kernel_rfl) (by kernel_rfl)) ?_
  intro W base args ds gs before hval hW _ _
  exact PatternTakes_contract W base args ds gs before hval hW

theorem PatternTakes_over : Rows.patternTakesRow.holds Try.pinned (OpenSpec.ofChange Rows.patternTakesSpec) :=
  OpenClaim.holds_of_wide 3 Try.f3 rfl rfl rfl rfl rfl rfl rfl ⟨rfl, rfl, rfl, rfl, rfl⟩ rfl rfl rfl rfl rfl (by kernel_rfl) Try.func3 (by kernel_rfl)
    (of_decide_eq_true (by kernel_rfl)) (by unfold Func.isWrapper; first | (rw [if_pos (by decide +kernel)]; kernel_rfl) | (rw [if_neg (by decide +kernel)]; exact ⟨rfl, rfl⟩))
    (fun os started H enc _ => PatternTakes_lifted os started H enc)

theorem PatternTakes_proved : Rows.PatternTakesSaid := PatternTakes_over

end Go.Proofs.Ytfbncddnakaaiaa
