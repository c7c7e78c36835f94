/- Proved: the law 'filigreelaw11.PatternMakes' returns true, and leaves its arguments as they read, for every number, every types and every numbers. Conditions: none beyond the given statement's own (PatternMakesSaid). -/
import Derived.Test.YtfbncddnakaaiaaP12
import Derived.Test.YtfbncddnakaaiaaJ03
namespace Go.Proofs.Ytfbncddnakaaiaa
open Go Go.ChangeShapes Go.WideShapes Go.ChangeAt Go.RowKit
set_option linter.unusedSimpArgs false
set_option linter.unusedVariables false

theorem PatternMakes_params : Try.f6.params = #[3, 22, 28] := by kernel_rfl
theorem PatternMakes_rows : ∀ t ∈ Try.f6.params.toList, Try.prog.readableRec t = true ∧ t < Try.prog.types.size := by
  rw [PatternMakes_params]
  intro t ht
  have h : t = 3 ∨ t = 22 ∨ t = 28 := by simpa using ht
  rcases h with rfl | rfl | rfl
  · exact ⟨by kernel_rfl, of_decide_eq_true (by kernel_rfl)⟩
  · exact ⟨by kernel_rfl, of_decide_eq_true (by kernel_rfl)⟩
  · exact ⟨by kernel_rfl, of_decide_eq_true (by kernel_rfl)⟩
theorem PatternMakes_results : Try.f6.resultTypes = #[4] := by kernel_rfl
theorem PatternMakes_bool : Try.prog.underlying 4 = some .bool := by kernel_rfl

set_option maxRecDepth 100000 in
theorem PatternMakes_contract {H : Type} {enc : TypeId × Value → H} (W : World) (base : Nat) (args : Array Value) (ds gs : List (DataW H)) (before : List MemPlace)
    (hval : ∀ (j : Nat) t v, Try.f6.params[j]? = some t → args[j]? = some v → Value.okWide Try.prog W .any base t v)
    (hW : DataW.Whole enc Try.prog Try.f6.params.toList Rows.patternMakesSpec.vars false W args.toList ds gs before) :
    Calls Try.prog 6 args W fun e W' => ∃ v, e = .returned v ∧ Rows.patternMakesSpec.post enc Try.prog Try.f6 false true false false W args v W' := by
  have hW' := hW
  obtain ⟨p, q, hA, hV, rfl, _, _⟩ := hW
  obtain ⟨rfl, rfl⟩ := trodVars_none hV
  rw [PatternMakes_params] at hA hval
  obtain ⟨v0, vs0, d0, ds0, p0, q0, e0, rfl, rfl, h0, r0⟩ := trodAll_cons hA
  obtain ⟨v1, vs1, d1, ds1, p1, q1, e1, rfl, rfl, h1, r1⟩ := trodAll_cons r0
  obtain ⟨v2, vs2, d2, ds2, p2, q2, e2, rfl, rfl, h2, r2⟩ := trodAll_cons r1
  obtain ⟨rfl, rfl, rfl⟩ := trodAll_nil r2
  obtain rfl : args = #[v0, v1, v2] := by cases args; simp_all
  obtain ⟨x0, k0, w0⟩ := arg_int sorts (hval 0 3 v0 rfl rfl) h0
  obtain ⟨x1, w1⟩ := arg_types sorts (hval 1 22 v1 rfl rfl) h1
  obtain ⟨x2, k2, w2⟩ := arg_nums sorts (hval 2 28 v2 rfl rfl) h2
  exact calls_true (tb := 4) laidOut rfl PatternMakes_bool PatternMakes_results PatternMakes_rows hW' rfl rfl rfl (PatternMakes_calls) ⟨w0, w1, w2, True.intro⟩

set_option maxRecDepth 100000 in
theorem PatternMakes_lifted (os : Os) (started : os.Started) (H : Type) (enc : TypeId × Value → H) :
    ReturnsInHanded {} Try.checked os 6 .any (Rows.patternMakesSpec.pre6 enc Try.prog Try.f6 Rows.patternMakesRow.domain false) (Rows.patternMakesSpec.post enc Try.prog Try.f6 false true false false) := by
  refine returnsInHanded_of_change (C := Try.checked) own started (by kernel_rfl) Try.func6
    (ChangeSpec.witness6 (enc := enc) (C := Try.checked) false ⟨#[], #[.int .i64 0, .slice none 0 0, .slice none 0 0], []⟩ 8 (by kernel_rfl) (by kernel_rfl) (by kernel_rfl) (by kernel_rfl)) ?_
  intro W base args ds gs before hval hW _ _
  exact PatternMakes_contract W base args ds gs before hval hW

theorem PatternMakes_over : Rows.patternMakesRow.holds Try.pinned (OpenSpec.ofChange Rows.patternMakesSpec) :=
  OpenClaim.holds_of_wide 6 Try.f6 rfl rfl rfl rfl rfl rfl rfl ⟨rfl, rfl, rfl, rfl, rfl⟩ rfl rfl rfl rfl rfl (by kernel_rfl) Try.func6 (by kernel_rfl)
    (of_decide_eq_true (by kernel_rfl)) (by unfold Func.isWrapper; first | (rw [if_pos (by decide +kernel)]; kernel_rfl) | (rw [if_neg (by decide +kernel)]; exact ⟨rfl, rfl⟩))
    (fun os started H enc _ => PatternMakes_lifted os started H enc)

theorem PatternMakes_proved : Rows.PatternMakesSaid := PatternMakes_over

end Go.Proofs.Ytfbncddnakaaiaa
