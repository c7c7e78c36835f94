/- Proved: the law 'filigreelaw07.RawParts' returns true, and leaves its arguments as they read, for every two raw terms. Conditions: none beyond the given statement's own (RawPartsSaid). -/
import Derived.Test.YtfbncddnakaaiaaMPD
import Derived.Test.YtfbncddnakaaiaaMJ07
namespace Go.Proofs.Ytfbncddnakaaiaa
open Go Go.ChangeShapes Go.WideShapes Go.ChangeAt Go.RowKit
set_option linter.unusedSimpArgs false
set_option linter.unusedVariables false

theorem RawParts_params : Try.f10.params = #[75, 75] := by kernel_rfl
theorem RawParts_rows : ∀ t ∈ Try.f10.params.toList, Try.prog.readableRec t = true ∧ t < Try.prog.types.size := by
  rw [RawParts_params]
  intro t ht
  have h : t = 75 ∨ t = 75 := by simpa using ht
  rcases h with rfl | rfl
  · exact ⟨by kernel_rfl, of_decide_eq_true (by kernel_rfl)⟩
  · exact ⟨by kernel_rfl, of_decide_eq_true (by kernel_rfl)⟩
theorem RawParts_results : Try.f10.resultTypes = #[4] := by kernel_rfl
theorem RawParts_bool : Try.prog.underlying 4 = some .bool := by kernel_rfl

set_option maxRecDepth 100000 in
theorem RawParts_contract {H : Type} {enc : TypeId × Value → H} (W : World) (base : Nat) (args : Array Value) (ds gs : List (DataW H)) (before : List MemPlace)
    (hval : ∀ (j : Nat) t v, Try.f10.params[j]? = some t → args[j]? = some v → Value.okWide Try.prog W .any base t v)
    (hW : DataW.Whole enc Try.prog Try.f10.params.toList Rows.rawPartsSpec.vars false W args.toList ds gs before) :
    Calls Try.prog 10 args W fun e W' => ∃ v, e = .returned v ∧ Rows.rawPartsSpec.post enc Try.prog Try.f10 false true false false W args v W' := by
  have hW' := hW
  obtain ⟨p, q, hA, hV, rfl, _, _⟩ := hW
  obtain ⟨rfl, rfl⟩ := trodVars_none hV
  rw [RawParts_params] at hA hval
  obtain ⟨v0, vs0, d0, ds0, p0, q0, e0, rfl, rfl, h0, r0⟩ := trodAll_cons hA
  obtain ⟨v1, vs1, d1, ds1, p1, q1, e1, rfl, rfl, h1, r1⟩ := trodAll_cons r0
  obtain ⟨rfl, rfl, rfl⟩ := trodAll_nil r1
  obtain rfl : args = #[v0, v1] := by cases args; simp_all
  obtain ⟨x0, k0, w0⟩ := arg_raw sorts sortsR (hval 0 75 v0 rfl rfl) h0
  obtain ⟨x1, k1, w1⟩ := arg_raw sorts sortsR (hval 1 75 v1 rfl rfl) h1
  exact calls_true (tb := 4) laidOut rfl RawParts_bool RawParts_results RawParts_rows hW' rfl rfl rfl (RawParts_calls (b := x1) k0) ⟨w0, w1, True.intro⟩

set_option maxRecDepth 100000 in
theorem RawParts_lifted (os : Os) (started : os.Started) (H : Type) (enc : TypeId × Value → H) :
    ReturnsInHanded {} Try.checked os 10 .any (Rows.rawPartsSpec.pre6 enc Try.prog Try.f10 Rows.rawPartsRow.domain false) (Rows.rawPartsSpec.post enc Try.prog Try.f10 false true false false) := by
  refine returnsInHanded_of_change (C := Try.checked) own started (by kernel_rfl) Try.func10
    (ChangeSpec.witness6 (enc := enc) (C := Try.checked) false ⟨#[], #[.agg #[.int .i64 0, .slice none 0 0, .int .i64 0, .int .i64 0, .slice none 0 0], .agg #[.int .i64 0, .slice none 0 0, .int .i64 0, .int .i64 0, .slice none 0 0]], []⟩ 8 (by kernel_rfl) (by kernel_rfl) (by kernel_rfl) (by kernel_rfl)) ?_
  intro W base args ds gs before hval hW _ _
  exact RawParts_contract W base args ds gs before hval hW

theorem RawParts_over : Rows.rawPartsRow.holds Try.pinned (OpenSpec.ofChange Rows.rawPartsSpec) :=
  OpenClaim.holds_of_wide 10 Try.f10 rfl rfl rfl rfl rfl rfl rfl ⟨rfl, rfl, rfl, rfl, rfl⟩ rfl rfl rfl rfl rfl (by kernel_rfl) Try.func10 (by kernel_rfl)
    (of_decide_eq_true (by kernel_rfl)) (by unfold Func.isWrapper; first | (rw [if_pos (by decide +kernel)]; kernel_rfl) | (rw [if_neg (by decide +kernel)]; exact ⟨rfl, rfl⟩))
    (fun os started H enc _ => RawParts_lifted os started H enc)

theorem RawParts_proved : Rows.RawPartsSaid := RawParts_over

end Go.Proofs.Ytfbncddnakaaiaa
