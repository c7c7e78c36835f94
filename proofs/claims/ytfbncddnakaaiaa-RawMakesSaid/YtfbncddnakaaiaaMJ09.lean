/- Proved: the law 'filigreelaw07.RawMakes' returns true, and leaves its arguments as they read, for every raw term, every types, every raw terms and every two numbers. Conditions: none beyond the given statement's own (RawMakesSaid). -/
import Derived.Test.YtfbncddnakaaiaaMPC
import Derived.Test.YtfbncddnakaaiaaMJ07
namespace Go.Proofs.Ytfbncddnakaaiaa
open Go Go.ChangeShapes Go.WideShapes Go.ChangeAt Go.RowKit
set_option linter.unusedSimpArgs false
set_option linter.unusedVariables false

theorem RawMakes_params : Try.f7.params = #[75, 22, 73, 3, 3] := by kernel_rfl
theorem RawMakes_rows : ∀ t ∈ Try.f7.params.toList, Try.prog.readableRec t = true ∧ t < Try.prog.types.size := by
  rw [RawMakes_params]
  intro t ht
  have h : t = 75 ∨ t = 22 ∨ t = 73 ∨ t = 3 ∨ t = 3 := by simpa using ht
  rcases h with rfl | rfl | rfl | rfl | rfl
  · exact ⟨by kernel_rfl, of_decide_eq_true (by kernel_rfl)⟩
  · exact ⟨by kernel_rfl, of_decide_eq_true (by kernel_rfl)⟩
  · exact ⟨by kernel_rfl, of_decide_eq_true (by kernel_rfl)⟩
  · exact ⟨by kernel_rfl, of_decide_eq_true (by kernel_rfl)⟩
  · exact ⟨by kernel_rfl, of_decide_eq_true (by kernel_rfl)⟩
theorem RawMakes_results : Try.f7.resultTypes = #[4] := by kernel_rfl
theorem RawMakes_bool : Try.prog.underlying 4 = some .bool := by kernel_rfl

set_option maxRecDepth 100000 in
theorem RawMakes_contract {H : Type} {enc : TypeId × Value → H} (W : World) (base : Nat) (args : Array Value) (ds gs : List (DataW H)) (before : List MemPlace)
    (hval : ∀ (j : Nat) t v, Try.f7.params[j]? = some t → args[j]? = some v → Value.okWide Try.prog W .any base t v)
    (hW : DataW.Whole enc Try.prog Try.f7.params.toList Rows.rawMakesSpec.vars false W args.toList ds gs before) :
    Calls Try.prog 7 args W fun e W' => ∃ v, e = .returned v ∧ Rows.rawMakesSpec.post enc Try.prog Try.f7 false true false false W args v W' := by
  have hW' := hW
  obtain ⟨p, q, hA, hV, rfl, _, _⟩ := hW
  obtain ⟨rfl, rfl⟩ := trodVars_none hV
  rw [RawMakes_params] at hA hval
  obtain ⟨v0, vs0, d0, ds0, p0, q0, e0, rfl, rfl, h0, r0⟩ := trodAll_cons hA
  obtain ⟨v1, vs1, d1, ds1, p1, q1, e1, rfl, rfl, h1, r1⟩ := trodAll_cons r0
  obtain ⟨v2, vs2, d2, ds2, p2, q2, e2, rfl, rfl, h2, r2⟩ := trodAll_cons r1
  obtain ⟨v3, vs3, d3, ds3, p3, q3, e3, rfl, rfl, h3, r3⟩ := trodAll_cons r2
  obtain ⟨v4, vs4, d4, ds4, p4, q4, e4, rfl, rfl, h4, r4⟩ := trodAll_cons r3
  obtain ⟨rfl, rfl, rfl⟩ := trodAll_nil r4
  obtain rfl : args = #[v0, v1, v2, v3, v4] := by cases args; simp_all
  obtain ⟨x0, k0, w0⟩ := arg_raw sorts sortsR (hval 0 75 v0 rfl rfl) h0
  obtain ⟨x1, w1⟩ := arg_types sorts (hval 1 22 v1 rfl rfl) h1
  obtain ⟨x2, k2, w2⟩ := arg_raws sorts sortsR (hval 2 73 v2 rfl rfl) h2
  obtain ⟨x3, k3, w3⟩ := arg_int sorts (hval 3 3 v3 rfl rfl) h3
  obtain ⟨x4, k4, w4⟩ := arg_int sorts (hval 4 3 v4 rfl rfl) h4
  exact calls_true (tb := 4) laidOut rfl RawMakes_bool RawMakes_results RawMakes_rows hW' rfl rfl rfl (RawMakes_calls (r := x0) (types := x1) (args := x2)) ⟨w0, w1, w2, w3, w4, True.intro⟩

set_option maxRecDepth 100000 in
theorem RawMakes_lifted (os : Os) (started : os.Started) (H : Type) (enc : TypeId × Value → H) :
    ReturnsInHanded {} Try.checked os 7 .any (Rows.rawMakesSpec.pre6 enc Try.prog Try.f7 Rows.rawMakesRow.domain false) (Rows.rawMakesSpec.post enc Try.prog Try.f7 false true false false) := by
  refine returnsInHanded_of_change (C := Try.checked) own started (by kernel_rfl) Try.func7
    (ChangeSpec.witness6 (enc := enc) (C := Try.checked) false ⟨#[], #[.agg #[.int .i64 0, .slice none 0 0, .int .i64 0, .int .i64 0, .slice none 0 0], .slice none 0 0, .slice none 0 0, .int .i64 0, .int .i64 0], []⟩ 8 (by kernel_rfl) (by kernel_rfl) (by kernel_rfl) (by kernel_rfl)) ?_
  intro W base args ds gs before hval hW _ _
  exact RawMakes_contract W base args ds gs before hval hW

theorem RawMakes_over : Rows.rawMakesRow.holds Try.pinned (OpenSpec.ofChange Rows.rawMakesSpec) :=
  OpenClaim.holds_of_wide 7 Try.f7 rfl rfl rfl rfl rfl rfl rfl ⟨rfl, rfl, rfl, rfl, rfl⟩ rfl rfl rfl rfl rfl (by kernel_rfl) Try.func7 (by kernel_rfl)
    (of_decide_eq_true (by kernel_rfl)) (by unfold Func.isWrapper; first | (rw [if_pos (by decide +kernel)]; kernel_rfl) | (rw [if_neg (by decide +kernel)]; exact ⟨rfl, rfl⟩))
    (fun os started H enc _ => RawMakes_lifted os started H enc)

theorem RawMakes_proved : Rows.RawMakesSaid := RawMakes_over

end Go.Proofs.Ytfbncddnakaaiaa
