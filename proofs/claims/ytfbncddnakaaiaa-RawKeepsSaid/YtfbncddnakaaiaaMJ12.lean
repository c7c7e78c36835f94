/- Proved: the law 'filigreelaw07.RawKeeps' returns true, and leaves its arguments as they read, for every world, every types and every raw term. Conditions: none beyond the given statement's own (RawKeepsSaid). -/
import Derived.Test.YtfbncddnakaaiaaMPD
import Derived.Test.YtfbncddnakaaiaaMJ07
namespace Go.Proofs.Ytfbncddnakaaiaa
open Go Go.ChangeShapes Go.WideShapes Go.ChangeAt Go.RowKit
set_option linter.unusedSimpArgs false
set_option linter.unusedVariables false

theorem RawKeeps_params : Try.f9.params = #[32, 22, 75] := by kernel_rfl
theorem RawKeeps_rows : ∀ t ∈ Try.f9.params.toList, Try.prog.readableRec t = true ∧ t < Try.prog.types.size := by
  rw [RawKeeps_params]
  intro t ht
  have h : t = 32 ∨ t = 22 ∨ t = 75 := by simpa using ht
  rcases h with rfl | rfl | rfl
  · exact ⟨by kernel_rfl, of_decide_eq_true (by kernel_rfl)⟩
  · exact ⟨by kernel_rfl, of_decide_eq_true (by kernel_rfl)⟩
  · exact ⟨by kernel_rfl, of_decide_eq_true (by kernel_rfl)⟩
theorem RawKeeps_results : Try.f9.resultTypes = #[4] := by kernel_rfl
theorem RawKeeps_bool : Try.prog.underlying 4 = some .bool := by kernel_rfl

set_option maxRecDepth 100000 in
theorem RawKeeps_contract {H : Type} {enc : TypeId × Value → H} (W : World) (base : Nat) (args : Array Value) (ds gs : List (DataW H)) (before : List MemPlace)
    (hval : ∀ (j : Nat) t v, Try.f9.params[j]? = some t → args[j]? = some v → Value.okWide Try.prog W .any base t v)
    (hW : DataW.Whole enc Try.prog Try.f9.params.toList Rows.rawKeepsSpec.vars false W args.toList ds gs before) :
    Calls Try.prog 9 args W fun e W' => ∃ v, e = .returned v ∧ Rows.rawKeepsSpec.post enc Try.prog Try.f9 false true false false W args v W' := by
  have hW' := hW
  obtain ⟨p, q, hA, hV, rfl, _, _⟩ := hW
  obtain ⟨rfl, rfl⟩ := trodVars_none hV
  rw [RawKeeps_params] at hA hval
  obtain ⟨v0, vs0, d0, ds0, p0, q0, e0, rfl, rfl, h0, r0⟩ := trodAll_cons hA
  obtain ⟨v1, vs1, d1, ds1, p1, q1, e1, rfl, rfl, h1, r1⟩ := trodAll_cons r0
  obtain ⟨v2, vs2, d2, ds2, p2, q2, e2, rfl, rfl, h2, r2⟩ := trodAll_cons r1
  obtain ⟨rfl, rfl, rfl⟩ := trodAll_nil r2
  obtain rfl : args = #[v0, v1, v2] := by cases args; simp_all
  obtain ⟨x0, w0⟩ := arg_world sorts sortsR (hval 0 32 v0 rfl rfl) h0
  obtain ⟨x1, w1⟩ := arg_types sorts (hval 1 22 v1 rfl rfl) h1
  obtain ⟨x2, k2, w2⟩ := arg_raw sorts sortsR (hval 2 75 v2 rfl rfl) h2
  exact calls_true (tb := 4) laidOut rfl RawKeeps_bool RawKeeps_results RawKeeps_rows hW' rfl rfl rfl (RawKeeps_calls (b := x0.1) (c := x0.2.1) (m := x0.2.2) (x := x1) k2) ⟨w0, w1, w2, True.intro⟩

set_option maxRecDepth 100000 in
theorem RawKeeps_lifted (os : Os) (started : os.Started) (H : Type) (enc : TypeId × Value → H) :
    ReturnsInHanded {} Try.checked os 9 .any (Rows.rawKeepsSpec.pre6 enc Try.prog Try.f9 Rows.rawKeepsRow.domain false) (Rows.rawKeepsSpec.post enc Try.prog Try.f9 false true false false) := by
  refine returnsInHanded_of_change (C := Try.checked) own started (by kernel_rfl) Try.func9
    (ChangeSpec.witness6 (enc := enc) (C := Try.checked) false ⟨#[], #[.agg #[.int .i64 0, .slice none 0 0, .slice none 0 0], .slice none 0 0, .agg #[.int .i64 0, .slice none 0 0, .int .i64 0, .int .i64 0, .slice none 0 0]], []⟩ 8 (by kernel_rfl) (by kernel_rfl) (by kernel_rfl) (by kernel_rfl)) ?_
  intro W base args ds gs before hval hW _ _
  exact RawKeeps_contract W base args ds gs before hval hW

theorem RawKeeps_over : Rows.rawKeepsRow.holds Try.pinned (OpenSpec.ofChange Rows.rawKeepsSpec) :=
  OpenClaim.holds_of_wide 9 Try.f9 rfl rfl rfl rfl rfl rfl rfl ⟨rfl, rfl, rfl, rfl, rfl⟩ rfl rfl rfl rfl rfl (by kernel_rfl) Try.func9 (by kernel_rfl)
    (of_decide_eq_true (by kernel_rfl)) (by unfold Func.isWrapper; first | (rw [if_pos (by decide +kernel)]; kernel_rfl) | (rw [if_neg (by decide +kernel)]; exact ⟨rfl, rfl⟩))
    (fun os started H enc _ => RawKeeps_lifted os started H enc)

theorem RawKeeps_proved : Rows.RawKeepsSaid := RawKeeps_over

end Go.Proofs.Ytfbncddnakaaiaa
