/- Proved: the law 'filigreelaw11.PatternBack' returns true, and leaves its arguments as they read, for every world, every types, every term and every numbers. Conditions: none beyond the given statement's own (PatternBackSaid). -/
import Derived.Test.YtghlgbhldnkdmaaGreatQ47
namespace Go.Proofs.YtghlgbhldnkdmaaGreat
open Go Go.ChangeShapes Go.WideShapes Go.ChangeAt Go.RowKit
set_option linter.unusedSimpArgs false
set_option linter.unusedVariables false
theorem PatternBack_params : Tryz.f5.params = #[24, 22, 58, 72] := by kernel_rfl
theorem PatternBack_rows : ∀ t ∈ Tryz.f5.params.toList, Tryz.prog.readableRec t = true ∧ t < Tryz.prog.types.size := by
 rw [PatternBack_params]
 intro t ht
 have h : t = 24 ∨ t = 22 ∨ t = 58 ∨ t = 72 := by simpa using ht
 rcases h with rfl | rfl | rfl | rfl
 ·exact ⟨by kernel_rfl, of_decide_eq_true (by kernel_rfl)⟩
 ·exact ⟨by kernel_rfl, of_decide_eq_true (by kernel_rfl)⟩
 ·exact ⟨by kernel_rfl, of_decide_eq_true (by kernel_rfl)⟩
 ·exact ⟨by kernel_rfl, of_decide_eq_true (by kernel_rfl)⟩
theorem PatternBack_results : Tryz.f5.resultTypes = #[4] := by kernel_rfl
theorem PatternBack_bool : Tryz.prog.underlying 4 = some .bool := by kernel_rfl
set_option maxRecDepth 100000 in
theorem PatternBack_contract {H : Type} {enc : TypeId × Value → H} (W : World) (base : Nat) (args : Array Value) (ds gs : List (DataW H)) (before : List MemPlace)
  (hval : ∀ (j : Nat) t v, Tryz.f5.params[j]? = some t → args[j]? = some v → Value.okWide Tryz.prog W .any base t v)
  (hW : DataW.Whole enc Tryz.prog Tryz.f5.params.toList Rows.patternBackSpec.vars false W args.toList ds gs before) :
  Calls Tryz.prog 5 args W fun e W' => ∃ v, e = .returned v ∧ Rows.patternBackSpec.post enc Tryz.prog Tryz.f5 false true false false W args v W' := by
 have hW' := hW
 obtain ⟨p, q, hA, hV, rfl, _, _⟩ := hW
 obtain ⟨rfl, rfl⟩ := trodVars_none hV
 rw [PatternBack_params] at hA hval
 obtain ⟨v0, vs0, d0, ds0, p0, q0, e0, rfl, rfl, h0, r0⟩ := trodAll_cons hA
 obtain ⟨v1, vs1, d1, ds1, p1, q1, e1, rfl, rfl, h1, r1⟩ := trodAll_cons r0
 obtain ⟨v2, vs2, d2, ds2, p2, q2, e2, rfl, rfl, h2, r2⟩ := trodAll_cons r1
 obtain ⟨v3, vs3, d3, ds3, p3, q3, e3, rfl, rfl, h3, r3⟩ := trodAll_cons r2
 obtain ⟨rfl, rfl, rfl⟩ := trodAll_nil r3
 obtain rfl : args = #[v0, v1, v2, v3] := by cases args; simp_all
 obtain ⟨x0, w0⟩ := arg_world sorts sortsR (hval 0 24 v0 rfl rfl) h0
 obtain ⟨x1, w1⟩ := arg_types sorts (hval 1 22 v1 rfl rfl) h1
 obtain ⟨x2, k2, w2⟩ := arg_term sorts (hval 2 58 v2 rfl rfl) h2
 obtain ⟨x3, k3, w3⟩ := arg_nums sorts sortsN (hval 3 72 v3 rfl rfl) h3
 exact calls_true (tb := 4) laidOut rfl PatternBack_bool PatternBack_results PatternBack_rows hW' rfl rfl rfl (PatternBack_calls (b := x0.1) (c := x0.2.1) (m := x0.2.2) (x := x1) k2) ⟨w0, w1, w2, w3, True.intro⟩
set_option maxRecDepth 100000 in
theorem PatternBack_lifted (os : Os) (started : os.Started) (H : Type) (enc : TypeId × Value → H) :
  ReturnsInHanded {} Tryz.checked os 5 .any (Rows.patternBackSpec.pre6 enc Tryz.prog Tryz.f5 Rows.patternBackRow.domain false) (Rows.patternBackSpec.post enc Tryz.prog Tryz.f5 false true false false) := by
 refine returnsInHanded_of_change (C := Tryz.checked) own started (by kernel_rfl) Tryz.func5
  (ChangeSpec.witness6 (enc := enc) (C := Tryz.checked) false ⟨#[], #[.agg #[.int .i64 0, .slice none 0 0, .slice none 0 0], .slice none 0 0, .agg #[.slice none 0 0, .int .i64 0, .int .i64 0, .slice none 0 0], .slice none 0 0], []⟩ 8 (by kernel_rfl) (by kernel_rfl) (by kernel_rfl) (by kernel_rfl)) ?_
 intro W base args ds gs before hval hW _ _
 exact PatternBack_contract W base args ds gs before hval hW
theorem PatternBack_over : Rows.patternBackRow.holds Tryz.pinned (OpenSpec.ofChange Rows.patternBackSpec) :=
 OpenClaim.holds_of_wide 5 Tryz.f5 rfl rfl rfl rfl rfl rfl rfl ⟨rfl, rfl, rfl, rfl, rfl⟩ rfl rfl rfl rfl rfl (by kernel_rfl) Tryz.func5 (by kernel_rfl)
  (of_decide_eq_true (by kernel_rfl)) (by unfold Func.isWrapper; first | (rw [if_pos (by decide +kernel)]; kernel_rfl) | (rw [if_neg (by decide +kernel)]; exact ⟨rfl, rfl⟩))
  (fun os started H enc _ => PatternBack_lifted os started H enc)
theorem PatternBack_proved : Rows.PatternBackSaid := PatternBack_over
end Go.Proofs.YtghlgbhldnkdmaaGreat
