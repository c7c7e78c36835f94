/- Proved: the law 'filigreelaw11.PatternSame' returns true, and leaves its two lists as they read, for every two lists of ints. Conditions: none beyond the given statement's own (PatternSameSaid). -/
import Derived.Test.YtfbncddnakaaiaaJ01
namespace Go.Proofs.Ytfbncddnakaaiaa
open Go Go.ChangeShapes Go.WideShapes Go.ChangeAt Go.RowKit

variable {H : Type} {enc : TypeId × Value → H}

theorem under28 : Try.prog.underlying 28 = some (.slice 3) := by kernel_rfl
theorem under3 : Try.prog.underlying 3 = some (.int .i64) := by kernel_rfl
theorem cells3 : Try.prog.cellsOf 3 = 1 := by kernel_rfl

theorem rows4 : ∀ t ∈ Try.f4.params.toList, Try.prog.readableRec t = true ∧ t < Try.prog.types.size := by
  have e : Try.f4.params.toList = [28, 28] := by kernel_rfl
  rw [e]
  intro t ht
  have : t = 28 := by simpa using ht
  subst this
  exact ⟨by kernel_rfl, of_decide_eq_true (by kernel_rfl)⟩

set_option maxRecDepth 100000 in
theorem PatternSame_contract (W : World) (base : Nat) (args : Array Value) (ds gs : List (DataW H)) (before : List MemPlace)
    (hval : ∀ (j : Nat) t v, Try.f4.params[j]? = some t → args[j]? = some v → Value.okWide Try.prog W .any base t v)
    (hW : DataW.Whole enc Try.prog Try.f4.params.toList Rows.patternSameSpec.vars false W args.toList ds gs before) :
    Calls Try.prog 4 args W fun e W' => ∃ v, e = .returned v ∧ Rows.patternSameSpec.post enc Try.prog Try.f4 false true false false W args v W' := by
  have hW' := hW
  obtain ⟨p, q, hA, hV, rfl, _, _⟩ := hW
  obtain ⟨rfl, rfl⟩ := trodVars_none hV
  have e : Try.f4.params = #[28, 28] := by kernel_rfl
  rw [e] at hA hval
  obtain ⟨v0, v1, d0, d1, p0, p1, rfl, rfl, rfl, h0, h1⟩ := trodAll_two hA
  have hlt : ∀ x ∈ p0 ++ p1, x.block < W.heap.size := fun x hx => hW'.lt x (by simpa using hx)
  obtain ⟨l, hl⟩ := read_ints under28 under3 cells3 (hval 0 28 v0 rfl rfl) h0 fun x hx => hlt x (by simp [hx])
  obtain ⟨m, hm⟩ := read_ints under28 under3 cells3 (hval 1 28 v1 rfl rfl) h1 fun x hx => hlt x (by simp [hx])
  exact calls_true (tb := 4) laidOut rfl (by kernel_rfl) (by kernel_rfl) rows4 hW' rfl rfl rfl (PatternSame_calls l m) ⟨hl, hm, True.intro⟩

set_option maxRecDepth 100000 in
theorem PatternSame_lifted (os : Os) (started : os.Started) (H : Type) (enc : TypeId × Value → H) :
    ReturnsInHanded {} Try.checked os 4 .any (Rows.patternSameSpec.pre6 enc Try.prog Try.f4 Rows.patternSameRow.domain false) (Rows.patternSameSpec.post enc Try.prog Try.f4 false true false false) := by
  refine returnsInHanded_of_change (C := Try.checked) own started (by kernel_rfl) Try.func4
    (ChangeSpec.witness6 (enc := enc) (C := Try.checked) false ⟨#[], #[.slice none 0 0, .slice none 0 0], []⟩ 8 (by kernel_rfl) (by kernel_rfl) (by kernel_rfl) (by kernel_rfl)) ?_
  intro W base args ds gs before hval hW _ _
  exact PatternSame_contract W base args ds gs before hval hW

theorem PatternSame_over : Rows.patternSameRow.holds Try.pinned (OpenSpec.ofChange Rows.patternSameSpec) :=
  OpenClaim.holds_of_wide 4 Try.f4 rfl rfl rfl rfl rfl rfl rfl ⟨rfl, rfl, rfl, rfl, rfl⟩ rfl rfl rfl rfl rfl (by kernel_rfl) Try.func4 (by kernel_rfl)
    (of_decide_eq_true (by kernel_rfl)) (by unfold Func.isWrapper; first | (rw [if_pos (by decide +kernel)]; kernel_rfl) | (rw [if_neg (by decide +kernel)]; exact ⟨rfl, rfl⟩))
    (fun os started H enc _ => PatternSame_lifted os started H enc)

theorem PatternSame_proved : Rows.PatternSameSaid := PatternSame_over

end Go.Proofs.Ytfbncddnakaaiaa
