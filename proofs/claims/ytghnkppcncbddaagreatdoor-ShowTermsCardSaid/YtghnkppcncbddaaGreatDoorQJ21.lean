/- Proved: ShowTerms, whatever the input, returns true; the tied card. Conditions: none beyond the given statement's own (ShowTermsCardSaid). -/
import Derived.Test.YtghnkppcncbddaaGreatDoorCards
import Derived.Test.YtghnkppcncbddaaGreatDoorTie
import Derived.SevenTiedAt
import Derived.Test.YtghnkppcncbddaaGreatDoorQ48
namespace Go.Proofs.YtghnkppcncbddaaGreatDoor
open Go Go.ChangeShapes Go.WideShapes Go.ChangeAt Go.RowKit
set_option linter.unusedSimpArgs false
set_option linter.unusedVariables false
theorem ShowTerms_params : Tryz.f3.params = #[24, 30, 32] := by kernel_rfl
theorem ShowTerms_rows : ∀ t ∈ Tryz.f3.params.toList, Tryz.prog.readableRec t = true ∧ t < Tryz.prog.types.size := by
 rw [ShowTerms_params]
 intro t ht
 have h : t = 24 ∨ t = 30 ∨ t = 32 := by simpa using ht
 rcases h with rfl | rfl | rfl
 ·exact ⟨by kernel_rfl, of_decide_eq_true (by kernel_rfl)⟩
 ·exact ⟨by kernel_rfl, of_decide_eq_true (by kernel_rfl)⟩
 ·exact ⟨by kernel_rfl, of_decide_eq_true (by kernel_rfl)⟩
theorem ShowTerms_results : Tryz.f3.resultTypes = #[4] := by kernel_rfl
theorem ShowTerms_bool : Tryz.prog.underlying 4 = some .bool := by kernel_rfl
theorem ShowTerms_pow : ("internal/strconv.uint64pow10", Lib.tabData .u64 Lib.pow10Tab) ∈ Rows.showTermsRow.laid :=
 List.mem_cons_of_mem _ (List.mem_cons_of_mem _ List.mem_cons_self)
theorem ShowTerms_laid {W : World} (h : laidMetH Tryz.prog Rows.showTermsRow.laid W) : laidMet Tryz.prog Rows.showTermsRow.laid W := h
set_option maxRecDepth 100000 in
theorem ShowTerms_contract {H : Type} {enc : TypeId × Value → H} (W : World) (base : Nat) (args : Array Value) (ds gs : List (DataW H)) (before : List MemPlace)
  (hval : ∀ (j : Nat) t v, Tryz.f3.params[j]? = some t → args[j]? = some v → Value.okWide Tryz.prog W .any base t v)
  (hW : DataW.Whole enc Tryz.prog Tryz.f3.params.toList Rows.showTermsSpec.vars false W args.toList ds gs before) (hL : laidMetH Tryz.prog Rows.showTermsRow.laid W) :
  Calls Tryz.prog 3 args W fun e W' => ∃ v, e = .returned v ∧ Rows.showTermsSpec.post enc Tryz.prog Tryz.f3 false true false false W args v W' := by
 have hW' := hW
 obtain ⟨p, q, hA, hV, rfl, _, _⟩ := hW
 obtain ⟨rfl, rfl⟩ := trodVars_none hV
 rw [ShowTerms_params] at hA hval
 obtain ⟨v0, vs0, d0, ds0, p0, q0, e0, rfl, rfl, h0, r0⟩ := trodAll_cons hA
 obtain ⟨v1, vs1, d1, ds1, p1, q1, e1, rfl, rfl, h1, r1⟩ := trodAll_cons r0
 obtain ⟨v2, vs2, d2, ds2, p2, q2, e2, rfl, rfl, h2, r2⟩ := trodAll_cons r1
 obtain ⟨rfl, rfl, rfl⟩ := trodAll_nil r2
 obtain rfl : args = #[v0, v1, v2] := by cases args; simp_all
 obtain ⟨x0, w0⟩ := arg_names sortsW (hval 0 24 v0 rfl rfl) h0
 obtain ⟨x1, k1, w1⟩ := arg_term sorts (hval 1 30 v1 rfl rfl) h1
 obtain ⟨x2, w2⟩ := arg_type sorts (hval 2 32 v2 rfl rfl) h2
 exact calls_true (tb := 4) laidOut rfl ShowTerms_bool ShowTerms_results ShowTerms_rows hW' rfl rfl rfl (ShowTerms_calls k1) (glob_of (ShowTerms_laid hL) ShowTerms_pow) ⟨w0, w1, w2, True.intro⟩
theorem ShowTerms_met (os : Os) (args : Array Value) : laidMetH Tryz.prog Rows.showTermsRow.laid ((laidWorld Rows.showTermsRow.laid os).forCall (fun _ _ => 0) ⟨#[], args, []⟩).memory :=
 laidMet_of_run' 8 (by kernel_rfl) (by kernel_rfl)
set_option maxRecDepth 100000 in
theorem ShowTerms_lifted (os : Os) (started : os.Started) (H : Type) (enc : TypeId × Value → H) :
  ReturnsInHanded {} Tryz.checked os 3 .any (fun w args => (Rows.showTermsSpec.pre enc Tryz.prog Tryz.f3 [] false w args ∧ laidMetH Tryz.prog Rows.showTermsRow.laid w) ∧ sizedMet enc Tryz.prog Tryz.f3 (OpenSpec.ofChange Rows.showTermsSpec) false w args)
   (Rows.showTermsSpec.post enc Tryz.prog Tryz.f3 false true false false) := by
 refine returnsInHanded_of_change_and (C := Tryz.checked) (X := fun w _ => laidMetH Tryz.prog Rows.showTermsRow.laid w) (fun _ _ _ hh h => h.of_heap hh) own started (by kernel_rfl) Tryz.func3
  (ChangeSpec.witness_at (enc := enc) (C := Tryz.checked) (os := os) (X := fun w _ => laidMetH Tryz.prog Rows.showTermsRow.laid w) false (laidWorld Rows.showTermsRow.laid os) #[.agg #[.slice none 0 0, .slice none 0 0, .slice none 0 0], .agg #[.slice none 0 0, .int .i64 0, .int .i64 0, .slice none 0 0], .agg #[.slice none 0 0, .int .i64 0]] 8 rfl (by kernel_rfl) (by kernel_rfl) (by kernel_rfl) (by kernel_rfl) (by kernel_rfl) (ShowTerms_met os _)) ?_
 intro W base args ds gs before hval hW _ _ hL _
 exact ShowTerms_contract W base args ds gs before hval hW hL
theorem ShowTerms_over : Rows.ShowTermsSaid :=
 OpenClaim.holds_of_wide 3 Tryz.f3 rfl rfl rfl rfl rfl rfl rfl ⟨rfl, rfl, rfl, rfl, rfl⟩ rfl rfl rfl rfl rfl (by kernel_rfl) Tryz.func3 (by kernel_rfl)
  (of_decide_eq_true (by kernel_rfl)) (by unfold Func.isWrapper; first | (rw [if_pos (by decide +kernel)]; kernel_rfl) | (rw [if_neg (by decide +kernel)]; exact ⟨rfl, rfl⟩))
  (fun os started H enc _ => ShowTerms_lifted os started H enc)
theorem ShowTerms_card : Rows.ShowTermsCardSaid :=
 Claim7.holds_tied_plain_at .later [] [.data, .data, .data] true Rows.showTermsCard.stood.harness false
  ShowTerms_over (fun _ h => by cases h) (by kernel_rfl) (fun _ h => by cases h) showTerms_row_tie rfl ⟨rfl, rfl⟩ (by kernel_rfl) rfl
  (fun f fn hf hfn => by
   obtain rfl : f = 3 := Option.some.inj ((show Tryz.prog.funcNamed "filigree/filigreelaw15.ShowTerms" = some 3 by kernel_rfl).symm.trans hf) |>.symm
   obtain rfl : fn = Tryz.f3 := (Option.some.inj (Tryz.func3.symm.trans hfn)).symm
   exact ⟨by kernel_rfl, fun j t ht => by
    rw [ShowTerms_params] at ht
    have h3 : t = 24 ∨ t = 30 ∨ t = 32 := by
     match j, ht with
     | 0, ht => exact .inl ((Option.some.inj ht).symm)
     | 1, ht => exact .inr (.inl ((Option.some.inj ht).symm))
     | 2, ht => exact .inr (.inr ((Option.some.inj ht).symm))
     | k + 3, ht => simp at ht
    rcases h3 with rfl | rfl | rfl
    ·exact (show Tryz.prog.wantsStandIn 24 = false by kernel_rfl)
    ·exact (show Tryz.prog.wantsStandIn 30 = false by kernel_rfl)
    ·exact (show Tryz.prog.wantsStandIn 32 = false by kernel_rfl)⟩)
  (by kernel_rfl)
end Go.Proofs.YtghnkppcncbddaaGreatDoor
