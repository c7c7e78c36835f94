/- Proved: ShowTrees, whatever the input, returns true; the tied card. Conditions: none beyond the given statement's own (ShowTreesCardSaid). -/
import Derived.Test.YtghnkppcncbddaaDoorCards
import Derived.Test.YtghnkppcncbddaaDoorTie
import Derived.SevenTiedAt
import Derived.Test.YtghnkppcncbddaaDoorQ44
namespace Go.Proofs.YtghnkppcncbddaaDoor
open Go Go.ChangeShapes Go.WideShapes Go.ChangeAt Go.RowKit
set_option linter.unusedSimpArgs false
set_option linter.unusedVariables false
theorem ShowTrees_params : Tryd.f3.params = #[24] := by kernel_rfl
theorem ShowTrees_rows : ∀ t ∈ Tryd.f3.params.toList, Tryd.prog.readableRec t = true ∧ t < Tryd.prog.types.size := by
 rw [ShowTrees_params]
 intro t ht
 have h : t = 24 := by simpa using ht
 subst h
 exact ⟨by kernel_rfl, of_decide_eq_true (by kernel_rfl)⟩
theorem ShowTrees_results : Tryd.f3.resultTypes = #[4] := by kernel_rfl
theorem ShowTrees_bool : Tryd.prog.underlying 4 = some .bool := by kernel_rfl
theorem powIn : ("internal/strconv.uint64pow10", Lib.tabData .u64 Lib.pow10Tab) ∈ Rows.showTreesRow.laid :=
 List.mem_cons_of_mem _ (List.mem_cons_of_mem _ List.mem_cons_self)
theorem met_of {W : World} (h : laidMetH Tryd.prog Rows.showTreesRow.laid W) : laidMet Tryd.prog Rows.showTreesRow.laid W := h
set_option maxRecDepth 100000 in
theorem ShowTrees_contract {H : Type} {enc : TypeId × Value → H} (W : World) (base : Nat) (args : Array Value) (ds gs : List (DataW H)) (before : List MemPlace)
  (hval : ∀ (j : Nat) t v, Tryd.f3.params[j]? = some t → args[j]? = some v → Value.okWide Tryd.prog W .any base t v)
  (hW : DataW.Whole enc Tryd.prog Tryd.f3.params.toList Rows.showTreesSpec.vars false W args.toList ds gs before) (hL : laidMetH Tryd.prog Rows.showTreesRow.laid W) :
  Calls Tryd.prog 3 args W fun e W' => ∃ v, e = .returned v ∧ Rows.showTreesSpec.post enc Tryd.prog Tryd.f3 false true false false W args v W' := by
 have hW' := hW
 obtain ⟨p, q, hA, hV, rfl, _, _⟩ := hW
 obtain ⟨rfl, rfl⟩ := trodVars_none hV
 rw [ShowTrees_params] at hA hval
 obtain ⟨v0, vs0, d0, ds0, p0, q0, e0, rfl, rfl, h0, r0⟩ := trodAll_cons hA
 obtain ⟨rfl, rfl, rfl⟩ := trodAll_nil r0
 obtain rfl : args = #[v0] := by cases args; simp_all
 obtain ⟨x0, w0⟩ := arg_tree sortsT (hval 0 24 v0 rfl rfl) h0
 exact calls_true (tb := 4) laidOut rfl ShowTrees_bool ShowTrees_results ShowTrees_rows hW' rfl rfl rfl ShowTrees_calls (glob_of (met_of hL) powIn) ⟨w0, True.intro⟩
theorem ShowTrees_met (os : Os) (args : Array Value) : laidMetH Tryd.prog Rows.showTreesRow.laid ((laidWorld Rows.showTreesRow.laid os).forCall (fun _ _ => 0) ⟨#[], args, []⟩).memory :=
 laidMet_of_run' 8 (by kernel_rfl) (by kernel_rfl)
set_option maxRecDepth 100000 in
theorem ShowTrees_lifted (os : Os) (started : os.Started) (H : Type) (enc : TypeId × Value → H) :
  ReturnsInHanded {} Tryd.checked os 3 .any (fun w args => (Rows.showTreesSpec.pre enc Tryd.prog Tryd.f3 [] false w args ∧ laidMetH Tryd.prog Rows.showTreesRow.laid w) ∧ sizedMet enc Tryd.prog Tryd.f3 (OpenSpec.ofChange Rows.showTreesSpec) false w args)
   (Rows.showTreesSpec.post enc Tryd.prog Tryd.f3 false true false false) := by
 refine returnsInHanded_of_change_and (C := Tryd.checked) (X := fun w _ => laidMetH Tryd.prog Rows.showTreesRow.laid w) (fun _ _ _ hh h => h.of_heap hh) own started (by kernel_rfl) Tryd.func3
  (ChangeSpec.witness_at (enc := enc) (C := Tryd.checked) (os := os) (X := fun w _ => laidMetH Tryd.prog Rows.showTreesRow.laid w) false (laidWorld Rows.showTreesRow.laid os) #[.agg #[.int .i64 0, .string ⟨#[]⟩, .int .i64 0, .slice none 0 0]] 8 rfl (by kernel_rfl) (by kernel_rfl) (by kernel_rfl) (by kernel_rfl) (by kernel_rfl) (ShowTrees_met os _)) ?_
 intro W base args ds gs before hval hW _ _ hL _
 exact ShowTrees_contract W base args ds gs before hval hW hL
theorem ShowTrees_over : Rows.ShowTreesSaid :=
 OpenClaim.holds_of_wide 3 Tryd.f3 rfl rfl rfl rfl rfl rfl rfl ⟨rfl, rfl, rfl, rfl, rfl⟩ rfl rfl rfl rfl rfl (by kernel_rfl) Tryd.func3 (by kernel_rfl)
  (of_decide_eq_true (by kernel_rfl)) (by unfold Func.isWrapper; first | (rw [if_pos (by decide +kernel)]; kernel_rfl) | (rw [if_neg (by decide +kernel)]; exact ⟨rfl, rfl⟩))
  (fun os started H enc _ => ShowTrees_lifted os started H enc)
theorem ShowTrees_card : Rows.ShowTreesCardSaid :=
 Claim7.holds_tied_plain_at .later [] [.data, .data, .data] true (true, "c774014da423154f27b411626d776e198c2e70124aece9765449fb1977b24eb0") false
  ShowTrees_over (fun _ h => by cases h) (by kernel_rfl) (fun _ h => by cases h) showTrees_row_tie rfl ⟨rfl, rfl⟩ (by kernel_rfl) rfl
  (fun f fn hf hfn => by
   obtain rfl : f = 3 := Option.some.inj ((show Tryd.prog.funcNamed "filigree/filigreelaw15.ShowTrees" = some 3 by kernel_rfl).symm.trans hf) |>.symm
   obtain rfl : fn = Tryd.f3 := (Option.some.inj (Tryd.func3.symm.trans hfn)).symm
   exact ⟨by kernel_rfl, fun j t ht => by
    rw [ShowTrees_params] at ht
    have h3 : t = 24 := by
     rcases j with _ | j
     ·simpa using ht.symm
     ·simp at ht
    subst h3
    exact (show Tryd.prog.wantsStandIn 24 = false by kernel_rfl)⟩)
  (by kernel_rfl)
end Go.Proofs.YtghnkppcncbddaaDoor
