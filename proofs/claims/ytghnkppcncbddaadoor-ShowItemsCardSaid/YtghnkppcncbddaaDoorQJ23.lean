/- Proved: ShowItems, whatever the input, returns true; the tied card. Conditions: none beyond the given statement's own (ShowItemsCardSaid). -/
import Derived.Test.YtghnkppcncbddaaDoorCards
import Derived.Test.YtghnkppcncbddaaDoorTie
import Derived.SevenTiedAt
import Derived.Test.YtghnkppcncbddaaDoorQ49
namespace Go.Proofs.YtghnkppcncbddaaDoor
open Go Go.ChangeShapes Go.WideShapes Go.ChangeAt Go.RowKit
set_option linter.unusedSimpArgs false
set_option linter.unusedVariables false
theorem ShowItems_params : Tryd.f4.params = #[37] := by kernel_rfl
theorem ShowItems_rows : ∀ t ∈ Tryd.f4.params.toList, Tryd.prog.readableRec t = true ∧ t < Tryd.prog.types.size := by
 rw [ShowItems_params]
 intro t ht
 have h : t = 37 := by simpa using ht
 rcases h with rfl
 ·exact ⟨by kernel_rfl, of_decide_eq_true (by kernel_rfl)⟩
theorem ShowItems_results : Tryd.f4.resultTypes = #[4] := by kernel_rfl
theorem ShowItems_bool : Tryd.prog.underlying 4 = some .bool := by kernel_rfl
theorem ShowItems_pow : ("internal/strconv.uint64pow10", Lib.tabData .u64 Lib.pow10Tab) ∈ Rows.showItemsRow.laid :=
 List.mem_cons_of_mem _ (List.mem_cons_of_mem _ List.mem_cons_self)
theorem ShowItems_laid {W : World} (h : laidMetH Tryd.prog Rows.showItemsRow.laid W) : laidMet Tryd.prog Rows.showItemsRow.laid W := h
set_option maxRecDepth 100000 in
theorem ShowItems_contract {H : Type} {enc : TypeId × Value → H} (W : World) (base : Nat) (args : Array Value) (ds gs : List (DataW H)) (before : List MemPlace)
  (hval : ∀ (j : Nat) t v, Tryd.f4.params[j]? = some t → args[j]? = some v → Value.okWide Tryd.prog W .any base t v)
  (hW : DataW.Whole enc Tryd.prog Tryd.f4.params.toList Rows.showItemsSpec.vars false W args.toList ds gs before) (hL : laidMetH Tryd.prog Rows.showItemsRow.laid W) :
  Calls Tryd.prog 4 args W fun e W' => ∃ v, e = .returned v ∧ Rows.showItemsSpec.post enc Tryd.prog Tryd.f4 false true false false W args v W' := by
 have hW' := hW
 obtain ⟨p, q, hA, hV, rfl, _, _⟩ := hW
 obtain ⟨rfl, rfl⟩ := trodVars_none hV
 rw [ShowItems_params] at hA hval
 obtain ⟨v0, vs0, d0, ds0, p0, q0, e0, rfl, rfl, h0, r0⟩ := trodAll_cons hA
 obtain ⟨rfl, rfl, rfl⟩ := trodAll_nil r0
 obtain rfl : args = #[v0] := by cases args; simp_all
 obtain ⟨x0, k0, w0⟩ := arg_items sortsI (hval 0 37 v0 rfl rfl) h0
 exact calls_true (tb := 4) laidOut rfl ShowItems_bool ShowItems_results ShowItems_rows hW' rfl rfl rfl (ShowItems_calls) (glob_of (ShowItems_laid hL) ShowItems_pow) ⟨w0, True.intro⟩
theorem ShowItems_met (os : Os) (args : Array Value) : laidMetH Tryd.prog Rows.showItemsRow.laid ((laidWorld Rows.showItemsRow.laid os).forCall (fun _ _ => 0) ⟨#[], args, []⟩).memory :=
 laidMet_of_run' 8 (by kernel_rfl) (by kernel_rfl)
set_option maxRecDepth 100000 in
theorem ShowItems_lifted (os : Os) (started : os.Started) (H : Type) (enc : TypeId × Value → H) :
  ReturnsInHanded {} Tryd.checked os 4 .any (fun w args => (Rows.showItemsSpec.pre enc Tryd.prog Tryd.f4 [] false w args ∧ laidMetH Tryd.prog Rows.showItemsRow.laid w) ∧ sizedMet enc Tryd.prog Tryd.f4 (OpenSpec.ofChange Rows.showItemsSpec) false w args)
   (Rows.showItemsSpec.post enc Tryd.prog Tryd.f4 false true false false) := by
 refine returnsInHanded_of_change_and (C := Tryd.checked) (X := fun w _ => laidMetH Tryd.prog Rows.showItemsRow.laid w) (fun _ _ _ hh h => h.of_heap hh) own started (by kernel_rfl) Tryd.func4
  (ChangeSpec.witness_at (enc := enc) (C := Tryd.checked) (os := os) (X := fun w _ => laidMetH Tryd.prog Rows.showItemsRow.laid w) false (laidWorld Rows.showItemsRow.laid os) #[.slice none 0 0] 8 rfl (by kernel_rfl) (by kernel_rfl) (by kernel_rfl) (by kernel_rfl) (by kernel_rfl) (ShowItems_met os _)) ?_
 intro W base args ds gs before hval hW _ _ hL _
 exact ShowItems_contract W base args ds gs before hval hW hL
theorem ShowItems_over : Rows.ShowItemsSaid :=
 OpenClaim.holds_of_wide 4 Tryd.f4 rfl rfl rfl rfl rfl rfl rfl ⟨rfl, rfl, rfl, rfl, rfl⟩ rfl rfl rfl rfl rfl (by kernel_rfl) Tryd.func4 (by kernel_rfl)
  (of_decide_eq_true (by kernel_rfl)) (by unfold Func.isWrapper; first | (rw [if_pos (by decide +kernel)]; kernel_rfl) | (rw [if_neg (by decide +kernel)]; exact ⟨rfl, rfl⟩))
  (fun os started H enc _ => ShowItems_lifted os started H enc)
theorem ShowItems_card : Rows.ShowItemsCardSaid :=
 Claim7.holds_tied_plain_at .later [] [.data, .data, .data] true Rows.showItemsCard.stood.harness false
  ShowItems_over (fun _ h => by cases h) (by kernel_rfl) (fun _ h => by cases h) showItems_row_tie rfl ⟨rfl, rfl⟩ (by kernel_rfl) rfl
  (fun f fn hf hfn => by
   obtain rfl : f = 4 := Option.some.inj ((show Tryd.prog.funcNamed "filigree/filigreelaw15.ShowItems" = some 4 by kernel_rfl).symm.trans hf) |>.symm
   obtain rfl : fn = Tryd.f4 := (Option.some.inj (Tryd.func4.symm.trans hfn)).symm
   exact ⟨by kernel_rfl, fun j t ht => by
    rw [ShowItems_params] at ht
    have h3 : t = 37 := by
     match j, ht with
     | 0, ht => exact ((Option.some.inj ht).symm)
     | k + 1, ht => simp at ht
    rcases h3 with rfl
    ·exact (show Tryd.prog.wantsStandIn 37 = false by kernel_rfl)⟩)
  (by kernel_rfl)
end Go.Proofs.YtghnkppcncbddaaDoor
