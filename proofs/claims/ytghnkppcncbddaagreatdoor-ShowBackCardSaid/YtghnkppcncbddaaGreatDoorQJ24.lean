/- Proved: ShowBack, whatever the input, returns true; the tied card. Conditions: none beyond the given statement's own (ShowBackCardSaid). -/
import Derived.Test.YtghnkppcncbddaaGreatDoorCards
import Derived.Test.YtghnkppcncbddaaGreatDoorTie
import Derived.SevenTiedAt
import Derived.Test.YtghnkppcncbddaaGreatDoorQ50
namespace Go.Proofs.YtghnkppcncbddaaGreatDoor
open Go Go.ChangeShapes Go.WideShapes Go.ChangeAt Go.RowKit
set_option linter.unusedSimpArgs false
set_option linter.unusedVariables false
theorem ShowBack_params:Tryz.f4.params=#[69]:=by kernel_rfl
theorem ShowBack_rows:∀t∈Tryz.f4.params.toList,Tryz.prog.readableRec t=true∧t<Tryz.prog.types.size:=by
 rw[ShowBack_params]
 intro t ht
 have h:t=69:=by simpa using ht
 rcases h with rfl
 ·exact⟨by kernel_rfl,of_decide_eq_true (by kernel_rfl)⟩
theorem ShowBack_results:Tryz.f4.resultTypes=#[4]:=by kernel_rfl
theorem ShowBack_bool:Tryz.prog.underlying 4=some .bool:=by kernel_rfl
theorem ShowBack_pow:("internal/strconv.uint64pow10",Lib.tabData .u64 Lib.pow10Tab)∈Rows.showBackRow.laid:=
 List.mem_cons_of_mem _ (List.mem_cons_of_mem _ List.mem_cons_self)
theorem ShowBack_laid {W:World} (h:laidMetH Tryz.prog Rows.showBackRow.laid W):laidMet Tryz.prog Rows.showBackRow.laid W:=h
set_option maxRecDepth 100000 in
theorem ShowBack_contract {H:Type} {enc:TypeId×Value→H} (W:World) (base:Nat) (args:Array Value) (ds gs:List (DataW H)) (before:List MemPlace)
  (hval:∀(j:Nat) t v,Tryz.f4.params[j]?=some t→args[j]?=some v→Value.okWide Tryz.prog W .any base t v)
  (hW:DataW.Whole enc Tryz.prog Tryz.f4.params.toList Rows.showBackSpec.vars false W args.toList ds gs before) (hL:laidMetH Tryz.prog Rows.showBackRow.laid W):
  Calls Tryz.prog 4 args W fun e W'=>∃v,e=.returned v∧Rows.showBackSpec.post enc Tryz.prog Tryz.f4 false true false false W args v W':=by
 have hW':=hW
 obtain⟨p,q,hA,hV,rfl,_,_⟩:=hW
 obtain⟨rfl,rfl⟩:=trodVars_none hV
 rw[ShowBack_params] at hA hval
 obtain⟨v0,vs0,d0,ds0,p0,q0,e0,rfl,rfl,h0,r0⟩:=trodAll_cons hA
 obtain⟨rfl,rfl,rfl⟩:=trodAll_nil r0
 obtain rfl:args=#[v0]:=by cases args;simp_all
 obtain⟨x0,k0,w0⟩:=arg_items sortsI (hval 0 69 v0 rfl rfl) h0
 exact calls_true (tb:=4) laidOut rfl ShowBack_bool ShowBack_results ShowBack_rows hW' rfl rfl rfl (ShowBack_calls) (glob_of (ShowBack_laid hL) ShowBack_pow) ⟨w0,True.intro⟩
theorem ShowBack_met (os:Os) (args:Array Value):laidMetH Tryz.prog Rows.showBackRow.laid ((laidWorld Rows.showBackRow.laid os).forCall (fun _ _=>0) ⟨#[],args,[]⟩).memory:=
 laidMet_of_run' 8 (by kernel_rfl) (by kernel_rfl)
set_option maxRecDepth 100000 in
theorem ShowBack_lifted (os:Os) (started:os.Started) (H:Type) (enc:TypeId×Value→H):
  ReturnsInHanded {} Tryz.checked os 4 .any (fun w args=>(Rows.showBackSpec.pre enc Tryz.prog Tryz.f4 [] false w args∧laidMetH Tryz.prog Rows.showBackRow.laid w)∧sizedMet enc Tryz.prog Tryz.f4 (OpenSpec.ofChange Rows.showBackSpec) false w args)
   (Rows.showBackSpec.post enc Tryz.prog Tryz.f4 false true false false):=by
 refine returnsInHanded_of_change_and (C:=Tryz.checked) (X:=fun w _=>laidMetH Tryz.prog Rows.showBackRow.laid w) (fun _ _ _ hh h=>h.of_heap hh) own started (by kernel_rfl) Tryz.func4
  (ChangeSpec.witness_at (enc:=enc) (C:=Tryz.checked) (os:=os) (X:=fun w _=>laidMetH Tryz.prog Rows.showBackRow.laid w) false (laidWorld Rows.showBackRow.laid os) #[.slice none 0 0] 8 rfl (by kernel_rfl) (by kernel_rfl) (by kernel_rfl) (by kernel_rfl) (by kernel_rfl) (ShowBack_met os _)) ?_
 intro W base args ds gs before hval hW _ _ hL _
 exact ShowBack_contract W base args ds gs before hval hW hL
theorem ShowBack_over:Rows.ShowBackSaid:=
 OpenClaim.holds_of_wide 4 Tryz.f4 rfl rfl rfl rfl rfl rfl rfl ⟨rfl,rfl,rfl,rfl,rfl⟩ rfl rfl rfl rfl rfl (by kernel_rfl) Tryz.func4 (by kernel_rfl)
  (of_decide_eq_true (by kernel_rfl)) (by unfold Func.isWrapper;first|(rw[if_pos (by decide +kernel)];kernel_rfl)|(rw[if_neg (by decide +kernel)];exact⟨rfl,rfl⟩))
  (fun os started H enc _=>ShowBack_lifted os started H enc)
theorem ShowBack_card:Rows.ShowBackCardSaid:=
 Claim7.holds_tied_plain_at .later [] [.data,.data,.data] true Rows.showBackCard.stood.harness false
  ShowBack_over (fun _ h=>by cases h) (by kernel_rfl) (fun _ h=>by cases h) showBack_row_tie rfl ⟨rfl,rfl⟩ (by kernel_rfl) rfl
  (fun f fn hf hfn=>by
   obtain rfl:f=4:=Option.some.inj ((show Tryz.prog.funcNamed "filigree/filigreelaw15.ShowBack"=some 4 by kernel_rfl).symm.trans hf) |>.symm
   obtain rfl:fn=Tryz.f4:=(Option.some.inj (Tryz.func4.symm.trans hfn)).symm
   exact⟨by kernel_rfl,fun j t ht=>by
    rw[ShowBack_params] at ht
    have h3:t=69:=by
     match j,ht with
     |0,ht=>exact((Option.some.inj ht).symm)
     |k+1,ht=>simp at ht
    rcases h3 with rfl
    ·exact(show Tryz.prog.wantsStandIn 69=false by kernel_rfl)⟩)
  (by kernel_rfl)
end Go.Proofs.YtghnkppcncbddaaGreatDoor
