/- Proved: ShowAgain, whatever the input, returns true; the tied card. Conditions: none beyond the given statement's own (ShowAgainCardSaid). -/
import Derived.Test.YtghnkppcncbddaaGreatDoorCards
import Derived.Test.YtghnkppcncbddaaGreatDoorTie
import Derived.SevenTiedAt
import Derived.Test.YtghnkppcncbddaaGreatDoorQ50
namespace Go.Proofs.YtghnkppcncbddaaGreatDoor
open Go Go.ChangeShapes Go.WideShapes Go.ChangeAt Go.RowKit
set_option linter.unusedSimpArgs false
set_option linter.unusedVariables false
theorem ShowAgain_params:Tryz.f5.params=#[9]:=by kernel_rfl
theorem ShowAgain_rows:∀t∈Tryz.f5.params.toList,Tryz.prog.readableRec t=true∧t<Tryz.prog.types.size:=by
 rw[ShowAgain_params]
 intro t ht
 have h:t=9:=by simpa using ht
 rcases h with rfl
 ·exact⟨by kernel_rfl,of_decide_eq_true (by kernel_rfl)⟩
theorem ShowAgain_results:Tryz.f5.resultTypes=#[4]:=by kernel_rfl
theorem ShowAgain_bool:Tryz.prog.underlying 4=some .bool:=by kernel_rfl
theorem ShowAgain_pow:("internal/strconv.uint64pow10",Lib.tabData .u64 Lib.pow10Tab)∈Rows.showAgainRow.laid:=
 List.mem_cons_of_mem _ (List.mem_cons_of_mem _ List.mem_cons_self)
theorem ShowAgain_laid {W:World} (h:laidMetH Tryz.prog Rows.showAgainRow.laid W):laidMet Tryz.prog Rows.showAgainRow.laid W:=h
set_option maxRecDepth 100000 in
theorem ShowAgain_contract {H:Type} {enc:TypeId×Value→H} (W:World) (base:Nat) (args:Array Value) (ds gs:List (DataW H)) (before:List MemPlace)
  (hval:∀(j:Nat) t v,Tryz.f5.params[j]?=some t→args[j]?=some v→Value.okWide Tryz.prog W .any base t v)
  (hW:DataW.Whole enc Tryz.prog Tryz.f5.params.toList Rows.showAgainSpec.vars false W args.toList ds gs before) (hL:laidMetH Tryz.prog Rows.showAgainRow.laid W):
  Calls Tryz.prog 5 args W fun e W'=>∃v,e=.returned v∧Rows.showAgainSpec.post enc Tryz.prog Tryz.f5 false true false false W args v W':=by
 have hW':=hW
 obtain⟨p,q,hA,hV,rfl,_,_⟩:=hW
 obtain⟨rfl,rfl⟩:=trodVars_none hV
 rw[ShowAgain_params] at hA hval
 obtain⟨v0,vs0,d0,ds0,p0,q0,e0,rfl,rfl,h0,r0⟩:=trodAll_cons hA
 obtain⟨rfl,rfl,rfl⟩:=trodAll_nil r0
 obtain rfl:args=#[v0]:=by cases args;simp_all
 obtain⟨x0,k0,w0⟩:=arg_word sortsT (hval 0 9 v0 rfl rfl) h0
 exact calls_true (tb:=4) laidOut rfl ShowAgain_bool ShowAgain_results ShowAgain_rows hW' rfl rfl rfl (ShowAgain_calls) (glob_of (ShowAgain_laid hL) ShowAgain_pow) ⟨w0,True.intro⟩
theorem ShowAgain_met (os:Os) (args:Array Value):laidMetH Tryz.prog Rows.showAgainRow.laid ((laidWorld Rows.showAgainRow.laid os).forCall (fun _ _=>0) ⟨#[],args,[]⟩).memory:=
 laidMet_of_run' 8 (by kernel_rfl) (by kernel_rfl)
set_option maxRecDepth 100000 in
theorem ShowAgain_lifted (os:Os) (started:os.Started) (H:Type) (enc:TypeId×Value→H):
  ReturnsInHanded {} Tryz.checked os 5 .any (fun w args=>(Rows.showAgainSpec.pre enc Tryz.prog Tryz.f5 [] false w args∧laidMetH Tryz.prog Rows.showAgainRow.laid w)∧sizedMet enc Tryz.prog Tryz.f5 (OpenSpec.ofChange Rows.showAgainSpec) false w args)
   (Rows.showAgainSpec.post enc Tryz.prog Tryz.f5 false true false false):=by
 refine returnsInHanded_of_change_and (C:=Tryz.checked) (X:=fun w _=>laidMetH Tryz.prog Rows.showAgainRow.laid w) (fun _ _ _ hh h=>h.of_heap hh) own started (by kernel_rfl) Tryz.func5
  (ChangeSpec.witness_at (enc:=enc) (C:=Tryz.checked) (os:=os) (X:=fun w _=>laidMetH Tryz.prog Rows.showAgainRow.laid w) false (laidWorld Rows.showAgainRow.laid os) #[.string ⟨#[]⟩] 8 rfl (by kernel_rfl) (by kernel_rfl) (by kernel_rfl) (by kernel_rfl) (by kernel_rfl) (ShowAgain_met os _)) ?_
 intro W base args ds gs before hval hW _ _ hL _
 exact ShowAgain_contract W base args ds gs before hval hW hL
theorem ShowAgain_over:Rows.ShowAgainSaid:=
 OpenClaim.holds_of_wide 5 Tryz.f5 rfl rfl rfl rfl rfl rfl rfl ⟨rfl,rfl,rfl,rfl,rfl⟩ rfl rfl rfl rfl rfl (by kernel_rfl) Tryz.func5 (by kernel_rfl)
  (of_decide_eq_true (by kernel_rfl)) (by unfold Func.isWrapper;first|(rw[if_pos (by decide +kernel)];kernel_rfl)|(rw[if_neg (by decide +kernel)];exact⟨rfl,rfl⟩))
  (fun os started H enc _=>ShowAgain_lifted os started H enc)
theorem ShowAgain_card:Rows.ShowAgainCardSaid:=
 Claim7.holds_tied_plain_at .later [] [.data,.data,.data] true Rows.showAgainCard.stood.harness false
  ShowAgain_over (fun _ h=>by cases h) (by kernel_rfl) (fun _ h=>by cases h) showAgain_row_tie rfl ⟨rfl,rfl⟩ (by kernel_rfl) rfl
  (fun f fn hf hfn=>by
   obtain rfl:f=5:=Option.some.inj ((show Tryz.prog.funcNamed "filigree/filigreelaw15.ShowAgain"=some 5 by kernel_rfl).symm.trans hf) |>.symm
   obtain rfl:fn=Tryz.f5:=(Option.some.inj (Tryz.func5.symm.trans hfn)).symm
   exact⟨by kernel_rfl,fun j t ht=>by
    rw[ShowAgain_params] at ht
    have h3:t=9:=by
     match j,ht with
     |0,ht=>exact((Option.some.inj ht).symm)
     |k+1,ht=>simp at ht
    rcases h3 with rfl
    ·exact(show Tryz.prog.wantsStandIn 9=false by kernel_rfl)⟩)
  (by kernel_rfl)
end Go.Proofs.YtghnkppcncbddaaGreatDoor
