/- Proved: ProofEncodes, whatever the input, returns true; the tied card. Conditions: none beyond the given statement's own (ProofEncodesCardSaid). -/
import Derived.Test.YtjhanogfpkbamaaGreatDoorCards
import Derived.Test.YtjhanogfpkbamaaGreatDoorTie
import Derived.SevenTiedAt
import Derived.Test.YtjhanogfpkbamaaGreatDoorQ52
namespace Go.Proofs.YtjhanogfpkbamaaGreatDoor
open Go Go.ChangeShapes Go.WideShapes Go.ChangeAt Go.RowKit
set_option linter.unusedSimpArgs false
set_option linter.unusedVariables false
theorem ProofEncodes_params:Tryz.f3.params=#[22]:=by kernel_rfl
theorem ProofEncodes_rows:∀t∈Tryz.f3.params.toList,Tryz.prog.readableRec t=true∧t<Tryz.prog.types.size:=by
 rw[ProofEncodes_params]
 intro t ht
 have h:t=22:=by simpa using ht
 rcases h with rfl
 ·exact⟨by kernel_rfl,of_decide_eq_true (by kernel_rfl)⟩
theorem ProofEncodes_results:Tryz.f3.resultTypes=#[4]:=by kernel_rfl
theorem ProofEncodes_bool:Tryz.prog.underlying 4=some .bool:=by kernel_rfl
theorem ProofEncodes_pow:("internal/strconv.uint64pow10",Lib.tabData .u64 Lib.pow10Tab)∈Rows.proofEncodesRow.laid:=
 List.mem_cons_of_mem _ (List.mem_cons_of_mem _ List.mem_cons_self)
theorem ProofEncodes_laid {W:World} (h:laidMetH Tryz.prog Rows.proofEncodesRow.laid W):laidMet Tryz.prog Rows.proofEncodesRow.laid W:=h
set_option maxRecDepth 100000 in
theorem ProofEncodes_contract {H:Type} {enc:TypeId×Value→H} (W:World) (base:Nat) (args:Array Value) (ds gs:List (DataW H)) (before:List MemPlace)
  (hval:∀(j:Nat) t v,Tryz.f3.params[j]?=some t→args[j]?=some v→Value.okWide Tryz.prog W .any base t v)
  (hW:DataW.Whole enc Tryz.prog Tryz.f3.params.toList Rows.proofEncodesSpec.vars false W args.toList ds gs before) (hL:laidMetH Tryz.prog Rows.proofEncodesRow.laid W):
  Calls Tryz.prog 3 args W fun e W'=>∃v,e=.returned v∧Rows.proofEncodesSpec.post enc Tryz.prog Tryz.f3 false true false false W args v W':=by
 have hW':=hW
 obtain⟨p,q,hA,hV,rfl,_,_⟩:=hW
 obtain⟨rfl,rfl⟩:=trodVars_none hV
 rw[ProofEncodes_params] at hA hval
 obtain⟨v0,vs0,d0,ds0,p0,q0,e0,rfl,rfl,h0,r0⟩:=trodAll_cons hA
 obtain⟨rfl,rfl,rfl⟩:=trodAll_nil r0
 obtain rfl:args=#[v0]:=by cases args;simp_all
 obtain⟨x0,k0,w0⟩:=arg_lemmas sorts sortsN sortsL (hval 0 22 v0 rfl rfl) h0
 exact calls_true (tb:=4) laidOut rfl ProofEncodes_bool ProofEncodes_results ProofEncodes_rows hW' rfl rfl rfl (ProofEncodes_calls k0) (glob_of (ProofEncodes_laid hL) ProofEncodes_pow) ⟨w0,True.intro⟩
theorem ProofEncodes_met (os:Os) (args:Array Value):laidMetH Tryz.prog Rows.proofEncodesRow.laid ((laidWorld2 Rows.proofEncodesRow.laid os).forCall (fun _ _=>0) ⟨#[],args,[]⟩).memory:=
 laidMet_of_run' 8 (by kernel_rfl) (by kernel_rfl)
set_option maxRecDepth 100000 in
theorem ProofEncodes_lifted (os:Os) (started:os.Started) (H:Type) (enc:TypeId×Value→H):
  ReturnsInHanded {} Tryz.checked os 3 .any (fun w args=>(Rows.proofEncodesSpec.pre enc Tryz.prog Tryz.f3 [] false w args∧laidMetH Tryz.prog Rows.proofEncodesRow.laid w)∧sizedMet enc Tryz.prog Tryz.f3 (OpenSpec.ofChange Rows.proofEncodesSpec) false w args)
   (Rows.proofEncodesSpec.post enc Tryz.prog Tryz.f3 false true false false):=by
 refine returnsInHanded_of_change_and (C:=Tryz.checked) (X:=fun w _=>laidMetH Tryz.prog Rows.proofEncodesRow.laid w) (fun _ _ _ hh h=>h.of_heap hh) own started (by kernel_rfl) Tryz.func3
  (ChangeSpec.witness_at (enc:=enc) (C:=Tryz.checked) (os:=os) (X:=fun w _=>laidMetH Tryz.prog Rows.proofEncodesRow.laid w) false (laidWorld2 Rows.proofEncodesRow.laid os) #[.slice none 0 0] 8 rfl (by kernel_rfl) (by kernel_rfl) (by kernel_rfl) (by kernel_rfl) (by kernel_rfl) (ProofEncodes_met os _)) ?_
 intro W base args ds gs before hval hW _ _ hL _
 exact ProofEncodes_contract W base args ds gs before hval hW hL
theorem ProofEncodes_over:Rows.ProofEncodesSaid:=
 OpenClaim.holds_of_wide 3 Tryz.f3 rfl rfl rfl rfl rfl rfl rfl ⟨rfl,rfl,rfl,rfl,rfl⟩ rfl rfl rfl rfl rfl (by kernel_rfl) Tryz.func3 (by kernel_rfl)
  (of_decide_eq_true (by kernel_rfl)) (by unfold Func.isWrapper;first|(rw[if_pos (by decide +kernel)];kernel_rfl)|(rw[if_neg (by decide +kernel)];exact⟨rfl,rfl⟩))
  (fun os started H enc _=>ProofEncodes_lifted os started H enc)
theorem ProofEncodes_card:Rows.ProofEncodesCardSaid:=
 Claim7.holds_tied_plain_at .later [] [.data,.data,.data,.sentinel,.sentinel] true Rows.proofEncodesCard.stood.harness true
  ProofEncodes_over (fun _ h=>by cases h) (by kernel_rfl) (fun _ h=>by cases h) proofEncodes_row_tie rfl ⟨rfl,rfl⟩ (by kernel_rfl) rfl
  (fun f fn hf hfn=>by
   obtain rfl:f=3:=Option.some.inj ((show Tryz.prog.funcNamed "filigree/filigreelaw26.ProofEncodes"=some 3 by kernel_rfl).symm.trans hf) |>.symm
   obtain rfl:fn=Tryz.f3:=(Option.some.inj (Tryz.func3.symm.trans hfn)).symm
   exact⟨by kernel_rfl,fun j t ht=>by
    rw[ProofEncodes_params] at ht
    have h3:t=22:=by
     match j,ht with
     |0,ht=>exact((Option.some.inj ht).symm)
     |k+1,ht=>simp at ht
    rcases h3 with rfl
    ·exact(show Tryz.prog.wantsStandIn 22=false by kernel_rfl)⟩)
  (by kernel_rfl)
end Go.Proofs.YtjhanogfpkbamaaGreatDoor
