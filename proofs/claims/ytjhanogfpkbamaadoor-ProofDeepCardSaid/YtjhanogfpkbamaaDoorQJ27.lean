/- Proved: ProofDeep, whatever the input, returns true; the tied card. Conditions: none beyond the given statement's own (ProofDeepCardSaid). -/
import Derived.Test.YtjhanogfpkbamaaDoorCards
import Derived.Test.YtjhanogfpkbamaaDoorTie
import Derived.SevenTiedAt
import Derived.Test.YtjhanogfpkbamaaDoorQ47
namespace Go.Proofs.YtjhanogfpkbamaaDoor
open Go Go.ChangeShapes Go.WideShapes Go.ChangeAt Go.RowKit
set_option linter.unusedSimpArgs false
set_option linter.unusedVariables false
theorem ProofDeep_params:Tryd.f3.params=#[3,3]:=by kernel_rfl
theorem ProofDeep_rows:∀t∈Tryd.f3.params.toList,Tryd.prog.readableRec t=true∧t<Tryd.prog.types.size:=by
 rw[ProofDeep_params]
 intro t ht
 have h:t=3∨t=3:=by simpa using ht
 rcases h with rfl|rfl
 ·exact⟨by kernel_rfl,of_decide_eq_true (by kernel_rfl)⟩
 ·exact⟨by kernel_rfl,of_decide_eq_true (by kernel_rfl)⟩
theorem ProofDeep_results:Tryd.f3.resultTypes=#[4]:=by kernel_rfl
theorem ProofDeep_bool:Tryd.prog.underlying 4=some .bool:=by kernel_rfl
theorem ProofDeep_pow:("internal/strconv.uint64pow10",Lib.tabData .u64 Lib.pow10Tab)∈Rows.proofDeepRow.laid:=
 List.mem_cons_of_mem _ (List.mem_cons_of_mem _ List.mem_cons_self)
theorem ProofDeep_laid {W:World} (h:laidMetH Tryd.prog Rows.proofDeepRow.laid W):laidMet Tryd.prog Rows.proofDeepRow.laid W:=h
set_option maxRecDepth 100000 in
theorem ProofDeep_contract {H:Type} {enc:TypeId×Value→H} (W:World) (base:Nat) (args:Array Value) (ds gs:List (DataW H)) (before:List MemPlace)
  (hval:∀(j:Nat) t v,Tryd.f3.params[j]?=some t→args[j]?=some v→Value.okWide Tryd.prog W .any base t v)
  (hW:DataW.Whole enc Tryd.prog Tryd.f3.params.toList Rows.proofDeepSpec.vars false W args.toList ds gs before) (hL:laidMetH Tryd.prog Rows.proofDeepRow.laid W):
  Calls Tryd.prog 3 args W fun e W'=>∃v,e=.returned v∧Rows.proofDeepSpec.post enc Tryd.prog Tryd.f3 false true false false W args v W':=by
 have hW':=hW
 obtain⟨p,q,hA,hV,rfl,_,_⟩:=hW
 obtain⟨rfl,rfl⟩:=trodVars_none hV
 rw[ProofDeep_params] at hA hval
 obtain⟨v0,vs0,d0,ds0,p0,q0,e0,rfl,rfl,h0,r0⟩:=trodAll_cons hA
 obtain⟨v1,vs1,d1,ds1,p1,q1,e1,rfl,rfl,h1,r1⟩:=trodAll_cons r0
 obtain⟨rfl,rfl,rfl⟩:=trodAll_nil r1
 obtain rfl:args=#[v0,v1]:=by cases args;simp_all
 obtain⟨x0,k0,w0⟩:=arg_num (show Tryd.prog.underlying 3=some (.int .i64) by kernel_rfl) (hval 0 3 v0 rfl rfl) h0
 obtain⟨x1,k1,w1⟩:=arg_num (show Tryd.prog.underlying 3=some (.int .i64) by kernel_rfl) (hval 1 3 v1 rfl rfl) h1
 exact calls_true (tb:=4) laidOut rfl ProofDeep_bool ProofDeep_results ProofDeep_rows hW' rfl rfl rfl (ProofDeep_calls) (glob_of (ProofDeep_laid hL) ProofDeep_pow) ⟨w0,w1,True.intro⟩
theorem ProofDeep_met (os:Os) (args:Array Value):laidMetH Tryd.prog Rows.proofDeepRow.laid ((laidWorld2 Rows.proofDeepRow.laid os).forCall (fun _ _=>0) ⟨#[],args,[]⟩).memory:=
 laidMet_of_run' 8 (by kernel_rfl) (by kernel_rfl)
set_option maxRecDepth 100000 in
theorem ProofDeep_lifted (os:Os) (started:os.Started) (H:Type) (enc:TypeId×Value→H):
  ReturnsInHanded {} Tryd.checked os 3 .any (fun w args=>(Rows.proofDeepSpec.pre enc Tryd.prog Tryd.f3 [] false w args∧laidMetH Tryd.prog Rows.proofDeepRow.laid w)∧sizedMet enc Tryd.prog Tryd.f3 (OpenSpec.ofChange Rows.proofDeepSpec) false w args)
   (Rows.proofDeepSpec.post enc Tryd.prog Tryd.f3 false true false false):=by
 refine returnsInHanded_of_change_and (C:=Tryd.checked) (X:=fun w _=>laidMetH Tryd.prog Rows.proofDeepRow.laid w) (fun _ _ _ hh h=>h.of_heap hh) own started (by kernel_rfl) Tryd.func3
  (ChangeSpec.witness_at (enc:=enc) (C:=Tryd.checked) (os:=os) (X:=fun w _=>laidMetH Tryd.prog Rows.proofDeepRow.laid w) false (laidWorld2 Rows.proofDeepRow.laid os) #[.int .i64 0,.int .i64 0] 8 rfl (by kernel_rfl) (by kernel_rfl) (by kernel_rfl) (by kernel_rfl) (by kernel_rfl) (ProofDeep_met os _)) ?_
 intro W base args ds gs before hval hW _ _ hL _
 exact ProofDeep_contract W base args ds gs before hval hW hL
theorem ProofDeep_over:Rows.ProofDeepSaid:=
 OpenClaim.holds_of_wide 3 Tryd.f3 rfl rfl rfl rfl rfl rfl rfl ⟨rfl,rfl,rfl,rfl,rfl⟩ rfl rfl rfl rfl rfl (by kernel_rfl) Tryd.func3 (by kernel_rfl)
  (of_decide_eq_true (by kernel_rfl)) (by unfold Func.isWrapper;first|(rw[if_pos (by decide +kernel)];kernel_rfl)|(rw[if_neg (by decide +kernel)];exact⟨rfl,rfl⟩))
  (fun os started H enc _=>ProofDeep_lifted os started H enc)
theorem ProofDeep_card:Rows.ProofDeepCardSaid:=
 Claim7.holds_tied_plain_at .later [] [.data,.data,.data,.sentinel,.sentinel] true Rows.proofDeepCard.stood.harness true
  ProofDeep_over (fun _ h=>by cases h) (by kernel_rfl) (fun _ h=>by cases h) proofDeep_row_tie rfl ⟨rfl,rfl⟩ (by kernel_rfl) rfl
  (fun f fn hf hfn=>by
   obtain rfl:f=3:=Option.some.inj ((show Tryd.prog.funcNamed "filigree/filigreelaw26.ProofDeep"=some 3 by kernel_rfl).symm.trans hf) |>.symm
   obtain rfl:fn=Tryd.f3:=(Option.some.inj (Tryd.func3.symm.trans hfn)).symm
   exact⟨by kernel_rfl,fun j t ht=>by
    rw[ProofDeep_params] at ht
    have h3:t=3∨t=3:=by
     match j,ht with
     |0,ht=>exact .inl ((Option.some.inj ht).symm)
     |1,ht=>exact .inr ((Option.some.inj ht).symm)
     |k+2,ht=>simp at ht
    rcases h3 with rfl|rfl
    ·exact(show Tryd.prog.wantsStandIn 3=false by kernel_rfl)
    ·exact(show Tryd.prog.wantsStandIn 3=false by kernel_rfl)⟩)
  (by kernel_rfl)
end Go.Proofs.YtjhanogfpkbamaaDoor
