/- Proved: ProofParts, whatever the input, returns true; the tied card. Conditions: none beyond the given statement's own (ProofPartsCardSaid). -/
import Derived.Test.YtjhanogfpkbamaaGreatDoorCards
import Derived.Test.YtjhanogfpkbamaaGreatDoorTie
import Derived.SevenTiedAt
import Derived.Test.YtjhanogfpkbamaaGreatDoorQ52
namespace Go.Proofs.YtjhanogfpkbamaaGreatDoor
open Go Go.ChangeShapes Go.WideShapes Go.ChangeAt Go.RowKit
set_option linter.unusedSimpArgs false
set_option linter.unusedVariables false
theorem ProofParts_params:Tryz.f4.params=#[22,22,42]:=by kernel_rfl
theorem ProofParts_rows:∀t∈Tryz.f4.params.toList,Tryz.prog.readableRec t=true∧t<Tryz.prog.types.size:=by
 rw[ProofParts_params]
 intro t ht
 have h:t=22∨t=22∨t=42:=by simpa using ht
 rcases h with rfl|rfl|rfl
 ·exact⟨by kernel_rfl,of_decide_eq_true (by kernel_rfl)⟩
 ·exact⟨by kernel_rfl,of_decide_eq_true (by kernel_rfl)⟩
 ·exact⟨by kernel_rfl,of_decide_eq_true (by kernel_rfl)⟩
theorem ProofParts_results:Tryz.f4.resultTypes=#[4]:=by kernel_rfl
theorem ProofParts_bool:Tryz.prog.underlying 4=some .bool:=by kernel_rfl
theorem ProofParts_pow:("internal/strconv.uint64pow10",Lib.tabData .u64 Lib.pow10Tab)∈Rows.proofPartsRow.laid:=
 List.mem_cons_of_mem _ (List.mem_cons_of_mem _ List.mem_cons_self)
theorem ProofParts_laid {W:World} (h:laidMetH Tryz.prog Rows.proofPartsRow.laid W):laidMet Tryz.prog Rows.proofPartsRow.laid W:=h
set_option maxRecDepth 100000 in
theorem ProofParts_contract {H:Type} {enc:TypeId×Value→H} (W:World) (base:Nat) (args:Array Value) (ds gs:List (DataW H)) (before:List MemPlace)
  (hval:∀(j:Nat) t v,Tryz.f4.params[j]?=some t→args[j]?=some v→Value.okWide Tryz.prog W .any base t v)
  (hW:DataW.Whole enc Tryz.prog Tryz.f4.params.toList Rows.proofPartsSpec.vars false W args.toList ds gs before) (hL:laidMetH Tryz.prog Rows.proofPartsRow.laid W):
  Calls Tryz.prog 4 args W fun e W'=>∃v,e=.returned v∧Rows.proofPartsSpec.post enc Tryz.prog Tryz.f4 false true false false W args v W':=by
 have hW':=hW
 obtain⟨p,q,hA,hV,rfl,_,_⟩:=hW
 obtain⟨rfl,rfl⟩:=trodVars_none hV
 rw[ProofParts_params] at hA hval
 obtain⟨v0,vs0,d0,ds0,p0,q0,e0,rfl,rfl,h0,r0⟩:=trodAll_cons hA
 obtain⟨v1,vs1,d1,ds1,p1,q1,e1,rfl,rfl,h1,r1⟩:=trodAll_cons r0
 obtain⟨v2,vs2,d2,ds2,p2,q2,e2,rfl,rfl,h2,r2⟩:=trodAll_cons r1
 obtain⟨rfl,rfl,rfl⟩:=trodAll_nil r2
 obtain rfl:args=#[v0,v1,v2]:=by cases args;simp_all
 obtain⟨x0,k0,w0⟩:=arg_lemmas sorts sortsN sortsL (hval 0 22 v0 rfl rfl) h0
 obtain⟨x1,k1,w1⟩:=arg_lemmas sorts sortsN sortsL (hval 1 22 v1 rfl rfl) h1
 obtain⟨x2,k2,w2⟩:=arg_nums sorts sortsN (hval 2 42 v2 rfl rfl) h2
 exact calls_true (tb:=4) laidOut rfl ProofParts_bool ProofParts_results ProofParts_rows hW' rfl rfl rfl (ProofParts_calls k0 k1 x2) (glob_of (ProofParts_laid hL) ProofParts_pow) ⟨w0,w1,w2,True.intro⟩
theorem ProofParts_met (os:Os) (args:Array Value):laidMetH Tryz.prog Rows.proofPartsRow.laid ((laidWorld2 Rows.proofPartsRow.laid os).forCall (fun _ _=>0) ⟨#[],args,[]⟩).memory:=
 laidMet_of_run' 8 (by kernel_rfl) (by kernel_rfl)
set_option maxRecDepth 100000 in
theorem ProofParts_lifted (os:Os) (started:os.Started) (H:Type) (enc:TypeId×Value→H):
  ReturnsInHanded {} Tryz.checked os 4 .any (fun w args=>(Rows.proofPartsSpec.pre enc Tryz.prog Tryz.f4 [] false w args∧laidMetH Tryz.prog Rows.proofPartsRow.laid w)∧sizedMet enc Tryz.prog Tryz.f4 (OpenSpec.ofChange Rows.proofPartsSpec) false w args)
   (Rows.proofPartsSpec.post enc Tryz.prog Tryz.f4 false true false false):=by
 refine returnsInHanded_of_change_and (C:=Tryz.checked) (X:=fun w _=>laidMetH Tryz.prog Rows.proofPartsRow.laid w) (fun _ _ _ hh h=>h.of_heap hh) own started (by kernel_rfl) Tryz.func4
  (ChangeSpec.witness_at (enc:=enc) (C:=Tryz.checked) (os:=os) (X:=fun w _=>laidMetH Tryz.prog Rows.proofPartsRow.laid w) false (laidWorld2 Rows.proofPartsRow.laid os) #[.slice none 0 0,.slice none 0 0,.slice none 0 0] 8 rfl (by kernel_rfl) (by kernel_rfl) (by kernel_rfl) (by kernel_rfl) (by kernel_rfl) (ProofParts_met os _)) ?_
 intro W base args ds gs before hval hW _ _ hL _
 exact ProofParts_contract W base args ds gs before hval hW hL
theorem ProofParts_over:Rows.ProofPartsSaid:=
 OpenClaim.holds_of_wide 4 Tryz.f4 rfl rfl rfl rfl rfl rfl rfl ⟨rfl,rfl,rfl,rfl,rfl⟩ rfl rfl rfl rfl rfl (by kernel_rfl) Tryz.func4 (by kernel_rfl)
  (of_decide_eq_true (by kernel_rfl)) (by unfold Func.isWrapper;first|(rw[if_pos (by decide +kernel)];kernel_rfl)|(rw[if_neg (by decide +kernel)];exact⟨rfl,rfl⟩))
  (fun os started H enc _=>ProofParts_lifted os started H enc)
theorem ProofParts_card:Rows.ProofPartsCardSaid:=
 Claim7.holds_tied_plain_at .later [] [.data,.data,.data,.sentinel,.sentinel] true Rows.proofPartsCard.stood.harness true
  ProofParts_over (fun _ h=>by cases h) (by kernel_rfl) (fun _ h=>by cases h) proofParts_row_tie rfl ⟨rfl,rfl⟩ (by kernel_rfl) rfl
  (fun f fn hf hfn=>by
   obtain rfl:f=4:=Option.some.inj ((show Tryz.prog.funcNamed "filigree/filigreelaw26.ProofParts"=some 4 by kernel_rfl).symm.trans hf) |>.symm
   obtain rfl:fn=Tryz.f4:=(Option.some.inj (Tryz.func4.symm.trans hfn)).symm
   exact⟨by kernel_rfl,fun j t ht=>by
    rw[ProofParts_params] at ht
    have h3:t=22∨t=22∨t=42:=by
     match j,ht with
     |0,ht=>exact .inl ((Option.some.inj ht).symm)
     |1,ht=>exact .inr (.inl ((Option.some.inj ht).symm))
     |2,ht=>exact .inr (.inr ((Option.some.inj ht).symm))
     |k+3,ht=>simp at ht
    rcases h3 with rfl|rfl|rfl
    ·exact(show Tryz.prog.wantsStandIn 22=false by kernel_rfl)
    ·exact(show Tryz.prog.wantsStandIn 22=false by kernel_rfl)
    ·exact(show Tryz.prog.wantsStandIn 42=false by kernel_rfl)⟩)
  (by kernel_rfl)
end Go.Proofs.YtjhanogfpkbamaaGreatDoor
