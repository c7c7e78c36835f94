/- Proved: ProofUses, whatever the input, returns true; the tied card. Conditions: none beyond the given statement's own (ProofUsesCardSaid). -/
import Derived.Test.YtjhanogfpkbamaaGreatDoorCards
import Derived.Test.YtjhanogfpkbamaaGreatDoorTie
import Derived.SevenTiedAt
import Derived.Test.YtjhanogfpkbamaaGreatDoorQ53
namespace Go.Proofs.YtjhanogfpkbamaaGreatDoor
open Go Go.ChangeShapes Go.WideShapes Go.ChangeAt Go.RowKit
set_option linter.unusedSimpArgs false
set_option linter.unusedVariables false
theorem jL:Tryz.f5.params=#[22,3]:=by kernel_rfl
theorem zR:∀t∈Tryz.f5.params.toList,Tryz.prog.readableRec t=true∧t<Tryz.prog.types.size:=by
 rw[jL]
 intro t ht
 have h:t=22∨t=3:=by simpa using ht
 rcases h with rfl|rfl
 ·exact⟨by kernel_rfl,of_decide_eq_true (by kernel_rfl)⟩
 ·exact⟨by kernel_rfl,of_decide_eq_true (by kernel_rfl)⟩
theorem uJ:Tryz.f5.resultTypes=#[4]:=by kernel_rfl
theorem zS:Tryz.prog.underlying 4=some .bool:=by kernel_rfl
theorem As:("internal/strconv.uint64pow10",Lib.tabData .u64 Lib.pow10Tab)∈Rows.proofUsesRow.laid:=
 aip _ (aip _ aia)
theorem zU {W:World} (h:laidMetH Tryz.prog Rows.proofUsesRow.laid W):laidMet Tryz.prog Rows.proofUsesRow.laid W:=h
set_option maxRecDepth 100000 in
theorem sU {H:Type} {enc:TypeId×Value→H} (W:World) (base:Nat) (args:Array Value) (ds gs:List (DataW H)) (before:List MemPlace)
  (Hg:∀(j:Nat) t v,Tryz.f5.params[j]?=some t→args[j]?=some v→Value.okWide Tryz.prog W .any base t v)
  (hW:DataW.Whole enc Tryz.prog Tryz.f5.params.toList Rows.proofUsesSpec.vars false W args.toList ds gs before) (hL:laidMetH Tryz.prog Rows.proofUsesRow.laid W):
  Calls Tryz.prog 5 args W fun e W'=>∃v,e=.returned v∧Rows.proofUsesSpec.post enc Tryz.prog Tryz.f5 false true false false W args v W':=by
 have QE:=hW
 obtain⟨p,q,hA,hV,rfl,_,_⟩:=hW
 obtain⟨rfl,rfl⟩:=trodVars_none hV
 rw[jL] at hA Hg
 obtain⟨v0,vs0,d0,ds0,p0,q0,e0,rfl,rfl,h0,r0⟩:=trodAll_cons hA
 obtain⟨v1,vs1,d1,ds1,p1,q1,e1,rfl,rfl,h1,r1⟩:=trodAll_cons r0
 obtain⟨rfl,rfl,rfl⟩:=trodAll_nil r1
 obtain rfl:args=#[v0,v1]:=by cases args;simp_all
 obtain⟨x0,k0,w0⟩:=IC aad W0 Xj (Hg 0 22 v0 rfl rfl) h0
 obtain⟨x1,k1,w1⟩:=arg_num (show Tryz.prog.underlying 3=some (.int .i64) by kernel_rfl) (Hg 1 3 v1 rfl rfl) h1
 exact Ia (tb:=4) laidOut rfl zS uJ zR QE rfl rfl rfl (xh k0 k1) (UE (zU hL) As) ⟨w0,w1,True.intro⟩
theorem Au (os:Os) (args:Array Value):laidMetH Tryz.prog Rows.proofUsesRow.laid ((zH Rows.proofUsesRow.laid os).forCall (fun _ _=>0) ⟨#[],args,[]⟩).memory:=
 laidMet_of_run' 8 (by kernel_rfl) (by kernel_rfl)
set_option maxRecDepth 100000 in
theorem vC (os:Os) (started:os.Started) (H:Type) (enc:TypeId×Value→H):
  ReturnsInHanded {} Tryz.checked os 5 .any (fun w args=>(Rows.proofUsesSpec.pre enc Tryz.prog Tryz.f5 [] false w args∧laidMetH Tryz.prog Rows.proofUsesRow.laid w)∧sizedMet enc Tryz.prog Tryz.f5 (OpenSpec.ofChange Rows.proofUsesSpec) false w args)
   (Rows.proofUsesSpec.post enc Tryz.prog Tryz.f5 false true false false):=by
 refine returnsInHanded_of_change_and (C:=Tryz.checked) (X:=fun w _=>laidMetH Tryz.prog Rows.proofUsesRow.laid w) (fun _ _ _ hh h=>h.of_heap hh) own started (by kernel_rfl) Tryz.func5
  (ChangeSpec.witness_at (enc:=enc) (C:=Tryz.checked) (os:=os) (X:=fun w _=>laidMetH Tryz.prog Rows.proofUsesRow.laid w) false (zH Rows.proofUsesRow.laid os) #[.slice none 0 0,.int .i64 0] 8 rfl (by kernel_rfl) (by kernel_rfl) (by kernel_rfl) (by kernel_rfl) (by kernel_rfl) (Au os _)) ?_
 intro W base args ds gs before Hg hW _ _ hL _
 exact sU W base args ds gs before Hg hW hL
theorem zV:Rows.ProofUsesSaid:=
 OpenClaim.holds_of_wide 5 Tryz.f5 rfl rfl rfl rfl rfl rfl rfl ⟨rfl,rfl,rfl,rfl,rfl⟩ rfl rfl rfl rfl rfl (by kernel_rfl) Tryz.func5 (by kernel_rfl)
  (of_decide_eq_true (by kernel_rfl)) (by unfold Func.isWrapper;first|(rw[if_pos (by decide +kernel)];kernel_rfl)|(rw[if_neg (by decide +kernel)];exact⟨rfl,rfl⟩))
  (fun os started H enc _=>vC os started H enc)
theorem ProofUses_card:Rows.ProofUsesCardSaid:=
 Claim7.holds_tied_plain_at .later [] [.data,.data,.data,.sentinel,.sentinel] true Rows.proofUsesCard.stood.harness true
  zV (fun _ h=>by cases h) (by kernel_rfl) (fun _ h=>by cases h) proofUses_row_tie rfl ⟨rfl,rfl⟩ (by kernel_rfl) rfl
  (fun f fn hf Xs=>by
   obtain rfl:f=5:=Option.some.inj ((show Tryz.prog.funcNamed "filigree/filigreelaw26.ProofUses"=some 5 by kernel_rfl).symm.trans hf) |>.symm
   obtain rfl:fn=Tryz.f5:=(Option.some.inj (Tryz.func5.symm.trans Xs)).symm
   exact⟨by kernel_rfl,fun j t ht=>by
    rw[jL] at ht
    have h3:t=22∨t=3:=by
     match j,ht with
     |0,ht=>exact .inl ((Option.some.inj ht).symm)
     |1,ht=>exact .inr ((Option.some.inj ht).symm)
     |k+2,ht=>simp at ht
    rcases h3 with rfl|rfl
    ·exact(show Tryz.prog.wantsStandIn 22=false by kernel_rfl)
    ·exact(show Tryz.prog.wantsStandIn 3=false by kernel_rfl)⟩)
  (by kernel_rfl)
end Go.Proofs.YtjhanogfpkbamaaGreatDoor
