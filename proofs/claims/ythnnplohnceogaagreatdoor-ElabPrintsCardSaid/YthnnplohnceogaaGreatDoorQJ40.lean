/- Proved: ElabPrints, whatever the input, returns true; the tied card. Conditions: none beyond the given statement's own (ElabPrintsCardSaid). -/
import Derived.Test.YthnnplohnceogaaGreatDoorCards
import Derived.Test.YthnnplohnceogaaGreatDoorTie
import Derived.SevenTiedAt
import Derived.Test.YthnnplohnceogaaGreatDoorQ20
namespace Go.Proofs.YthnnplohnceogaaGreatDoor
open Go Go.ChangeShapes Go.WideShapes Go.ChangeAt Go.RowKit
open Go.Proofs.Tryz renaming prog->aj
set_option linter.unusedSimpArgs false
set_option linter.unusedVariables false
theorem jl:Tryz.f3.params=#[9,3]:=by kernel_rfl
theorem yT:∀t∈Tryz.f3.params.toList,aj.readableRec t=true/\t<aj.types.size:=by (rw[jl];intro t ht;have h:t=9\/t=3:=by simpa using ht);rcases h with rfl|rfl;exact⟨by kernel_rfl,of_decide_eq_true (by kernel_rfl)⟩;exact⟨by kernel_rfl,of_decide_eq_true (by kernel_rfl)⟩
theorem tM:Tryz.f3.resultTypes=#[4]:=by kernel_rfl
theorem yU:aj.underlying 4=some .bool:=by kernel_rfl
theorem Ci:("internal/strconv.uint64pow10",Lib.tabData .u64 Lib.pow10Tab)∈Rows.elabPrintsRow.laid:=auG _ (auG _ auC)
theorem yV{W:World}(h:laidMetH aj Rows.elabPrintsRow.laid W):laidMet aj Rows.elabPrintsRow.laid W:=h
set_option maxRecDepth 100000 in
theorem sD{H:Type}{enc:TypeId×Value->H}(W:World)(base:Nat)(args:Array Value)(ds gs:List (DataW H))(before:List MemPlace)(Lc:∀(j:Nat) t v,Tryz.f3.params[j]?=some t->args[j]?=some v->Value.okWide aj W .any base t v)(hW:DataW.Whole enc aj Tryz.f3.params.toList Rows.elabPrintsSpec.vars false W args.toList ds gs before)(hL:laidMetH aj Rows.elabPrintsRow.laid W): Calls aj 3 args W λe W'=>∃v,e=.returned v/\Rows.elabPrintsSpec.post enc aj Tryz.f3 false true false false W args v W':=by (have YF:=hW;obtain⟨p,q,hA,hV,rfl,_,_⟩:=hW;obtain⟨rfl,rfl⟩:=trodVars_none hV;rw[jl]at hA Lc;obtain⟨v0,vs0,d0,ds0,p0,q0,e0,rfl,rfl,h0,r0⟩:=trodAll_cons hA;obtain⟨v1,vs1,d1,ds1,p1,q1,e1,rfl,rfl,h1,r1⟩:=trodAll_cons r0;obtain⟨rfl,rfl,rfl⟩:=trodAll_nil r1;obtain rfl:args=#[v0,v1]:=by cases args;simp_all);obtain⟨x0,k0,w0⟩:=afr Xs (Lc 0 9 v0 rfl rfl) h0;obtain⟨x1,k1,w1⟩:=afq Xs (Lc 1 3 v1 rfl rfl) h1;exact Mu (tb:=4) laidOut rfl yU tM yT YF rfl rfl rfl (wW) (acb (yV hL) Ci) ⟨w0,w1,True.intro⟩
theorem Cj(os:Os)(args:Array Value):laidMetH aj Rows.elabPrintsRow.laid ((DW Rows.elabPrintsRow.laid os).forCall (λ_ _=>0) ⟨#[],args,[]⟩).memory:=laidMet_of_run' 8 (by kernel_rfl) (by kernel_rfl)
set_option maxRecDepth 100000 in
theorem vH(os:Os)(started:os.Started)(H:Type)(enc:TypeId×Value->H): ReturnsInHanded {} Tryz.checked os 3 .any (λw args=>(Rows.elabPrintsSpec.pre enc aj Tryz.f3 [] false w args/\laidMetH aj Rows.elabPrintsRow.laid w)/\sizedMet enc aj Tryz.f3 (OpenSpec.ofChange Rows.elabPrintsSpec) false w args) (Rows.elabPrintsSpec.post enc aj Tryz.f3 false true false false):=by refine returnsInHanded_of_change_and (C:=Tryz.checked) (X:=λw _=>laidMetH aj Rows.elabPrintsRow.laid w) (λ_ _ _ hh h=>h.of_heap hh) own started (by kernel_rfl) Tryz.func3 (ChangeSpec.witness_at (enc:=enc) (C:=Tryz.checked) (os:=os) (X:=λw _=>laidMetH aj Rows.elabPrintsRow.laid w) false (DW Rows.elabPrintsRow.laid os) #[.string ⟨#[]⟩,.int .i64 0] 8 rfl (by kernel_rfl) (by kernel_rfl) (by kernel_rfl) (by kernel_rfl) (by kernel_rfl) (Cj os _)) ?_;intro W base args ds gs before Lc hW _ _ hL _;exact sD W base args ds gs before Lc hW hL
theorem yW:Rows.ElabPrintsSaid:=
 OpenClaim.holds_of_wide 3 Tryz.f3 rfl rfl rfl rfl rfl rfl rfl ⟨rfl,rfl,rfl,rfl,rfl⟩ rfl rfl rfl rfl rfl (by kernel_rfl) Tryz.func3 (by kernel_rfl)
  (of_decide_eq_true (by kernel_rfl)) (by unfold Func.isWrapper;first|(rw[if_pos (by decide +kernel)];kernel_rfl)|(rw[if_neg (by decide +kernel)];exact⟨rfl,rfl⟩))
  (λos started H enc _=>vH os started H enc)
theorem ElabPrints_card:Rows.ElabPrintsCardSaid:=
 Claim7.holds_tied_plain_at .later [] [.data,.data,.data] true Rows.elabPrintsCard.stood.harness false
  yW (λ_ h=>by cases h) (by kernel_rfl) (λ_ h=>by cases h) elabPrints_row_tie rfl ⟨rfl,rfl⟩ (by kernel_rfl) rfl
  (λf fn hf hfn=>by
   obtain rfl:f=3:=auo ((show aj.funcNamed "filigree/filigreelaw16.ElabPrints"=some 3 by kernel_rfl).symm.trans hf) |>.symm;obtain rfl:fn=Tryz.f3:=(auo (Tryz.func3.symm.trans hfn)).symm;exact⟨by kernel_rfl,λj t ht=>by
    rw[jl]at ht;have h3:t=9\/t=3:=by
     match j,ht with
     |0,ht=>exact .inl ((auo ht).symm)
     |1,ht=>exact .inr ((auo ht).symm)
     |k+2,ht=>simp at ht
    rcases h3 with rfl|rfl
    ·exact(show aj.wantsStandIn 9=false by kernel_rfl)
    ·exact(show aj.wantsStandIn 3=false by kernel_rfl)⟩)
  (by kernel_rfl)
end Go.Proofs.YthnnplohnceogaaGreatDoor
