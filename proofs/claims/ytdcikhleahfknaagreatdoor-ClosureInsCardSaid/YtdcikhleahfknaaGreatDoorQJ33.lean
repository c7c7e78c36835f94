/- Proved: ClosureIns, whatever the input, returns true; the tied card. Conditions: none beyond the given statement's own (ClosureInsCardSaid). -/
import Derived.Test.YtdcikhleahfknaaGreatDoorCards
import Derived.Test.YtdcikhleahfknaaGreatDoorTie
import Derived.SevenTiedAt
import Derived.Test.YtdcikhleahfknaaGreatDoorQ51
namespace Go.Proofs.YtdcikhleahfknaaGreatDoor
open Go Go.ChangeShapes Go.WideShapes Go.ChangeAt Go.RowKit
set_option linter.unusedSimpArgs false
set_option linter.unusedVariables false
theorem gm:Tryz.f3.params=#[25,33,31]:=by kernel_rfl
theorem tu:∀t∈Tryz.f3.params.toList,Tryz.prog.readableRec t=true∧t<Tryz.prog.types.size:=by
 rw[gm]
 intro t ht
 have h:t=25∨t=33∨t=31:=by simpa using ht
 rcases h with rfl|rfl|rfl
 ·exact⟨by kernel_rfl,of_decide_eq_true (by kernel_rfl)⟩
 ·exact⟨by kernel_rfl,of_decide_eq_true (by kernel_rfl)⟩
 ·exact⟨by kernel_rfl,of_decide_eq_true (by kernel_rfl)⟩
theorem pD:Tryz.f3.resultTypes=#[4]:=by kernel_rfl
theorem tv:Tryz.prog.underlying 4=some .bool:=by kernel_rfl
theorem vX:("internal/strconv.uint64pow10",Lib.tabData .u64 Lib.pow10Tab)∈Rows.closureInsRow.laid:=
 List.mem_cons_of_mem _ (List.mem_cons_of_mem _ List.mem_cons_self)
theorem tw {W:World} (h:laidMetH Tryz.prog Rows.closureInsRow.laid W):laidMet Tryz.prog Rows.closureInsRow.laid W:=h
set_option maxRecDepth 100000 in
theorem oF {H:Type} {enc:TypeId×Value→H} (W:World) (base:Nat) (args:Array Value) (ds gs:List (DataW H)) (before:List MemPlace)
  (AG:∀(j:Nat) t v,Tryz.f3.params[j]?=some t→args[j]?=some v→Value.okWide Tryz.prog W .any base t v)
  (hW:DataW.Whole enc Tryz.prog Tryz.f3.params.toList Rows.closureInsSpec.vars false W args.toList ds gs before) (hL:laidMetH Tryz.prog Rows.closureInsRow.laid W):
  Calls Tryz.prog 3 args W fun e W'=>∃v,e=.returned v∧Rows.closureInsSpec.post enc Tryz.prog Tryz.f3 false true false false W args v W':=by
 have Na:=hW
 obtain⟨p,q,hA,hV,rfl,_,_⟩:=hW
 obtain⟨rfl,rfl⟩:=trodVars_none hV
 rw[gm] at hA AG
 obtain⟨v0,vs0,d0,ds0,p0,q0,e0,rfl,rfl,h0,r0⟩:=trodAll_cons hA
 obtain⟨v1,vs1,d1,ds1,p1,q1,e1,rfl,rfl,h1,r1⟩:=trodAll_cons r0
 obtain⟨v2,WS,d2,ds2,p2,q2,e2,rfl,rfl,h2,r2⟩:=trodAll_cons r1
 obtain⟨rfl,rfl,rfl⟩:=trodAll_nil r2
 obtain rfl:args=#[v0,v1,v2]:=by cases args;simp_all
 obtain⟨x0,w0⟩:=Mx Mh Mw (AG 0 25 v0 rfl rfl) h0
 obtain⟨x1,k1,w1⟩:=My Mh Mw (AG 1 33 v1 rfl rfl) h1
 obtain⟨x2,k2,w2⟩:=Ij Mh (AG 2 31 v2 rfl rfl) h2
 exact ET (tb:=4) laidOut rfl tv pD tu Na rfl rfl rfl (rT (n:=x0.1) (ps:=x0.2.1) (sts:=x0.2.2) (p:=⟨x1.1,x1.2.1,x1.2.2⟩) (t:=x2) k1.2.1 k2) (QA (tw hL) vX) ⟨w0,w1,w2,True.intro⟩
theorem vY (os:Os) (args:Array Value):laidMetH Tryz.prog Rows.closureInsRow.laid ((xP Rows.closureInsRow.laid os).forCall (fun _ _=>0) ⟨#[],args,[]⟩).memory:=
 laidMet_of_run' 8 (by kernel_rfl) (by kernel_rfl)
set_option maxRecDepth 100000 in
theorem qX (os:Os) (started:os.Started) (H:Type) (enc:TypeId×Value→H):
  ReturnsInHanded {} Tryz.checked os 3 .any (fun w args=>(Rows.closureInsSpec.pre enc Tryz.prog Tryz.f3 [] false w args∧laidMetH Tryz.prog Rows.closureInsRow.laid w)∧sizedMet enc Tryz.prog Tryz.f3 (OpenSpec.ofChange Rows.closureInsSpec) false w args)
   (Rows.closureInsSpec.post enc Tryz.prog Tryz.f3 false true false false):=by
 refine returnsInHanded_of_change_and (C:=Tryz.checked) (X:=fun w _=>laidMetH Tryz.prog Rows.closureInsRow.laid w) (fun _ _ _ hh h=>h.of_heap hh) own started (by kernel_rfl) Tryz.func3
  (ChangeSpec.witness_at (enc:=enc) (C:=Tryz.checked) (os:=os) (X:=fun w _=>laidMetH Tryz.prog Rows.closureInsRow.laid w) false (xP Rows.closureInsRow.laid os) #[.agg #[.int .i64 0,.slice none 0 0,.slice none 0 0],.agg #[.slice none 0 0,.int .i64 0,.int .i64 0,.slice none 0 0,.slice none 0 0,.int .i64 0,.int .i64 0,.slice none 0 0,.slice none 0 0],.agg #[.slice none 0 0,.int .i64 0,.int .i64 0,.slice none 0 0]] 8 rfl (by kernel_rfl) (by kernel_rfl) (by kernel_rfl) (by kernel_rfl) (by kernel_rfl) (vY os _)) ?_
 intro W base args ds gs before AG hW _ _ hL _
 exact oF W base args ds gs before AG hW hL
theorem tx:Rows.ClosureInsSaid:=
 OpenClaim.holds_of_wide 3 Tryz.f3 rfl rfl rfl rfl rfl rfl rfl ⟨rfl,rfl,rfl,rfl,rfl⟩ rfl rfl rfl rfl rfl (by kernel_rfl) Tryz.func3 (by kernel_rfl)
  (of_decide_eq_true (by kernel_rfl)) (by unfold Func.isWrapper;first|(rw[if_pos (by decide +kernel)];kernel_rfl)|(rw[if_neg (by decide +kernel)];exact⟨rfl,rfl⟩))
  (fun os started H enc _=>qX os started H enc)
theorem ClosureIns_card:Rows.ClosureInsCardSaid:=
 Claim7.holds_tied_plain_at .later [] [.data,.data,.data] true Rows.closureInsCard.stood.harness false
  tx (fun _ h=>by cases h) (by kernel_rfl) (fun _ h=>by cases h) closureIns_row_tie rfl ⟨rfl,rfl⟩ (by kernel_rfl) rfl
  (fun f fn hf Tu=>by
   obtain rfl:f=3:=Option.some.inj ((show Tryz.prog.funcNamed "filigree/filigreelaw21.ClosureIns"=some 3 by kernel_rfl).symm.trans hf) |>.symm
   obtain rfl:fn=Tryz.f3:=(Option.some.inj (Tryz.func3.symm.trans Tu)).symm
   exact⟨by kernel_rfl,fun j t ht=>by
    rw[gm] at ht
    have h3:t=25∨t=33∨t=31:=by
     match j,ht with
     |0,ht=>exact .inl ((Option.some.inj ht).symm)
     |1,ht=>exact .inr (.inl ((Option.some.inj ht).symm))
     |2,ht=>exact .inr (.inr ((Option.some.inj ht).symm))
     |k+3,ht=>simp at ht
    rcases h3 with rfl|rfl|rfl
    ·exact(show Tryz.prog.wantsStandIn 25=false by kernel_rfl)
    ·exact(show Tryz.prog.wantsStandIn 33=false by kernel_rfl)
    ·exact(show Tryz.prog.wantsStandIn 31=false by kernel_rfl)⟩)
  (by kernel_rfl)
end Go.Proofs.YtdcikhleahfknaaGreatDoor
