/- Proved: ClosureDowns, whatever the input, returns true; the tied card. Conditions: none beyond the given statement's own (ClosureDownsCardSaid). -/
import Derived.Test.YtdcikhleahfknaaGreatDoorCards
import Derived.Test.YtdcikhleahfknaaGreatDoorTie
import Derived.SevenTiedAt
import Derived.Test.YtdcikhleahfknaaGreatDoorQ53
namespace Go.Proofs.YtdcikhleahfknaaGreatDoor
open Go Go.ChangeShapes Go.WideShapes Go.ChangeAt Go.RowKit
set_option linter.unusedSimpArgs false
set_option linter.unusedVariables false
theorem fJ:Tryz.f5.params=#[63,25,33,33]:=by kernel_rfl
theorem tw:∀t∈Tryz.f5.params.toList,Tryz.prog.readableRec t=true/\t<Tryz.prog.types.size:=by
 rw[fJ];intro t ht;have h:t=63\/t=25\/t=33\/t=33:=by simpa using ht
 rcases h with rfl|rfl|rfl|rfl
 ·exact⟨by kernel_rfl,of_decide_eq_true (by kernel_rfl)⟩
 ·exact⟨by kernel_rfl,of_decide_eq_true (by kernel_rfl)⟩
 ·exact⟨by kernel_rfl,of_decide_eq_true (by kernel_rfl)⟩
 ·exact⟨by kernel_rfl,of_decide_eq_true (by kernel_rfl)⟩
theorem pE:Tryz.f5.resultTypes=#[4]:=by kernel_rfl
theorem tx:Tryz.prog.underlying 4=some .bool:=by kernel_rfl
theorem uC:("internal/strconv.uint64pow10",Lib.tabData .u64 Lib.pow10Tab)∈Rows.closureDownsRow.laid:=
 alR _ (alR _ alS)
theorem tz {W:World} (h:laidMetH Tryz.prog Rows.closureDownsRow.laid W):laidMet Tryz.prog Rows.closureDownsRow.laid W:=h
set_option maxRecDepth 100000 in
theorem ot {H:Type} {enc:TypeId×Value->H} (W:World) (base:Nat) (args:Array Value) (ds gs:List (DataW H)) (before:List MemPlace)
  (Bk:∀(j:Nat) t v,Tryz.f5.params[j]?=some t->args[j]?=some v->Value.okWide Tryz.prog W .any base t v)
  (hW:DataW.Whole enc Tryz.prog Tryz.f5.params.toList Rows.closureDownsSpec.vars false W args.toList ds gs before) (hL:laidMetH Tryz.prog Rows.closureDownsRow.laid W):
  Calls Tryz.prog 5 args W fun e W'=>∃v,e=.returned v/\Rows.closureDownsSpec.post enc Tryz.prog Tryz.f5 false true false false W args v W':=by
 have SD:=hW;obtain⟨p,q,hA,hV,rfl,_,_⟩:=hW;obtain⟨rfl,rfl⟩:=trodVars_none hV;rw[fJ] at hA Bk;obtain⟨v0,vs0,d0,ds0,p0,q0,e0,rfl,rfl,h0,r0⟩:=trodAll_cons hA;obtain⟨v1,vs1,d1,ds1,p1,q1,e1,rfl,rfl,h1,r1⟩:=trodAll_cons r0;obtain⟨v2,vs2,d2,ds2,p2,q2,e2,rfl,rfl,h2,r2⟩:=trodAll_cons r1;obtain⟨v3,vs3,d3,ds3,p3,q3,e3,rfl,rfl,h3,r3⟩:=trodAll_cons r2;obtain⟨rfl,rfl,rfl⟩:=trodAll_nil r3;obtain rfl:args=#[v0,v1,v2,v3]:=by cases args;simp_all
 obtain⟨x0,w0⟩:=IJ KP ZG (Bk 0 63 v0 rfl rfl) h0;obtain⟨x1,w1⟩:=RL KP IG (Bk 1 25 v1 rfl rfl) h1;obtain⟨x2,k2,w2⟩:=Gb KP IG (Bk 2 33 v2 rfl rfl) h2;obtain⟨x3,k3,w3⟩:=Gb KP IG (Bk 3 33 v3 rfl rfl) h3;exact Ik (tb:=4) laidOut rfl tx pE tw SD rfl rfl rfl (rA (b:=x0.1) (c:=x0.2.1) (m0:=x0.2.2) (n:=x1.1) (ps:=x1.2.1) (sts:=x1.2.2) (p:=⟨x2.1,x2.2.1,x2.2.2⟩) (q:=⟨x3.1,x3.2.1,x3.2.2⟩) k2.1 k2.2.1 k3.1 k3.2.1) (WW (tz hL) uC) ⟨w0,w1,w2,w3,True.intro⟩
theorem uD (os:Os) (args:Array Value):laidMetH Tryz.prog Rows.closureDownsRow.laid ((A5 Rows.closureDownsRow.laid os).forCall (fun _ _=>0) ⟨#[],args,[]⟩).memory:=
 laidMet_of_run' 8 (by kernel_rfl) (by kernel_rfl)
set_option maxRecDepth 100000 in
theorem qt (os:Os) (started:os.Started) (H:Type) (enc:TypeId×Value->H):
  ReturnsInHanded {} Tryz.checked os 5 .any (fun w args=>(Rows.closureDownsSpec.pre enc Tryz.prog Tryz.f5 [] false w args/\laidMetH Tryz.prog Rows.closureDownsRow.laid w)/\sizedMet enc Tryz.prog Tryz.f5 (OpenSpec.ofChange Rows.closureDownsSpec) false w args)
   (Rows.closureDownsSpec.post enc Tryz.prog Tryz.f5 false true false false):=by
 refine returnsInHanded_of_change_and (C:=Tryz.checked) (X:=fun w _=>laidMetH Tryz.prog Rows.closureDownsRow.laid w) (fun _ _ _ hh h=>h.of_heap hh) own started (by kernel_rfl) Tryz.func5
  (ChangeSpec.witness_at (enc:=enc) (C:=Tryz.checked) (os:=os) (X:=fun w _=>laidMetH Tryz.prog Rows.closureDownsRow.laid w) false (A5 Rows.closureDownsRow.laid os) #[.agg #[.int .i64 0,.slice none 0 0,.slice none 0 0],.agg #[.int .i64 0,.slice none 0 0,.slice none 0 0],.agg #[.slice none 0 0,.int .i64 0,.int .i64 0,.slice none 0 0,.slice none 0 0,.int .i64 0,.int .i64 0,.slice none 0 0,.slice none 0 0],.agg #[.slice none 0 0,.int .i64 0,.int .i64 0,.slice none 0 0,.slice none 0 0,.int .i64 0,.int .i64 0,.slice none 0 0,.slice none 0 0]] 8 rfl (by kernel_rfl) (by kernel_rfl) (by kernel_rfl) (by kernel_rfl) (by kernel_rfl) (uD os _)) ?_
 intro W base args ds gs before Bk hW _ _ hL _;exact ot W base args ds gs before Bk hW hL
theorem tA:Rows.ClosureDownsSaid:=
 OpenClaim.holds_of_wide 5 Tryz.f5 rfl rfl rfl rfl rfl rfl rfl ⟨rfl,rfl,rfl,rfl,rfl⟩ rfl rfl rfl rfl rfl (by kernel_rfl) Tryz.func5 (by kernel_rfl)
  (of_decide_eq_true (by kernel_rfl)) (by unfold Func.isWrapper;first|(rw[if_pos (by decide +kernel)];kernel_rfl)|(rw[if_neg (by decide +kernel)];exact⟨rfl,rfl⟩))
  (fun os started H enc _=>qt os started H enc)
theorem ClosureDowns_card:Rows.ClosureDownsCardSaid:=
 Claim7.holds_tied_plain_at .later [] [.data,.data,.data] true Rows.closureDownsCard.stood.harness false
  tA (fun _ h=>by cases h) (by kernel_rfl) (fun _ h=>by cases h) closureDowns_row_tie rfl ⟨rfl,rfl⟩ (by kernel_rfl) rfl
  (fun f fn hf Xk=>by
   obtain rfl:f=5:=alw ((show Tryz.prog.funcNamed "filigree/filigreelaw21.ClosureDowns"=some 5 by kernel_rfl).symm.trans hf) |>.symm;obtain rfl:fn=Tryz.f5:=(alw (Tryz.func5.symm.trans Xk)).symm;exact⟨by kernel_rfl,fun j t ht=>by
    rw[fJ] at ht;have h3:t=63\/t=25\/t=33\/t=33:=by
     match j,ht with
     |0,ht=>exact .inl ((alw ht).symm)
     |1,ht=>exact .inr (.inl ((alw ht).symm))
     |2,ht=>exact .inr (.inr (.inl ((alw ht).symm)))
     |3,ht=>exact .inr (.inr (.inr ((alw ht).symm)))
     |k+4,ht=>simp at ht
    rcases h3 with rfl|rfl|rfl|rfl
    ·exact(show Tryz.prog.wantsStandIn 63=false by kernel_rfl)
    ·exact(show Tryz.prog.wantsStandIn 25=false by kernel_rfl)
    ·exact(show Tryz.prog.wantsStandIn 33=false by kernel_rfl)
    ·exact(show Tryz.prog.wantsStandIn 33=false by kernel_rfl)⟩)
  (by kernel_rfl)
end Go.Proofs.YtdcikhleahfknaaGreatDoor
