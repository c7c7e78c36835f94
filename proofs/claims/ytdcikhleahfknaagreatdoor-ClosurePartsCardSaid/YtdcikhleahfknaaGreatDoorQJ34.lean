/- Proved: ClosureParts, whatever the input, returns true; the tied card. Conditions: none beyond the given statement's own (ClosurePartsCardSaid). -/
import Derived.Test.YtdcikhleahfknaaGreatDoorCards
import Derived.Test.YtdcikhleahfknaaGreatDoorTie
import Derived.SevenTiedAt
import Derived.Test.YtdcikhleahfknaaGreatDoorQ51
namespace Go.Proofs.YtdcikhleahfknaaGreatDoor
open Go Go.ChangeShapes Go.WideShapes Go.ChangeAt Go.RowKit
set_option linter.unusedSimpArgs false
set_option linter.unusedVariables false
theorem eJ:Tryz.f4.params=#[33,3,29,29]:=by kernel_rfl
theorem qq:∀t∈Tryz.f4.params.toList,Tryz.prog.readableRec t=true∧t<Tryz.prog.types.size:=by
 rw[eJ]
 intro t ht
 have h:t=33∨t=3∨t=29∨t=29:=by simpa using ht
 rcases h with rfl|rfl|rfl|rfl
 ·exact⟨by kernel_rfl,of_decide_eq_true (by kernel_rfl)⟩
 ·exact⟨by kernel_rfl,of_decide_eq_true (by kernel_rfl)⟩
 ·exact⟨by kernel_rfl,of_decide_eq_true (by kernel_rfl)⟩
 ·exact⟨by kernel_rfl,of_decide_eq_true (by kernel_rfl)⟩
theorem nm:Tryz.f4.resultTypes=#[4]:=by kernel_rfl
theorem qt:Tryz.prog.underlying 4=some .bool:=by kernel_rfl
theorem rj:("internal/strconv.uint64pow10",Lib.tabData .u64 Lib.pow10Tab)∈Rows.closurePartsRow.laid:=
 List.mem_cons_of_mem _ (List.mem_cons_of_mem _ List.mem_cons_self)
theorem qu {W:World} (h:laidMetH Tryz.prog Rows.closurePartsRow.laid W):laidMet Tryz.prog Rows.closurePartsRow.laid W:=h
set_option maxRecDepth 100000 in
theorem l7 {H:Type} {enc:TypeId×Value→H} (W:World) (base:Nat) (args:Array Value) (ds gs:List (DataW H)) (before:List MemPlace)
  (xo:∀(j:Nat) t v,Tryz.f4.params[j]?=some t→args[j]?=some v→Value.okWide Tryz.prog W .any base t v)
  (hW:DataW.Whole enc Tryz.prog Tryz.f4.params.toList Rows.closurePartsSpec.vars false W args.toList ds gs before) (hL:laidMetH Tryz.prog Rows.closurePartsRow.laid W):
  Calls Tryz.prog 4 args W fun e W'=>∃v,e=.returned v∧Rows.closurePartsSpec.post enc Tryz.prog Tryz.f4 false true false false W args v W':=by
 have LB:=hW
 obtain⟨p,q,hA,hV,rfl,_,_⟩:=hW
 obtain⟨rfl,rfl⟩:=trodVars_none hV
 rw[eJ] at hA xo
 obtain⟨v0,vs0,d0,ds0,p0,q0,e0,rfl,rfl,h0,r0⟩:=trodAll_cons hA
 obtain⟨v1,vs1,d1,ds1,p1,q1,e1,rfl,rfl,h1,r1⟩:=trodAll_cons r0
 obtain⟨v2,Vg,d2,ds2,p2,q2,e2,rfl,rfl,h2,r2⟩:=trodAll_cons r1
 obtain⟨v3,vs3,d3,ds3,p3,q3,e3,rfl,rfl,h3,r3⟩:=trodAll_cons r2
 obtain⟨rfl,rfl,rfl⟩:=trodAll_nil r3
 obtain rfl:args=#[v0,v1,v2,v3]:=by cases args;simp_all
 obtain⟨x0,k0,w0⟩:=K5 KO Rz (xo 0 33 v0 rfl rfl) h0
 obtain⟨x1,k1,w1⟩:=arg_num (show Tryz.prog.underlying 3=some (.int .i64) by kernel_rfl) (xo 1 3 v1 rfl rfl) h1
 obtain⟨x2,k2,w2⟩:=uO KO (xo 2 29 v2 rfl rfl) h2
 obtain⟨x3,k3,w3⟩:=uO KO (xo 3 29 v3 rfl rfl) h3
 exact Dy (tb:=4) laidOut rfl qt nm qq LB rfl rfl rfl (oZ (p:=⟨x0.1,x0.2.1,x0.2.2⟩) (k:=x1) (a:=x2) (b:=x3) k0.1) (OX (qu hL) rj) ⟨w0,w1,w2,w3,True.intro⟩
theorem rk (os:Os) (args:Array Value):laidMetH Tryz.prog Rows.closurePartsRow.laid ((w9 Rows.closurePartsRow.laid os).forCall (fun _ _=>0) ⟨#[],args,[]⟩).memory:=
 laidMet_of_run' 8 (by kernel_rfl) (by kernel_rfl)
set_option maxRecDepth 100000 in
theorem n5 (os:Os) (started:os.Started) (H:Type) (enc:TypeId×Value→H):
  ReturnsInHanded {} Tryz.checked os 4 .any (fun w args=>(Rows.closurePartsSpec.pre enc Tryz.prog Tryz.f4 [] false w args∧laidMetH Tryz.prog Rows.closurePartsRow.laid w)∧sizedMet enc Tryz.prog Tryz.f4 (OpenSpec.ofChange Rows.closurePartsSpec) false w args)
   (Rows.closurePartsSpec.post enc Tryz.prog Tryz.f4 false true false false):=by
 refine returnsInHanded_of_change_and (C:=Tryz.checked) (X:=fun w _=>laidMetH Tryz.prog Rows.closurePartsRow.laid w) (fun _ _ _ hh h=>h.of_heap hh) own started (by kernel_rfl) Tryz.func4
  (ChangeSpec.witness_at (enc:=enc) (C:=Tryz.checked) (os:=os) (X:=fun w _=>laidMetH Tryz.prog Rows.closurePartsRow.laid w) false (w9 Rows.closurePartsRow.laid os) #[.agg #[.slice none 0 0,.int .i64 0,.int .i64 0,.slice none 0 0,.slice none 0 0,.int .i64 0,.int .i64 0,.slice none 0 0,.slice none 0 0],.int .i64 0,.slice none 0 0,.slice none 0 0] 8 rfl (by kernel_rfl) (by kernel_rfl) (by kernel_rfl) (by kernel_rfl) (by kernel_rfl) (rk os _)) ?_
 intro W base args ds gs before xo hW _ _ hL _
 exact l7 W base args ds gs before xo hW hL
theorem qv:Rows.ClosurePartsSaid:=
 OpenClaim.holds_of_wide 4 Tryz.f4 rfl rfl rfl rfl rfl rfl rfl ⟨rfl,rfl,rfl,rfl,rfl⟩ rfl rfl rfl rfl rfl (by kernel_rfl) Tryz.func4 (by kernel_rfl)
  (of_decide_eq_true (by kernel_rfl)) (by unfold Func.isWrapper;first|(rw[if_pos (by decide +kernel)];kernel_rfl)|(rw[if_neg (by decide +kernel)];exact⟨rfl,rfl⟩))
  (fun os started H enc _=>n5 os started H enc)
theorem ClosureParts_card:Rows.ClosurePartsCardSaid:=
 Claim7.holds_tied_plain_at .later [] [.data,.data,.data] true Rows.closurePartsCard.stood.harness false
  qv (fun _ h=>by cases h) (by kernel_rfl) (fun _ h=>by cases h) closureParts_row_tie rfl ⟨rfl,rfl⟩ (by kernel_rfl) rfl
  (fun f fn hf RM=>by
   obtain rfl:f=4:=Option.some.inj ((show Tryz.prog.funcNamed "filigree/filigreelaw21.ClosureParts"=some 4 by kernel_rfl).symm.trans hf) |>.symm
   obtain rfl:fn=Tryz.f4:=(Option.some.inj (Tryz.func4.symm.trans RM)).symm
   exact⟨by kernel_rfl,fun j t ht=>by
    rw[eJ] at ht
    have h3:t=33∨t=3∨t=29∨t=29:=by
     match j,ht with
     |0,ht=>exact .inl ((Option.some.inj ht).symm)
     |1,ht=>exact .inr (.inl ((Option.some.inj ht).symm))
     |2,ht=>exact .inr (.inr (.inl ((Option.some.inj ht).symm)))
     |3,ht=>exact .inr (.inr (.inr ((Option.some.inj ht).symm)))
     |k+4,ht=>simp at ht
    rcases h3 with rfl|rfl|rfl|rfl
    ·exact(show Tryz.prog.wantsStandIn 33=false by kernel_rfl)
    ·exact(show Tryz.prog.wantsStandIn 3=false by kernel_rfl)
    ·exact(show Tryz.prog.wantsStandIn 29=false by kernel_rfl)
    ·exact(show Tryz.prog.wantsStandIn 29=false by kernel_rfl)⟩)
  (by kernel_rfl)
end Go.Proofs.YtdcikhleahfknaaGreatDoor
