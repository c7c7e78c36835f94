/- Texts of ours laid together for a claim: Vc8. -/
import Derived.Test.YtjhanogfpkbamaaGreatDoorQ33
namespace Go.Proofs.YtjhanogfpkbamaaGreatDoor
open Go
set_option linter.unusedSimpArgs false
set_option linter.unusedVariables false
set_option maxRecDepth 100000
def vc75_L4 (p0:(List AV×Unit×List AV×Int×Int×Unit)×(Unit)) (R:AV→Prop):Prop :=LoopP _ p0 fun z51 ag52=>ITE (decide (z51.1.2.2.2.2.1<z51.1.2.2.2.1)) (0≤z51.1.2.2.2.2.1 ∧z51.1.2.2.2.2.1<List.length z51.1.2.2.1 ∧∃(l53:List AV) (i54 i55:Int) (l56:List AV),List.getD z51.1.2.2.1 (Int.toNat z51.1.2.2.2.2.1) .top=.agg [.sl l53,nI i54,nI i55,.sl l56] ∧0≤z51.1.2.2.2.2.1 ∧z51.1.2.2.2.2.1<List.length z51.1.1 ∧∃(l57:List AV) (i58 i59:Int) (l60:List AV),List.getD z51.1.1 (Int.toNat z51.1.2.2.2.2.1) .top=.agg [.sl l57,nI i58,nI i59,.sl l60] ∧∃(b61:Bool),PureIs Tryz.prog 34 [.agg [.sl l53,nI i54,nI i55,.sl l56],.agg [.sl l57,nI i58,nI i59,.sl l60]] (nB b61) ∧ITE (!b61) (R (nB false)) (ag52 ((z51.1.1,(),z51.1.2.2.1,z51.1.2.2.2.1,IntKind.wrap .i64 (z51.1.2.2.2.2.1+1),()),()))) (R (nB true))
def vc75 (a0 a1:List AV) (R:AV→Prop):Prop :=ITE (((List.length a0:Nat):Int) != ((List.length a1:Nat):Int)) (R (nB false)) (vc75_L4 ((a1,(),a0,((List.length a0:Nat):Int),0,()),()) R)
theorem vc75_ok {a0 a1:List AV} {R:AV→Prop} (h:vc75 a0 a1 R):Pure Tryz.prog 75 [.sl a0,.sl a1,.clo 34 []] R:=
 pure_of_code (C:=cfg (Func.ntmps Tryz.f75)) (cfg_tab _ _ _ _ _) (cfg_ord _ _ _ _ _) (L:=[{ key:=4,live:=[(1,none),(2,none),(15,none),(16,none),(17,none)] }]) (fn:=Tryz.f75) Tryz.func75 (by exact rfl) (by kernel_rfl) (by kernel_rfl) (by rfl) (of_eq (by kernel_rfl) h)
def vc34 (a0_0:List AV) (a0_1 a0_2:Int) (a0_3 a1_0:List AV) (a1_1 a1_2:Int) (a1_3:List AV) (R:AV→Prop):Prop :=ITE (a0_1==a1_1&&a0_2==a1_2) (∃(b1:Bool),PureIs Tryz.prog 73 [.sl a0_0,.sl a1_0,.clo 74 []] (nB b1) ∧ITE b1 (∃(b2:Bool),PureIs Tryz.prog 75 [.sl a0_3,.sl a1_3,.clo 34 []] (nB b2) ∧R (nB b2)) (R (nB false))) (R (nB false))
theorem vc34_ok {a0_0:List AV} {a0_1 a0_2:Int} {a0_3 a1_0:List AV} {a1_1 a1_2:Int} {a1_3:List AV} {R:AV→Prop} (h:vc34 a0_0 a0_1 a0_2 a0_3 a1_0 a1_1 a1_2 a1_3 R):Pure Tryz.prog 34 [.agg [.sl a0_0,nI a0_1,nI a0_2,.sl a0_3],.agg [.sl a1_0,nI a1_1,nI a1_2,.sl a1_3]] R:=
 pure_of_code (C:=cfg (Func.ntmps Tryz.f34)) (cfg_tab _ _ _ _ _) (cfg_ord _ _ _ _ _) (L:=[]) (fn:=Tryz.f34) Tryz.func34 (by exact rfl) (by kernel_rfl) (by kernel_rfl) (by rfl) (of_eq (by kernel_rfl) h)
end Go.Proofs.YtjhanogfpkbamaaGreatDoor
