/- Texts of ours laid together for a claim: Vc1. -/
import Derived.Test.YtjhanogfpkbamaaGreatDoorQ30
namespace Go.Proofs.YtjhanogfpkbamaaGreatDoor
open Go
set_option linter.unusedSimpArgs false
set_option linter.unusedVariables false
set_option maxRecDepth 100000
def vc104_L4 (p0:(List AV×List AV×Int×Int×Unit)×(Unit)) (R:AV→Prop):Prop :=LoopP _ p0 fun z51 ag52=>ITE (decide (z51.1.2.2.2.1<z51.1.2.2.1)) (0≤z51.1.2.2.2.1 ∧z51.1.2.2.2.1<List.length z51.1.1 ∧∃(i53:Int),List.getD z51.1.1 (Int.toNat z51.1.2.2.2.1) .top=nI i53 ∧0≤z51.1.2.2.2.1 ∧z51.1.2.2.2.1<List.length z51.1.2.1 ∧∃(i54:Int),List.getD z51.1.2.1 (Int.toNat z51.1.2.2.2.1) .top=nI i54 ∧ITE (i53 != i54) (R (nB false)) (ag52 ((z51.1.1,z51.1.2.1,z51.1.2.2.1,IntKind.wrap .i64 (z51.1.2.2.2.1+1),()),()))) (R (nB true))
def vc104 (a0 a1:List AV) (R:AV→Prop):Prop :=ITE (((List.length a0:Nat):Int) != ((List.length a1:Nat):Int)) (R (nB false)) (vc104_L4 ((a0,a1,((List.length a0:Nat):Int),0,()),()) R)
theorem vc104_ok {a0 a1:List AV} {R:AV→Prop} (h:vc104 a0 a1 R):Pure Tryz.prog 104 [.sl a0,.sl a1] R:=
 pure_of_code (C:=cfg (Func.ntmps Tryz.f104)) (cfg_tab _ _ _ _ _) (cfg_ord _ _ _ _ _) (L:=[{ key:=4,live:=[(0,none),(1,none),(12,none),(13,none)] }]) (fn:=Tryz.f104) Tryz.func104 (by exact rfl) (by kernel_rfl) (by kernel_rfl) (by rfl) (of_eq (by kernel_rfl) h)
def vc73_L4 (p0:(List AV×Unit×List AV×Int×Int×Unit)×(Unit)) (R:AV→Prop):Prop :=LoopP _ p0 fun z51 ag52=>ITE (decide (z51.1.2.2.2.2.1<z51.1.2.2.2.1)) (0≤z51.1.2.2.2.2.1 ∧z51.1.2.2.2.2.1<List.length z51.1.2.2.1 ∧∃(l53:List AV) (i54:Int),List.getD z51.1.2.2.1 (Int.toNat z51.1.2.2.2.2.1) .top=.agg [.sl l53,nI i54] ∧0≤z51.1.2.2.2.2.1 ∧z51.1.2.2.2.2.1<List.length z51.1.1 ∧∃(l55:List AV) (i56:Int),List.getD z51.1.1 (Int.toNat z51.1.2.2.2.2.1) .top=.agg [.sl l55,nI i56] ∧∃(b57:Bool),PureIs Tryz.prog 74 [.agg [.sl l53,nI i54],.agg [.sl l55,nI i56]] (nB b57) ∧ITE (!b57) (R (nB false)) (ag52 ((z51.1.1,(),z51.1.2.2.1,z51.1.2.2.2.1,IntKind.wrap .i64 (z51.1.2.2.2.2.1+1),()),()))) (R (nB true))
def vc73 (a0 a1:List AV) (R:AV→Prop):Prop :=ITE (((List.length a0:Nat):Int) != ((List.length a1:Nat):Int)) (R (nB false)) (vc73_L4 ((a1,(),a0,((List.length a0:Nat):Int),0,()),()) R)
theorem vc73_ok {a0 a1:List AV} {R:AV→Prop} (h:vc73 a0 a1 R):Pure Tryz.prog 73 [.sl a0,.sl a1,.clo 74 []] R:=
 pure_of_code (C:=cfg (Func.ntmps Tryz.f73)) (cfg_tab _ _ _ _ _) (cfg_ord _ _ _ _ _) (L:=[{ key:=4,live:=[(1,none),(2,none),(15,none),(16,none),(17,none)] }]) (fn:=Tryz.f73) Tryz.func73 (by exact rfl) (by kernel_rfl) (by kernel_rfl) (by rfl) (of_eq (by kernel_rfl) h)
def vc74 (a0_0:List AV) (a0_1:Int) (a1_0:List AV) (a1_1:Int) (R:AV→Prop):Prop :=ITE (a0_1==a1_1) (∃(b1:Bool),PureIs Tryz.prog 73 [.sl a0_0,.sl a1_0,.clo 74 []] (nB b1) ∧R (nB b1)) (R (nB false))
theorem vc74_ok {a0_0:List AV} {a0_1:Int} {a1_0:List AV} {a1_1:Int} {R:AV→Prop} (h:vc74 a0_0 a0_1 a1_0 a1_1 R):Pure Tryz.prog 74 [.agg [.sl a0_0,nI a0_1],.agg [.sl a1_0,nI a1_1]] R:=
 pure_of_code (C:=cfg (Func.ntmps Tryz.f74)) (cfg_tab _ _ _ _ _) (cfg_ord _ _ _ _ _) (L:=[]) (fn:=Tryz.f74) Tryz.func74 (by exact rfl) (by kernel_rfl) (by kernel_rfl) (by rfl) (of_eq (by kernel_rfl) h)
end Go.Proofs.YtjhanogfpkbamaaGreatDoor
