/- Texts of ours laid together for a claim: Vc1. -/
import Derived.Test.YtjhanogfpkbamaaDoorQ30
namespace Go.Proofs.YtjhanogfpkbamaaDoor
open Go
set_option linter.unusedSimpArgs false
set_option linter.unusedVariables false
set_option maxRecDepth 100000
def vc38_L4 (p0:(List AV×Unit×List AV×Int×Int×Unit)×(Unit)) (R:AV→Prop):Prop :=LoopP _ p0 fun z51 ag52=>ITE (decide (z51.1.2.2.2.2.1<z51.1.2.2.2.1)) (0≤z51.1.2.2.2.2.1 ∧z51.1.2.2.2.2.1<List.length z51.1.2.2.1 ∧∃(l53:List AV) (i54:Int),List.getD z51.1.2.2.1 (Int.toNat z51.1.2.2.2.2.1) .top=.agg [.sl l53,nI i54] ∧0≤z51.1.2.2.2.2.1 ∧z51.1.2.2.2.2.1<List.length z51.1.1 ∧∃(l55:List AV) (i56:Int),List.getD z51.1.1 (Int.toNat z51.1.2.2.2.2.1) .top=.agg [.sl l55,nI i56] ∧∃(b57:Bool),PureIs Tryd.prog 39 [.agg [.sl l53,nI i54],.agg [.sl l55,nI i56]] (nB b57) ∧ITE (!b57) (R (nB false)) (ag52 ((z51.1.1,(),z51.1.2.2.1,z51.1.2.2.2.1,IntKind.wrap .i64 (z51.1.2.2.2.2.1+1),()),()))) (R (nB true))
def vc38 (a0 a1:List AV) (R:AV→Prop):Prop :=ITE (((List.length a0:Nat):Int) != ((List.length a1:Nat):Int)) (R (nB false)) (vc38_L4 ((a1,(),a0,((List.length a0:Nat):Int),0,()),()) R)
theorem vc38_ok {a0 a1:List AV} {R:AV→Prop} (h:vc38 a0 a1 R):Pure Tryd.prog 38 [.sl a0,.sl a1,.clo 39 []] R:=
 pure_of_code (C:=cfg (Func.ntmps Tryd.f38)) (cfg_tab _ _ _ _ _) (cfg_ord _ _ _ _ _) (L:=[{ key:=4,live:=[(1,none),(2,none),(15,none),(16,none),(17,none)] }]) (fn:=Tryd.f38) Tryd.func38 (by exact rfl) (by kernel_rfl) (by kernel_rfl) (by rfl) (of_eq (by kernel_rfl) h)
def vc39 (a0_0:List AV) (a0_1:Int) (a1_0:List AV) (a1_1:Int) (R:AV→Prop):Prop :=ITE (a0_1==a1_1) (∃(b1:Bool),PureIs Tryd.prog 38 [.sl a0_0,.sl a1_0,.clo 39 []] (nB b1) ∧R (nB b1)) (R (nB false))
theorem vc39_ok {a0_0:List AV} {a0_1:Int} {a1_0:List AV} {a1_1:Int} {R:AV→Prop} (h:vc39 a0_0 a0_1 a1_0 a1_1 R):Pure Tryd.prog 39 [.agg [.sl a0_0,nI a0_1],.agg [.sl a1_0,nI a1_1]] R:=
 pure_of_code (C:=cfg (Func.ntmps Tryd.f39)) (cfg_tab _ _ _ _ _) (cfg_ord _ _ _ _ _) (L:=[]) (fn:=Tryd.f39) Tryd.func39 (by exact rfl) (by kernel_rfl) (by kernel_rfl) (by rfl) (of_eq (by kernel_rfl) h)
end Go.Proofs.YtjhanogfpkbamaaDoor
