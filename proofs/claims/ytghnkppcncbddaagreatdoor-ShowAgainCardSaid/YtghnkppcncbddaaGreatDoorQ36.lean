/- Texts of ours laid together for a claim: Vc2. -/
import Derived.Test.YtghnkppcncbddaaGreatDoorQ35
namespace Go.Proofs.YtghnkppcncbddaaGreatDoor
open Go
set_option linter.unusedSimpArgs false
set_option linter.unusedVariables false
set_option maxRecDepth 100000
def vc32 (a0:Int) (a1:List AV) (R:AV→Prop):Prop :=∃(l1:List AV) (i2:Int),PureIs Tryz.prog 69 [.agg [.sl a1,nI a0]] (.agg [.sl l1,nI i2]) ∧R (.agg [.sl l1,nI i2])
theorem vc32_ok {a0:Int} {a1:List AV} {R:AV→Prop} (h:vc32 a0 a1 R):Pure Tryz.prog 32 [nI a0,.sl a1] R:=
 pure_of_code (C:=cfg (Func.ntmps Tryz.f32)) (cfg_tab _ _ _ _ _) (cfg_ord _ _ _ _ _) (L:=[]) (fn:=Tryz.f32) Tryz.func32 (by exact rfl) (by kernel_rfl) (by kernel_rfl) (by rfl) (of_eq (by kernel_rfl) h)
end Go.Proofs.YtghnkppcncbddaaGreatDoor
