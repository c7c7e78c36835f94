/- Texts of ours laid together for a claim: Vc2. -/
import Derived.Test.YtghnkppcncbddaaDoorQ35
namespace Go.Proofs.YtghnkppcncbddaaDoor
open Go
set_option linter.unusedSimpArgs false
set_option linter.unusedVariables false
set_option maxRecDepth 100000
def vc25 (a0 : Int) (a1 : List AV) (R : AV → Prop) : Prop :=
 ∃ (l1 : List AV) (i2 : Int),
 PureIs Tryd.prog 45 [.agg [.sl a1, nI a0]] (.agg [.sl l1, nI i2]) ∧
 R (.agg [.sl l1, nI i2])
theorem vc25_ok {a0 : Int} {a1 : List AV} {R : AV → Prop} (h : vc25 a0 a1 R) : Pure Tryd.prog 25 [nI a0, .sl a1] R :=
 pure_of_code (C := cfg (Func.ntmps Tryd.f25)) (cfg_tab _ _ _ _ _) (cfg_ord _ _ _ _ _) (L := []) (fn := Tryd.f25) Tryd.func25 (by exact rfl) (by kernel_rfl) (by kernel_rfl) (by rfl) (of_eq (by kernel_rfl) h)
end Go.Proofs.YtghnkppcncbddaaDoor
