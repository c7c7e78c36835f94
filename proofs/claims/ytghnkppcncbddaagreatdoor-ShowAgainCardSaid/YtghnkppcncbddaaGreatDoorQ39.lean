/- Texts of ours laid together for a claim: Vc91. -/
import Derived.Test.YtghnkppcncbddaaGreatDoorQ38
namespace Go.Proofs.YtghnkppcncbddaaGreatDoor
open Go
set_option linter.unusedSimpArgs false
set_option linter.unusedVariables false
set_option maxRecDepth 100000
def vc41 (a0_0:List AV) (a0_1 a0_2:Int) (a0_3:List AV) (R:AV→Prop):Prop :=PureIs Tryz.prog 76 [.agg [.sl a0_0,nI a0_1,nI a0_2,.sl a0_3]] (.clo 116 [.eptr (.agg [.sl a0_0,nI a0_1,nI a0_2,.sl a0_3]) 0]) ∧RangeP ((List AV×Int×Int×List AV×Unit)×(Int×Unit)×Unit) ((Int×Int×Unit)×(List AV×Int×Int×List AV×Unit)×Unit) ((a0_0,a0_1,a0_2,a0_3,()),(0,()),()) (fun Ls=>SeqIs Tryz.prog 116 [.eptr (.agg [.sl a0_0,nI a0_1,nI a0_2,.sl a0_3]) 0] [.v (.a [.i .i64,.i .i64]),.v (.a [.l,.i .i64,.i .i64,.l])] Ls) (fun e2 z1 again3=>ITE (e2.2.1.2.1==0) (ITE (decide (e2.2.1.2.2.1≥e2.1.1)) (again3 ((z1.1.1,z1.1.2.1,z1.1.2.2.1,z1.1.2.2.2.1,()),(if(IntKind.wrap .i64 ((if 1000<(IntKind.wrap .i64 (e2.2.1.2.2.1-e2.1.1)) then 1000 else IntKind.wrap .i64 (e2.2.1.2.2.1-e2.1.1))+1))>z1.2.1.1 then IntKind.wrap .i64 ((if 1000<(IntKind.wrap .i64 (e2.2.1.2.2.1-e2.1.1)) then 1000 else IntKind.wrap .i64 (e2.2.1.2.2.1-e2.1.1))+1) else z1.2.1.1,()),())) (again3 ((z1.1.1,z1.1.2.1,z1.1.2.2.1,z1.1.2.2.2.1,()),(z1.2.1.1,()),()))) (again3 ((z1.1.1,z1.1.2.1,z1.1.2.2.1,z1.1.2.2.2.1,()),(z1.2.1.1,()),()))) (fun z4=>R (nI z4.2.1.1))
theorem vc41_ok {a0_0:List AV} {a0_1 a0_2:Int} {a0_3:List AV} {R:AV→Prop} (h:vc41 a0_0 a0_1 a0_2 a0_3 R):Pure Tryz.prog 41 [.agg [.sl a0_0,nI a0_1,nI a0_2,.sl a0_3]] R:=
 pure_of_code (C:=cfg (Func.ntmps Tryz.f41) [] [(76,.clo 116)] []) (cfg_tab _ _ _ _ _) (cfg_ord _ _ _ _ _) (L:=[{ key:=5,live:=[],prm:=[.v (.a [.i .i64,.i .i64]),.v (.a [.l,.i .i64,.i .i64,.l])] }]) (fn:=Tryz.f41) Tryz.func41 (by exact rfl) (by kernel_rfl) (by kernel_rfl) (by rfl) (of_eq (by kernel_rfl) h)
end Go.Proofs.YtghnkppcncbddaaGreatDoor
