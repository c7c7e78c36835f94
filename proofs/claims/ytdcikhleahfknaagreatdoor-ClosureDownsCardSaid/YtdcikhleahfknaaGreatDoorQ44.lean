/- Texts of ours laid together for a claim: Lay3. -/
import Derived.Test.YtdcikhleahfknaaGreatDoorRows
import Derived.Shelf.Slices.CompactI
import Derived.Test.YtdcikhleahfknaaGreatDoorQ43
namespace Go.Proofs.YtdcikhleahfknaaGreatDoor
open Go Go.Shelf
set_option maxRecDepth 100000
def Zk:Ren:={ f:=fun n=>match n with|20=>162|n=>n,t:=fun n=>match n with|0=>0|3=>3|4=>4|22=>182|n=>n,g:=fun n=>match n with  | n=>n }
theorem Q3:Lays2.n20 Tryz.prog Zk where
 mixed:=by kernel_rfl
 f20:=Tryz.func162.trans (by kernel_rfl)
 t0:=Tryz.underlying0
 a0:=Tryz.isAgg0
 z0:=Tryz.sizeOf0
 v0:=Tryz.zeroValue0
 t3:=Tryz.underlying3
 a3:=Tryz.isAgg3
 z3:=Tryz.sizeOf3
 v3:=Tryz.zeroValue3
 t4:=Tryz.underlying4
 a4:=Tryz.isAgg4
 z4:=Tryz.sizeOf4
 v4:=Tryz.zeroValue4
 t22:=Tryz.underlying182
 a22:=Tryz.isAgg182
 z22:=Tryz.sizeOf182
 v22:=Tryz.zeroValue182
 i3:=by kernel_rfl
end Go.Proofs.YtdcikhleahfknaaGreatDoor
