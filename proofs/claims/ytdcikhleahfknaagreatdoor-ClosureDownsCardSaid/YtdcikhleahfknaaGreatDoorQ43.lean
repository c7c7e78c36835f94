/- Texts of ours laid together for a claim: Lay2. -/
import Derived.Test.YtdcikhleahfknaaGreatDoorRows
import Derived.Shelf.Sort.Plain
import Derived.Shelf.Slices.In.SortNone
import Derived.Test.YtdcikhleahfknaaGreatDoorQ42
namespace Go.Proofs.YtdcikhleahfknaaGreatDoor
open Go Go.Shelf
set_option maxRecDepth 100000
def Zj:Ren:={ f:=fun n=>match n with|125=>188|128=>210|129=>211|189=>161|215=>226|216=>207|257=>187|294=>201|295=>202|296=>203|297=>204|298=>205|299=>206|300=>208|301=>209|328=>221|329=>222|330=>223|331=>224|332=>225|343=>239|n=>n,t:=fun n=>match n with|0=>0|3=>3|4=>4|5=>5|9=>9|28=>182|46=>281|51=>97|53=>262|131=>150|182=>299|183=>300|218=>317|222=>321|228=>332|229=>333|n=>n,g:=fun n=>match n with  | n=>n }
theorem Q2:Lays.n189 Tryz.prog Zj where
 mixed:=by kernel_rfl
 f125:=Tryz.func188.trans (by kernel_rfl)
 f128:=Tryz.func210.trans (by kernel_rfl)
 f129:=Tryz.func211.trans (by kernel_rfl)
 f189:=Tryz.func161.trans (by kernel_rfl)
 f215:=Tryz.func226.trans (by kernel_rfl)
 f216:=Tryz.func207.trans (by kernel_rfl)
 f257:=Tryz.func187.trans (by kernel_rfl)
 f294:=Tryz.func201.trans (by kernel_rfl)
 f295:=Tryz.func202.trans (by kernel_rfl)
 f296:=Tryz.func203.trans (by kernel_rfl)
 f297:=Tryz.func204.trans (by kernel_rfl)
 f298:=Tryz.func205.trans (by kernel_rfl)
 f299:=Tryz.func206.trans (by kernel_rfl)
 f300:=Tryz.func208.trans (by kernel_rfl)
 f301:=Tryz.func209.trans (by kernel_rfl)
 f328:=Tryz.func221.trans (by kernel_rfl)
 f329:=Tryz.func222.trans (by kernel_rfl)
 f330:=Tryz.func223.trans (by kernel_rfl)
 f331:=Tryz.func224.trans (by kernel_rfl)
 f332:=Tryz.func225.trans (by kernel_rfl)
 f343:=Tryz.func239.trans (by kernel_rfl)
 t0:=Tryz.underlying0
 a0:=Tryz.isAgg0
 z0:=Tryz.sizeOf0
 v0:=Tryz.zeroValue0
 t3:=Tryz.underlying3
 a3:=Tryz.isAgg3
 z3:=Tryz.sizeOf3
 v3:=Tryz.zeroValue3
 t4:=Tryz.underlying4
 a4:=Tryz.isAgg4
 z4:=Tryz.sizeOf4
 v4:=Tryz.zeroValue4
 t5:=Tryz.underlying5
 a5:=Tryz.isAgg5
 z5:=Tryz.sizeOf5
 v5:=Tryz.zeroValue5
 t9:=Tryz.underlying9
 a9:=Tryz.isAgg9
 z9:=Tryz.sizeOf9
 v9:=Tryz.zeroValue9
 t28:=Tryz.underlying182
 a28:=Tryz.isAgg182
 z28:=Tryz.sizeOf182
 v28:=Tryz.zeroValue182
 t46:=Tryz.underlying281
 a46:=Tryz.isAgg281
 z46:=Tryz.sizeOf281
 v46:=Tryz.zeroValue281
 t51:=Tryz.underlying97
 a51:=Tryz.isAgg97
 z51:=Tryz.sizeOf97
 v51:=Tryz.zeroValue97
 t53:=Tryz.underlying262
 a53:=Tryz.isAgg262
 z53:=Tryz.sizeOf262
 v53:=Tryz.zeroValue262
 t131:=Tryz.underlying150
 a131:=Tryz.isAgg150
 z131:=Tryz.sizeOf150
 v131:=Tryz.zeroValue150
 t182:=Tryz.underlying299
 a182:=Tryz.isAgg299
 z182:=Tryz.sizeOf299
 v182:=Tryz.zeroValue299
 t183:=Tryz.underlying300
 a183:=Tryz.isAgg300
 z183:=Tryz.sizeOf300
 v183:=Tryz.zeroValue300
 t218:=Tryz.underlying317
 a218:=Tryz.isAgg317
 z218:=Tryz.sizeOf317
 v218:=Tryz.zeroValue317
 t222:=Tryz.underlying321
 a222:=Tryz.isAgg321
 z222:=Tryz.sizeOf321
 v222:=Tryz.zeroValue321
 t228:=Tryz.underlying332
 a228:=Tryz.isAgg332
 z228:=Tryz.sizeOf332
 v228:=Tryz.zeroValue332
 t229:=Tryz.underlying333
 a229:=Tryz.isAgg333
 z229:=Tryz.sizeOf333
 v229:=Tryz.zeroValue333
end Go.Proofs.YtdcikhleahfknaaGreatDoor
