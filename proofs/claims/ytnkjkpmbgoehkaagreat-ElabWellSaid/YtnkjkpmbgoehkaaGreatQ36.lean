/- Lemmas. -/
import Derived.Test.YtnkjkpmbgoehkaaGreatRows
import Derived.Shelf.Strconv.Itoa3
import Derived.Shelf.Strings.Builder1
import Derived.Test.YtnkjkpmbgoehkaaGreatQ35
namespace Go.Proofs.YtnkjkpmbgoehkaaGreat
open Go Go.Shelf
set_option maxRecDepth 100000
def agN:Ren:={ f:=fun n=>match n with|137=>250|217=>267|266=>281|n=>n,t:=fun n=>match n with|3=>3|5=>5|9=>9|n=>n,g:=fun n=>match n with  | n=>n }
theorem acQ:Lays.n137 Tryz.prog agN where
 mixed:=by kernel_rfl
 f137:=Tryz.func250.trans (by kernel_rfl)
 f217:=Tryz.func267.trans (by kernel_rfl)
 f266:=Tryz.func281.trans (by kernel_rfl)
 t3:=Tryz.underlying3
 a3:=Tryz.isAgg3
 z3:=Tryz.sizeOf3
 v3:=Tryz.zeroValue3
 t5:=Tryz.underlying5
 a5:=Tryz.isAgg5
 z5:=Tryz.sizeOf5
 v5:=Tryz.zeroValue5
 t9:=Tryz.underlying9
 a9:=Tryz.isAgg9
 z9:=Tryz.sizeOf9
 v9:=Tryz.zeroValue9
end Go.Proofs.YtnkjkpmbgoehkaaGreat
