/- Lemmas. -/
import Derived.Test.YthnnplohnceogaaGreatDoorRows
import Derived.Shelf.Strconv.Itoa3
import Derived.Shelf.Strings.Builder1
import Derived.Test.YthnnplohnceogaaGreatDoorQ05
namespace Go.Proofs.YthnnplohnceogaaGreatDoor
open Go Go.Shelf
open Go.Proofs.Tryz
set_option maxRecDepth 100000
def ady:Ren:={ f:=λn=>match n with|129=>210|137=>162|169=>57|171=>112|217=>180|243=>159|246=>178|266=>200|283=>196|284=>197|285=>198|286=>199|317=>209|318=>211|319=>212|320=>213|337=>222|338=>223|n=>n,t:=λn=>match n with|0=>0|2=>2|3=>3|4=>4|5=>5|9=>9|20=>20|37=>132|46=>326|51=>292|53=>306|70=>131|72=>134|127=>209|171=>305|173=>309|212=>324|213=>325|232=>340|233=>341|n=>n,g:=λn=>match n with|17=>1|18=>2|19=>3|n=>n }
theorem Z5:LaysM.n171 Tryz.prog ady where
 mixed:=by kernel_rfl
 f129:=func210.trans (by kernel_rfl)
 f171:=func112.trans (by kernel_rfl)
 f243:=func159.trans (by kernel_rfl)
 f246:=func178.trans (by kernel_rfl)
 f283:=func196.trans (by kernel_rfl)
 f284:=func197.trans (by kernel_rfl)
 f285:=func198.trans (by kernel_rfl)
 f286:=func199.trans (by kernel_rfl)
 f317:=func209.trans (by kernel_rfl)
 f318:=func211.trans (by kernel_rfl)
 f319:=func212.trans (by kernel_rfl)
 f320:=func213.trans (by kernel_rfl)
 f337:=func222.trans (by kernel_rfl)
 f338:=func223.trans (by kernel_rfl)
 t0:=Tryz.underlying0
 a0:=Tryz.isAgg0
 z0:=Tryz.sizeOf0
 v0:=Tryz.zeroValue0
 t2:=Tryz.underlying2
 a2:=Tryz.isAgg2
 z2:=Tryz.sizeOf2
 v2:=Tryz.zeroValue2
 t3:=Tryz.underlying3
 a3:=Tryz.isAgg3
 z3:=Tryz.sizeOf3
 v3:=Tryz.zeroValue3
 t4:=Tryz.underlying4
 a4:=Tryz.isAgg4
 z4:=Tryz.sizeOf4
 v4:=Tryz.zeroValue4
 t5:=Tryz.underlying5
 a5:=Tryz.isAgg5
 z5:=Tryz.sizeOf5
 v5:=Tryz.zeroValue5
 t9:=Tryz.underlying9
 a9:=Tryz.isAgg9
 z9:=Tryz.sizeOf9
 v9:=Tryz.zeroValue9
 t20:=Tryz.underlying20
 a20:=Tryz.isAgg20
 z20:=Tryz.sizeOf20
 v20:=Tryz.zeroValue20
 t37:=Tryz.underlying132
 a37:=Tryz.isAgg132
 z37:=Tryz.sizeOf132
 v37:=Tryz.zeroValue132
 t46:=Tryz.underlying326
 a46:=Tryz.isAgg326
 z46:=Tryz.sizeOf326
 v46:=Tryz.zeroValue326
 t51:=Tryz.underlying292
 a51:=Tryz.isAgg292
 z51:=Tryz.sizeOf292
 v51:=Tryz.zeroValue292
 t53:=Tryz.underlying306
 a53:=Tryz.isAgg306
 z53:=Tryz.sizeOf306
 v53:=Tryz.zeroValue306
 t171:=Tryz.underlying305
 a171:=Tryz.isAgg305
 z171:=Tryz.sizeOf305
 v171:=Tryz.zeroValue305
 t173:=Tryz.underlying309
 a173:=Tryz.isAgg309
 z173:=Tryz.sizeOf309
 v173:=Tryz.zeroValue309
 t212:=Tryz.underlying324
 a212:=Tryz.isAgg324
 z212:=Tryz.sizeOf324
 v212:=Tryz.zeroValue324
 t213:=Tryz.underlying325
 a213:=Tryz.isAgg325
 z213:=Tryz.sizeOf325
 t232:=Tryz.underlying340
 a232:=Tryz.isAgg340
 z232:=Tryz.sizeOf340
 v232:=Tryz.zeroValue340
 t233:=Tryz.underlying341
 a233:=Tryz.isAgg341
 z233:=Tryz.sizeOf341
 v233:=Tryz.zeroValue341
 g17:=by kernel_rfl
 g18:=by kernel_rfl
 g19:=by kernel_rfl
 i0:=by kernel_rfl
 i2:=by kernel_rfl
 i3:=by kernel_rfl
 i4:=by kernel_rfl
 i5:=by kernel_rfl
 i9:=by kernel_rfl
 i20:=by kernel_rfl
 i37:=by kernel_rfl
 i46:=by kernel_rfl
 i51:=by kernel_rfl
 i53:=by kernel_rfl
 i171:=by kernel_rfl
 i173:=by kernel_rfl
 i212:=by kernel_rfl
 i232:=by kernel_rfl
 i233:=by kernel_rfl
 m17:=by kernel_rfl
 m18:=by kernel_rfl
 m19:=by kernel_rfl
theorem ae9:Lays.n137 Tryz.prog ady where
 mixed:=by kernel_rfl
 f137:=func162.trans (by kernel_rfl)
 f217:=func180.trans (by kernel_rfl)
 f266:=func200.trans (by kernel_rfl)
 t3:=Tryz.underlying3
 a3:=Tryz.isAgg3
 z3:=Tryz.sizeOf3
 v3:=Tryz.zeroValue3
 t5:=Tryz.underlying5
 a5:=Tryz.isAgg5
 z5:=Tryz.sizeOf5
 v5:=Tryz.zeroValue5
 t9:=Tryz.underlying9
 a9:=Tryz.isAgg9
 z9:=Tryz.sizeOf9
 v9:=Tryz.zeroValue9
end Go.Proofs.YthnnplohnceogaaGreatDoor
