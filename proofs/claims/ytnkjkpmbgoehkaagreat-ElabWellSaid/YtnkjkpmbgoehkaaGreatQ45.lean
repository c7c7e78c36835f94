/- Lemmas. -/
import Derived.Test.YtnkjkpmbgoehkaaGreatQ44
namespace Go.Proofs.YtnkjkpmbgoehkaaGreat
open Go Go.ChangeShapes Go.WideShapes Go.ChangeAt Go.RowKit
set_option linter.unusedSimpArgs false
set_option linter.unusedVariables false
variable {H:Type} {enc:TypeId×Value->H} {P:Program} {W:World}
structure WY (P:Program):Prop where
 apM:P.underlying 3=some (.int .i64)
 apN:P.cellsOf 3=1
 apO:P.underlying 28=some (.slice 130)
 apP:P.underlying 130=some (.array 2 3)
 apQ:P.cellsOf 130=2
 aiH:P.underlying 9=some .string
theorem adv:WY Tryz.prog:=⟨by kernel_rfl,by kernel_rfl,by kernel_rfl,by kernel_rfl,by kernel_rfl,by kernel_rfl⟩
variable {base:Nat} {v:Value} {d:DataW H} {p:List MemPlace}
theorem adw (Q:WY P) (hv:Value.okWide P W .any base 9 v) (h:DataW.Trod enc P W 0 (fun _=>true) true 9 v d p):∃s:ByteArray,True/\bB W (Old W) [] [] (nS s) v:=by
 obtain⟨fuel,hf⟩:=h;obtain⟨s,e,_,hw⟩:=DataW.trod_string Q.aiH hf;have h2:WW W [nS s] v.cells.toList:=by rw[e];exact QA (.ax _) rfl
 obtain⟨k,rfl⟩:=okWide_string Q.aiH hv;exact⟨s,True.intro,WX h2 rfl⟩
end Go.Proofs.YtnkjkpmbgoehkaaGreat
