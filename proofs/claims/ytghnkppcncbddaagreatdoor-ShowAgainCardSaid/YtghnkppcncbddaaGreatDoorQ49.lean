/- Texts of ours laid together for a claim: J22. -/
import Derived.Test.YtghnkppcncbddaaGreatDoorQ48
namespace Go.Proofs.YtghnkppcncbddaaGreatDoor
open Go Go.ChangeShapes Go.WideShapes Go.ChangeAt Go.RowKit
set_option linter.unusedSimpArgs false
set_option linter.unusedVariables false
section
variable {H:Type} {enc:TypeId×Value→H} {P:Program} {W:World}
variable {base:Nat} {v:Value} {d:DataW H} {p:List MemPlace}
theorem arg_word (S:SortsT P) (hv:Value.okWide P W .any base 9 v) (h:DataW.Trod enc P W 0 (fun _=>true) true 9 v d p):∃s:ByteArray,True∧Rep W (Old W) [] [] (nS s) v:=by
 obtain⟨fuel,hf⟩:=h
 obtain⟨s,h1,h2⟩:=read_word S.und9 hf
 obtain⟨k,rfl⟩:=okWide_string S.und9 hv
 exact⟨s,True.intro,arg_cell h2 rfl⟩
end
end Go.Proofs.YtghnkppcncbddaaGreatDoor
