/- Texts of ours laid together for a claim: J17. -/
import Derived.Test.YtghlgbhldnkdmaaGreatQ45
namespace Go.Proofs.YtghlgbhldnkdmaaGreat
open Go Go.ChangeShapes Go.WideShapes Go.ChangeAt Go.RowKit
set_option linter.unusedSimpArgs false
set_option linter.unusedVariables false
theorem arg_terms {H : Type} {enc : TypeId × Value → H} {P : Program} {W : World} {base : Nat} {v : Value} {d : DataW H} {p : List MemPlace} (S : Sorts P) (hv : Value.okWide P W .any base 56 v) (h : DataW.Trod enc P W 0 (fun _ => true) true 56 v d p) : ∃ l : List Tm, Tm.Oks l ∧ Rep W (Old W) [] [] (.sl (l.map Tm.enc)) v := by
 obtain ⟨fuel, hf⟩ := h
 obtain ⟨els, _, h1, h2⟩ := read_slice S.und25 (by rw [S.cel27]; omega) (fun y => ∃ t : Tm, t.Ok ∧ y = t.enc) hf fun m cs y hm hy => by
  obtain ⟨t, ht, hr⟩ := read_term S m cs y hy
  exact ⟨t.enc, ⟨t, ht, rfl⟩, hr⟩
 obtain ⟨l, hl, rfl⟩ := typed_list h1
 exact ⟨l, Tm.Oks_of hl, arg_cell h2 (arg_slice S.und25 hv)⟩
end Go.Proofs.YtghlgbhldnkdmaaGreat
