/- Texts of ours laid together for a claim: J07. -/
import Derived.Test.YtghlgbhldnkdmaaGreatQ46
namespace Go.Proofs.YtghlgbhldnkdmaaGreat
open Go Go.ChangeShapes Go.WideShapes Go.ChangeAt Go.RowKit
set_option linter.unusedSimpArgs false
set_option linter.unusedVariables false
variable {H : Type} {enc : TypeId × Value → H} {P : Program} {W : World}
structure SortsR (P : Program) : Prop where
 und73 : P.underlying 27 = some (.slice 29)
 cel75 : P.cellsOf 29 = 5
 cel32 : P.cellsOf 24 = 3
 fld75 : (match P.underlying 29 with | some (.struct fs) => fs.toList.map (fun f => (f.type, f.offset, P.cellsOf f.type)) | _ => []) = [(3, 0, 1), (26, 1, 2), (3, 3, 1), (27, 4, 1)]
 fld32 : (match P.underlying 24 with | some (.struct fs) => fs.toList.map (fun f => (f.type, f.offset, P.cellsOf f.type)) | _ => []) = [(3, 0, 1), (22, 1, 1), (22, 2, 1)]
 str75 : (match P.underlying 29 with | some (.struct _) => true | _ => false) = true
 str32 : (match P.underlying 24 with | some (.struct _) => true | _ => false) = true
theorem sortsR : SortsR Tryz.prog := ⟨by kernel_rfl, by kernel_rfl, by kernel_rfl, by kernel_rfl, by kernel_rfl, by kernel_rfl, by kernel_rfl⟩
variable {base : Nat} {v : Value} {d : DataW H} {p : List MemPlace}
theorem arg_world (S : Sorts P) (R : SortsR P) (hv : Value.okWide P W .any base 24 v) (h : DataW.Trod enc P W 0 (fun _ => true) true 24 v d p) : ∃ q : Int × List Ty × List Ty, Rep W (Old W) [] [] (encW q.1 q.2.1 q.2.2) v := by
 obtain ⟨fuel, hf⟩ := h
 obtain ⟨n, hn, hlen, hg⟩ := read_struct R.fld32 (by simp) hf
 obtain ⟨cs, rfl⟩ := arg_struct R.str32 hv
 rw [R.cel32] at hlen
 obtain ⟨c0, c1, c2, e⟩ := split3 hlen
 rw [e] at hg
 obtain ⟨y0, hy0⟩ := hg (3, 0, 1) (by simp)
 obtain ⟨y1, hy1⟩ := hg (22, 1, 1) (by simp)
 obtain ⟨y2, hy2⟩ := hg (22, 2, 1) (by simp)
 obtain ⟨b, _, hb⟩ := read_int S.und3 hy0
 obtain ⟨c, hc⟩ := read_types S hy1
 obtain ⟨m, hm⟩ := read_types S hy2
 refine ⟨(b, c, m), ?_⟩
 refine arg_agg ?_
 rw [e]
 exact hb.append (hc.append hm)
end Go.Proofs.YtghlgbhldnkdmaaGreat
