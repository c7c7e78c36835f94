/- Texts of ours laid together for a claim: J07. -/
import Derived.Test.YtghlgbhldnkdmaaGreatQ45
namespace Go.Proofs.YtghlgbhldnkdmaaGreat
open Go Go.ChangeShapes Go.WideShapes Go.ChangeAt Go.RowKit
set_option linter.unusedSimpArgs false
set_option linter.unusedVariables false
variable {H : Type} {enc : TypeId × Value → H} {P : Program} {W : World}
theorem split5 {cs : List Value} (h : cs.length = 5) : ∃ c0 c1 c2 c3 c4, cs = [c0, c1, c2, c3, c4] := by
 match cs, h with
 | [c0, c1, c2, c3, c4], _ => exact ⟨c0, c1, c2, c3, c4, rfl⟩
structure SortsR (P : Program) : Prop where
 und73 : P.underlying 27 = some (.slice 29)
 cel75 : P.cellsOf 29 = 5
 cel32 : P.cellsOf 24 = 3
 fld75 : (match P.underlying 29 with | some (.struct fs) => fs.toList.map (fun f => (f.type, f.offset, P.cellsOf f.type)) | _ => []) = [(3, 0, 1), (26, 1, 2), (3, 3, 1), (27, 4, 1)]
 fld32 : (match P.underlying 24 with | some (.struct fs) => fs.toList.map (fun f => (f.type, f.offset, P.cellsOf f.type)) | _ => []) = [(3, 0, 1), (22, 1, 1), (22, 2, 1)]
 str75 : (match P.underlying 29 with | some (.struct _) => true | _ => false) = true
 str32 : (match P.underlying 24 with | some (.struct _) => true | _ => false) = true
theorem sortsR : SortsR Tryz.prog := ⟨by kernel_rfl, by kernel_rfl, by kernel_rfl, by kernel_rfl, by kernel_rfl, by kernel_rfl, by kernel_rfl⟩
theorem read_raw (S : Sorts P) (R : SortsR P) : ∀ (fuel : Nat) (cs : List Value) (x : DataW H × List MemPlace), trodF enc P W fuel 29 cs = some x → ∃ t : Rw, t.Ok ∧ ReadC W t.enc.cells cs := by
 intro fuel
 induction fuel using Nat.strongRecOn with
 | ind fuel ih =>
  intro cs x h
  obtain ⟨n, hn, hlen, hf⟩ := read_struct R.fld75 (by simp) h
  rw [R.cel75] at hlen
  obtain ⟨c0, c1, c2, c3, c4, rfl⟩ := split5 hlen
  obtain ⟨y0, hy0⟩ := hf (3, 0, 1) (by simp)
  obtain ⟨y1, hy1⟩ := hf (26, 1, 2) (by simp)
  obtain ⟨y2, hy2⟩ := hf (3, 3, 1) (by simp)
  obtain ⟨y3, hy3⟩ := hf (27, 4, 1) (by simp)
  obtain ⟨k, hk, hkr⟩ := read_int S.und3 hy0
  obtain ⟨t, htr⟩ := read_type S n _ y1 hy1
  obtain ⟨i, hi, hir⟩ := read_int S.und3 hy2
  obtain ⟨els, _, h1, h2⟩ := read_slice R.und73 (by rw [R.cel75]; omega) (fun y => ∃ t : Rw, t.Ok ∧ y = t.enc) hy3 fun m cs y hm hy => by
   obtain ⟨t, ht, hr⟩ := ih m (by omega) cs y hy
   exact ⟨t.enc, ⟨t, ht, rfl⟩, hr⟩
  obtain ⟨l, hl, rfl⟩ := typed_list h1
  refine ⟨.mk k t i l, ⟨hk, hi, Rw.Oks_of hl⟩, ?_⟩
  rw [Ty.enc_eq] at htr
  rw [Rw.enc_mk]
  exact hkr.append (htr.append (hir.append h2))
variable {base : Nat} {v : Value} {d : DataW H} {p : List MemPlace}
theorem arg_raw (S : Sorts P) (R : SortsR P) (hv : Value.okWide P W .any base 29 v) (h : DataW.Trod enc P W 0 (fun _ => true) true 29 v d p) : ∃ t : Rw, t.Ok ∧ Rep W (Old W) [] [] t.enc v := by
 obtain ⟨fuel, hf⟩ := h
 obtain ⟨t, h1, h2⟩ := read_raw S R fuel _ _ hf
 obtain ⟨cs, rfl⟩ := arg_struct R.str75 hv
 refine ⟨t, h1, ?_⟩
 rw [Rw.enc_eq] at h2 ⊢
 exact arg_agg h2
theorem arg_world (S : Sorts P) (R : SortsR P) (hv : Value.okWide P W .any base 24 v) (h : DataW.Trod enc P W 0 (fun _ => true) true 24 v d p) : ∃ q : Int × List Ty × List Ty, Rep W (Old W) [] [] (encW q.1 q.2.1 q.2.2) v := by
 obtain ⟨fuel, hf⟩ := h
 obtain ⟨n, hn, hlen, hg⟩ := read_struct R.fld32 (by simp) hf
 obtain ⟨cs, rfl⟩ := arg_struct R.str32 hv
 rw [R.cel32] at hlen
 obtain ⟨c0, c1, c2, e⟩ := split3 hlen
 rw [e] at hg
 obtain ⟨y0, hy0⟩ := hg (3, 0, 1) (by simp)
 obtain ⟨y1, hy1⟩ := hg (22, 1, 1) (by simp)
 obtain ⟨y2, hy2⟩ := hg (22, 2, 1) (by simp)
 obtain ⟨b, _, hb⟩ := read_int S.und3 hy0
 obtain ⟨c, hc⟩ := read_types S hy1
 obtain ⟨m, hm⟩ := read_types S hy2
 refine ⟨(b, c, m), ?_⟩
 refine arg_agg ?_
 rw [e]
 exact hb.append (hc.append hm)
end Go.Proofs.YtghlgbhldnkdmaaGreat
