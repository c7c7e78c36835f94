/- Texts of ours laid together for a claim: Vc5. -/
import Derived.Test.YtghlgbhldnkdmaaGreatQ35
namespace Go.Proofs.YtghlgbhldnkdmaaGreat
open Go
set_option linter.unusedSimpArgs false
set_option linter.unusedVariables false
set_option maxRecDepth 100000
def vc_cloneRaw (a0 : List AV) (els : List AV) : Prop :=
 ∀ b1 : Bool, (a0 ≠ [] → b1 = !true) →
 ITE b1
 (els = [] ∧ 0 < 5)
 (appOk td42 (List.length ([] : List AV) + List.length a0) [] a0 ∧
 42 = 42 ∧ 5 = 5 ∧ [] ++ a0 = els ∧ List.length ([] ++ a0) = List.length els)
theorem vc_cloneRaw_ok {a0 : List AV} {els : List AV} (h : vc_cloneRaw a0 els) : MFn Tryz.prog 133 [.sl a0] 42 5 els :=
 mfn_of_code (C := { cfg (Func.ntmps Tryz.f133) with mt := true }) (cfg_tab (Func.ntmps Tryz.f133) [] [] [] []) (cfg_ord (Func.ntmps Tryz.f133) [] [] [] []) (L := []) (fn := Tryz.f133) Tryz.func133 (by exact rfl) (by kernel_rfl) (by kernel_rfl) (by rfl) (of_eq (by kernel_rfl) h)
def vc97_L4 (p0 : (Unit × Unit × List AV × Int × Int × Unit) × ((Int × List AV × Int × Int × List AV × Unit) × (Int × Unit × Int × Int × Unit × Unit) × Unit)) (R : AV → Prop) : Prop :=
 LoopP _ p0 fun z51 ag52 =>
 ITE (decide (z51.1.2.2.2.2.1 < z51.1.2.2.2.1))
 (0 ≤ z51.1.2.2.2.2.1 ∧
 z51.1.2.2.2.2.1 < List.length z51.1.2.2.1 ∧
 ∃ (i53 : Int) (l54 : List AV) (i55 i56 : Int) (l57 : List AV),
 List.getD z51.1.2.2.1 (Int.toNat z51.1.2.2.2.2.1) .top = .agg [nI i53, .sl l54, nI i55, nI i56, .sl l57] ∧
 ∃ (i58 : Int) (l59 : List AV) (i60 i61 : Int) (l62 : List AV) (b63 : Bool),
 PureIs Tryz.prog 97 [.agg [nI i53, .sl l54, nI i55, nI i56, .sl l57]] (.tup [.agg [nI i58, .sl l59, nI i60, nI i61, .sl l62], nB b63]) ∧
 ITE b63
 (∃ (l64 : List AV),
 MFn Tryz.prog 133 [.sl z51.2.1.2.2.2.2.1] 42 5 l64 ∧
 (0 ≤ z51.1.2.2.2.2.1 ∧ z51.1.2.2.2.2.1 < List.length l64) ∧
 Int.toNat z51.1.2.2.2.2.1 < List.length l64 ∧
 List.length l64 = List.length (List.set l64 (Int.toNat z51.1.2.2.2.2.1) (.agg [nI i58, .sl l59, nI i60, nI i61, .sl l62])) ∧
 R (.tup [.agg [nI z51.2.1.1, .sl z51.2.1.2.1, nI z51.2.1.2.2.1, nI z51.2.1.2.2.2.1, .sl (List.set l64 (Int.toNat z51.1.2.2.2.2.1) (.agg [nI i58, .sl l59, nI i60, nI i61, .sl l62]))], nB true]))
 (ag52 (((), (), z51.1.2.2.1, z51.1.2.2.2.1, IntKind.wrap .i64 (z51.1.2.2.2.2.1 + 1), ()), ((z51.2.1.1, z51.2.1.2.1, z51.2.1.2.2.1, z51.2.1.2.2.2.1, z51.2.1.2.2.2.2.1, ()), (z51.2.2.1.1, (), z51.2.2.1.2.2.1, z51.2.2.1.2.2.2.1, (), ()), ()))))
 (R (.tup [.agg [nI z51.2.1.1, .sl z51.2.1.2.1, nI z51.2.1.2.2.1, nI z51.2.1.2.2.2.1, .sl z51.2.1.2.2.2.2.1], nB false]))
def vc97 (a0_0 : Int) (a0_1 : List AV) (a0_2 a0_3 : Int) (a0_4 : List AV) (R : AV → Prop) : Prop :=
 ∃ (b1 : Bool),
 PureIs Tryz.prog 131 [.agg [nI a0_0, .sl a0_1, nI a0_2, nI a0_3, .sl a0_4]] (nB b1) ∧
 ITE b1
 (0 ≤ (0 : Int) ∧
 (0 : Int) < List.length a0_4 ∧
 ∃ (i2 : Int) (l3 : List AV) (i4 i5 : Int) (l6 : List AV),
 List.getD a0_4 (Int.toNat 0) .top = .agg [nI i2, .sl l3, nI i4, nI i5, .sl l6] ∧
 0 ≤ (0 : Int) ∧
 (0 : Int) < List.length l6 ∧
 ∃ (i7 : Int) (l8 : List AV) (i9 i10 : Int) (l11 : List AV),
 List.getD l6 (Int.toNat 0) .top = .agg [nI i7, .sl l8, nI i9, nI i10, .sl l11] ∧
 0 ≤ (1 : Int) ∧
 (1 : Int) < List.length a0_4 ∧
 ∃ (i12 : Int) (l13 : List AV) (i14 i15 : Int) (l16 : List AV),
 List.getD a0_4 (Int.toNat 1) .top = .agg [nI i12, .sl l13, nI i14, nI i15, .sl l16] ∧
 ∃ (i17 : Int) (l18 : List AV) (i19 i20 : Int) (l21 : List AV),
 PureIs Tryz.prog 132 [.agg [nI i7, .sl l8, nI i9, nI i10, .sl l11], .agg [nI i12, .sl l13, nI i14, nI i15, .sl l16]] (.agg [nI i17, .sl l18, nI i19, nI i20, .sl l21]) ∧
 R (.tup [.agg [nI i17, .sl l18, nI i19, nI i20, .sl l21], nB true]))
 (vc97_L4 (((), (), a0_4, ((List.length a0_4 : Nat) : Int), 0, ()), ((a0_0, a0_1, a0_2, a0_3, a0_4, ()), (0, (), 0, 0, (), ()), ())) R)
theorem vc97_ok {a0_0 : Int} {a0_1 : List AV} {a0_2 a0_3 : Int} {a0_4 : List AV} {R : AV → Prop} (h : vc97 a0_0 a0_1 a0_2 a0_3 a0_4 R) : Pure Tryz.prog 97 [.agg [nI a0_0, .sl a0_1, nI a0_2, nI a0_3, .sl a0_4]] R :=
 pure_of_code (C := cfg (Func.ntmps Tryz.f97) [] [(133, .fresh 42 5)] []) (cfg_tab _ _ _ _ _) (cfg_ord _ _ _ _ _) (L := [{ key := 4, live := [(1, none), (2, none), (23, none), (24, none), (25, none)] }]) (fn := Tryz.f97) Tryz.func97 (by exact rfl) (by kernel_rfl) (by kernel_rfl) (by rfl) (of_eq (by kernel_rfl) h)
end Go.Proofs.YtghlgbhldnkdmaaGreat
