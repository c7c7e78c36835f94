/- What the contracts of functions ask, as the kernel reckons it out of the code; laid by a program of ours. -/
import Derived.Test.YtfbncddnakaaiaaMSig
namespace Go.Proofs.Ytfbncddnakaaiaa
open Go
set_option linter.unusedSimpArgs false
set_option linter.unusedVariables false
set_option maxRecDepth 100000

/-- slices.Clone[[]raw.Raw,raw.Raw] -/
def vc_cloneRaw (a0 : List AV) (els : List AV) : Prop :=
 ∀ b1 : Bool, (a0 ≠ [] → b1 = !true) →
 ITE b1
 (els = [] ∧ 0 < 5)
 (appOk td81 (List.length ([] : List AV) + List.length a0) [] a0 ∧
 81 = 81 ∧ 5 = 5 ∧ [] ++ a0 = els ∧ List.length ([] ++ a0) = List.length els)
theorem vc_cloneRaw_ok {a0 : List AV} {els : List AV} (h : vc_cloneRaw a0 els) : MFn Try.prog 133 [.sl a0] 81 5 els :=
  mfn_of_code (C := { cfg (Func.ntmps Try.f133) with mt := true }) (cfg_tab (Func.ntmps Try.f133) [] [] [] []) (cfg_ord (Func.ntmps Try.f133) [] [] [] []) (L := []) (fn := Try.f133) Try.func133 rfl (by kernel_rfl) (by kernel_rfl) (by rfl) (of_eq (by kernel_rfl) h)

/-- raw.step -/
def vc95_L4 (p0 : (Unit × Unit × List AV × Int × Int × Unit) × ((Int × List AV × Int × Int × List AV × Unit) × (Int × Unit × Int × Int × Unit × Unit) × Unit)) (R : AV → Prop) : Prop :=
 LoopP ((Unit × Unit × List AV × Int × Int × Unit) × ((Int × List AV × Int × Int × List AV × Unit) × (Int × Unit × Int × Int × Unit × Unit) × Unit)) p0 fun z51 ag52 =>
 ITE (decide (z51.1.2.2.2.2.1 < z51.1.2.2.2.1))
 (0 ≤ z51.1.2.2.2.2.1 ∧
 z51.1.2.2.2.2.1 < List.length z51.1.2.2.1 ∧
 ∃ (i53 : Int) (l54 : List AV) (i55 i56 : Int) (l57 : List AV),
 List.getD z51.1.2.2.1 (Int.toNat z51.1.2.2.2.2.1) .top = .agg [nI i53, .sl l54, nI i55, nI i56, .sl l57] ∧
 ∃ (i58 : Int) (l59 : List AV) (i60 i61 : Int) (l62 : List AV) (b63 : Bool),
 PureIs Try.prog 95 [.agg [nI i53, .sl l54, nI i55, nI i56, .sl l57]] (.tup [.agg [nI i58, .sl l59, nI i60, nI i61, .sl l62], nB b63]) ∧
 ITE b63
 (∃ (l64 : List AV),
 MFn Try.prog 133 [.sl z51.2.1.2.2.2.2.1] 81 5 l64 ∧
 (0 ≤ z51.1.2.2.2.2.1 ∧ z51.1.2.2.2.2.1 < List.length l64) ∧
 Int.toNat z51.1.2.2.2.2.1 < List.length l64 ∧
 List.length l64 = List.length (List.set l64 (Int.toNat z51.1.2.2.2.2.1) (.agg [nI i58, .sl l59, nI i60, nI i61, .sl l62])) ∧
 R (.tup [.agg [nI z51.2.1.1, .sl z51.2.1.2.1, nI z51.2.1.2.2.1, nI z51.2.1.2.2.2.1, .sl (List.set l64 (Int.toNat z51.1.2.2.2.2.1) (.agg [nI i58, .sl l59, nI i60, nI i61, .sl l62]))], nB true]))
 (ag52 (((), (), z51.1.2.2.1, z51.1.2.2.2.1, IntKind.wrap .i64 (z51.1.2.2.2.2.1 + 1), ()), ((z51.2.1.1, z51.2.1.2.1, z51.2.1.2.2.1, z51.2.1.2.2.2.1, z51.2.1.2.2.2.2.1, ()), (z51.2.2.1.1, (), z51.2.2.1.2.2.1, z51.2.2.1.2.2.2.1, (), ()), ()))))
 (R (.tup [.agg [nI z51.2.1.1, .sl z51.2.1.2.1, nI z51.2.1.2.2.1, nI z51.2.1.2.2.2.1, .sl z51.2.1.2.2.2.2.1], nB false]))
def vc95 (a0_0 : Int) (a0_1 : List AV) (a0_2 : Int) (a0_3 : Int) (a0_4 : List AV) (R : AV → Prop) : Prop :=
 ∃ (b1 : Bool),
 PureIs Try.prog 131 [.agg [nI a0_0, .sl a0_1, nI a0_2, nI a0_3, .sl a0_4]] (nB b1) ∧
 ITE b1
 (0 ≤ (0 : Int) ∧
 (0 : Int) < List.length a0_4 ∧
 ∃ (i2 : Int) (l3 : List AV) (i4 i5 : Int) (l6 : List AV),
 List.getD a0_4 (Int.toNat 0) .top = .agg [nI i2, .sl l3, nI i4, nI i5, .sl l6] ∧
 0 ≤ (0 : Int) ∧
 (0 : Int) < List.length l6 ∧
 ∃ (i7 : Int) (l8 : List AV) (i9 i10 : Int) (l11 : List AV),
 List.getD l6 (Int.toNat 0) .top = .agg [nI i7, .sl l8, nI i9, nI i10, .sl l11] ∧
 0 ≤ (1 : Int) ∧
 (1 : Int) < List.length a0_4 ∧
 ∃ (i12 : Int) (l13 : List AV) (i14 i15 : Int) (l16 : List AV),
 List.getD a0_4 (Int.toNat 1) .top = .agg [nI i12, .sl l13, nI i14, nI i15, .sl l16] ∧
 ∃ (i17 : Int) (l18 : List AV) (i19 i20 : Int) (l21 : List AV),
 PureIs Try.prog 132 [.agg [nI i7, .sl l8, nI i9, nI i10, .sl l11], .agg [nI i12, .sl l13, nI i14, nI i15, .sl l16]] (.agg [nI i17, .sl l18, nI i19, nI i20, .sl l21]) ∧
 R (.tup [.agg [nI i17, .sl l18, nI i19, nI i20, .sl l21], nB true]))
 (vc95_L4 (((), (), a0_4, ((List.length a0_4 : Nat) : Int), 0, ()), ((a0_0, a0_1, a0_2, a0_3, a0_4, ()), (0, (), 0, 0, (), ()), ())) R)
theorem vc95_ok {a0_0 : Int} {a0_1 : List AV} {a0_2 : Int} {a0_3 : Int} {a0_4 : List AV} {R : AV → Prop} (h : vc95 a0_0 a0_1 a0_2 a0_3 a0_4 R) : Pure Try.prog 95 [.agg [nI a0_0, .sl a0_1, nI a0_2, nI a0_3, .sl a0_4]] R :=
  pure_of_code (C := cfg (Func.ntmps Try.f95) [] [(133, .fresh 81 5)] []) (cfg_tab _ _ _ _ _) (cfg_ord _ _ _ _ _) (L := [{ key := 4, live := [(1, none), (2, none), (23, none), (24, none), (25, none)] }]) (fn := Try.f95) Try.func95 rfl (by kernel_rfl) (by kernel_rfl) (by rfl) (of_eq (by kernel_rfl) h)

/-- filigreelaw07.RawKeeps -/
def vc9_L6 (p0 : (Unit × List AV × Unit × Unit × Int × Int × Unit) × ((Int × List AV × List AV × Unit) × (Int × List AV × Int × Int × List AV × Unit) × (Int × List AV × List AV × Unit) × (Int × List AV × Int × Int × List AV × Unit) × (List AV × Int × Unit) × Unit)) (R : AV → Prop) : Prop :=
 LoopP ((Unit × List AV × Unit × Unit × Int × Int × Unit) × ((Int × List AV × List AV × Unit) × (Int × List AV × Int × Int × List AV × Unit) × (Int × List AV × List AV × Unit) × (Int × List AV × Int × Int × List AV × Unit) × (List AV × Int × Unit) × Unit)) p0 fun z51 ag52 =>
 ITE (z51.1.2.2.2.2.1 == 0)
 (ITE (decide (z51.1.2.2.2.2.2.1 < 20))
 (∃ (i53 : Int) (l54 : List AV) (i55 i56 : Int) (l57 : List AV) (b58 : Bool),
 PureIs Try.prog 48 [.agg [nI z51.2.2.2.2.1.1, .sl z51.2.2.2.2.1.2.1, nI z51.2.2.2.2.1.2.2.1, nI z51.2.2.2.2.1.2.2.2.1, .sl z51.2.2.2.2.1.2.2.2.2.1]] (.tup [.agg [nI i53, .sl l54, nI i55, nI i56, .sl l57], nB b58]) ∧
 ITE (!b58)
 (∃ (b59 : Bool),
 PureIs Try.prog 36 [] (nB b59) ∧
 R (nB b59))
 (∃ (b60 : Bool),
 PureIs Try.prog 49 [.agg [nI i53, .sl l54, nI i55, nI i56, .sl l57]] (nB b60) ∧
 ITE (!b60)
 (∃ (b61 : Bool),
 PureIs Try.prog 36 [] (nB b61) ∧
 R (nB b61))
 (∃ (l62 : List AV) (i63 i64 : Int),
 PureIs Try.prog 43 [.agg [nI z51.2.2.2.1.1, .sl z51.2.2.2.1.2.1, .sl z51.2.2.2.1.2.2.1], .sl z51.1.2.1, .agg [nI i53, .sl l54, nI i55, nI i56, .sl l57]] (.tup [.agg [.sl l62, nI i63], nI i64]) ∧
 ITE (i64 != 0)
 (ITE (i64 != 2)
 (R (nB false))
 (ITE (i64 == 0)
 (∃ (b65 : Bool),
 PureIs Try.prog 50 [.agg [.sl z51.2.2.2.2.2.1.1, nI z51.2.2.2.2.2.1.2.1], .agg [.sl l62, nI i63]] (nB b65) ∧
 ITE (!b65)
 (R (nB false))
 (ag52 (((), z51.1.2.1, (), (), z51.1.2.2.2.2.1, IntKind.wrap .i64 (z51.1.2.2.2.2.2.1 + 1), ()), ((z51.2.1.1, z51.2.1.2.1, z51.2.1.2.2.1, ()), (z51.2.2.1.1, z51.2.2.1.2.1, z51.2.2.1.2.2.1, z51.2.2.1.2.2.2.1, z51.2.2.1.2.2.2.2.1, ()), (z51.2.2.2.1.1, z51.2.2.2.1.2.1, z51.2.2.2.1.2.2.1, ()), (i53, l54, i55, i56, l57, ()), (z51.2.2.2.2.2.1.1, z51.2.2.2.2.2.1.2.1, ()), ()))))
 (ag52 (((), z51.1.2.1, (), (), z51.1.2.2.2.2.1, IntKind.wrap .i64 (z51.1.2.2.2.2.2.1 + 1), ()), ((z51.2.1.1, z51.2.1.2.1, z51.2.1.2.2.1, ()), (z51.2.2.1.1, z51.2.2.1.2.1, z51.2.2.1.2.2.1, z51.2.2.1.2.2.2.1, z51.2.2.1.2.2.2.2.1, ()), (z51.2.2.2.1.1, z51.2.2.2.1.2.1, z51.2.2.2.1.2.2.1, ()), (i53, l54, i55, i56, l57, ()), (z51.2.2.2.2.2.1.1, z51.2.2.2.2.2.1.2.1, ()), ())))))
 (ITE (i64 == 0)
 (∃ (b66 : Bool),
 PureIs Try.prog 50 [.agg [.sl z51.2.2.2.2.2.1.1, nI z51.2.2.2.2.2.1.2.1], .agg [.sl l62, nI i63]] (nB b66) ∧
 ITE (!b66)
 (R (nB false))
 (ag52 (((), z51.1.2.1, (), (), z51.1.2.2.2.2.1, IntKind.wrap .i64 (z51.1.2.2.2.2.2.1 + 1), ()), ((z51.2.1.1, z51.2.1.2.1, z51.2.1.2.2.1, ()), (z51.2.2.1.1, z51.2.2.1.2.1, z51.2.2.1.2.2.1, z51.2.2.1.2.2.2.1, z51.2.2.1.2.2.2.2.1, ()), (z51.2.2.2.1.1, z51.2.2.2.1.2.1, z51.2.2.2.1.2.2.1, ()), (i53, l54, i55, i56, l57, ()), (z51.2.2.2.2.2.1.1, z51.2.2.2.2.2.1.2.1, ()), ()))))
 (ag52 (((), z51.1.2.1, (), (), z51.1.2.2.2.2.1, IntKind.wrap .i64 (z51.1.2.2.2.2.2.1 + 1), ()), ((z51.2.1.1, z51.2.1.2.1, z51.2.1.2.2.1, ()), (z51.2.2.1.1, z51.2.2.1.2.1, z51.2.2.1.2.2.1, z51.2.2.1.2.2.2.1, z51.2.2.1.2.2.2.2.1, ()), (z51.2.2.2.1.1, z51.2.2.2.1.2.1, z51.2.2.2.1.2.2.1, ()), (i53, l54, i55, i56, l57, ()), (z51.2.2.2.2.2.1.1, z51.2.2.2.2.2.1.2.1, ()), ())))))))
 (∃ (b67 : Bool),
 PureIs Try.prog 36 [] (nB b67) ∧
 R (nB b67)))
 (∃ (b68 : Bool),
 PureIs Try.prog 36 [] (nB b68) ∧
 R (nB b68))
def vc9_L6' (p0 : (Unit × List AV × Unit × Unit × Int × Int × Unit) × ((Int × List AV × List AV × Unit) × (Int × List AV × Int × Int × List AV × Unit) × (Int × List AV × Int × Int × List AV × Unit) × (Int × List AV × List AV × Unit) × (List AV × Int × Unit) × Unit)) (R : AV → Prop) : Prop :=
 LoopP ((Unit × List AV × Unit × Unit × Int × Int × Unit) × ((Int × List AV × List AV × Unit) × (Int × List AV × Int × Int × List AV × Unit) × (Int × List AV × Int × Int × List AV × Unit) × (Int × List AV × List AV × Unit) × (List AV × Int × Unit) × Unit)) p0 fun z51 ag52 =>
 ITE (z51.1.2.2.2.2.1 == 0)
 (ITE (decide (z51.1.2.2.2.2.2.1 < 20))
 (∃ (i53 : Int) (l54 : List AV) (i55 i56 : Int) (l57 : List AV) (b58 : Bool),
 PureIs Try.prog 48 [.agg [nI z51.2.2.2.1.1, .sl z51.2.2.2.1.2.1, nI z51.2.2.2.1.2.2.1, nI z51.2.2.2.1.2.2.2.1, .sl z51.2.2.2.1.2.2.2.2.1]] (.tup [.agg [nI i53, .sl l54, nI i55, nI i56, .sl l57], nB b58]) ∧
 ITE (!b58)
 (∃ (b59 : Bool),
 PureIs Try.prog 36 [] (nB b59) ∧
 R (nB b59))
 (∃ (b60 : Bool),
 PureIs Try.prog 49 [.agg [nI i53, .sl l54, nI i55, nI i56, .sl l57]] (nB b60) ∧
 ITE (!b60)
 (∃ (b61 : Bool),
 PureIs Try.prog 36 [] (nB b61) ∧
 R (nB b61))
 (∃ (l62 : List AV) (i63 i64 : Int),
 PureIs Try.prog 43 [.agg [nI z51.2.2.2.2.1.1, .sl z51.2.2.2.2.1.2.1, .sl z51.2.2.2.2.1.2.2.1], .sl z51.1.2.1, .agg [nI i53, .sl l54, nI i55, nI i56, .sl l57]] (.tup [.agg [.sl l62, nI i63], nI i64]) ∧
 ITE (i64 != 0)
 (ITE (i64 != 2)
 (R (nB false))
 (ITE (i64 == 0)
 (∃ (b65 : Bool),
 PureIs Try.prog 50 [.agg [.sl z51.2.2.2.2.2.1.1, nI z51.2.2.2.2.2.1.2.1], .agg [.sl l62, nI i63]] (nB b65) ∧
 ITE (!b65)
 (R (nB false))
 (ag52 (((), z51.1.2.1, (), (), z51.1.2.2.2.2.1, IntKind.wrap .i64 (z51.1.2.2.2.2.2.1 + 1), ()), ((z51.2.1.1, z51.2.1.2.1, z51.2.1.2.2.1, ()), (z51.2.2.1.1, z51.2.2.1.2.1, z51.2.2.1.2.2.1, z51.2.2.1.2.2.2.1, z51.2.2.1.2.2.2.2.1, ()), (i53, l54, i55, i56, l57, ()), (z51.2.2.2.2.1.1, z51.2.2.2.2.1.2.1, z51.2.2.2.2.1.2.2.1, ()), (z51.2.2.2.2.2.1.1, z51.2.2.2.2.2.1.2.1, ()), ()))))
 (ag52 (((), z51.1.2.1, (), (), z51.1.2.2.2.2.1, IntKind.wrap .i64 (z51.1.2.2.2.2.2.1 + 1), ()), ((z51.2.1.1, z51.2.1.2.1, z51.2.1.2.2.1, ()), (z51.2.2.1.1, z51.2.2.1.2.1, z51.2.2.1.2.2.1, z51.2.2.1.2.2.2.1, z51.2.2.1.2.2.2.2.1, ()), (i53, l54, i55, i56, l57, ()), (z51.2.2.2.2.1.1, z51.2.2.2.2.1.2.1, z51.2.2.2.2.1.2.2.1, ()), (z51.2.2.2.2.2.1.1, z51.2.2.2.2.2.1.2.1, ()), ())))))
 (ITE (i64 == 0)
 (∃ (b66 : Bool),
 PureIs Try.prog 50 [.agg [.sl z51.2.2.2.2.2.1.1, nI z51.2.2.2.2.2.1.2.1], .agg [.sl l62, nI i63]] (nB b66) ∧
 ITE (!b66)
 (R (nB false))
 (ag52 (((), z51.1.2.1, (), (), z51.1.2.2.2.2.1, IntKind.wrap .i64 (z51.1.2.2.2.2.2.1 + 1), ()), ((z51.2.1.1, z51.2.1.2.1, z51.2.1.2.2.1, ()), (z51.2.2.1.1, z51.2.2.1.2.1, z51.2.2.1.2.2.1, z51.2.2.1.2.2.2.1, z51.2.2.1.2.2.2.2.1, ()), (i53, l54, i55, i56, l57, ()), (z51.2.2.2.2.1.1, z51.2.2.2.2.1.2.1, z51.2.2.2.2.1.2.2.1, ()), (z51.2.2.2.2.2.1.1, z51.2.2.2.2.2.1.2.1, ()), ()))))
 (ag52 (((), z51.1.2.1, (), (), z51.1.2.2.2.2.1, IntKind.wrap .i64 (z51.1.2.2.2.2.2.1 + 1), ()), ((z51.2.1.1, z51.2.1.2.1, z51.2.1.2.2.1, ()), (z51.2.2.1.1, z51.2.2.1.2.1, z51.2.2.1.2.2.1, z51.2.2.1.2.2.2.1, z51.2.2.1.2.2.2.2.1, ()), (i53, l54, i55, i56, l57, ()), (z51.2.2.2.2.1.1, z51.2.2.2.2.1.2.1, z51.2.2.2.2.1.2.2.1, ()), (z51.2.2.2.2.2.1.1, z51.2.2.2.2.2.1.2.1, ()), ())))))))
 (∃ (b67 : Bool),
 PureIs Try.prog 36 [] (nB b67) ∧
 R (nB b67)))
 (∃ (b68 : Bool),
 PureIs Try.prog 36 [] (nB b68) ∧
 R (nB b68))
def vc9_L3 (p0 : Int) (p1 : List AV) (p2 : List AV) (p3 : List AV) (p4 : Int) (p5 : List AV) (p6 : Int) (p7 : Int) (p8 : List AV) (p9 : Int) (p10 : List AV) (p11 : List AV) (p12 : Int) (p13 : List AV) (p14 : Int) (p15 : Int) (p16 : List AV) (R : AV → Prop) : Prop :=
 ∃ (l50 : List AV) (i51 i52 : Int),
 PureIs Try.prog 43 [.agg [nI p0, .sl p1, .sl p2], .sl p3, .agg [nI p4, .sl p5, nI p6, nI p7, .sl p8]] (.tup [.agg [.sl l50, nI i51], nI i52]) ∧
 vc9_L6 (((), p3, (), (), i52, 0, ()), ((p9, p10, p11, ()), (p12, p13, p14, p15, p16, ()), (p0, p1, p2, ()), (p4, p5, p6, p7, p8, ()), (l50, i51, ()), ())) R
def vc9_L3' (p0 : Int) (p1 : List AV) (p2 : List AV) (p3 : List AV) (p4 : Int) (p5 : List AV) (p6 : Int) (p7 : Int) (p8 : List AV) (p9 : Int) (p10 : List AV) (p11 : List AV) (p12 : Int) (p13 : List AV) (p14 : Int) (p15 : Int) (p16 : List AV) (R : AV → Prop) : Prop :=
 ∃ (l50 : List AV) (i51 i52 : Int),
 PureIs Try.prog 43 [.agg [nI p0, .sl p1, .sl p2], .sl p3, .agg [nI p4, .sl p5, nI p6, nI p7, .sl p8]] (.tup [.agg [.sl l50, nI i51], nI i52]) ∧
 vc9_L6' (((), p3, (), (), i52, 0, ()), ((p9, p10, p11, ()), (p12, p13, p14, p15, p16, ()), (p4, p5, p6, p7, p8, ()), (p0, p1, p2, ()), (l50, i51, ()), ())) R
def vc9 (a0_0 : Int) (a0_1 : List AV) (a0_2 : List AV) (a1 : List AV) (a2_0 : Int) (a2_1 : List AV) (a2_2 : Int) (a2_3 : Int) (a2_4 : List AV) (R : AV → Prop) : Prop :=
 ∃ (b1 : Bool),
 PureIs Try.prog 35 [.sl [.agg [nI a2_0, .sl a2_1, nI a2_2, nI a2_3, .sl a2_4]]] (nB b1) ∧
 ITE (!b1)
 (∃ (b2 : Bool),
 PureIs Try.prog 36 [] (nB b2) ∧
 R (nB b2))
 (∃ (b3 : Bool),
 PureIs Try.prog 14 [.agg [nI a0_0, .sl a0_1, .sl a0_2], .sl a1] (nB b3) ∧
 ITE (!b3)
 (∃ (b4 : Bool),
 PureIs Try.prog 36 [] (nB b4) ∧
 R (nB b4))
 (∃ (i5 : Int) (l6 l7 : List AV),
 PureIs Try.prog 44 [.agg [nI a0_0, .sl a0_1, .sl a0_2]] (.agg [nI i5, .sl l6, .sl l7]) ∧
 ∃ (l8 : List AV),
 PureIs Try.prog 18 [.sl a1] (.sl l8) ∧
 ∃ (i9 : Int) (l10 : List AV) (i11 i12 : Int) (l13 : List AV),
 PureIs Try.prog 37 [.agg [nI a2_0, .sl a2_1, nI a2_2, nI a2_3, .sl a2_4]] (.agg [nI i9, .sl l10, nI i11, nI i12, .sl l13]) ∧
 (vc9_L3 i5 l6 l7 l8 i9 l10 i11 i12 l13 a0_0 a0_1 a0_2 a2_0 a2_1 a2_2 a2_3 a2_4 R) ∧
 (vc9_L3' i5 l6 l7 l8 i9 l10 i11 i12 l13 a0_0 a0_1 a0_2 a2_0 a2_1 a2_2 a2_3 a2_4 R)))
theorem vc9_ok {a0_0 : Int} {a0_1 : List AV} {a0_2 : List AV} {a1 : List AV} {a2_0 : Int} {a2_1 : List AV} {a2_2 : Int} {a2_3 : Int} {a2_4 : List AV} {R : AV → Prop} (h : vc9 a0_0 a0_1 a0_2 a1 a2_0 a2_1 a2_2 a2_3 a2_4 R) : Pure Try.prog 9 [.agg [nI a0_0, .sl a0_1, .sl a0_2], .sl a1, .agg [nI a2_0, .sl a2_1, nI a2_2, nI a2_3, .sl a2_4]] R :=
  pure_of_code (C := cfg (Func.ntmps Try.f9) [(3, [none, none, none, none, none, none, some [], some [], none, none, none], [some [], some [], none, some [], some [], some [], none, none, none, none, none])] [] [] [(3, (.val 0 (.val 1 (.val 2 (.val 3 (.val 4 (.val 5 (.two 6 (.eff 7 (.eff 8 (.val 9 (.eff 10 .done)))) 7 (.eff 6 (.eff 8 (.val 9 (.eff 10 .done))))))))))))]) (cfg_tab _ _ _ _ _) (cfg_ord _ _ _ _ _) (L := [{ key := 6, live := [(7, none), (8, none), (9, none), (10, none), (11, none), (12, none)] }]) (fn := Try.f9) Try.func9 rfl (by kernel_rfl) (by kernel_rfl) (by rfl) (of_eq (by kernel_rfl) h)

end Go.Proofs.Ytfbncddnakaaiaa
