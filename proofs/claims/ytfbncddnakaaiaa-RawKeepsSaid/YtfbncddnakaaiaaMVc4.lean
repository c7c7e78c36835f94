/- What the contracts of functions ask, as the kernel reckons it out of the code; laid by a program of ours. -/
import Derived.Test.YtfbncddnakaaiaaMSig
namespace Go.Proofs.Ytfbncddnakaaiaa
open Go
set_option linter.unusedSimpArgs false
set_option linter.unusedVariables false
set_option maxRecDepth 100000

/-- filigreelaw07.RawMakes -/
def vc7_L13 (p0 : (List AV × Int × Int × Unit × Unit × Unit × Unit × Int × Unit) × ((Int × List AV × Int × Int × List AV × Unit) × (Int × List AV × Int × Int × List AV × Unit) × List AV × (Int × List AV × Int × Int × List AV × Unit) × Unit)) (R : AV → Prop) : Prop :=
 LoopP ((List AV × Int × Int × Unit × Unit × Unit × Unit × Int × Unit) × ((Int × List AV × Int × Int × List AV × Unit) × (Int × List AV × Int × Int × List AV × Unit) × List AV × (Int × List AV × Int × Int × List AV × Unit) × Unit)) p0 fun z51 ag52 =>
 ITE (decide (z51.1.2.2.2.2.2.2.2.1 ≥ 0))
 (0 ≤ z51.1.2.2.2.2.2.2.2.1 ∧
 z51.1.2.2.2.2.2.2.2.1 < List.length z51.1.1 ∧
 ∃ (l53 : List AV) (i54 : Int),
 List.getD z51.1.1 (Int.toNat z51.1.2.2.2.2.2.2.2.1) .top = .agg [.sl l53, nI i54] ∧
 List.length z51.2.2.2.1 = List.length z51.2.2.2.1 ∧
 ag52 ((z51.1.1, z51.1.2.1, z51.1.2.2.1, (), (), (), (), IntKind.wrap .i64 (z51.1.2.2.2.2.2.2.2.1 - 1), ()), ((z51.2.1.1, z51.2.1.2.1, z51.2.1.2.2.1, z51.2.1.2.2.2.1, z51.2.1.2.2.2.2.1, ()), (z51.2.2.1.1, z51.2.2.1.2.1, z51.2.2.1.2.2.1, z51.2.2.1.2.2.2.1, z51.2.2.1.2.2.2.2.1, ()), z51.2.2.2.1, (3, l53, i54, 0, [.agg [nI z51.2.2.2.2.1.1, .sl z51.2.2.2.2.1.2.1, nI z51.2.2.2.2.1.2.2.1, nI z51.2.2.2.2.1.2.2.2.1, .sl z51.2.2.2.2.1.2.2.2.2.1]], ()), ())))
 (∃ (b55 : Bool),
 PureIs Try.prog 36 [] (nB b55) ∧
 ITE b55
 (∃ (i56 : Int) (l57 : List AV) (i58 i59 : Int) (l60 : List AV),
 PureIs Try.prog 37 [.agg [nI z51.2.1.1, .sl z51.2.1.2.1, nI z51.2.1.2.2.1, nI z51.2.1.2.2.2.1, .sl z51.2.1.2.2.2.2.1]] (.agg [nI i56, .sl l57, nI i58, nI i59, .sl l60]) ∧
 ∃ (l61 : List AV),
 PureIs Try.prog 18 [.sl z51.1.1] (.sl l61) ∧
 ∃ (i62 : Int) (l63 : List AV) (i64 i65 : Int) (l66 : List AV),
 PureIs Try.prog 40 [.agg [nI i56, .sl l57, nI i58, nI i59, .sl l60], .sl l61] (.agg [nI i62, .sl l63, nI i64, nI i65, .sl l66]) ∧
 ∃ (i67 : Int) (l68 : List AV) (i69 i70 : Int) (l71 : List AV),
 PureIs Try.prog 39 [.agg [nI i62, .sl l63, nI i64, nI i65, .sl l66]] (.agg [nI i67, .sl l68, nI i69, nI i70, .sl l71]) ∧
 ∃ (b72 : Bool),
 PureIs Try.prog 38 [.agg [nI i67, .sl l68, nI i69, nI i70, .sl l71], .agg [nI z51.2.2.2.2.1.1, .sl z51.2.2.2.2.1.2.1, nI z51.2.2.2.2.1.2.2.1, nI z51.2.2.2.2.1.2.2.2.1, .sl z51.2.2.2.2.1.2.2.2.2.1]] (nB b72) ∧
 ITE b72
 (∃ (i73 : Int) (l74 : List AV) (i75 i76 : Int) (l77 : List AV),
 PureIs Try.prog 37 [.agg [nI z51.2.1.1, .sl z51.2.1.2.1, nI z51.2.1.2.2.1, nI z51.2.1.2.2.2.1, .sl z51.2.1.2.2.2.2.1]] (.agg [nI i73, .sl l74, nI i75, nI i76, .sl l77]) ∧
 List.length z51.2.2.2.1 = List.length z51.2.2.2.1 ∧
 ∃ (i78 : Int) (l79 : List AV) (i80 i81 : Int) (l82 : List AV),
 PureIs Try.prog 41 [.agg [nI i73, .sl l74, nI i75, nI i76, .sl l77], .sl z51.2.2.2.1] (.agg [nI i78, .sl l79, nI i80, nI i81, .sl l82]) ∧
 ∃ (i83 : Int) (l84 : List AV) (i85 i86 : Int) (l87 : List AV),
 PureIs Try.prog 39 [.agg [nI i78, .sl l79, nI i80, nI i81, .sl l82]] (.agg [nI i83, .sl l84, nI i85, nI i86, .sl l87]) ∧
 ∃ (b88 : Bool),
 PureIs Try.prog 38 [.agg [nI i83, .sl l84, nI i85, nI i86, .sl l87], .agg [nI z51.2.2.1.1, .sl z51.2.2.1.2.1, nI z51.2.2.1.2.2.1, nI z51.2.2.1.2.2.2.1, .sl z51.2.2.1.2.2.2.2.1]] (nB b88) ∧
 ITE b88
 (∃ (i89 : Int) (l90 : List AV) (i91 i92 : Int) (l93 : List AV),
 PureIs Try.prog 42 [nI z51.1.2.1, nI z51.1.2.2.1] (.agg [nI i89, .sl l90, nI i91, nI i92, .sl l93]) ∧
 ITE (i89 == z51.1.2.1)
 (∃ (i94 : Int) (l95 : List AV) (i96 i97 : Int) (l98 : List AV),
 PureIs Try.prog 42 [nI z51.1.2.1, nI z51.1.2.2.1] (.agg [nI i94, .sl l95, nI i96, nI i97, .sl l98]) ∧
 ITE (i97 == z51.1.2.2.1)
 (∃ (i99 : Int) (l100 : List AV) (i101 i102 : Int) (l103 : List AV),
 PureIs Try.prog 42 [nI z51.1.2.1, nI z51.1.2.2.1] (.agg [nI i99, .sl l100, nI i101, nI i102, .sl l103]) ∧
 R (nB (((List.length l103 : Nat) : Int) == 0)))
 (R (nB false)))
 (R (nB false)))
 (R (nB false)))
 (R (nB false)))
 (R (nB false)))
def vc7_L7 (p0 : (List AV × List AV × Int × Int × Unit × Unit × Unit × Int × Unit) × ((Int × List AV × Int × Int × List AV × Unit) × (Int × List AV × Int × Int × List AV × Unit) × List AV × Unit)) (R : AV → Prop) : Prop :=
 LoopP ((List AV × List AV × Int × Int × Unit × Unit × Unit × Int × Unit) × ((Int × List AV × Int × Int × List AV × Unit) × (Int × List AV × Int × Int × List AV × Unit) × List AV × Unit)) p0 fun z51 ag52 =>
 ITE (decide (z51.1.2.2.2.2.2.2.2.1 < ((List.length z51.1.2.1 : Nat) : Int)))
 (0 ≤ z51.1.2.2.2.2.2.2.2.1 ∧
 z51.1.2.2.2.2.2.2.2.1 < List.length z51.1.2.1 ∧
 ∃ (i53 : Int) (l54 : List AV) (i55 i56 : Int) (l57 : List AV),
 List.getD z51.1.2.1 (Int.toNat z51.1.2.2.2.2.2.2.2.1) .top = .agg [nI i53, .sl l54, nI i55, nI i56, .sl l57] ∧
 ∃ (i58 : Int) (l59 : List AV) (i60 i61 : Int) (l62 : List AV),
 PureIs Try.prog 37 [.agg [nI i53, .sl l54, nI i55, nI i56, .sl l57]] (.agg [nI i58, .sl l59, nI i60, nI i61, .sl l62]) ∧
 List.length z51.2.2.2.1 = List.length z51.2.2.2.1 ∧
 appOk td81 (List.length (z51.2.2.2.1 ++ [.agg [nI i58, .sl l59, nI i60, nI i61, .sl l62]])) [] [.agg [nI i58, .sl l59, nI i60, nI i61, .sl l62]] ∧
 0 ≤ z51.1.2.2.2.2.2.2.2.1 ∧
 z51.1.2.2.2.2.2.2.2.1 < List.length z51.1.2.1 ∧
 ∃ (i63 : Int) (l64 : List AV) (i65 i66 : Int) (l67 : List AV),
 List.getD z51.1.2.1 (Int.toNat z51.1.2.2.2.2.2.2.2.1) .top = .agg [nI i63, .sl l64, nI i65, nI i66, .sl l67] ∧
 List.length (z51.2.2.2.1 ++ [.agg [nI i58, .sl l59, nI i60, nI i61, .sl l62]]) = List.length (z51.2.2.2.1 ++ [.agg [nI i58, .sl l59, nI i60, nI i61, .sl l62]]) ∧
 ag52 ((z51.1.1, z51.1.2.1, z51.1.2.2.1, z51.1.2.2.2.1, (), (), (), IntKind.wrap .i64 (z51.1.2.2.2.2.2.2.2.1 + 1), ()), ((z51.2.1.1, z51.2.1.2.1, z51.2.1.2.2.1, z51.2.1.2.2.2.1, z51.2.1.2.2.2.2.1, ()), (4, [], 0, 0, [.agg [nI z51.2.2.1.1, .sl z51.2.2.1.2.1, nI z51.2.2.1.2.2.1, nI z51.2.2.1.2.2.2.1, .sl z51.2.2.1.2.2.2.2.1], .agg [nI i63, .sl l64, nI i65, nI i66, .sl l67]], ()), z51.2.2.2.1 ++ [.agg [nI i58, .sl l59, nI i60, nI i61, .sl l62]], ())))
 (List.length z51.2.2.2.1 = List.length z51.2.2.2.1 ∧
 vc7_L13 ((z51.1.1, z51.1.2.2.1, z51.1.2.2.2.1, (), (), (), (), IntKind.wrap .i64 (((List.length z51.1.1 : Nat) : Int) - 1), ()), ((z51.2.1.1, z51.2.1.2.1, z51.2.1.2.2.1, z51.2.1.2.2.2.1, z51.2.1.2.2.2.2.1, ()), (z51.2.2.1.1, z51.2.2.1.2.1, z51.2.2.1.2.2.1, z51.2.2.1.2.2.2.1, z51.2.2.1.2.2.2.2.1, ()), z51.2.2.2.1, (z51.2.1.1, z51.2.1.2.1, z51.2.1.2.2.1, z51.2.1.2.2.2.1, z51.2.1.2.2.2.2.1, ()), ())) R)
def vc7 (a0_0 : Int) (a0_1 : List AV) (a0_2 : Int) (a0_3 : Int) (a0_4 : List AV) (a1 : List AV) (a2 : List AV) (a3 : Int) (a4 : Int) (R : AV → Prop) : Prop :=
 (0 ≤ (0 : Int) ∧ (0 : Int) ≤ (if 10 < ((List.length a1 : Nat) : Int) then 10 else ((List.length a1 : Nat) : Int)) ∧ (if 10 < ((List.length a1 : Nat) : Int) then 10 else ((List.length a1 : Nat) : Int)) ≤ List.length a1 ∧ (∀ y : AV, y ∈ a1 → List.length (AV.cells y) = 2)) ∧
 (0 ≤ (0 : Int) ∧ (0 : Int) ≤ (if 10 < ((List.length a2 : Nat) : Int) then 10 else ((List.length a2 : Nat) : Int)) ∧ (if 10 < ((List.length a2 : Nat) : Int) then 10 else ((List.length a2 : Nat) : Int)) ≤ List.length a2 ∧ (∀ y : AV, y ∈ a2 → List.length (AV.cells y) = 5)) ∧
 ∃ (b1 : Bool),
 PureIs Try.prog 35 [.sl [.agg [nI a0_0, .sl a0_1, nI a0_2, nI a0_3, .sl a0_4]]] (nB b1) ∧
 ITE (!b1)
 (∃ (b2 : Bool),
 PureIs Try.prog 36 [] (nB b2) ∧
 R (nB b2))
 (∃ (b3 : Bool),
 PureIs Try.prog 35 [.sl (List.drop (Int.toNat 0) (List.take (Int.toNat (if 10 < ((List.length a2 : Nat) : Int) then 10 else ((List.length a2 : Nat) : Int))) a2))] (nB b3) ∧
 ITE (!b3)
 (∃ (b4 : Bool),
 PureIs Try.prog 36 [] (nB b4) ∧
 R (nB b4))
 (∃ (b5 : Bool),
 PureIs Try.prog 14 [.agg [nI 0, .sl [], .sl []], .sl (List.drop (Int.toNat 0) (List.take (Int.toNat (if 10 < ((List.length a1 : Nat) : Int) then 10 else ((List.length a1 : Nat) : Int))) a1))] (nB b5) ∧
 ITE (!b5)
 (∃ (b6 : Bool),
 PureIs Try.prog 36 [] (nB b6) ∧
 R (nB b6))
 (0 = List.length ([] : List AV) ∧
 vc7_L7 ((List.drop (Int.toNat 0) (List.take (Int.toNat (if 10 < ((List.length a1 : Nat) : Int) then 10 else ((List.length a1 : Nat) : Int))) a1), List.drop (Int.toNat 0) (List.take (Int.toNat (if 10 < ((List.length a2 : Nat) : Int) then 10 else ((List.length a2 : Nat) : Int))) a2), a3, a4, (), (), (), 0, ()), ((a0_0, a0_1, a0_2, a0_3, a0_4, ()), (a0_0, a0_1, a0_2, a0_3, a0_4, ()), [], ())) R)))
theorem vc7_ok {a0_0 : Int} {a0_1 : List AV} {a0_2 : Int} {a0_3 : Int} {a0_4 : List AV} {a1 : List AV} {a2 : List AV} {a3 : Int} {a4 : Int} {R : AV → Prop} (h : vc7 a0_0 a0_1 a0_2 a0_3 a0_4 a1 a2 a3 a4 R) : Pure Try.prog 7 [.agg [nI a0_0, .sl a0_1, nI a0_2, nI a0_3, .sl a0_4], .sl a1, .sl a2, nI a3, nI a4] R :=
  pure_of_code (C := cfg (Func.ntmps Try.f7)) (cfg_tab _ _ _ _ _) (cfg_ord _ _ _ _ _) (L := [{ key := 7, live := [(1, none), (2, none), (3, none), (4, none), (5, none), (11, none), (12, none), (13, none)], rows := [(11, 81)] }, { key := 13, live := [(1, none), (3, none), (4, none), (5, none), (11, none), (12, none), (14, none), (15, none)] }]) (fn := Try.f7) Try.func7 rfl (by kernel_rfl) (by kernel_rfl) (by rfl) (of_eq (by kernel_rfl) h)

/-- filigreelaw07.RawInfers -/
def vc8 (a0_0 : Int) (a0_1 : List AV) (a0_2 : List AV) (a1 : List AV) (a2_0 : Int) (a2_1 : List AV) (a2_2 : Int) (a2_3 : Int) (a2_4 : List AV) (R : AV → Prop) : Prop :=
 ∃ (b1 : Bool),
 PureIs Try.prog 35 [.sl [.agg [nI a2_0, .sl a2_1, nI a2_2, nI a2_3, .sl a2_4]]] (nB b1) ∧
 ITE (!b1)
 (∃ (b2 : Bool),
 PureIs Try.prog 36 [] (nB b2) ∧
 R (nB b2))
 (∃ (b3 : Bool),
 PureIs Try.prog 14 [.agg [nI a0_0, .sl a0_1, .sl a0_2], .sl a1] (nB b3) ∧
 ITE (!b3)
 (∃ (b4 : Bool),
 PureIs Try.prog 36 [] (nB b4) ∧
 R (nB b4))
 (∃ (i5 : Int) (l6 l7 : List AV),
 PureIs Try.prog 44 [.agg [nI a0_0, .sl a0_1, .sl a0_2]] (.agg [nI i5, .sl l6, .sl l7]) ∧
 ∃ (l8 : List AV),
 PureIs Try.prog 18 [.sl a1] (.sl l8) ∧
 ∃ (i9 : Int) (l10 : List AV) (i11 i12 : Int) (l13 : List AV),
 PureIs Try.prog 37 [.agg [nI a2_0, .sl a2_1, nI a2_2, nI a2_3, .sl a2_4]] (.agg [nI i9, .sl l10, nI i11, nI i12, .sl l13]) ∧
 ∃ (l14 : List AV) (i15 i16 : Int),
 PureIs Try.prog 43 [.agg [nI i5, .sl l6, .sl l7], .sl l8, .agg [nI i9, .sl l10, nI i11, nI i12, .sl l13]] (.tup [.agg [.sl l14, nI i15], nI i16]) ∧
 ∃ (l17 : List AV) (i18 i19 : Int),
 PureIs Try.prog 45 [.agg [nI a0_0, .sl a0_1, .sl a0_2], .sl a1, .agg [nI a2_0, .sl a2_1, nI a2_2, nI a2_3, .sl a2_4]] (.tup [.agg [.sl l17, nI i18], nI i19]) ∧
 ∃ (b20 : Bool),
 PureIs Try.prog 36 [] (nB b20) ∧
 ITE b20
 (ITE (i16 == i19)
 (∃ (l21 : List AV) (i22 : Int),
 PureIs Try.prog 47 [.agg [.sl l14, nI i15]] (.agg [.sl l21, nI i22]) ∧
 ∃ (b23 : Bool),
 PureIs Try.prog 46 [.agg [.sl l21, nI i22], .agg [.sl l17, nI i18]] (nB b23) ∧
 R (nB b23))
 (R (nB false)))
 (R (nB false))))
theorem vc8_ok {a0_0 : Int} {a0_1 : List AV} {a0_2 : List AV} {a1 : List AV} {a2_0 : Int} {a2_1 : List AV} {a2_2 : Int} {a2_3 : Int} {a2_4 : List AV} {R : AV → Prop} (h : vc8 a0_0 a0_1 a0_2 a1 a2_0 a2_1 a2_2 a2_3 a2_4 R) : Pure Try.prog 8 [.agg [nI a0_0, .sl a0_1, .sl a0_2], .sl a1, .agg [nI a2_0, .sl a2_1, nI a2_2, nI a2_3, .sl a2_4]] R :=
  pure_of_code (C := cfg (Func.ntmps Try.f8) [(3, [none, none, none, none, none, none, none, none, none, none, some [], none, none], [some [], some [], none, some [], some [], some [], some [], none, none, none, none, none, none])]) (cfg_tab _ _ _ _ _) (cfg_ord _ _ _ _ _) (L := []) (fn := Try.f8) Try.func8 rfl (by kernel_rfl) (by kernel_rfl) (by rfl) (of_eq (by kernel_rfl) h)

/-- filigreelaw07.RawParts -/
def vc10_L3 (p0 : Int) (p1 : List AV) (p2 : Int) (p3 : Int) (p4 : List AV) (p5 : Int) (p6 : List AV) (p7 : Int) (p8 : Int) (p9 : List AV) (p10 : Int) (p11 : List AV) (p12 : Int) (p13 : Int) (p14 : List AV) (p15 : Int) (p16 : List AV) (p17 : Int) (p18 : Int) (p19 : List AV) (R : AV → Prop) : Prop :=
 ∃ (b50 : Bool),
 PureIs Try.prog 36 [] (nB b50) ∧
 ITE b50
 (∃ (b51 : Bool),
 PureIs Try.prog 49 [.agg [nI p0, .sl p1, nI p2, nI p3, .sl p4]] (nB b51) ∧
 ∃ (b57 : Bool),
 PureIs Try.prog 51 [.agg [nI p5, .sl p6, nI p7, nI p8, .sl p9]] (nB b57) ∧
 ITE (b51 == b57)
 (∃ (i63 : Int),
 PureIs Try.prog 52 [.agg [nI p0, .sl p1, nI p2, nI p3, .sl p4]] (nI i63) ∧
 ∃ (i64 : Int),
 PureIs Try.prog 53 [.agg [nI p5, .sl p6, nI p7, nI p8, .sl p9]] (nI i64) ∧
 ITE (i63 == i64)
 (∃ (i65 : Int),
 PureIs Try.prog 54 [.agg [nI p0, .sl p1, nI p2, nI p3, .sl p4]] (nI i65) ∧
 ∃ (i66 : Int),
 PureIs Try.prog 55 [.agg [nI p5, .sl p6, nI p7, nI p8, .sl p9], nI 0] (nI i66) ∧
 ITE (i65 == i66)
 (∃ (b67 : Bool),
 PureIs Try.prog 56 [.agg [nI p0, .sl p1, nI p2, nI p3, .sl p4], .agg [nI p10, .sl p11, nI p12, nI p13, .sl p14]] (nB b67) ∧
 ∃ (b73 : Bool),
 PureIs Try.prog 38 [.agg [nI p5, .sl p6, nI p7, nI p8, .sl p9], .agg [nI p15, .sl p16, nI p17, nI p18, .sl p19]] (nB b73) ∧
 ITE (b67 == b73)
 (∃ (b79 : Bool),
 PureIs Try.prog 56 [.agg [nI p0, .sl p1, nI p2, nI p3, .sl p4], .agg [nI p0, .sl p1, nI p2, nI p3, .sl p4]] (nB b79) ∧
 ITE b79
 (∃ (i80 : Int) (l81 : List AV) (i82 i83 : Int) (l84 : List AV),
 PureIs Try.prog 39 [.agg [nI p0, .sl p1, nI p2, nI p3, .sl p4]] (.agg [nI i80, .sl l81, nI i82, nI i83, .sl l84]) ∧
 ∃ (b85 : Bool),
 PureIs Try.prog 38 [.agg [nI i80, .sl l81, nI i82, nI i83, .sl l84], .agg [nI p5, .sl p6, nI p7, nI p8, .sl p9]] (nB b85) ∧
 R (nB b85))
 (R (nB false)))
 (R (nB false)))
 (R (nB false)))
 (R (nB false)))
 (R (nB false)))
 (R (nB false))
def vc10 (a0_0 : Int) (a0_1 : List AV) (a0_2 : Int) (a0_3 : Int) (a0_4 : List AV) (a1_0 : Int) (a1_1 : List AV) (a1_2 : Int) (a1_3 : Int) (a1_4 : List AV) (R : AV → Prop) : Prop :=
 ∃ (b1 : Bool),
 PureIs Try.prog 35 [.sl [.agg [nI a0_0, .sl a0_1, nI a0_2, nI a0_3, .sl a0_4], .agg [nI a1_0, .sl a1_1, nI a1_2, nI a1_3, .sl a1_4]]] (nB b1) ∧
 ITE (!b1)
 (∃ (b2 : Bool),
 PureIs Try.prog 36 [] (nB b2) ∧
 R (nB b2))
 (∃ (i3 : Int) (l4 : List AV) (i5 i6 : Int) (l7 : List AV),
 PureIs Try.prog 37 [.agg [nI a0_0, .sl a0_1, nI a0_2, nI a0_3, .sl a0_4]] (.agg [nI i3, .sl l4, nI i5, nI i6, .sl l7]) ∧
 ∃ (i8 : Int) (l9 : List AV) (i10 i11 : Int) (l12 : List AV),
 PureIs Try.prog 37 [.agg [nI a1_0, .sl a1_1, nI a1_2, nI a1_3, .sl a1_4]] (.agg [nI i8, .sl l9, nI i10, nI i11, .sl l12]) ∧
 (vc10_L3 i3 l4 i5 i6 l7 a0_0 a0_1 a0_2 a0_3 a0_4 i8 l9 i10 i11 l12 a1_0 a1_1 a1_2 a1_3 a1_4 R) ∧
 (vc10_L3 i3 l4 i5 i6 l7 a0_0 a0_1 a0_2 a0_3 a0_4 i8 l9 i10 i11 l12 a1_0 a1_1 a1_2 a1_3 a1_4 R))
theorem vc10_ok {a0_0 : Int} {a0_1 : List AV} {a0_2 : Int} {a0_3 : Int} {a0_4 : List AV} {a1_0 : Int} {a1_1 : List AV} {a1_2 : Int} {a1_3 : Int} {a1_4 : List AV} {R : AV → Prop} (h : vc10 a0_0 a0_1 a0_2 a0_3 a0_4 a1_0 a1_1 a1_2 a1_3 a1_4 R) : Pure Try.prog 10 [.agg [nI a0_0, .sl a0_1, nI a0_2, nI a0_3, .sl a0_4], .agg [nI a1_0, .sl a1_1, nI a1_2, nI a1_3, .sl a1_4]] R :=
  pure_of_code (C := cfg (Func.ntmps Try.f10) [(3, [none, none, none, none, some [], some [], none, none], [some [], some [], some [], some [], none, none, none, none])] [] [] [(3, (.val 0 (.val 1 (.val 2 (.val 3 (.two 4 (.eff 5 (.eff 6 (.eff 7 .done))) 5 (.eff 4 (.eff 6 (.eff 7 .done)))))))))]) (cfg_tab _ _ _ _ _) (cfg_ord _ _ _ _ _) (L := []) (fn := Try.f10) Try.func10 rfl (by kernel_rfl) (by kernel_rfl) (by rfl) (of_eq (by kernel_rfl) h)

/-- filigreelaw07.RawFroms -/
def vc11_L3 (p0 : List AV) (p1 : Int) (p2 : Int) (p3 : List AV) (R : AV → Prop) (p5 : List AV) (p6 : Int) (p7 : Int) (p8 : List AV) (p9 : Int) (p10 : List AV) (p11 : List AV) (p12 : List AV) : Prop :=
 ∃ (i50 : Int) (l51 : List AV) (i52 i53 : Int) (l54 : List AV),
 PureIs Try.prog 57 [.agg [.sl p0, nI p1, nI p2, .sl p3]] (.agg [nI i50, .sl l51, nI i52, nI i53, .sl l54]) ∧
 ∃ (i59 : Int) (l60 : List AV) (i61 i62 : Int) (l63 : List AV) (b64 : Bool),
 PureIs Try.prog 48 [.agg [nI i50, .sl l51, nI i52, nI i53, .sl l54]] (.tup [.agg [nI i59, .sl l60, nI i61, nI i62, .sl l63], nB b64]) ∧
 ITE b64
 (R (nB false))
 (∃ (i65 : Int) (l66 : List AV) (i67 i68 : Int) (l69 : List AV),
 PureIs Try.prog 39 [.agg [nI i50, .sl l51, nI i52, nI i53, .sl l54]] (.agg [nI i65, .sl l66, nI i67, nI i68, .sl l69]) ∧
 ∃ (i70 : Int) (l71 : List AV) (i72 i73 : Int) (l74 : List AV),
 PureIs Try.prog 58 [.agg [.sl p5, nI p6, nI p7, .sl p8]] (.agg [nI i70, .sl l71, nI i72, nI i73, .sl l74]) ∧
 ∃ (b79 : Bool),
 PureIs Try.prog 38 [.agg [nI i65, .sl l66, nI i67, nI i68, .sl l69], .agg [nI i70, .sl l71, nI i72, nI i73, .sl l74]] (nB b79) ∧
 ITE (!b79)
 (R (nB false))
 (∃ (l80 : List AV) (i81 i82 : Int),
 PureIs Try.prog 59 [.agg [nI p9, .sl p10, .sl p11], .sl p12, .agg [.sl p0, nI p1, nI p2, .sl p3]] (.tup [.agg [.sl l80, nI i81], nI i82]) ∧
 ITE (i82 != 0)
 (∃ (b87 : Bool),
 PureIs Try.prog 36 [] (nB b87) ∧
 R (nB b87))
 (∃ (i88 : Int),
 PureIs Try.prog 60 [.agg [nI p9, .sl p10, .sl p11], .sl p12, .agg [.sl p0, nI p1, nI p2, .sl p3], .agg [.sl l80, nI i81]] (nI i88) ∧
 ITE (i88 != 0)
 (∃ (b89 : Bool),
 PureIs Try.prog 36 [] (nB b89) ∧
 R (nB b89))
 (∃ (b90 : Bool),
 PureIs Try.prog 49 [.agg [nI i50, .sl l51, nI i52, nI i53, .sl l54]] (nB b90) ∧
 ITE (!b90)
 (∃ (b91 : Bool),
 PureIs Try.prog 36 [] (nB b91) ∧
 R (nB b91))
 (∃ (b92 : Bool),
 PureIs Try.prog 61 [.agg [nI p9, .sl p10, .sl p11]] (nB b92) ∧
 ITE (!b92)
 (∃ (b93 : Bool),
 PureIs Try.prog 36 [] (nB b93) ∧
 R (nB b93))
 (∃ (l94 : List AV) (i95 i96 : Int),
 PureIs Try.prog 43 [.agg [nI p9, .sl p10, .sl p11], .sl p12, .agg [nI i50, .sl l51, nI i52, nI i53, .sl l54]] (.tup [.agg [.sl l94, nI i95], nI i96]) ∧
 ∃ (b97 : Bool),
 PureIs Try.prog 36 [] (nB b97) ∧
 ITE b97
 (ITE (i96 == 0)
 (∃ (b98 : Bool),
 PureIs Try.prog 50 [.agg [.sl l80, nI i81], .agg [.sl l94, nI i95]] (nB b98) ∧
 ITE b98
 (R (nB true))
 (R (nB (i96 == 2))))
 (R (nB (i96 == 2))))
 (R (nB false))))))))
def vc11 (a0_0 : Int) (a0_1 : List AV) (a0_2 : List AV) (a1 : List AV) (a2_0 : List AV) (a2_1 : Int) (a2_2 : Int) (a2_3 : List AV) (R : AV → Prop) : Prop :=
 ∃ (b1 : Bool),
 PureIs Try.prog 12 [.sl [.agg [.sl a2_0, nI a2_1, nI a2_2, .sl a2_3]]] (nB b1) ∧
 ITE (!b1)
 (∃ (b2 : Bool),
 PureIs Try.prog 36 [] (nB b2) ∧
 R (nB b2))
 (∃ (b3 : Bool),
 PureIs Try.prog 14 [.agg [nI a0_0, .sl a0_1, .sl a0_2], .sl a1] (nB b3) ∧
 ITE (!b3)
 (∃ (b4 : Bool),
 PureIs Try.prog 36 [] (nB b4) ∧
 R (nB b4))
 (∃ (i5 : Int) (l6 l7 : List AV),
 PureIs Try.prog 44 [.agg [nI a0_0, .sl a0_1, .sl a0_2]] (.agg [nI i5, .sl l6, .sl l7]) ∧
 ∃ (l8 : List AV),
 PureIs Try.prog 18 [.sl a1] (.sl l8) ∧
 ∃ (l9 : List AV) (i10 i11 : Int) (l12 : List AV),
 PureIs Try.prog 17 [.agg [.sl a2_0, nI a2_1, nI a2_2, .sl a2_3]] (.agg [.sl l9, nI i10, nI i11, .sl l12]) ∧
 (vc11_L3 l9 i10 i11 l12 R a2_0 a2_1 a2_2 a2_3 i5 l6 l7 l8) ∧
 (vc11_L3 l9 i10 i11 l12 R a2_0 a2_1 a2_2 a2_3 i5 l6 l7 l8)))
theorem vc11_ok {a0_0 : Int} {a0_1 : List AV} {a0_2 : List AV} {a1 : List AV} {a2_0 : List AV} {a2_1 : Int} {a2_2 : Int} {a2_3 : List AV} {R : AV → Prop} (h : vc11 a0_0 a0_1 a0_2 a1 a2_0 a2_1 a2_2 a2_3 R) : Pure Try.prog 11 [.agg [nI a0_0, .sl a0_1, .sl a0_2], .sl a1, .agg [.sl a2_0, nI a2_1, nI a2_2, .sl a2_3]] R :=
  pure_of_code (C := cfg (Func.ntmps Try.f11) [(3, [none, none, none, none, none, none, some [], some [], none, none, none], [some [], some [], none, some [], some [], some [], none, none, none, none, none])] [] [] [(3, (.val 0 (.val 1 (.val 2 (.val 3 (.val 4 (.val 5 (.two 6 (.eff 7 (.eff 8 (.val 9 (.eff 10 .done)))) 7 (.eff 6 (.eff 8 (.val 9 (.eff 10 .done))))))))))))]) (cfg_tab _ _ _ _ _) (cfg_ord _ _ _ _ _) (L := []) (fn := Try.f11) Try.func11 rfl (by kernel_rfl) (by kernel_rfl) (by rfl) (of_eq (by kernel_rfl) h)

/-- filigreelaw07.Few -/
def vc35_L2 (p0 : (List AV × Int × Unit) × (Unit)) (R : AV → Prop) : Prop :=
 LoopP ((List AV × Int × Unit) × (Unit)) p0 fun z51 ag52 =>
 ITE (decide (z51.1.2.1 < ((List.length z51.1.1 : Nat) : Int)))
 (0 ≤ z51.1.2.1 ∧
 z51.1.2.1 < List.length z51.1.1 ∧
 ∃ (i53 : Int) (l54 : List AV) (i55 i56 : Int) (l57 : List AV),
 List.getD z51.1.1 (Int.toNat z51.1.2.1) .top = .agg [nI i53, .sl l54, nI i55, nI i56, .sl l57] ∧
 ∃ (b58 : Bool),
 PureIs Try.prog 88 [.agg [nI i53, .sl l54, nI i55, nI i56, .sl l57], nI 300, nI 70] (nB b58) ∧
 ITE (!b58)
 (R (nB false))
 (ag52 ((z51.1.1, IntKind.wrap .i64 (z51.1.2.1 + 1), ()), ())))
 (R (nB true))
def vc35 (a0 : List AV) (R : AV → Prop) : Prop :=
 vc35_L2 ((a0, 0, ()), ()) R
theorem vc35_ok {a0 : List AV} {R : AV → Prop} (h : vc35 a0 R) : Pure Try.prog 35 [.sl a0] R :=
  pure_of_code (C := cfg (Func.ntmps Try.f35)) (cfg_tab _ _ _ _ _) (cfg_ord _ _ _ _ _) (L := [{ key := 2, live := [(0, none), (3, none)] }]) (fn := Try.f35) Try.func35 rfl (by kernel_rfl) (by kernel_rfl) (by rfl) (of_eq (by kernel_rfl) h)

/-- filigreelaw07.known -/
def vc36 (R : AV → Prop) : Prop :=
 ∃ (l1 : List AV) (i2 : Int),
 PureIs Try.prog 89 [nI 0, .sl []] (.agg [.sl l1, nI i2]) ∧
 ∃ (i3 : Int) (l4 : List AV) (i5 i6 : Int) (l7 : List AV),
 PureIs Try.prog 42 [nI 0, nI 0] (.agg [nI i3, .sl l4, nI i5, nI i6, .sl l7]) ∧
 ∃ (i8 : Int) (l9 : List AV) (i10 i11 : Int) (l12 : List AV),
 PureIs Try.prog 40 [.agg [nI i3, .sl l4, nI i5, nI i6, .sl l7], .sl [.agg [.sl l1, nI i2]]] (.agg [nI i8, .sl l9, nI i10, nI i11, .sl l12]) ∧
 ∃ (i13 : Int) (l14 : List AV) (i15 i16 : Int) (l17 : List AV),
 PureIs Try.prog 42 [nI 1, nI 0] (.agg [nI i13, .sl l14, nI i15, nI i16, .sl l17]) ∧
 ∃ (i18 : Int) (l19 : List AV) (i20 i21 : Int) (l22 : List AV),
 PureIs Try.prog 41 [.agg [nI i8, .sl l9, nI i10, nI i11, .sl l12], .sl [.agg [nI i13, .sl l14, nI i15, nI i16, .sl l17]]] (.agg [nI i18, .sl l19, nI i20, nI i21, .sl l22]) ∧
 ∃ (l23 : List AV) (i24 i25 : Int),
 PureIs Try.prog 43 [.agg [nI 1, .sl [.agg [.sl l1, nI i2]], .sl []], .sl [], .agg [nI i18, .sl l19, nI i20, nI i21, .sl l22]] (.tup [.agg [.sl l23, nI i24], nI i25]) ∧
 ∃ (i26 : Int) (l27 : List AV) (i28 i29 : Int) (l30 : List AV) (b31 : Bool),
 PureIs Try.prog 48 [.agg [nI i18, .sl l19, nI i20, nI i21, .sl l22]] (.tup [.agg [nI i26, .sl l27, nI i28, nI i29, .sl l30], nB b31]) ∧
 ITE (i25 == 0)
 (∃ (b32 : Bool),
 PureIs Try.prog 50 [.agg [.sl l23, nI i24], .agg [.sl l1, nI i2]] (nB b32) ∧
 ITE b32
 (ITE b31
 (∃ (i33 : Int) (l34 : List AV) (i35 i36 : Int) (l37 : List AV),
 PureIs Try.prog 42 [nI 1, nI 0] (.agg [nI i33, .sl l34, nI i35, nI i36, .sl l37]) ∧
 ∃ (b38 : Bool),
 PureIs Try.prog 56 [.agg [nI i26, .sl l27, nI i28, nI i29, .sl l30], .agg [nI i33, .sl l34, nI i35, nI i36, .sl l37]] (nB b38) ∧
 R (nB b38))
 (R (nB false)))
 (R (nB false)))
 (R (nB false))
theorem vc36_ok {R : AV → Prop} (h : vc36 R) : Pure Try.prog 36 [] R :=
  pure_of_code (C := cfg (Func.ntmps Try.f36) [(2, [none, none, none, none, none, none, none, some [], none], [some [], some [], some [], some [], some [], some [], some [], none, none])]) (cfg_tab _ _ _ _ _) (cfg_ord _ _ _ _ _) (L := []) (fn := Try.f36) Try.func36 rfl (by kernel_rfl) (by kernel_rfl) (by rfl) (of_eq (by kernel_rfl) h)

/-- filigreelaw07.To -/
def vc37_L3 (p0 : (Unit × Unit × Unit × Int × Unit) × ((Int × List AV × Int × Int × List AV × Unit) × (Int × Unit × Int × Int × Unit × Unit) × (Int × List AV × Int × Int × Unit × Unit) × List AV × Unit)) (R : AV → Prop) : Prop :=
 LoopP ((Unit × Unit × Unit × Int × Unit) × ((Int × List AV × Int × Int × List AV × Unit) × (Int × Unit × Int × Int × Unit × Unit) × (Int × List AV × Int × Int × Unit × Unit) × List AV × Unit)) p0 fun z51 ag52 =>
 ITE (decide (z51.1.2.2.2.1 < ((List.length z51.2.1.2.2.2.2.1 : Nat) : Int)))
 (0 ≤ z51.1.2.2.2.1 ∧
 z51.1.2.2.2.1 < List.length z51.2.1.2.2.2.2.1 ∧
 ∃ (i53 : Int) (l54 : List AV) (i55 i56 : Int) (l57 : List AV),
 List.getD z51.2.1.2.2.2.2.1 (Int.toNat z51.1.2.2.2.1) .top = .agg [nI i53, .sl l54, nI i55, nI i56, .sl l57] ∧
 ∃ (i58 : Int) (l59 : List AV) (i60 i61 : Int) (l62 : List AV),
 PureIs Try.prog 37 [.agg [nI i53, .sl l54, nI i55, nI i56, .sl l57]] (.agg [nI i58, .sl l59, nI i60, nI i61, .sl l62]) ∧
 List.length z51.2.2.2.2.1 = List.length z51.2.2.2.2.1 ∧
 appOk td81 (List.length (z51.2.2.2.2.1 ++ [.agg [nI i58, .sl l59, nI i60, nI i61, .sl l62]])) [] [.agg [nI i58, .sl l59, nI i60, nI i61, .sl l62]] ∧
 List.length (z51.2.2.2.2.1 ++ [.agg [nI i58, .sl l59, nI i60, nI i61, .sl l62]]) = List.length (z51.2.2.2.2.1 ++ [.agg [nI i58, .sl l59, nI i60, nI i61, .sl l62]]) ∧
 ag52 (((), (), (), IntKind.wrap .i64 (z51.1.2.2.2.1 + 1), ()), ((z51.2.1.1, z51.2.1.2.1, z51.2.1.2.2.1, z51.2.1.2.2.2.1, z51.2.1.2.2.2.2.1, ()), (z51.2.2.1.1, (), z51.2.2.1.2.2.1, z51.2.2.1.2.2.2.1, (), ()), (z51.2.2.2.1.1, z51.2.2.2.1.2.1, z51.2.2.2.1.2.2.1, z51.2.2.2.1.2.2.2.1, (), ()), z51.2.2.2.2.1 ++ [.agg [nI i58, .sl l59, nI i60, nI i61, .sl l62]], ())))
 (List.length z51.2.2.2.2.1 = List.length z51.2.2.2.2.1 ∧
 R (.agg [nI z51.2.2.2.1.1, .sl z51.2.2.2.1.2.1, nI z51.2.2.2.1.2.2.1, nI z51.2.2.2.1.2.2.2.1, .sl z51.2.2.2.2.1]))
def vc37 (a0_0 : Int) (a0_1 : List AV) (a0_2 : Int) (a0_3 : Int) (a0_4 : List AV) (R : AV → Prop) : Prop :=
 ∃ (l1 : List AV) (i2 : Int),
 PureIs Try.prog 73 [.agg [.sl a0_1, nI a0_2]] (.agg [.sl l1, nI i2]) ∧
 0 = List.length ([] : List AV) ∧
 vc37_L3 (((), (), (), 0, ()), ((a0_0, a0_1, a0_2, a0_3, a0_4, ()), (0, (), 0, 0, (), ()), (a0_0, l1, i2, a0_3, (), ()), [], ())) R
theorem vc37_ok {a0_0 : Int} {a0_1 : List AV} {a0_2 : Int} {a0_3 : Int} {a0_4 : List AV} {R : AV → Prop} (h : vc37 a0_0 a0_1 a0_2 a0_3 a0_4 R) : Pure Try.prog 37 [.agg [nI a0_0, .sl a0_1, nI a0_2, nI a0_3, .sl a0_4]] R :=
  pure_of_code (C := cfg (Func.ntmps Try.f37) [(1, [none, none, none, none, none, none, none, none, some [], none], [none, some [], none, some [], some [], none, some [], none, none, none])]) (cfg_tab _ _ _ _ _) (cfg_ord _ _ _ _ _) (L := [{ key := 3, live := [(1, none), (2, none), (3, none), (4, none)], brows := [(2, 4, 81)] }]) (fn := Try.f37) Try.func37 rfl (by kernel_rfl) (by kernel_rfl) (by rfl) (of_eq (by kernel_rfl) h)

/-- filigreeref07.Same -/
def vc38_L6 (p0 : (Unit × Unit × Int × Unit) × ((Int × List AV × Int × Int × List AV × Unit) × (Int × List AV × Int × Int × List AV × Unit) × Unit)) (R : AV → Prop) : Prop :=
 LoopP ((Unit × Unit × Int × Unit) × ((Int × List AV × Int × Int × List AV × Unit) × (Int × List AV × Int × Int × List AV × Unit) × Unit)) p0 fun z51 ag52 =>
 ITE (decide (z51.1.2.2.1 < ((List.length z51.2.1.2.2.2.2.1 : Nat) : Int)))
 (0 ≤ z51.1.2.2.1 ∧
 z51.1.2.2.1 < List.length z51.2.1.2.2.2.2.1 ∧
 ∃ (i53 : Int) (l54 : List AV) (i55 i56 : Int) (l57 : List AV),
 List.getD z51.2.1.2.2.2.2.1 (Int.toNat z51.1.2.2.1) .top = .agg [nI i53, .sl l54, nI i55, nI i56, .sl l57] ∧
 0 ≤ z51.1.2.2.1 ∧
 z51.1.2.2.1 < List.length z51.2.2.1.2.2.2.2.1 ∧
 ∃ (i58 : Int) (l59 : List AV) (i60 i61 : Int) (l62 : List AV),
 List.getD z51.2.2.1.2.2.2.2.1 (Int.toNat z51.1.2.2.1) .top = .agg [nI i58, .sl l59, nI i60, nI i61, .sl l62] ∧
 ∃ (b63 : Bool),
 PureIs Try.prog 38 [.agg [nI i53, .sl l54, nI i55, nI i56, .sl l57], .agg [nI i58, .sl l59, nI i60, nI i61, .sl l62]] (nB b63) ∧
 ITE (!b63)
 (R (nB false))
 (ag52 (((), (), IntKind.wrap .i64 (z51.1.2.2.1 + 1), ()), ((z51.2.1.1, z51.2.1.2.1, z51.2.1.2.2.1, z51.2.1.2.2.2.1, z51.2.1.2.2.2.2.1, ()), (z51.2.2.1.1, z51.2.2.1.2.1, z51.2.2.1.2.2.1, z51.2.2.1.2.2.2.1, z51.2.2.1.2.2.2.2.1, ()), ()))))
 (R (nB true))
def vc38 (a0_0 : Int) (a0_1 : List AV) (a0_2 : Int) (a0_3 : Int) (a0_4 : List AV) (a1_0 : Int) (a1_1 : List AV) (a1_2 : Int) (a1_3 : Int) (a1_4 : List AV) (R : AV → Prop) : Prop :=
 ITE (a0_0 != a1_0)
 (R (nB false))
 (ITE (((List.length a0_4 : Nat) : Int) != ((List.length a1_4 : Nat) : Int))
 (R (nB false))
 (ITE (a0_0 == 3)
 (∃ (b1 : Bool),
 PureIs Try.prog 46 [.agg [.sl a0_1, nI a0_2], .agg [.sl a1_1, nI a1_2]] (nB b1) ∧
 ITE (!b1)
 (R (nB false))
 (ITE (decide (a0_0 ≥ 0))
 (ITE (decide (a0_0 < 3))
 (ITE (a0_3 != a1_3)
 (R (nB false))
 (vc38_L6 (((), (), 0, ()), ((a0_0, a0_1, a0_2, a0_3, a0_4, ()), (a1_0, a1_1, a1_2, a1_3, a1_4, ()), ())) R))
 (vc38_L6 (((), (), 0, ()), ((a0_0, a0_1, a0_2, a0_3, a0_4, ()), (a1_0, a1_1, a1_2, a1_3, a1_4, ()), ())) R))
 (vc38_L6 (((), (), 0, ()), ((a0_0, a0_1, a0_2, a0_3, a0_4, ()), (a1_0, a1_1, a1_2, a1_3, a1_4, ()), ())) R)))
 (ITE (decide (a0_0 ≥ 0))
 (ITE (decide (a0_0 < 3))
 (ITE (a0_3 != a1_3)
 (R (nB false))
 (vc38_L6 (((), (), 0, ()), ((a0_0, a0_1, a0_2, a0_3, a0_4, ()), (a1_0, a1_1, a1_2, a1_3, a1_4, ()), ())) R))
 (vc38_L6 (((), (), 0, ()), ((a0_0, a0_1, a0_2, a0_3, a0_4, ()), (a1_0, a1_1, a1_2, a1_3, a1_4, ()), ())) R))
 (vc38_L6 (((), (), 0, ()), ((a0_0, a0_1, a0_2, a0_3, a0_4, ()), (a1_0, a1_1, a1_2, a1_3, a1_4, ()), ())) R))))
theorem vc38_ok {a0_0 : Int} {a0_1 : List AV} {a0_2 : Int} {a0_3 : Int} {a0_4 : List AV} {a1_0 : Int} {a1_1 : List AV} {a1_2 : Int} {a1_3 : Int} {a1_4 : List AV} {R : AV → Prop} (h : vc38 a0_0 a0_1 a0_2 a0_3 a0_4 a1_0 a1_1 a1_2 a1_3 a1_4 R) : Pure Try.prog 38 [.agg [nI a0_0, .sl a0_1, nI a0_2, nI a0_3, .sl a0_4], .agg [nI a1_0, .sl a1_1, nI a1_2, nI a1_3, .sl a1_4]] R :=
  pure_of_code (C := cfg (Func.ntmps Try.f38)) (cfg_tab _ _ _ _ _) (cfg_ord _ _ _ _ _) (L := [{ key := 6, live := [(2, none), (3, none), (5, none)] }]) (fn := Try.f38) Try.func38 rfl (by kernel_rfl) (by kernel_rfl) (by rfl) (of_eq (by kernel_rfl) h)

/-- filigreelaw07.Of -/
def vc39_L3 (p0 : (Unit × Unit × Unit × Int × Unit) × ((Int × List AV × Int × Int × List AV × Unit) × (Int × Unit × Int × Int × Unit × Unit) × (Int × List AV × Int × Int × Unit × Unit) × List AV × Unit)) (R : AV → Prop) : Prop :=
 LoopP ((Unit × Unit × Unit × Int × Unit) × ((Int × List AV × Int × Int × List AV × Unit) × (Int × Unit × Int × Int × Unit × Unit) × (Int × List AV × Int × Int × Unit × Unit) × List AV × Unit)) p0 fun z51 ag52 =>
 ITE (decide (z51.1.2.2.2.1 < ((List.length z51.2.1.2.2.2.2.1 : Nat) : Int)))
 (0 ≤ z51.1.2.2.2.1 ∧
 z51.1.2.2.2.1 < List.length z51.2.1.2.2.2.2.1 ∧
 ∃ (i53 : Int) (l54 : List AV) (i55 i56 : Int) (l57 : List AV),
 List.getD z51.2.1.2.2.2.2.1 (Int.toNat z51.1.2.2.2.1) .top = .agg [nI i53, .sl l54, nI i55, nI i56, .sl l57] ∧
 ∃ (i58 : Int) (l59 : List AV) (i60 i61 : Int) (l62 : List AV),
 PureIs Try.prog 39 [.agg [nI i53, .sl l54, nI i55, nI i56, .sl l57]] (.agg [nI i58, .sl l59, nI i60, nI i61, .sl l62]) ∧
 List.length z51.2.2.2.2.1 = List.length z51.2.2.2.2.1 ∧
 appOk td75 (List.length (z51.2.2.2.2.1 ++ [.agg [nI i58, .sl l59, nI i60, nI i61, .sl l62]])) [] [.agg [nI i58, .sl l59, nI i60, nI i61, .sl l62]] ∧
 List.length (z51.2.2.2.2.1 ++ [.agg [nI i58, .sl l59, nI i60, nI i61, .sl l62]]) = List.length (z51.2.2.2.2.1 ++ [.agg [nI i58, .sl l59, nI i60, nI i61, .sl l62]]) ∧
 ag52 (((), (), (), IntKind.wrap .i64 (z51.1.2.2.2.1 + 1), ()), ((z51.2.1.1, z51.2.1.2.1, z51.2.1.2.2.1, z51.2.1.2.2.2.1, z51.2.1.2.2.2.2.1, ()), (z51.2.2.1.1, (), z51.2.2.1.2.2.1, z51.2.2.1.2.2.2.1, (), ()), (z51.2.2.2.1.1, z51.2.2.2.1.2.1, z51.2.2.2.1.2.2.1, z51.2.2.2.1.2.2.2.1, (), ()), z51.2.2.2.2.1 ++ [.agg [nI i58, .sl l59, nI i60, nI i61, .sl l62]], ())))
 (List.length z51.2.2.2.2.1 = List.length z51.2.2.2.2.1 ∧
 R (.agg [nI z51.2.2.2.1.1, .sl z51.2.2.2.1.2.1, nI z51.2.2.2.1.2.2.1, nI z51.2.2.2.1.2.2.2.1, .sl z51.2.2.2.2.1]))
def vc39 (a0_0 : Int) (a0_1 : List AV) (a0_2 : Int) (a0_3 : Int) (a0_4 : List AV) (R : AV → Prop) : Prop :=
 ∃ (l1 : List AV) (i2 : Int),
 PureIs Try.prog 47 [.agg [.sl a0_1, nI a0_2]] (.agg [.sl l1, nI i2]) ∧
 0 = List.length ([] : List AV) ∧
 vc39_L3 (((), (), (), 0, ()), ((a0_0, a0_1, a0_2, a0_3, a0_4, ()), (0, (), 0, 0, (), ()), (a0_0, l1, i2, a0_3, (), ()), [], ())) R
theorem vc39_ok {a0_0 : Int} {a0_1 : List AV} {a0_2 : Int} {a0_3 : Int} {a0_4 : List AV} {R : AV → Prop} (h : vc39 a0_0 a0_1 a0_2 a0_3 a0_4 R) : Pure Try.prog 39 [.agg [nI a0_0, .sl a0_1, nI a0_2, nI a0_3, .sl a0_4]] R :=
  pure_of_code (C := cfg (Func.ntmps Try.f39) [(1, [none, none, none, none, none, none, none, none, some [], none], [none, some [], none, some [], some [], none, some [], none, none, none])]) (cfg_tab _ _ _ _ _) (cfg_ord _ _ _ _ _) (L := [{ key := 3, live := [(1, none), (2, none), (3, none), (4, none)], brows := [(2, 4, 75)] }]) (fn := Try.f39) Try.func39 rfl (by kernel_rfl) (by kernel_rfl) (by rfl) (of_eq (by kernel_rfl) h)

/-- raw.Call -/
def vc41_L3 (p0 : (Unit × Unit × List AV × Int × Int × Unit) × ((Int × List AV × Int × Int × List AV × Unit) × (Int × Unit × Int × Int × Unit × Unit) × (Int × List AV × Int × Int × List AV × Unit) × Unit)) (R : AV → Prop) : Prop :=
 LoopP ((Unit × Unit × List AV × Int × Int × Unit) × ((Int × List AV × Int × Int × List AV × Unit) × (Int × Unit × Int × Int × Unit × Unit) × (Int × List AV × Int × Int × List AV × Unit) × Unit)) p0 fun z51 ag52 =>
 ITE (decide (z51.1.2.2.2.2.1 < z51.1.2.2.2.1))
 (0 ≤ z51.1.2.2.2.2.1 ∧
 z51.1.2.2.2.2.1 < List.length z51.1.2.2.1 ∧
 ∃ (i53 : Int) (l54 : List AV) (i55 i56 : Int) (l57 : List AV),
 List.getD z51.1.2.2.1 (Int.toNat z51.1.2.2.2.2.1) .top = .agg [nI i53, .sl l54, nI i55, nI i56, .sl l57] ∧
 ∃ (i58 : Int) (l59 : List AV) (i60 i61 : Int) (l62 : List AV),
 PureIs Try.prog 90 [.agg [nI i53, .sl l54, nI i55, nI i56, .sl l57]] (.agg [nI i58, .sl l59, nI i60, nI i61, .sl l62]) ∧
 ag52 (((), (), z51.1.2.2.1, z51.1.2.2.2.1, IntKind.wrap .i64 (z51.1.2.2.2.2.1 + 1), ()), ((z51.2.1.1, z51.2.1.2.1, z51.2.1.2.2.1, z51.2.1.2.2.2.1, z51.2.1.2.2.2.2.1, ()), (z51.2.2.1.1, (), z51.2.2.1.2.2.1, z51.2.2.1.2.2.2.1, (), ()), (4, [], 0, 0, [.agg [nI z51.2.2.2.1.1, .sl z51.2.2.2.1.2.1, nI z51.2.2.2.1.2.2.1, nI z51.2.2.2.1.2.2.2.1, .sl z51.2.2.2.1.2.2.2.2.1], .agg [nI i58, .sl l59, nI i60, nI i61, .sl l62]], ()), ())))
 (R (.agg [nI z51.2.2.2.1.1, .sl z51.2.2.2.1.2.1, nI z51.2.2.2.1.2.2.1, nI z51.2.2.2.1.2.2.2.1, .sl z51.2.2.2.1.2.2.2.2.1]))
def vc41 (a0_0 : Int) (a0_1 : List AV) (a0_2 : Int) (a0_3 : Int) (a0_4 : List AV) (a1 : List AV) (R : AV → Prop) : Prop :=
 ∃ (i1 : Int) (l2 : List AV) (i3 i4 : Int) (l5 : List AV),
 PureIs Try.prog 90 [.agg [nI a0_0, .sl a0_1, nI a0_2, nI a0_3, .sl a0_4]] (.agg [nI i1, .sl l2, nI i3, nI i4, .sl l5]) ∧
 vc41_L3 (((), (), a1, ((List.length a1 : Nat) : Int), 0, ()), ((a0_0, a0_1, a0_2, a0_3, a0_4, ()), (0, (), 0, 0, (), ()), (i1, l2, i3, i4, l5, ()), ())) R
theorem vc41_ok {a0_0 : Int} {a0_1 : List AV} {a0_2 : Int} {a0_3 : Int} {a0_4 : List AV} {a1 : List AV} {R : AV → Prop} (h : vc41 a0_0 a0_1 a0_2 a0_3 a0_4 a1 R) : Pure Try.prog 41 [.agg [nI a0_0, .sl a0_1, nI a0_2, nI a0_3, .sl a0_4], .sl a1] R :=
  pure_of_code (C := cfg (Func.ntmps Try.f41)) (cfg_tab _ _ _ _ _) (cfg_ord _ _ _ _ _) (L := [{ key := 3, live := [(4, none), (5, none), (10, none), (11, none), (12, none)] }]) (fn := Try.f41) Try.func41 rfl (by kernel_rfl) (by kernel_rfl) (by rfl) (of_eq (by kernel_rfl) h)

/-- raw.Head -/
def vc42 (a0 : Int) (a1 : Int) (R : AV → Prop) : Prop :=
 R (.agg [nI a0, .sl [], nI 0, nI a1, .sl []])
theorem vc42_ok {a0 : Int} {a1 : Int} {R : AV → Prop} (h : vc42 a0 a1 R) : Pure Try.prog 42 [nI a0, nI a1] R :=
  pure_of_code (C := cfg (Func.ntmps Try.f42)) (cfg_tab _ _ _ _ _) (cfg_ord _ _ _ _ _) (L := []) (fn := Try.f42) Try.func42 rfl (by kernel_rfl) (by kernel_rfl) (by rfl) (of_eq (by kernel_rfl) h)

/-- raw.Infer -/
def vc43 (a0_0 : Int) (a0_1 : List AV) (a0_2 : List AV) (a1 : List AV) (a2_0 : Int) (a2_1 : List AV) (a2_2 : Int) (a2_3 : Int) (a2_4 : List AV) (R : AV → Prop) : Prop :=
 ∃ (b1 : Bool),
 PureIs Try.prog 49 [.agg [nI a2_0, .sl a2_1, nI a2_2, nI a2_3, .sl a2_4]] (nB b1) ∧
 ITE (!b1)
 (R (.tup [.agg [.sl [], nI 0], nI 1]))
 (∃ (l2 : List AV) (i3 i4 : Int),
 PureIs Try.prog 93 [.agg [nI a0_0, .sl a0_1, .sl a0_2], .sl a1, .agg [nI a2_0, .sl a2_1, nI a2_2, nI a2_3, .sl a2_4]] (.tup [.agg [.sl l2, nI i3], nI i4]) ∧
 R (.tup [.agg [.sl l2, nI i3], nI i4]))
theorem vc43_ok {a0_0 : Int} {a0_1 : List AV} {a0_2 : List AV} {a1 : List AV} {a2_0 : Int} {a2_1 : List AV} {a2_2 : Int} {a2_3 : Int} {a2_4 : List AV} {R : AV → Prop} (h : vc43 a0_0 a0_1 a0_2 a1 a2_0 a2_1 a2_2 a2_3 a2_4 R) : Pure Try.prog 43 [.agg [nI a0_0, .sl a0_1, .sl a0_2], .sl a1, .agg [nI a2_0, .sl a2_1, nI a2_2, nI a2_3, .sl a2_4]] R :=
  pure_of_code (C := cfg (Func.ntmps Try.f43)) (cfg_tab _ _ _ _ _) (cfg_ord _ _ _ _ _) (L := []) (fn := Try.f43) Try.func43 rfl (by kernel_rfl) (by kernel_rfl) (by rfl) (of_eq (by kernel_rfl) h)

/-- filigreelaw06.World -/
def vc44 (a0_0 : Int) (a0_1 : List AV) (a0_2 : List AV) (R : AV → Prop) : Prop :=
 ∃ (l1 : List AV),
 PureIs Try.prog 18 [.sl a0_1] (.sl l1) ∧
 ∃ (l2 : List AV),
 PureIs Try.prog 18 [.sl a0_2] (.sl l2) ∧
 R (.agg [nI a0_0, .sl l1, .sl l2])
theorem vc44_ok {a0_0 : Int} {a0_1 : List AV} {a0_2 : List AV} {R : AV → Prop} (h : vc44 a0_0 a0_1 a0_2 R) : Pure Try.prog 44 [.agg [nI a0_0, .sl a0_1, .sl a0_2]] R :=
  pure_of_code (C := cfg (Func.ntmps Try.f44)) (cfg_tab _ _ _ _ _) (cfg_ord _ _ _ _ _) (L := []) (fn := Try.f44) Try.func44 rfl (by kernel_rfl) (by kernel_rfl) (by rfl) (of_eq (by kernel_rfl) h)

/-- filigreeref07.Infer -/
def vc45 (a0_0 : Int) (a0_1 : List AV) (a0_2 : List AV) (a1 : List AV) (a2_0 : Int) (a2_1 : List AV) (a2_2 : Int) (a2_3 : Int) (a2_4 : List AV) (R : AV → Prop) : Prop :=
 ∃ (b1 : Bool),
 PureIs Try.prog 51 [.agg [nI a2_0, .sl a2_1, nI a2_2, nI a2_3, .sl a2_4]] (nB b1) ∧
 ITE (!b1)
 (R (.tup [.agg [.sl [], nI 0], nI 1]))
 (∃ (l2 : List AV) (i3 i4 : Int),
 PureIs Try.prog 94 [.agg [nI a0_0, .sl a0_1, .sl a0_2], .sl a1, .agg [nI a2_0, .sl a2_1, nI a2_2, nI a2_3, .sl a2_4]] (.tup [.agg [.sl l2, nI i3], nI i4]) ∧
 R (.tup [.agg [.sl l2, nI i3], nI i4]))
theorem vc45_ok {a0_0 : Int} {a0_1 : List AV} {a0_2 : List AV} {a1 : List AV} {a2_0 : Int} {a2_1 : List AV} {a2_2 : Int} {a2_3 : Int} {a2_4 : List AV} {R : AV → Prop} (h : vc45 a0_0 a0_1 a0_2 a1 a2_0 a2_1 a2_2 a2_3 a2_4 R) : Pure Try.prog 45 [.agg [nI a0_0, .sl a0_1, .sl a0_2], .sl a1, .agg [nI a2_0, .sl a2_1, nI a2_2, nI a2_3, .sl a2_4]] R :=
  pure_of_code (C := cfg (Func.ntmps Try.f45)) (cfg_tab _ _ _ _ _) (cfg_ord _ _ _ _ _) (L := []) (fn := Try.f45) Try.func45 rfl (by kernel_rfl) (by kernel_rfl) (by rfl) (of_eq (by kernel_rfl) h)

/-- raw.Step -/
def vc48 (a0_0 : Int) (a0_1 : List AV) (a0_2 : Int) (a0_3 : Int) (a0_4 : List AV) (R : AV → Prop) : Prop :=
 ∃ (i1 : Int) (l2 : List AV) (i3 i4 : Int) (l5 : List AV) (b6 : Bool),
 PureIs Try.prog 95 [.agg [nI a0_0, .sl a0_1, nI a0_2, nI a0_3, .sl a0_4]] (.tup [.agg [nI i1, .sl l2, nI i3, nI i4, .sl l5], nB b6]) ∧
 ∃ (i7 : Int) (l8 : List AV) (i9 i10 : Int) (l11 : List AV),
 PureIs Try.prog 90 [.agg [nI i1, .sl l2, nI i3, nI i4, .sl l5]] (.agg [nI i7, .sl l8, nI i9, nI i10, .sl l11]) ∧
 R (.tup [.agg [nI i7, .sl l8, nI i9, nI i10, .sl l11], nB b6])
theorem vc48_ok {a0_0 : Int} {a0_1 : List AV} {a0_2 : Int} {a0_3 : Int} {a0_4 : List AV} {R : AV → Prop} (h : vc48 a0_0 a0_1 a0_2 a0_3 a0_4 R) : Pure Try.prog 48 [.agg [nI a0_0, .sl a0_1, nI a0_2, nI a0_3, .sl a0_4]] R :=
  pure_of_code (C := cfg (Func.ntmps Try.f48)) (cfg_tab _ _ _ _ _) (cfg_ord _ _ _ _ _) (L := []) (fn := Try.f48) Try.func48 rfl (by kernel_rfl) (by kernel_rfl) (by rfl) (of_eq (by kernel_rfl) h)

/-- raw.Right -/
def vc49 (a0_0 : Int) (a0_1 : List AV) (a0_2 : Int) (a0_3 : Int) (a0_4 : List AV) (R : AV → Prop) : Prop :=
 ∃ (S3 : AV → List AObj → Prop),
 HFn Try.prog 96 [.agg [nI a0_0, .sl a0_1, nI a0_2, nI a0_3, .sl a0_4], nI 1, .ptr 1 0] [.box [nI a0_0, .sl a0_1, nI a0_2, nI a0_3, .sl a0_4], .box [nI 5000]] S3 ∧
 ∀ (r1 : AV) (q2 : List AObj), S3 r1 q2 →
 ∃ (i4 : Int) (l5 : List AV) (i6 i7 : Int) (l8 : List AV) (i9 : Int) (b10 : Bool),
 (r1 = nB b10 ∧ q2 = [.box [nI i4, .sl l5, nI i6, nI i7, .sl l8], .box [nI i9]]) ∧
 R (nB b10)
theorem vc49_ok {a0_0 : Int} {a0_1 : List AV} {a0_2 : Int} {a0_3 : Int} {a0_4 : List AV} {R : AV → Prop} (h : vc49 a0_0 a0_1 a0_2 a0_3 a0_4 R) : Pure Try.prog 49 [.agg [nI a0_0, .sl a0_1, nI a0_2, nI a0_3, .sl a0_4]] R :=
  pure_of_code (C := cfg (Func.ntmps Try.f49) [] [(96, .heap 2 [(.v (.c (.b)), [.box [.i .i64, .l, .i .i64, .i .i64, .l], .box [.i .i64]])])] []) (cfg_tab _ _ _ _ _) (cfg_ord _ _ _ _ _) (L := []) (fn := Try.f49) Try.func49 rfl (by kernel_rfl) (by kernel_rfl) (by rfl) (of_eq (by kernel_rfl) h)

/-- filigreeref07.Right -/
def vc51 (a0_0 : Int) (a0_1 : List AV) (a0_2 : Int) (a0_3 : Int) (a0_4 : List AV) (R : AV → Prop) : Prop :=
 ∃ (b1 : Bool),
 PureIs Try.prog 98 [.agg [nI a0_0, .sl a0_1, nI a0_2, nI a0_3, .sl a0_4]] (nB b1) ∧
 ITE b1
 (∃ (i2 : Int),
 PureIs Try.prog 53 [.agg [nI a0_0, .sl a0_1, nI a0_2, nI a0_3, .sl a0_4]] (nI i2) ∧
 ITE (decide (i2 ≤ 5000))
 (∃ (i3 : Int),
 PureIs Try.prog 99 [.agg [nI a0_0, .sl a0_1, nI a0_2, nI a0_3, .sl a0_4]] (nI i3) ∧
 R (nB (decide (i3 ≤ 60))))
 (R (nB false)))
 (R (nB false))
theorem vc51_ok {a0_0 : Int} {a0_1 : List AV} {a0_2 : Int} {a0_3 : Int} {a0_4 : List AV} {R : AV → Prop} (h : vc51 a0_0 a0_1 a0_2 a0_3 a0_4 R) : Pure Try.prog 51 [.agg [nI a0_0, .sl a0_1, nI a0_2, nI a0_3, .sl a0_4]] R :=
  pure_of_code (C := cfg (Func.ntmps Try.f51)) (cfg_tab _ _ _ _ _) (cfg_ord _ _ _ _ _) (L := []) (fn := Try.f51) Try.func51 rfl (by kernel_rfl) (by kernel_rfl) (by rfl) (of_eq (by kernel_rfl) h)

/-- raw.Size -/
def vc52_L3 (p0 : (Int × List AV × Int × Int × Unit) × ((Int × List AV × Int × Int × List AV × Unit) × Unit)) (R : AV → Prop) : Prop :=
 LoopP ((Int × List AV × Int × Int × Unit) × ((Int × List AV × Int × Int × List AV × Unit) × Unit)) p0 fun z51 ag52 =>
 ITE (decide (z51.1.2.2.2.1 < z51.1.2.2.1))
 (0 ≤ z51.1.2.2.2.1 ∧
 z51.1.2.2.2.1 < List.length z51.1.2.1 ∧
 ∃ (i53 : Int) (l54 : List AV) (i55 i56 : Int) (l57 : List AV),
 List.getD z51.1.2.1 (Int.toNat z51.1.2.2.2.1) .top = .agg [nI i53, .sl l54, nI i55, nI i56, .sl l57] ∧
 ∃ (i58 : Int),
 PureIs Try.prog 52 [.agg [nI i53, .sl l54, nI i55, nI i56, .sl l57]] (nI i58) ∧
 ag52 ((IntKind.wrap .i64 (z51.1.1 + i58), z51.1.2.1, z51.1.2.2.1, IntKind.wrap .i64 (z51.1.2.2.2.1 + 1), ()), ((z51.2.1.1, z51.2.1.2.1, z51.2.1.2.2.1, z51.2.1.2.2.2.1, z51.2.1.2.2.2.2.1, ()), ())))
 (R (nI z51.1.1))
def vc52 (a0_0 : Int) (a0_1 : List AV) (a0_2 : Int) (a0_3 : Int) (a0_4 : List AV) (R : AV → Prop) : Prop :=
 vc52_L3 ((1, a0_4, ((List.length a0_4 : Nat) : Int), 0, ()), ((a0_0, a0_1, a0_2, a0_3, a0_4, ()), ())) R
theorem vc52_ok {a0_0 : Int} {a0_1 : List AV} {a0_2 : Int} {a0_3 : Int} {a0_4 : List AV} {R : AV → Prop} (h : vc52 a0_0 a0_1 a0_2 a0_3 a0_4 R) : Pure Try.prog 52 [.agg [nI a0_0, .sl a0_1, nI a0_2, nI a0_3, .sl a0_4]] R :=
  pure_of_code (C := cfg (Func.ntmps Try.f52)) (cfg_tab _ _ _ _ _) (cfg_ord _ _ _ _ _) (L := [{ key := 3, live := [(3, none), (7, none), (8, none), (9, none)] }]) (fn := Try.f52) Try.func52 rfl (by kernel_rfl) (by kernel_rfl) (by rfl) (of_eq (by kernel_rfl) h)

/-- filigreeref07.Size -/
def vc53_L3 (p0 : (Unit × Int × Int × Unit) × ((Int × List AV × Int × Int × List AV × Unit) × Unit)) (R : AV → Prop) : Prop :=
 LoopP ((Unit × Int × Int × Unit) × ((Int × List AV × Int × Int × List AV × Unit) × Unit)) p0 fun z51 ag52 =>
 ITE (decide (z51.1.2.2.1 < ((List.length z51.2.1.2.2.2.2.1 : Nat) : Int)))
 (0 ≤ z51.1.2.2.1 ∧
 z51.1.2.2.1 < List.length z51.2.1.2.2.2.2.1 ∧
 ∃ (i53 : Int) (l54 : List AV) (i55 i56 : Int) (l57 : List AV),
 List.getD z51.2.1.2.2.2.2.1 (Int.toNat z51.1.2.2.1) .top = .agg [nI i53, .sl l54, nI i55, nI i56, .sl l57] ∧
 ∃ (i58 : Int),
 PureIs Try.prog 53 [.agg [nI i53, .sl l54, nI i55, nI i56, .sl l57]] (nI i58) ∧
 ag52 (((), IntKind.wrap .i64 (z51.1.2.1 + i58), IntKind.wrap .i64 (z51.1.2.2.1 + 1), ()), ((z51.2.1.1, z51.2.1.2.1, z51.2.1.2.2.1, z51.2.1.2.2.2.1, z51.2.1.2.2.2.2.1, ()), ())))
 (R (nI z51.1.2.1))
def vc53 (a0_0 : Int) (a0_1 : List AV) (a0_2 : Int) (a0_3 : Int) (a0_4 : List AV) (R : AV → Prop) : Prop :=
 vc53_L3 (((), 1, 0, ()), ((a0_0, a0_1, a0_2, a0_3, a0_4, ()), ())) R
theorem vc53_ok {a0_0 : Int} {a0_1 : List AV} {a0_2 : Int} {a0_3 : Int} {a0_4 : List AV} {R : AV → Prop} (h : vc53 a0_0 a0_1 a0_2 a0_3 a0_4 R) : Pure Try.prog 53 [.agg [nI a0_0, .sl a0_1, nI a0_2, nI a0_3, .sl a0_4]] R :=
  pure_of_code (C := cfg (Func.ntmps Try.f53)) (cfg_tab _ _ _ _ _) (cfg_ord _ _ _ _ _) (L := [{ key := 3, live := [(1, none), (3, none), (4, none)] }]) (fn := Try.f53) Try.func53 rfl (by kernel_rfl) (by kernel_rfl) (by rfl) (of_eq (by kernel_rfl) h)

/-- raw.Loose -/
def vc54 (a0_0 : Int) (a0_1 : List AV) (a0_2 : Int) (a0_3 : Int) (a0_4 : List AV) (R : AV → Prop) : Prop :=
 ∃ (S3 : AV → List AObj → Prop),
 HFn Try.prog 100 [.agg [nI a0_0, .sl a0_1, nI a0_2, nI a0_3, .sl a0_4], nI 0, .clo 101 [.ptr 1 0]] [.box [nI a0_0, .sl a0_1, nI a0_2, nI a0_3, .sl a0_4], .box [nI 0]] S3 ∧
 ∀ (r1 : AV) (q2 : List AObj), S3 r1 q2 →
 ∃ (i4 : Int) (l5 : List AV) (i6 i7 : Int) (l8 : List AV) (i9 i10 : Int) (l11 : List AV) (i12 i13 : Int) (l14 : List AV),
 (r1 = .agg [nI i10, .sl l11, nI i12, nI i13, .sl l14] ∧ q2 = [.box [nI i4, .sl l5, nI i6, nI i7, .sl l8], .box [nI i9]]) ∧
 R (nI i9)
theorem vc54_ok {a0_0 : Int} {a0_1 : List AV} {a0_2 : Int} {a0_3 : Int} {a0_4 : List AV} {R : AV → Prop} (h : vc54 a0_0 a0_1 a0_2 a0_3 a0_4 R) : Pure Try.prog 54 [.agg [nI a0_0, .sl a0_1, nI a0_2, nI a0_3, .sl a0_4]] R :=
  pure_of_code (C := cfg (Func.ntmps Try.f54) [] [(100, .heap 2 [(.v (.a [.i .i64, .l, .i .i64, .i .i64, .l]), [.box [.i .i64, .l, .i .i64, .i .i64, .l], .box [.i .i64]])]), (101, .heap 2 [(.v (.a [.i .i64, .l, .i .i64, .i .i64, .l]), [.box [.i .i64, .l, .i .i64, .i .i64, .l], .box [.i .i64]])])] []) (cfg_tab _ _ _ _ _) (cfg_ord _ _ _ _ _) (L := []) (fn := Try.f54) Try.func54 rfl (by kernel_rfl) (by kernel_rfl) (by rfl) (of_eq (by kernel_rfl) h)

/-- filigreeref07.Loose -/
def vc55_L12 (p0 : (Int × Unit × Int × Int × Unit) × ((Int × List AV × Int × Int × List AV × Unit) × Unit)) (R : AV → Prop) : Prop :=
 LoopP ((Int × Unit × Int × Int × Unit) × ((Int × List AV × Int × Int × List AV × Unit) × Unit)) p0 fun z51 ag52 =>
 ITE (decide (z51.1.2.2.2.1 < ((List.length z51.2.1.2.2.2.2.1 : Nat) : Int)))
 (0 ≤ z51.1.2.2.2.1 ∧
 z51.1.2.2.2.1 < List.length z51.2.1.2.2.2.2.1 ∧
 ∃ (i53 : Int) (l54 : List AV) (i55 i56 : Int) (l57 : List AV),
 List.getD z51.2.1.2.2.2.2.1 (Int.toNat z51.1.2.2.2.1) .top = .agg [nI i53, .sl l54, nI i55, nI i56, .sl l57] ∧
 ∃ (i58 : Int),
 PureIs Try.prog 55 [.agg [nI i53, .sl l54, nI i55, nI i56, .sl l57], nI z51.1.1] (nI i58) ∧
 ITE (decide (i58 > z51.1.2.2.1))
 (ag52 ((z51.1.1, (), i58, IntKind.wrap .i64 (z51.1.2.2.2.1 + 1), ()), ((z51.2.1.1, z51.2.1.2.1, z51.2.1.2.2.1, z51.2.1.2.2.2.1, z51.2.1.2.2.2.2.1, ()), ())))
 (ag52 ((z51.1.1, (), z51.1.2.2.1, IntKind.wrap .i64 (z51.1.2.2.2.1 + 1), ()), ((z51.2.1.1, z51.2.1.2.1, z51.2.1.2.2.1, z51.2.1.2.2.2.1, z51.2.1.2.2.2.2.1, ()), ()))))
 (R (nI z51.1.2.2.1))
def vc55 (a0_0 : Int) (a0_1 : List AV) (a0_2 : Int) (a0_3 : Int) (a0_4 : List AV) (a1 : Int) (R : AV → Prop) : Prop :=
 ITE (a0_0 == 0)
 (ITE (decide (a0_3 < a1))
 (R (nI 0))
 (ITE (decide ((IntKind.wrap .i64 (a0_3 - a1)) > 1000))
 (R (nI (IntKind.wrap .i64 (1000 + 1))))
 (R (nI (IntKind.wrap .i64 ((IntKind.wrap .i64 (a0_3 - a1)) + 1))))))
 (ITE (a0_0 == 3)
 (vc55_L12 ((IntKind.wrap .i64 (a1 + 1), (), 0, 0, ()), ((a0_0, a0_1, a0_2, a0_3, a0_4, ()), ())) R)
 (vc55_L12 ((a1, (), 0, 0, ()), ((a0_0, a0_1, a0_2, a0_3, a0_4, ()), ())) R))
theorem vc55_ok {a0_0 : Int} {a0_1 : List AV} {a0_2 : Int} {a0_3 : Int} {a0_4 : List AV} {a1 : Int} {R : AV → Prop} (h : vc55 a0_0 a0_1 a0_2 a0_3 a0_4 a1 R) : Pure Try.prog 55 [.agg [nI a0_0, .sl a0_1, nI a0_2, nI a0_3, .sl a0_4], nI a1] R :=
  pure_of_code (C := cfg (Func.ntmps Try.f55)) (cfg_tab _ _ _ _ _) (cfg_ord _ _ _ _ _) (L := [{ key := 12, live := [(1, none), (2, none), (6, none), (7, none)] }]) (fn := Try.f55) Try.func55 rfl (by kernel_rfl) (by kernel_rfl) (by rfl) (of_eq (by kernel_rfl) h)

/-- raw.Equal -/
def vc56 (a0_0 : Int) (a0_1 : List AV) (a0_2 : Int) (a0_3 : Int) (a0_4 : List AV) (a1_0 : Int) (a1_1 : List AV) (a1_2 : Int) (a1_3 : Int) (a1_4 : List AV) (R : AV → Prop) : Prop :=
 ITE (a0_0 != a1_0)
 (R (nB false))
 (ITE (a0_0 == 3)
 (∃ (b1 : Bool),
 PureIs Try.prog 50 [.agg [.sl a0_1, nI a0_2], .agg [.sl a1_1, nI a1_2]] (nB b1) ∧
 ITE (!b1)
 (R (nB false))
 (∃ (i2 : Int),
 PureIs Try.prog 102 [nI a0_0] (nI i2) ∧
 ITE (i2 == 0)
 (ITE (a0_3 != a1_3)
 (R (nB false))
 (∃ (b3 : Bool),
 PureIs Try.prog 103 [.sl a0_4, .sl a1_4, .clo 56 []] (nB b3) ∧
 R (nB b3)))
 (∃ (b4 : Bool),
 PureIs Try.prog 103 [.sl a0_4, .sl a1_4, .clo 56 []] (nB b4) ∧
 R (nB b4))))
 (∃ (i5 : Int),
 PureIs Try.prog 102 [nI a0_0] (nI i5) ∧
 ITE (i5 == 0)
 (ITE (a0_3 != a1_3)
 (R (nB false))
 (∃ (b6 : Bool),
 PureIs Try.prog 103 [.sl a0_4, .sl a1_4, .clo 56 []] (nB b6) ∧
 R (nB b6)))
 (∃ (b7 : Bool),
 PureIs Try.prog 103 [.sl a0_4, .sl a1_4, .clo 56 []] (nB b7) ∧
 R (nB b7))))
theorem vc56_ok {a0_0 : Int} {a0_1 : List AV} {a0_2 : Int} {a0_3 : Int} {a0_4 : List AV} {a1_0 : Int} {a1_1 : List AV} {a1_2 : Int} {a1_3 : Int} {a1_4 : List AV} {R : AV → Prop} (h : vc56 a0_0 a0_1 a0_2 a0_3 a0_4 a1_0 a1_1 a1_2 a1_3 a1_4 R) : Pure Try.prog 56 [.agg [nI a0_0, .sl a0_1, nI a0_2, nI a0_3, .sl a0_4], .agg [nI a1_0, .sl a1_1, nI a1_2, nI a1_3, .sl a1_4]] R :=
  pure_of_code (C := cfg (Func.ntmps Try.f56)) (cfg_tab _ _ _ _ _) (cfg_ord _ _ _ _ _) (L := []) (fn := Try.f56) Try.func56 rfl (by kernel_rfl) (by kernel_rfl) (by rfl) (of_eq (by kernel_rfl) h)

/-- raw.From -/
def vc57_L4 (p0 : (Unit × Unit × Unit × Unit × List AV × Int × Int × Unit) × ((List AV × Int × Int × List AV × Unit) × (Int × Unit × Int × Int × Unit × Unit) × (Int × List AV × Int × Int × List AV × Unit) × List AV × Unit)) (R : AV → Prop) : Prop :=
 LoopP ((Unit × Unit × Unit × Unit × List AV × Int × Int × Unit) × ((List AV × Int × Int × List AV × Unit) × (Int × Unit × Int × Int × Unit × Unit) × (Int × List AV × Int × Int × List AV × Unit) × List AV × Unit)) p0 fun z51 ag52 =>
 ITE (decide (z51.1.2.2.2.2.2.2.1 < z51.1.2.2.2.2.2.1))
 (0 ≤ z51.1.2.2.2.2.2.2.1 ∧
 z51.1.2.2.2.2.2.2.1 < List.length z51.1.2.2.2.2.1 ∧
 ∃ (l53 : List AV) (i54 i55 : Int) (l56 : List AV),
 List.getD z51.1.2.2.2.2.1 (Int.toNat z51.1.2.2.2.2.2.2.1) .top = .agg [.sl l53, nI i54, nI i55, .sl l56] ∧
 ∃ (i57 : Int) (l58 : List AV) (i59 i60 : Int) (l61 : List AV),
 PureIs Try.prog 57 [.agg [.sl l53, nI i54, nI i55, .sl l56]] (.agg [nI i57, .sl l58, nI i59, nI i60, .sl l61]) ∧
 List.length z51.2.2.2.2.1 = List.length z51.2.2.2.2.1 ∧
 appOk td81 (List.length (z51.2.2.2.2.1 ++ [.agg [nI i57, .sl l58, nI i59, nI i60, .sl l61]])) [] [.agg [nI i57, .sl l58, nI i59, nI i60, .sl l61]] ∧
 List.length (z51.2.2.2.2.1 ++ [.agg [nI i57, .sl l58, nI i59, nI i60, .sl l61]]) = List.length (z51.2.2.2.2.1 ++ [.agg [nI i57, .sl l58, nI i59, nI i60, .sl l61]]) ∧
 ag52 (((), (), (), (), z51.1.2.2.2.2.1, z51.1.2.2.2.2.2.1, IntKind.wrap .i64 (z51.1.2.2.2.2.2.2.1 + 1), ()), ((z51.2.1.1, z51.2.1.2.1, z51.2.1.2.2.1, z51.2.1.2.2.2.1, ()), (z51.2.2.1.1, (), z51.2.2.1.2.2.1, z51.2.2.1.2.2.2.1, (), ()), (z51.2.2.2.1.1, z51.2.2.2.1.2.1, z51.2.2.2.1.2.2.1, z51.2.2.2.1.2.2.2.1, z51.2.2.2.1.2.2.2.2.1, ()), z51.2.2.2.2.1 ++ [.agg [nI i57, .sl l58, nI i59, nI i60, .sl l61]], ())))
 (List.length z51.2.2.2.2.1 = List.length z51.2.2.2.2.1 ∧
 ∃ (i62 : Int) (l63 : List AV) (i64 i65 : Int) (l66 : List AV),
 PureIs Try.prog 41 [.agg [nI z51.2.2.2.1.1, .sl z51.2.2.2.1.2.1, nI z51.2.2.2.1.2.2.1, nI z51.2.2.2.1.2.2.2.1, .sl z51.2.2.2.1.2.2.2.2.1], .sl z51.2.2.2.2.1] (.agg [nI i62, .sl l63, nI i64, nI i65, .sl l66]) ∧
 ∃ (i67 : Int) (l68 : List AV) (i69 i70 : Int) (l71 : List AV),
 PureIs Try.prog 40 [.agg [nI i62, .sl l63, nI i64, nI i65, .sl l66], .sl z51.2.1.1] (.agg [nI i67, .sl l68, nI i69, nI i70, .sl l71]) ∧
 R (.agg [nI i67, .sl l68, nI i69, nI i70, .sl l71]))
def vc57 (a0_0 : List AV) (a0_1 : Int) (a0_2 : Int) (a0_3 : List AV) (R : AV → Prop) : Prop :=
 ∃ (i1 : Int) (l2 : List AV) (i3 i4 : Int) (l5 : List AV),
 PureIs Try.prog 42 [nI a0_1, nI a0_2] (.agg [nI i1, .sl l2, nI i3, nI i4, .sl l5]) ∧
 0 = List.length ([] : List AV) ∧
 vc57_L4 (((), (), (), (), a0_3, ((List.length a0_3 : Nat) : Int), 0, ()), ((a0_0, a0_1, a0_2, a0_3, ()), (0, (), 0, 0, (), ()), (i1, l2, i3, i4, l5, ()), [], ())) R
theorem vc57_ok {a0_0 : List AV} {a0_1 : Int} {a0_2 : Int} {a0_3 : List AV} {R : AV → Prop} (h : vc57 a0_0 a0_1 a0_2 a0_3 R) : Pure Try.prog 57 [.agg [.sl a0_0, nI a0_1, nI a0_2, .sl a0_3]] R :=
  pure_of_code (C := cfg (Func.ntmps Try.f57)) (cfg_tab _ _ _ _ _) (cfg_ord _ _ _ _ _) (L := [{ key := 4, live := [(1, none), (2, none), (3, none), (4, none), (15, none), (16, none), (17, none)], rows := [(4, 81)] }]) (fn := Try.f57) Try.func57 rfl (by kernel_rfl) (by kernel_rfl) (by rfl) (of_eq (by kernel_rfl) h)

/-- filigreeref07.From -/
def vc58_L7 (p0 : (Unit × Unit × Unit × Int × Unit) × ((List AV × Int × Int × List AV × Unit) × (Int × Unit × Int × Int × Unit × Unit) × (Int × List AV × Int × Int × List AV × Unit) × Unit)) (R : AV → Prop) : Prop :=
 LoopP ((Unit × Unit × Unit × Int × Unit) × ((List AV × Int × Int × List AV × Unit) × (Int × Unit × Int × Int × Unit × Unit) × (Int × List AV × Int × Int × List AV × Unit) × Unit)) p0 fun z51 ag52 =>
 ITE (decide (z51.1.2.2.2.1 ≥ 0))
 (0 ≤ z51.1.2.2.2.1 ∧
 z51.1.2.2.2.1 < List.length z51.2.1.1 ∧
 ∃ (l53 : List AV) (i54 : Int),
 List.getD z51.2.1.1 (Int.toNat z51.1.2.2.2.1) .top = .agg [.sl l53, nI i54] ∧
 ag52 (((), (), (), IntKind.wrap .i64 (z51.1.2.2.2.1 - 1), ()), ((z51.2.1.1, z51.2.1.2.1, z51.2.1.2.2.1, z51.2.1.2.2.2.1, ()), (z51.2.2.1.1, (), z51.2.2.1.2.2.1, z51.2.2.1.2.2.2.1, (), ()), (3, l53, i54, 0, [.agg [nI z51.2.2.2.1.1, .sl z51.2.2.2.1.2.1, nI z51.2.2.2.1.2.2.1, nI z51.2.2.2.1.2.2.2.1, .sl z51.2.2.2.1.2.2.2.2.1]], ()), ())))
 (R (.agg [nI z51.2.2.2.1.1, .sl z51.2.2.2.1.2.1, nI z51.2.2.2.1.2.2.1, nI z51.2.2.2.1.2.2.2.1, .sl z51.2.2.2.1.2.2.2.2.1]))
def vc58_L3 (p0 : (Unit × Unit × Unit × Int × Unit) × ((List AV × Int × Int × List AV × Unit) × (Int × Unit × Int × Int × Unit × Unit) × (Int × Unit × Int × Int × List AV × Unit) × Unit)) (R : AV → Prop) : Prop :=
 LoopP ((Unit × Unit × Unit × Int × Unit) × ((List AV × Int × Int × List AV × Unit) × (Int × Unit × Int × Int × Unit × Unit) × (Int × Unit × Int × Int × List AV × Unit) × Unit)) p0 fun z51 ag52 =>
 ITE (decide (z51.1.2.2.2.1 < ((List.length z51.2.1.2.2.2.1 : Nat) : Int)))
 (0 ≤ z51.1.2.2.2.1 ∧
 z51.1.2.2.2.1 < List.length z51.2.1.2.2.2.1 ∧
 ∃ (l53 : List AV) (i54 i55 : Int) (l56 : List AV),
 List.getD z51.2.1.2.2.2.1 (Int.toNat z51.1.2.2.2.1) .top = .agg [.sl l53, nI i54, nI i55, .sl l56] ∧
 ∃ (i57 : Int) (l58 : List AV) (i59 i60 : Int) (l61 : List AV),
 PureIs Try.prog 58 [.agg [.sl l53, nI i54, nI i55, .sl l56]] (.agg [nI i57, .sl l58, nI i59, nI i60, .sl l61]) ∧
 ag52 (((), (), (), IntKind.wrap .i64 (z51.1.2.2.2.1 + 1), ()), ((z51.2.1.1, z51.2.1.2.1, z51.2.1.2.2.1, z51.2.1.2.2.2.1, ()), (z51.2.2.1.1, (), z51.2.2.1.2.2.1, z51.2.2.1.2.2.2.1, (), ()), (4, (), 0, 0, [.agg [nI z51.2.2.2.1.1, .sl [], nI z51.2.2.2.1.2.2.1, nI z51.2.2.2.1.2.2.2.1, .sl z51.2.2.2.1.2.2.2.2.1], .agg [nI i57, .sl l58, nI i59, nI i60, .sl l61]], ()), ())))
 (vc58_L7 (((), (), (), IntKind.wrap .i64 (((List.length z51.2.1.1 : Nat) : Int) - 1), ()), ((z51.2.1.1, z51.2.1.2.1, z51.2.1.2.2.1, z51.2.1.2.2.2.1, ()), (z51.2.2.1.1, (), z51.2.2.1.2.2.1, z51.2.2.1.2.2.2.1, (), ()), (z51.2.2.2.1.1, [], z51.2.2.2.1.2.2.1, z51.2.2.2.1.2.2.2.1, z51.2.2.2.1.2.2.2.2.1, ()), ())) R)
def vc58 (a0_0 : List AV) (a0_1 : Int) (a0_2 : Int) (a0_3 : List AV) (R : AV → Prop) : Prop :=
 vc58_L3 (((), (), (), 0, ()), ((a0_0, a0_1, a0_2, a0_3, ()), (0, (), 0, 0, (), ()), (a0_1, (), 0, a0_2, [], ()), ())) R
theorem vc58_ok {a0_0 : List AV} {a0_1 : Int} {a0_2 : Int} {a0_3 : List AV} {R : AV → Prop} (h : vc58 a0_0 a0_1 a0_2 a0_3 R) : Pure Try.prog 58 [.agg [.sl a0_0, nI a0_1, nI a0_2, .sl a0_3]] R :=
  pure_of_code (C := cfg (Func.ntmps Try.f58)) (cfg_tab _ _ _ _ _) (cfg_ord _ _ _ _ _) (L := [{ key := 3, live := [(1, none), (2, none), (3, none), (4, none)], osh := [(2, .box [.i .i64, .k (.prim (.slice none 0 0)), .i .i64, .i .i64, .l])] }, { key := 7, live := [(1, none), (2, none), (3, none), (5, none)], osh := [(2, .box [.i .i64, .l, .i .i64, .i .i64, .l])] }]) (fn := Try.f58) Try.func58 rfl (by kernel_rfl) (by kernel_rfl) (by rfl) (of_eq (by kernel_rfl) h)

/-- term.TypeOf -/
def vc59 (a0_0 : Int) (a0_1 : List AV) (a0_2 : List AV) (a1 : List AV) (a2_0 : List AV) (a2_1 : Int) (a2_2 : Int) (a2_3 : List AV) (R : AV → Prop) : Prop :=
 ∃ (l1 : List AV),
 PureIs Try.prog 105 [.sl a1, .sl a2_0] (.sl l1) ∧
 ∃ (l2 : List AV) (i3 : Int) (b4 : Bool),
 PureIs Try.prog 104 [.agg [nI a0_0, .sl a0_1, .sl a0_2], .sl l1, .agg [nI a2_1, nI a2_2]] (.tup [.agg [.sl l2, nI i3], nB b4]) ∧
 ITE (!b4)
 (R (.tup [.agg [.sl [], nI 0], nI 10]))
 (∃ (l5 : List AV) (i6 : Int),
 PureIs Try.prog 89 [nI i3, .sl a2_0] (.agg [.sl l5, nI i6]) ∧
 R (.tup [.agg [.sl l5, nI i6], nI 0]))
theorem vc59_ok {a0_0 : Int} {a0_1 : List AV} {a0_2 : List AV} {a1 : List AV} {a2_0 : List AV} {a2_1 : Int} {a2_2 : Int} {a2_3 : List AV} {R : AV → Prop} (h : vc59 a0_0 a0_1 a0_2 a1 a2_0 a2_1 a2_2 a2_3 R) : Pure Try.prog 59 [.agg [nI a0_0, .sl a0_1, .sl a0_2], .sl a1, .agg [.sl a2_0, nI a2_1, nI a2_2, .sl a2_3]] R :=
  pure_of_code (C := cfg (Func.ntmps Try.f59) [(1, [none, none, none, none, none, none, none, none, none, none, none, some [], none, none], [some [], none, none, some [], some [], none, some [], some [], none, none, none, none, none, none])]) (cfg_tab _ _ _ _ _) (cfg_ord _ _ _ _ _) (L := []) (fn := Try.f59) Try.func59 rfl (by kernel_rfl) (by kernel_rfl) (by rfl) (of_eq (by kernel_rfl) h)

/-- term.Check -/
def vc60 (a0_0 : Int) (a0_1 : List AV) (a0_2 : List AV) (a1 : List AV) (a2_0 : List AV) (a2_1 : Int) (a2_2 : Int) (a2_3 : List AV) (a3_0 : List AV) (a3_1 : Int) (R : AV → Prop) : Prop :=
 ∃ (b1 : Bool),
 PureIs Try.prog 106 [.agg [.sl a2_0, nI a2_1, nI a2_2, .sl a2_3]] (nB b1) ∧
 ITE (!b1)
 (R (nI 2))
 (∃ (b2 : Bool),
 PureIs Try.prog 107 [.agg [nI a0_0, .sl a0_1, .sl a0_2], .sl a1, .agg [.sl a2_0, nI a2_1, nI a2_2, .sl a2_3], .agg [.sl a3_0, nI a3_1]] (nB b2) ∧
 ITE (!b2)
 (R (nI 5))
 (R (nI 0)))
theorem vc60_ok {a0_0 : Int} {a0_1 : List AV} {a0_2 : List AV} {a1 : List AV} {a2_0 : List AV} {a2_1 : Int} {a2_2 : Int} {a2_3 : List AV} {a3_0 : List AV} {a3_1 : Int} {R : AV → Prop} (h : vc60 a0_0 a0_1 a0_2 a1 a2_0 a2_1 a2_2 a2_3 a3_0 a3_1 R) : Pure Try.prog 60 [.agg [nI a0_0, .sl a0_1, .sl a0_2], .sl a1, .agg [.sl a2_0, nI a2_1, nI a2_2, .sl a2_3], .agg [.sl a3_0, nI a3_1]] R :=
  pure_of_code (C := cfg (Func.ntmps Try.f60)) (cfg_tab _ _ _ _ _) (cfg_ord _ _ _ _ _) (L := []) (fn := Try.f60) Try.func60 rfl (by kernel_rfl) (by kernel_rfl) (by rfl) (of_eq (by kernel_rfl) h)

/-- term.RightWorld -/
def vc61 (a0_0 : Int) (a0_1 : List AV) (a0_2 : List AV) (R : AV → Prop) : Prop :=
 ITE (decide (((List.length a0_1 : Nat) : Int) > 1000))
 (R (nB false))
 (ITE (decide (((List.length a0_2 : Nat) : Int) > (IntKind.wrap .i64 (1000 - ((List.length a0_1 : Nat) : Int)))))
 (R (nB false))
 (∃ (l1 : List AV),
 PureIs Try.prog 70 [.sl [.sl a0_1, .sl a0_2]] (.sl l1) ∧
 ∃ (b2 : Bool),
 PureIs Try.prog 108 [.sl l1, .clo 109 [.eptr (.agg [nI a0_0, .sl a0_1, .sl a0_2]) 0]] (nB b2) ∧
 R (nB (!b2))))
theorem vc61_ok {a0_0 : Int} {a0_1 : List AV} {a0_2 : List AV} {R : AV → Prop} (h : vc61 a0_0 a0_1 a0_2 R) : Pure Try.prog 61 [.agg [nI a0_0, .sl a0_1, .sl a0_2]] R :=
  pure_of_code (C := cfg (Func.ntmps Try.f61) [] [(108, .frz (.v (.c (.b))))] []) (cfg_tab _ _ _ _ _) (cfg_ord _ _ _ _ _) (L := []) (fn := Try.f61) Try.func61 rfl (by kernel_rfl) (by kernel_rfl) (by rfl) (of_eq (by kernel_rfl) h)

/-- filigreeref07.Few -/
def vc88 (a0_0 : Int) (a0_1 : List AV) (a0_2 : Int) (a0_3 : Int) (a0_4 : List AV) (a1 : Int) (a2 : Int) (R : AV → Prop) : Prop :=
 ∃ (i1 : Int),
 PureIs Try.prog 119 [.agg [nI a0_0, .sl a0_1, nI a0_2, nI a0_3, .sl a0_4], nI a1, nI a2] (nI i1) ∧
 R (nB (decide (i1 ≤ a1)))
theorem vc88_ok {a0_0 : Int} {a0_1 : List AV} {a0_2 : Int} {a0_3 : Int} {a0_4 : List AV} {a1 : Int} {a2 : Int} {R : AV → Prop} (h : vc88 a0_0 a0_1 a0_2 a0_3 a0_4 a1 a2 R) : Pure Try.prog 88 [.agg [nI a0_0, .sl a0_1, nI a0_2, nI a0_3, .sl a0_4], nI a1, nI a2] R :=
  pure_of_code (C := cfg (Func.ntmps Try.f88)) (cfg_tab _ _ _ _ _) (cfg_ord _ _ _ _ _) (L := []) (fn := Try.f88) Try.func88 rfl (by kernel_rfl) (by kernel_rfl) (by rfl) (of_eq (by kernel_rfl) h)

/-- raw.copied -/
def vc90_L3 (p0 : (Unit × Unit × List AV × Int × Int × Unit) × ((Int × List AV × Int × Int × List AV × Unit) × (Int × Unit × Int × Int × Unit × Unit) × (Int × List AV × Int × Int × Unit × Unit) × List AV × Unit)) (R : AV → Prop) : Prop :=
 LoopP ((Unit × Unit × List AV × Int × Int × Unit) × ((Int × List AV × Int × Int × List AV × Unit) × (Int × Unit × Int × Int × Unit × Unit) × (Int × List AV × Int × Int × Unit × Unit) × List AV × Unit)) p0 fun z51 ag52 =>
 ITE (decide (z51.1.2.2.2.2.1 < z51.1.2.2.2.1))
 (0 ≤ z51.1.2.2.2.2.1 ∧
 z51.1.2.2.2.2.1 < List.length z51.1.2.2.1 ∧
 ∃ (i53 : Int) (l54 : List AV) (i55 i56 : Int) (l57 : List AV),
 List.getD z51.1.2.2.1 (Int.toNat z51.1.2.2.2.2.1) .top = .agg [nI i53, .sl l54, nI i55, nI i56, .sl l57] ∧
 ∃ (i58 : Int) (l59 : List AV) (i60 i61 : Int) (l62 : List AV),
 PureIs Try.prog 90 [.agg [nI i53, .sl l54, nI i55, nI i56, .sl l57]] (.agg [nI i58, .sl l59, nI i60, nI i61, .sl l62]) ∧
 List.length z51.2.2.2.2.1 = List.length z51.2.2.2.2.1 ∧
 appOk td81 (List.length (z51.2.2.2.2.1 ++ [.agg [nI i58, .sl l59, nI i60, nI i61, .sl l62]])) [] [.agg [nI i58, .sl l59, nI i60, nI i61, .sl l62]] ∧
 List.length (z51.2.2.2.2.1 ++ [.agg [nI i58, .sl l59, nI i60, nI i61, .sl l62]]) = List.length (z51.2.2.2.2.1 ++ [.agg [nI i58, .sl l59, nI i60, nI i61, .sl l62]]) ∧
 ag52 (((), (), z51.1.2.2.1, z51.1.2.2.2.1, IntKind.wrap .i64 (z51.1.2.2.2.2.1 + 1), ()), ((z51.2.1.1, z51.2.1.2.1, z51.2.1.2.2.1, z51.2.1.2.2.2.1, z51.2.1.2.2.2.2.1, ()), (z51.2.2.1.1, (), z51.2.2.1.2.2.1, z51.2.2.1.2.2.2.1, (), ()), (z51.2.2.2.1.1, z51.2.2.2.1.2.1, z51.2.2.2.1.2.2.1, z51.2.2.2.1.2.2.2.1, (), ()), z51.2.2.2.2.1 ++ [.agg [nI i58, .sl l59, nI i60, nI i61, .sl l62]], ())))
 (List.length z51.2.2.2.2.1 = List.length z51.2.2.2.2.1 ∧
 R (.agg [nI z51.2.2.2.1.1, .sl z51.2.2.2.1.2.1, nI z51.2.2.2.1.2.2.1, nI z51.2.2.2.1.2.2.2.1, .sl z51.2.2.2.2.1]))
def vc90 (a0_0 : Int) (a0_1 : List AV) (a0_2 : Int) (a0_3 : Int) (a0_4 : List AV) (R : AV → Prop) : Prop :=
 ∃ (l1 : List AV) (i2 : Int),
 PureIs Try.prog 92 [.agg [.sl a0_1, nI a0_2], .sl []] (.agg [.sl l1, nI i2]) ∧
 0 = List.length ([] : List AV) ∧
 vc90_L3 (((), (), a0_4, ((List.length a0_4 : Nat) : Int), 0, ()), ((a0_0, a0_1, a0_2, a0_3, a0_4, ()), (0, (), 0, 0, (), ()), (a0_0, l1, i2, a0_3, (), ()), [], ())) R
theorem vc90_ok {a0_0 : Int} {a0_1 : List AV} {a0_2 : Int} {a0_3 : Int} {a0_4 : List AV} {R : AV → Prop} (h : vc90 a0_0 a0_1 a0_2 a0_3 a0_4 R) : Pure Try.prog 90 [.agg [nI a0_0, .sl a0_1, nI a0_2, nI a0_3, .sl a0_4]] R :=
  pure_of_code (C := cfg (Func.ntmps Try.f90) [(1, [none, none, none, none, none, none, none, none, some [], none], [none, some [], none, some [], some [], none, some [], none, none, none])]) (cfg_tab _ _ _ _ _) (cfg_ord _ _ _ _ _) (L := [{ key := 3, live := [(2, none), (3, none), (15, none), (16, none), (17, none)], brows := [(2, 4, 81)] }]) (fn := Try.f90) Try.func90 rfl (by kernel_rfl) (by kernel_rfl) (by rfl) (of_eq (by kernel_rfl) h)

/-- raw.infer -/
def vc93_L5 (p0 : List AV) (p1 : Int) (p2 : List AV) (p3 : Int) (p4 : List AV) (p5 : List AV) (p6 : Int) (p7 : List AV) (p8 : Int) (p9 : Int) (p10 : List AV) (R : AV → Prop) : Prop :=
 (([.agg [.sl p0, nI p1]] : List AV) = [] → (p2 : List AV) = []) ∧
 appOk td79 (List.length (p2 ++ [.agg [.sl p0, nI p1]])) p2 [.agg [.sl p0, nI p1]] ∧
 List.length (p2 ++ [.agg [.sl p0, nI p1]]) = List.length (p2 ++ [.agg [.sl p0, nI p1]]) ∧
 ∃ (l53 : List AV) (i54 i55 : Int),
 PureIs Try.prog 93 [.agg [nI p3, .sl p4, .sl p5], .sl (p2 ++ [.agg [.sl p0, nI p1]]), .agg [nI p6, .sl p7, nI p8, nI p9, .sl p10]] (.tup [.agg [.sl l53, nI i54], nI i55]) ∧
 ITE (i55 != 0)
 (R (.tup [.agg [.sl [], nI 0], nI i55]))
 (∃ (l64 : List AV) (i65 : Int),
 PureIs Try.prog 92 [.agg [.sl l53, nI i54], .sl [.agg [.sl p0, nI p1]]] (.agg [.sl l64, nI i65]) ∧
 ∃ (i66 : Int),
 PureIs Try.prog 123 [.agg [.sl l64, nI i65]] (nI i66) ∧
 ITE (decide (i66 > 1000))
 (R (.tup [.agg [.sl [], nI 0], nI 2]))
 (R (.tup [.agg [.sl l64, nI i65], nI 0])))
def vc93 (a0_0 : Int) (a0_1 : List AV) (a0_2 : List AV) (a1 : List AV) (a2_0 : Int) (a2_1 : List AV) (a2_2 : Int) (a2_3 : Int) (a2_4 : List AV) (R : AV → Prop) : Prop :=
 ITE (a2_0 == 3)
 (∃ (b1 : Bool),
 PureIs Try.prog 110 [.agg [.sl a2_1, nI a2_2], nI a0_0] (nB b1) ∧
 ITE (!b1)
 (R (.tup [.agg [.sl [], nI 0], nI 2]))
 (∃ (l2 : List AV),
 PureIs Try.prog 122 [.sl a1] (.clip l2) ∧
 0 ≤ (0 : Int) ∧
 (0 : Int) < List.length a2_4 ∧
 ∃ (i3 : Int) (l4 : List AV) (i5 i6 : Int) (l7 : List AV),
 List.getD a2_4 (Int.toNat 0) .top = .agg [nI i3, .sl l4, nI i5, nI i6, .sl l7] ∧
 (vc93_L5 a2_1 a2_2 l2 a0_0 a0_1 a0_2 i3 l4 i5 i6 l7 R) ∧
 (vc93_L5 a2_1 a2_2 l2 a0_0 a0_1 a0_2 i3 l4 i5 i6 l7 R)))
 (ITE (a2_0 == 4)
 (0 ≤ (0 : Int) ∧
 (0 : Int) < List.length a2_4 ∧
 ∃ (i20 : Int) (l21 : List AV) (i22 i23 : Int) (l24 : List AV),
 List.getD a2_4 (Int.toNat 0) .top = .agg [nI i20, .sl l21, nI i22, nI i23, .sl l24] ∧
 ∃ (l25 : List AV) (i26 i27 : Int),
 PureIs Try.prog 93 [.agg [nI a0_0, .sl a0_1, .sl a0_2], .sl a1, .agg [nI i20, .sl l21, nI i22, nI i23, .sl l24]] (.tup [.agg [.sl l25, nI i26], nI i27]) ∧
 ITE (i27 != 0)
 (R (.tup [.agg [.sl [], nI 0], nI i27]))
 (0 ≤ (1 : Int) ∧
 (1 : Int) < List.length a2_4 ∧
 ∃ (i28 : Int) (l29 : List AV) (i30 i31 : Int) (l32 : List AV),
 List.getD a2_4 (Int.toNat 1) .top = .agg [nI i28, .sl l29, nI i30, nI i31, .sl l32] ∧
 ∃ (l33 : List AV) (i34 i35 : Int),
 PureIs Try.prog 93 [.agg [nI a0_0, .sl a0_1, .sl a0_2], .sl a1, .agg [nI i28, .sl l29, nI i30, nI i31, .sl l32]] (.tup [.agg [.sl l33, nI i34], nI i35]) ∧
 ITE (i35 != 0)
 (R (.tup [.agg [.sl [], nI 0], nI i35]))
 (ITE (((List.length l25 : Nat) : Int) == 0)
 (R (.tup [.agg [.sl [], nI 0], nI 5]))
 (0 ≤ (0 : Int) ∧
 (0 : Int) < List.length l25 ∧
 ∃ (l36 : List AV) (i37 : Int),
 List.getD l25 (Int.toNat 0) .top = .agg [.sl l36, nI i37] ∧
 ∃ (b38 : Bool),
 PureIs Try.prog 50 [.agg [.sl l36, nI i37], .agg [.sl l33, nI i34]] (nB b38) ∧
 ITE (!b38)
 (R (.tup [.agg [.sl [], nI 0], nI 5]))
 (∃ (l39 : List AV) (i40 i41 : Int),
 PureIs Try.prog 124 [.agg [.sl l25, nI i26], nI 1] (.tup [.agg [.sl l39, nI i40], nI i41]) ∧
 R (.tup [.agg [.sl l39, nI i40], nI i41]))))))
 (∃ (l42 : List AV) (i43 i44 : Int),
 PureIs Try.prog 125 [.agg [nI a0_0, .sl a0_1, .sl a0_2], .sl a1, .agg [nI a2_0, nI a2_3]] (.tup [.agg [.sl l42, nI i43], nI i44]) ∧
 ITE (i44 == 0)
 (∃ (i45 : Int),
 PureIs Try.prog 123 [.agg [.sl l42, nI i43]] (nI i45) ∧
 ITE (decide (i45 > 1000))
 (R (.tup [.agg [.sl [], nI 0], nI 2]))
 (R (.tup [.agg [.sl l42, nI i43], nI i44])))
 (R (.tup [.agg [.sl l42, nI i43], nI i44]))))
theorem vc93_ok {a0_0 : Int} {a0_1 : List AV} {a0_2 : List AV} {a1 : List AV} {a2_0 : Int} {a2_1 : List AV} {a2_2 : Int} {a2_3 : Int} {a2_4 : List AV} {R : AV → Prop} (h : vc93 a0_0 a0_1 a0_2 a1 a2_0 a2_1 a2_2 a2_3 a2_4 R) : Pure Try.prog 93 [.agg [nI a0_0, .sl a0_1, .sl a0_2], .sl a1, .agg [nI a2_0, .sl a2_1, nI a2_2, nI a2_3, .sl a2_4]] R :=
  pure_of_code (C := cfg (Func.ntmps Try.f93) [(5, [none, none, none, none, none, none, some [], none, none, none, none, none, none, none, none, some [], none, none], [some [], none, some [], none, some [], some [], none, none, some [], some [], some [], some [], none, none, none, none, none, none]), (13, [none, none, none, none, none, none, none, none, none, none, some [], none, none], [some [], none, none, some [], some [], some [], some [], none, none, none, none, none, none]), (16, [none, none, none, none, none, none, none, none, none, none, some [], none, none], [some [], none, none, some [], some [], some [], some [], none, none, none, none, none, none])] [] [] [(5, (.val 0 (.val 1 (.val 2 (.val 3 (.val 4 (.val 5 (.val 7 (.val 8 (.val 9 (.val 10 (.two 6 (.val 11 (.val 12 (.val 13 (.val 14 (.eff 15 (.eff 16 (.val 17 .done))))))) 15 (.eff 6 (.val 11 (.val 12 (.val 13 (.val 14 (.eff 16 (.val 17 .done)))))))))))))))))))]) (cfg_tab _ _ _ _ _) (cfg_ord _ _ _ _ _) (L := []) (fn := Try.f93) Try.func93 rfl (by kernel_rfl) (by kernel_rfl) (by rfl) (of_eq (by kernel_rfl) h)

/-- filigreeref07.infer -/
def vc94 (a0_0 : Int) (a0_1 : List AV) (a0_2 : List AV) (a1 : List AV) (a2_0 : Int) (a2_1 : List AV) (a2_2 : Int) (a2_3 : Int) (a2_4 : List AV) (R : AV → Prop) : Prop :=
 ITE (decide (a2_0 < 3))
 (∃ (l1 : List AV) (i2 : Int) (b3 : Bool),
 PureIs Try.prog 126 [.agg [nI a0_0, .sl a0_1, .sl a0_2], .sl a1, .agg [nI a2_0, nI a2_3]] (.tup [.agg [.sl l1, nI i2], nB b3]) ∧
 ITE (!b3)
 (R (.tup [.agg [.sl [], nI 0], nI 10]))
 (∃ (i4 : Int),
 PureIs Try.prog 127 [.agg [.sl l1, nI i2]] (nI i4) ∧
 ITE (decide (i4 > 1000))
 (R (.tup [.agg [.sl [], nI 0], nI 2]))
 (R (.tup [.agg [.sl l1, nI i2], nI 0]))))
 (ITE (a2_0 == 3)
 (∃ (b5 : Bool),
 PureIs Try.prog 128 [.agg [.sl a2_1, nI a2_2], nI a0_0] (nB b5) ∧
 ITE (!b5)
 (R (.tup [.agg [.sl [], nI 0], nI 2]))
 (∃ (l6 : List AV),
 PureIs Try.prog 63 [.sl a1, .sl [.agg [.sl a2_1, nI a2_2]]] (.sl l6) ∧
 0 ≤ (0 : Int) ∧
 (0 : Int) < List.length a2_4 ∧
 ∃ (i7 : Int) (l8 : List AV) (i9 i10 : Int) (l11 : List AV),
 List.getD a2_4 (Int.toNat 0) .top = .agg [nI i7, .sl l8, nI i9, nI i10, .sl l11] ∧
 ∃ (l12 : List AV) (i13 i14 : Int),
 PureIs Try.prog 94 [.agg [nI a0_0, .sl a0_1, .sl a0_2], .sl l6, .agg [nI i7, .sl l8, nI i9, nI i10, .sl l11]] (.tup [.agg [.sl l12, nI i13], nI i14]) ∧
 ITE (i14 != 0)
 (R (.tup [.agg [.sl [], nI 0], nI i14]))
 (∃ (l15 : List AV) (i16 : Int),
 PureIs Try.prog 129 [.agg [.sl l12, nI i13], .sl [.agg [.sl a2_1, nI a2_2]]] (.agg [.sl l15, nI i16]) ∧
 ∃ (i17 : Int),
 PureIs Try.prog 127 [.agg [.sl l15, nI i16]] (nI i17) ∧
 ITE (decide (i17 > 1000))
 (R (.tup [.agg [.sl [], nI 0], nI 2]))
 (R (.tup [.agg [.sl l15, nI i16], nI 0])))))
 (0 ≤ (0 : Int) ∧
 (0 : Int) < List.length a2_4 ∧
 ∃ (i18 : Int) (l19 : List AV) (i20 i21 : Int) (l22 : List AV),
 List.getD a2_4 (Int.toNat 0) .top = .agg [nI i18, .sl l19, nI i20, nI i21, .sl l22] ∧
 ∃ (l23 : List AV) (i24 i25 : Int),
 PureIs Try.prog 94 [.agg [nI a0_0, .sl a0_1, .sl a0_2], .sl a1, .agg [nI i18, .sl l19, nI i20, nI i21, .sl l22]] (.tup [.agg [.sl l23, nI i24], nI i25]) ∧
 ITE (i25 != 0)
 (R (.tup [.agg [.sl [], nI 0], nI i25]))
 (0 ≤ (1 : Int) ∧
 (1 : Int) < List.length a2_4 ∧
 ∃ (i26 : Int) (l27 : List AV) (i28 i29 : Int) (l30 : List AV),
 List.getD a2_4 (Int.toNat 1) .top = .agg [nI i26, .sl l27, nI i28, nI i29, .sl l30] ∧
 ∃ (l31 : List AV) (i32 i33 : Int),
 PureIs Try.prog 94 [.agg [nI a0_0, .sl a0_1, .sl a0_2], .sl a1, .agg [nI i26, .sl l27, nI i28, nI i29, .sl l30]] (.tup [.agg [.sl l31, nI i32], nI i33]) ∧
 ITE (i33 != 0)
 (R (.tup [.agg [.sl [], nI 0], nI i33]))
 (ITE (((List.length l23 : Nat) : Int) == 0)
 (R (.tup [.agg [.sl [], nI 0], nI 5]))
 (0 ≤ (0 : Int) ∧
 (0 : Int) < List.length l23 ∧
 ∃ (l34 : List AV) (i35 : Int),
 List.getD l23 (Int.toNat 0) .top = .agg [.sl l34, nI i35] ∧
 ∃ (b36 : Bool),
 PureIs Try.prog 46 [.agg [.sl l34, nI i35], .agg [.sl l31, nI i32]] (nB b36) ∧
 ITE (!b36)
 (R (.tup [.agg [.sl [], nI 0], nI 5]))
 (∃ (l37 : List AV) (i38 : Int),
 PureIs Try.prog 130 [.agg [.sl l23, nI i24], nI 1] (.agg [.sl l37, nI i38]) ∧
 R (.tup [.agg [.sl l37, nI i38], nI 0])))))))
theorem vc94_ok {a0_0 : Int} {a0_1 : List AV} {a0_2 : List AV} {a1 : List AV} {a2_0 : Int} {a2_1 : List AV} {a2_2 : Int} {a2_3 : Int} {a2_4 : List AV} {R : AV → Prop} (h : vc94 a0_0 a0_1 a0_2 a1 a2_0 a2_1 a2_2 a2_3 a2_4 R) : Pure Try.prog 94 [.agg [nI a0_0, .sl a0_1, .sl a0_2], .sl a1, .agg [nI a2_0, .sl a2_1, nI a2_2, nI a2_3, .sl a2_4]] R :=
  pure_of_code (C := cfg (Func.ntmps Try.f94) [(12, [none, none, none, none, none, none, none, none, none, none, none, none, none, none, some [], none, none], [some [], none, none, some [], some [], some [], none, some [], some [], some [], some [], none, none, none, none, none, none]), (19, [none, none, none, none, none, none, none, none, none, none, some [], none, none], [some [], none, none, some [], some [], some [], some [], none, none, none, none, none, none]), (22, [none, none, none, none, none, none, none, none, none, none, some [], none, none], [some [], none, none, some [], some [], some [], some [], none, none, none, none, none, none])]) (cfg_tab _ _ _ _ _) (cfg_ord _ _ _ _ _) (L := []) (fn := Try.f94) Try.func94 rfl (by kernel_rfl) (by kernel_rfl) (by rfl) (of_eq (by kernel_rfl) h)

/-- raw.step -/
def vc_stepR (a0_0 : Int) (a0_1 : List AV) (a0_2 : Int) (a0_3 : Int) (a0_4 : List AV) (R : AV → Prop) : Prop :=
 PureIs Try.prog 131 [.agg [nI a0_0, .sl a0_1, nI a0_2, nI a0_3, .sl a0_4]] (nB true) ∧
 0 ≤ (0 : Int) ∧
 (0 : Int) < List.length a0_4 ∧
 ∃ (i1 : Int) (l2 : List AV) (i3 i4 : Int) (l5 : List AV),
 List.getD a0_4 (Int.toNat 0) .top = .agg [nI i1, .sl l2, nI i3, nI i4, .sl l5] ∧
 0 ≤ (0 : Int) ∧
 (0 : Int) < List.length l5 ∧
 ∃ (i6 : Int) (l7 : List AV) (i8 i9 : Int) (l10 : List AV),
 List.getD l5 (Int.toNat 0) .top = .agg [nI i6, .sl l7, nI i8, nI i9, .sl l10] ∧
 0 ≤ (1 : Int) ∧
 (1 : Int) < List.length a0_4 ∧
 ∃ (i11 : Int) (l12 : List AV) (i13 i14 : Int) (l15 : List AV),
 List.getD a0_4 (Int.toNat 1) .top = .agg [nI i11, .sl l12, nI i13, nI i14, .sl l15] ∧
 ∃ (i16 : Int) (l17 : List AV) (i18 i19 : Int) (l20 : List AV),
 PureIs Try.prog 132 [.agg [nI i6, .sl l7, nI i8, nI i9, .sl l10], .agg [nI i11, .sl l12, nI i13, nI i14, .sl l15]] (.agg [nI i16, .sl l17, nI i18, nI i19, .sl l20]) ∧
 R (.tup [.agg [nI i16, .sl l17, nI i18, nI i19, .sl l20], nB true])
theorem vc_stepR_ok {a0_0 : Int} {a0_1 : List AV} {a0_2 : Int} {a0_3 : Int} {a0_4 : List AV} {R : AV → Prop} (h : vc_stepR a0_0 a0_1 a0_2 a0_3 a0_4 R) : Pure Try.prog 95 [.agg [nI a0_0, .sl a0_1, nI a0_2, nI a0_3, .sl a0_4]] R :=
  pure_of_code (C := cfg (Func.ntmps Try.f95) [] [(131, .one (.v (.c (.k (.prim (.bool true))))))] []) (cfg_tab _ _ _ _ _) (cfg_ord _ _ _ _ _) (L := [{ key := 4, live := [(1, none), (2, none), (23, none), (24, none), (25, none)] }]) (fn := Try.f95) Try.func95 rfl (by kernel_rfl) (by kernel_rfl) (by rfl) (of_eq (by kernel_rfl) h)

/-- raw.step -/
def vc_stepN_L4 (p0 : (Unit × Unit × List AV × Int × Int × Unit) × ((Int × List AV × Int × Int × List AV × Unit) × (Int × Unit × Int × Int × Unit × Unit) × Unit)) (R : AV → Prop) : Prop :=
 LoopP ((Unit × Unit × List AV × Int × Int × Unit) × ((Int × List AV × Int × Int × List AV × Unit) × (Int × Unit × Int × Int × Unit × Unit) × Unit)) p0 fun z51 ag52 =>
 ITE (decide (z51.1.2.2.2.2.1 < z51.1.2.2.2.1))
 (0 ≤ z51.1.2.2.2.2.1 ∧
 z51.1.2.2.2.2.1 < List.length z51.1.2.2.1 ∧
 ∃ (i53 : Int) (l54 : List AV) (i55 i56 : Int) (l57 : List AV),
 List.getD z51.1.2.2.1 (Int.toNat z51.1.2.2.2.2.1) .top = .agg [nI i53, .sl l54, nI i55, nI i56, .sl l57] ∧
 ∃ (i58 : Int) (l59 : List AV) (i60 i61 : Int) (l62 : List AV),
 PureIs Try.prog 95 [.agg [nI i53, .sl l54, nI i55, nI i56, .sl l57]] (.tup [.agg [nI i58, .sl l59, nI i60, nI i61, .sl l62], nB false]) ∧
 ag52 (((), (), z51.1.2.2.1, z51.1.2.2.2.1, IntKind.wrap .i64 (z51.1.2.2.2.2.1 + 1), ()), ((z51.2.1.1, z51.2.1.2.1, z51.2.1.2.2.1, z51.2.1.2.2.2.1, z51.2.1.2.2.2.2.1, ()), (z51.2.2.1.1, (), z51.2.2.1.2.2.1, z51.2.2.1.2.2.2.1, (), ()), ())))
 (R (.tup [.agg [nI z51.2.1.1, .sl z51.2.1.2.1, nI z51.2.1.2.2.1, nI z51.2.1.2.2.2.1, .sl z51.2.1.2.2.2.2.1], nB false]))
def vc_stepN (a0_0 : Int) (a0_1 : List AV) (a0_2 : Int) (a0_3 : Int) (a0_4 : List AV) (R : AV → Prop) : Prop :=
 PureIs Try.prog 131 [.agg [nI a0_0, .sl a0_1, nI a0_2, nI a0_3, .sl a0_4]] (nB false) ∧
 vc_stepN_L4 (((), (), a0_4, ((List.length a0_4 : Nat) : Int), 0, ()), ((a0_0, a0_1, a0_2, a0_3, a0_4, ()), (0, (), 0, 0, (), ()), ())) R
theorem vc_stepN_ok {a0_0 : Int} {a0_1 : List AV} {a0_2 : Int} {a0_3 : Int} {a0_4 : List AV} {R : AV → Prop} (h : vc_stepN a0_0 a0_1 a0_2 a0_3 a0_4 R) : Pure Try.prog 95 [.agg [nI a0_0, .sl a0_1, nI a0_2, nI a0_3, .sl a0_4]] R :=
  pure_of_code (C := cfg (Func.ntmps Try.f95) [] [(131, .one (.v (.c (.k (.prim (.bool false)))))), (95, .one (.t [.a [.i .i64, .l, .i .i64, .i .i64, .l], .c (.k (.prim (.bool false)))]))] []) (cfg_tab _ _ _ _ _) (cfg_ord _ _ _ _ _) (L := [{ key := 4, live := [(1, none), (2, none), (23, none), (24, none), (25, none)] }]) (fn := Try.f95) Try.func95 rfl (by kernel_rfl) (by kernel_rfl) (by rfl) (of_eq (by kernel_rfl) h)

/-- raw.sound -/
def vc96_L5 (p0 : (Int × Unit × List AV × Int × Int × Unit) × ((Int × List AV × Int × Int × List AV × Unit) × (Int × Unit) × (Int × List AV × Int × Int × List AV × Unit) × Unit)) (R : AV → List AObj → Prop) : Prop :=
 LoopP ((Int × Unit × List AV × Int × Int × Unit) × ((Int × List AV × Int × Int × List AV × Unit) × (Int × Unit) × (Int × List AV × Int × Int × List AV × Unit) × Unit)) p0 fun z51 ag52 =>
 ITE (decide (z51.1.2.2.2.2.1 < z51.1.2.2.2.1))
 (0 ≤ z51.1.2.2.2.2.1 ∧
 z51.1.2.2.2.2.1 < List.length z51.1.2.2.1 ∧
 ∃ (i53 : Int) (l54 : List AV) (i55 i56 : Int) (l57 : List AV),
 List.getD z51.1.2.2.1 (Int.toNat z51.1.2.2.2.2.1) .top = .agg [nI i53, .sl l54, nI i55, nI i56, .sl l57] ∧
 ∃ (S58 : AV → List AObj → Prop),
 HFn Try.prog 96 [.agg [nI i53, .sl l54, nI i55, nI i56, .sl l57], nI (IntKind.wrap .i64 (z51.1.1 + 1)), .ptr 1 0] [.box [nI z51.2.1.1, .sl z51.2.1.2.1, nI z51.2.1.2.2.1, nI z51.2.1.2.2.2.1, .sl z51.2.1.2.2.2.2.1], .box [nI z51.2.2.1.1]] S58 ∧
 ∀ (r59 : AV) (q60 : List AObj), S58 r59 q60 →
 ∃ (i61 : Int) (l62 : List AV) (i63 i64 : Int) (l65 : List AV) (i66 : Int) (b67 : Bool),
 (r59 = nB b67 ∧ q60 = [.box [nI i61, .sl l62, nI i63, nI i64, .sl l65], .box [nI i66]]) ∧
 ITE (!b67)
 (R (nB false) [.box [nI i61, .sl l62, nI i63, nI i64, .sl l65], .box [nI i66]])
 (ag52 ((z51.1.1, (), z51.1.2.2.1, z51.1.2.2.2.1, IntKind.wrap .i64 (z51.1.2.2.2.2.1 + 1), ()), ((i61, l62, i63, i64, l65, ()), (i66, ()), (z51.2.2.2.1.1, z51.2.2.2.1.2.1, z51.2.2.2.1.2.2.1, z51.2.2.2.1.2.2.2.1, z51.2.2.2.1.2.2.2.2.1, ()), ()))))
 (R (nB true) [.box [nI z51.2.1.1, .sl z51.2.1.2.1, nI z51.2.1.2.2.1, nI z51.2.1.2.2.2.1, .sl z51.2.1.2.2.2.2.1], .box [nI z51.2.2.1.1]])
def vc96 (h0 : Int) (h1 : List AV) (h2 : Int) (h3 : Int) (h4 : List AV) (left : Int) (a0_0 : Int) (a0_1 : List AV) (a0_2 : Int) (a0_3 : Int) (a0_4 : List AV) (a1 : Int) (R : AV → List AObj → Prop) : Prop :=
 ITE (decide ((IntKind.wrap .i64 (left - 1)) < 0))
 (R (nB false) [.box [nI h0, .sl h1, nI h2, nI h3, .sl h4], .box [nI (IntKind.wrap .i64 (left - 1))]])
 (ITE (decide (a1 > 60))
 (R (nB false) [.box [nI h0, .sl h1, nI h2, nI h3, .sl h4], .box [nI (IntKind.wrap .i64 (left - 1))]])
 (∃ (i1 : Int),
 PureIs Try.prog 102 [nI a0_0] (nI i1) ∧
 ITE (i1 != ((List.length a0_4 : Nat) : Int))
 (R (nB false) [.box [nI h0, .sl h1, nI h2, nI h3, .sl h4], .box [nI (IntKind.wrap .i64 (left - 1))]])
 (vc96_L5 ((a1, (), a0_4, ((List.length a0_4 : Nat) : Int), 0, ()), ((h0, h1, h2, h3, h4, ()), (IntKind.wrap .i64 (left - 1), ()), (a0_0, a0_1, a0_2, a0_3, a0_4, ()), ())) R)))
theorem vc96_ok {h0 : Int} {h1 : List AV} {h2 : Int} {h3 : Int} {h4 : List AV} {left : Int} {a0_0 : Int} {a0_1 : List AV} {a0_2 : Int} {a0_3 : Int} {a0_4 : List AV} {a1 : Int} {R : AV → List AObj → Prop} (h : vc96 h0 h1 h2 h3 h4 left a0_0 a0_1 a0_2 a0_3 a0_4 a1 R) : HFn Try.prog 96 [.agg [nI a0_0, .sl a0_1, nI a0_2, nI a0_3, .sl a0_4], nI a1, .ptr 1 0] [.box [nI h0, .sl h1, nI h2, nI h3, .sl h4], .box [nI left]] R :=
  heap_of_code (C := cfg (Func.ntmps Try.f96) [] [(96, .heap 2 [(.v (.c (.b)), [.box [.i .i64, .l, .i .i64, .i .i64, .l], .box [.i .i64]])])] []) (cfg_tab _ _ _ _ _) (cfg_ord _ _ _ _ _) (L := [{ key := 5, live := [(1, none), (2, none), (32, none), (33, none), (34, none)] }]) (fn := Try.f96) Try.func96 rfl (by kernel_rfl) (by kernel_rfl) (by rfl) (of_eq (by kernel_rfl) h)

/-- filigreeref07.shaped -/
def vc98_L14 (p0 : (Unit × Int × Int × Unit) × ((Int × List AV × Int × Int × List AV × Unit) × Unit)) (R : AV → Prop) : Prop :=
 LoopP ((Unit × Int × Int × Unit) × ((Int × List AV × Int × Int × List AV × Unit) × Unit)) p0 fun z51 ag52 =>
 ITE (decide (z51.1.2.2.1 < z51.1.2.1))
 (0 ≤ z51.1.2.2.1 ∧
 z51.1.2.2.1 < List.length z51.2.1.2.2.2.2.1 ∧
 ∃ (i53 : Int) (l54 : List AV) (i55 i56 : Int) (l57 : List AV),
 List.getD z51.2.1.2.2.2.2.1 (Int.toNat z51.1.2.2.1) .top = .agg [nI i53, .sl l54, nI i55, nI i56, .sl l57] ∧
 ∃ (b58 : Bool),
 PureIs Try.prog 98 [.agg [nI i53, .sl l54, nI i55, nI i56, .sl l57]] (nB b58) ∧
 ITE (!b58)
 (R (nB false))
 (ag52 (((), z51.1.2.1, IntKind.wrap .i64 (z51.1.2.2.1 + 1), ()), ((z51.2.1.1, z51.2.1.2.1, z51.2.1.2.2.1, z51.2.1.2.2.2.1, z51.2.1.2.2.2.2.1, ()), ()))))
 (R (nB true))
def vc98 (a0_0 : Int) (a0_1 : List AV) (a0_2 : Int) (a0_3 : Int) (a0_4 : List AV) (R : AV → Prop) : Prop :=
 ITE (a0_0 == 0)
 (ITE (a0_0 == 0)
 (ITE (((List.length a0_4 : Nat) : Int) != 0)
 (R (nB false))
 (vc98_L14 (((), 0, 0, ()), ((a0_0, a0_1, a0_2, a0_3, a0_4, ()), ())) R))
 (ITE (a0_0 == 3)
 (ITE (((List.length a0_4 : Nat) : Int) != 1)
 (R (nB false))
 (vc98_L14 (((), 1, 0, ()), ((a0_0, a0_1, a0_2, a0_3, a0_4, ()), ())) R))
 (ITE (a0_0 == 4)
 (ITE (((List.length a0_4 : Nat) : Int) != 2)
 (R (nB false))
 (vc98_L14 (((), 2, 0, ()), ((a0_0, a0_1, a0_2, a0_3, a0_4, ()), ())) R))
 (R (nB false)))))
 (ITE (a0_0 == 1)
 (ITE (a0_0 == 1)
 (ITE (((List.length a0_4 : Nat) : Int) != 0)
 (R (nB false))
 (vc98_L14 (((), 0, 0, ()), ((a0_0, a0_1, a0_2, a0_3, a0_4, ()), ())) R))
 (ITE (a0_0 == 3)
 (ITE (((List.length a0_4 : Nat) : Int) != 1)
 (R (nB false))
 (vc98_L14 (((), 1, 0, ()), ((a0_0, a0_1, a0_2, a0_3, a0_4, ()), ())) R))
 (ITE (a0_0 == 4)
 (ITE (((List.length a0_4 : Nat) : Int) != 2)
 (R (nB false))
 (vc98_L14 (((), 2, 0, ()), ((a0_0, a0_1, a0_2, a0_3, a0_4, ()), ())) R))
 (R (nB false)))))
 (ITE (a0_0 == 2)
 (ITE (((List.length a0_4 : Nat) : Int) != 0)
 (R (nB false))
 (vc98_L14 (((), 0, 0, ()), ((a0_0, a0_1, a0_2, a0_3, a0_4, ()), ())) R))
 (ITE (a0_0 == 3)
 (ITE (((List.length a0_4 : Nat) : Int) != 1)
 (R (nB false))
 (vc98_L14 (((), 1, 0, ()), ((a0_0, a0_1, a0_2, a0_3, a0_4, ()), ())) R))
 (ITE (a0_0 == 4)
 (ITE (((List.length a0_4 : Nat) : Int) != 2)
 (R (nB false))
 (vc98_L14 (((), 2, 0, ()), ((a0_0, a0_1, a0_2, a0_3, a0_4, ()), ())) R))
 (R (nB false))))))
theorem vc98_ok {a0_0 : Int} {a0_1 : List AV} {a0_2 : Int} {a0_3 : Int} {a0_4 : List AV} {R : AV → Prop} (h : vc98 a0_0 a0_1 a0_2 a0_3 a0_4 R) : Pure Try.prog 98 [.agg [nI a0_0, .sl a0_1, nI a0_2, nI a0_3, .sl a0_4]] R :=
  pure_of_code (C := cfg (Func.ntmps Try.f98)) (cfg_tab _ _ _ _ _) (cfg_ord _ _ _ _ _) (L := [{ key := 14, live := [(1, none), (3, none), (4, none)] }]) (fn := Try.f98) Try.func98 rfl (by kernel_rfl) (by kernel_rfl) (by rfl) (of_eq (by kernel_rfl) h)

/-- filigreeref07.depth -/
def vc99_L3 (p0 : (Unit × Int × Int × Unit) × ((Int × List AV × Int × Int × List AV × Unit) × Unit)) (R : AV → Prop) : Prop :=
 LoopP ((Unit × Int × Int × Unit) × ((Int × List AV × Int × Int × List AV × Unit) × Unit)) p0 fun z51 ag52 =>
 ITE (decide (z51.1.2.2.1 < ((List.length z51.2.1.2.2.2.2.1 : Nat) : Int)))
 (0 ≤ z51.1.2.2.1 ∧
 z51.1.2.2.1 < List.length z51.2.1.2.2.2.2.1 ∧
 ∃ (i53 : Int) (l54 : List AV) (i55 i56 : Int) (l57 : List AV),
 List.getD z51.2.1.2.2.2.2.1 (Int.toNat z51.1.2.2.1) .top = .agg [nI i53, .sl l54, nI i55, nI i56, .sl l57] ∧
 ∃ (i58 : Int),
 PureIs Try.prog 99 [.agg [nI i53, .sl l54, nI i55, nI i56, .sl l57]] (nI i58) ∧
 ITE (decide (i58 > z51.1.2.1))
 (ag52 (((), i58, IntKind.wrap .i64 (z51.1.2.2.1 + 1), ()), ((z51.2.1.1, z51.2.1.2.1, z51.2.1.2.2.1, z51.2.1.2.2.2.1, z51.2.1.2.2.2.2.1, ()), ())))
 (ag52 (((), z51.1.2.1, IntKind.wrap .i64 (z51.1.2.2.1 + 1), ()), ((z51.2.1.1, z51.2.1.2.1, z51.2.1.2.2.1, z51.2.1.2.2.2.1, z51.2.1.2.2.2.2.1, ()), ()))))
 (R (nI (IntKind.wrap .i64 (z51.1.2.1 + 1))))
def vc99 (a0_0 : Int) (a0_1 : List AV) (a0_2 : Int) (a0_3 : Int) (a0_4 : List AV) (R : AV → Prop) : Prop :=
 vc99_L3 (((), 0, 0, ()), ((a0_0, a0_1, a0_2, a0_3, a0_4, ()), ())) R
theorem vc99_ok {a0_0 : Int} {a0_1 : List AV} {a0_2 : Int} {a0_3 : Int} {a0_4 : List AV} {R : AV → Prop} (h : vc99 a0_0 a0_1 a0_2 a0_3 a0_4 R) : Pure Try.prog 99 [.agg [nI a0_0, .sl a0_1, nI a0_2, nI a0_3, .sl a0_4]] R :=
  pure_of_code (C := cfg (Func.ntmps Try.f99)) (cfg_tab _ _ _ _ _) (cfg_ord _ _ _ _ _) (L := [{ key := 3, live := [(1, none), (3, none), (4, none)] }]) (fn := Try.f99) Try.func99 rfl (by kernel_rfl) (by kernel_rfl) (by rfl) (of_eq (by kernel_rfl) h)

/-- raw.turned -/
def vc_turnedG_L9 (p0 : (Int × (Unit × Unit) × Unit × Unit × List AV × Int × Int × Unit) × ((Int × List AV × Int × Int × List AV × Unit) × (Int × Unit × Int × Int × Unit × Unit) × (Int × List AV × Int × Int × Unit × Unit) × List AV × Unit)) (p1 : Int) (R : AV → Prop) : Prop :=
 LoopP ((Int × (Unit × Unit) × Unit × Unit × List AV × Int × Int × Unit) × ((Int × List AV × Int × Int × List AV × Unit) × (Int × Unit × Int × Int × Unit × Unit) × (Int × List AV × Int × Int × Unit × Unit) × List AV × Unit)) p0 fun z51 ag52 =>
 ITE (decide (z51.1.2.2.2.2.2.2.1 < z51.1.2.2.2.2.2.1))
 (0 ≤ z51.1.2.2.2.2.2.2.1 ∧
 z51.1.2.2.2.2.2.2.1 < List.length z51.1.2.2.2.2.1 ∧
 ∃ (i53 : Int) (l54 : List AV) (i55 i56 : Int) (l57 : List AV),
 List.getD z51.1.2.2.2.2.1 (Int.toNat z51.1.2.2.2.2.2.2.1) .top = .agg [nI i53, .sl l54, nI i55, nI i56, .sl l57] ∧
 ∃ (i58 : Int) (l59 : List AV) (i60 i61 : Int) (l62 : List AV),
 PureIs Try.prog 100 [.agg [nI i53, .sl l54, nI i55, nI i56, .sl l57], nI z51.1.1, .clo 144 [.eptr (nI p1) 0]] (.agg [nI i58, .sl l59, nI i60, nI i61, .sl l62]) ∧
 List.length z51.2.2.2.2.1 = List.length z51.2.2.2.2.1 ∧
 appOk td81 (List.length (z51.2.2.2.2.1 ++ [.agg [nI i58, .sl l59, nI i60, nI i61, .sl l62]])) [] [.agg [nI i58, .sl l59, nI i60, nI i61, .sl l62]] ∧
 List.length (z51.2.2.2.2.1 ++ [.agg [nI i58, .sl l59, nI i60, nI i61, .sl l62]]) = List.length (z51.2.2.2.2.1 ++ [.agg [nI i58, .sl l59, nI i60, nI i61, .sl l62]]) ∧
 (.eptr (nI p1) 0 : AV) = .eptr (nI p1) 0 ∧
 ag52 ((z51.1.1, ((), ()), (), (), z51.1.2.2.2.2.1, z51.1.2.2.2.2.2.1, IntKind.wrap .i64 (z51.1.2.2.2.2.2.2.1 + 1), ()), ((z51.2.1.1, z51.2.1.2.1, z51.2.1.2.2.1, z51.2.1.2.2.2.1, z51.2.1.2.2.2.2.1, ()), (z51.2.2.1.1, (), z51.2.2.1.2.2.1, z51.2.2.1.2.2.2.1, (), ()), (z51.2.2.2.1.1, z51.2.2.2.1.2.1, z51.2.2.2.1.2.2.1, z51.2.2.2.1.2.2.2.1, (), ()), z51.2.2.2.2.1 ++ [.agg [nI i58, .sl l59, nI i60, nI i61, .sl l62]], ())))
 (List.length z51.2.2.2.2.1 = List.length z51.2.2.2.2.1 ∧
 R (.agg [nI z51.2.2.2.1.1, .sl z51.2.2.2.1.2.1, nI z51.2.2.2.1.2.2.1, nI z51.2.2.2.1.2.2.2.1, .sl z51.2.2.2.2.1]))
def vc_turnedG (gb : Int) (a0_0 : Int) (a0_1 : List AV) (a0_2 : Int) (a0_3 : Int) (a0_4 : List AV) (a1 : Int) (R : AV → Prop) : Prop :=
 ITE (a0_0 == 0)
 (ITE (decide (a0_3 ≥ a1))
 (∃ (i1 : Int) (l2 : List AV) (i3 i4 : Int) (l5 : List AV),
 PureIs Try.prog 144 [.agg [nI a0_0, .sl a0_1, nI a0_2, nI a0_3, .sl a0_4], nI a1, .eptr (nI gb) 0] (.agg [nI i1, .sl l2, nI i3, nI i4, .sl l5]) ∧
 R (.agg [nI i1, .sl l2, nI i3, nI i4, .sl l5]))
 (∃ (i6 : Int) (l7 : List AV) (i8 i9 : Int) (l10 : List AV),
 PureIs Try.prog 42 [nI 0, nI a0_3] (.agg [nI i6, .sl l7, nI i8, nI i9, .sl l10]) ∧
 R (.agg [nI i6, .sl l7, nI i8, nI i9, .sl l10])))
 (∃ (l11 : List AV) (i12 : Int),
 PureIs Try.prog 92 [.agg [.sl a0_1, nI a0_2], .sl []] (.agg [.sl l11, nI i12]) ∧
 ITE (a0_0 == 3)
 (0 = List.length ([] : List AV) ∧
 (.eptr (nI gb) 0 : AV) = .eptr (nI gb) 0 ∧
 vc_turnedG_L9 ((IntKind.wrap .i64 (a1 + 1), ((), ()), (), (), a0_4, ((List.length a0_4 : Nat) : Int), 0, ()), ((a0_0, a0_1, a0_2, a0_3, a0_4, ()), (0, (), 0, 0, (), ()), (a0_0, l11, i12, a0_3, (), ()), [], ())) gb R)
 (0 = List.length ([] : List AV) ∧
 (.eptr (nI gb) 0 : AV) = .eptr (nI gb) 0 ∧
 vc_turnedG_L9 ((a1, ((), ()), (), (), a0_4, ((List.length a0_4 : Nat) : Int), 0, ()), ((a0_0, a0_1, a0_2, a0_3, a0_4, ()), (0, (), 0, 0, (), ()), (a0_0, l11, i12, a0_3, (), ()), [], ())) gb R))
theorem vc_turnedG_ok {gb : Int} {a0_0 : Int} {a0_1 : List AV} {a0_2 : Int} {a0_3 : Int} {a0_4 : List AV} {a1 : Int} {R : AV → Prop} (h : vc_turnedG gb a0_0 a0_1 a0_2 a0_3 a0_4 a1 R) : Pure Try.prog 100 [.agg [nI a0_0, .sl a0_1, nI a0_2, nI a0_3, .sl a0_4], nI a1, .clo 144 [.eptr (nI gb) 0]] R :=
  pure_of_code (C := cfg (Func.ntmps Try.f100) [(5, [none, none, none, none, none, none, none, none, some [], none], [none, some [], none, some [], some [], none, some [], none, none, none])]) (cfg_tab _ _ _ _ _) (cfg_ord _ _ _ _ _) (L := [{ key := 9, live := [(1, none), (2, some (.f 144 [.c (.q (.eptr (nI gb) 0))])), (6, none), (7, none), (38, none), (39, none), (40, none)], brows := [(2, 4, 81)] }]) (fn := Try.f100) Try.func100 rfl (by kernel_rfl) (by kernel_rfl) (by rfl) (of_eq (by kernel_rfl) h)

/-- raw.turned -/
def vc_turnedS_L9 (p0 : (Int × (Unit × Unit) × Unit × Unit × List AV × Int × Int × Unit) × ((Int × List AV × Int × Int × List AV × Unit) × (Int × Unit × Int × Int × Unit × Unit) × (Int × List AV × Int × Int × Unit × Unit) × List AV × Unit)) (p1 : Int) (p2 : List AV) (p3 : Int) (p4 : Int) (p5 : List AV) (R : AV → Prop) : Prop :=
 LoopP ((Int × (Unit × Unit) × Unit × Unit × List AV × Int × Int × Unit) × ((Int × List AV × Int × Int × List AV × Unit) × (Int × Unit × Int × Int × Unit × Unit) × (Int × List AV × Int × Int × Unit × Unit) × List AV × Unit)) p0 fun z51 ag52 =>
 ITE (decide (z51.1.2.2.2.2.2.2.1 < z51.1.2.2.2.2.2.1))
 (0 ≤ z51.1.2.2.2.2.2.2.1 ∧
 z51.1.2.2.2.2.2.2.1 < List.length z51.1.2.2.2.2.1 ∧
 ∃ (i53 : Int) (l54 : List AV) (i55 i56 : Int) (l57 : List AV),
 List.getD z51.1.2.2.2.2.1 (Int.toNat z51.1.2.2.2.2.2.2.1) .top = .agg [nI i53, .sl l54, nI i55, nI i56, .sl l57] ∧
 ∃ (i58 : Int) (l59 : List AV) (i60 i61 : Int) (l62 : List AV),
 PureIs Try.prog 100 [.agg [nI i53, .sl l54, nI i55, nI i56, .sl l57], nI z51.1.1, .clo 138 [.eptr (.agg [nI p1, .sl p2, nI p3, nI p4, .sl p5]) 0]] (.agg [nI i58, .sl l59, nI i60, nI i61, .sl l62]) ∧
 List.length z51.2.2.2.2.1 = List.length z51.2.2.2.2.1 ∧
 appOk td81 (List.length (z51.2.2.2.2.1 ++ [.agg [nI i58, .sl l59, nI i60, nI i61, .sl l62]])) [] [.agg [nI i58, .sl l59, nI i60, nI i61, .sl l62]] ∧
 List.length (z51.2.2.2.2.1 ++ [.agg [nI i58, .sl l59, nI i60, nI i61, .sl l62]]) = List.length (z51.2.2.2.2.1 ++ [.agg [nI i58, .sl l59, nI i60, nI i61, .sl l62]]) ∧
 (.eptr (.agg [nI p1, .sl p2, nI p3, nI p4, .sl p5]) 0 : AV) = .eptr (.agg [nI p1, .sl p2, nI p3, nI p4, .sl p5]) 0 ∧
 ag52 ((z51.1.1, ((), ()), (), (), z51.1.2.2.2.2.1, z51.1.2.2.2.2.2.1, IntKind.wrap .i64 (z51.1.2.2.2.2.2.2.1 + 1), ()), ((z51.2.1.1, z51.2.1.2.1, z51.2.1.2.2.1, z51.2.1.2.2.2.1, z51.2.1.2.2.2.2.1, ()), (z51.2.2.1.1, (), z51.2.2.1.2.2.1, z51.2.2.1.2.2.2.1, (), ()), (z51.2.2.2.1.1, z51.2.2.2.1.2.1, z51.2.2.2.1.2.2.1, z51.2.2.2.1.2.2.2.1, (), ()), z51.2.2.2.2.1 ++ [.agg [nI i58, .sl l59, nI i60, nI i61, .sl l62]], ())))
 (List.length z51.2.2.2.2.1 = List.length z51.2.2.2.2.1 ∧
 R (.agg [nI z51.2.2.2.1.1, .sl z51.2.2.2.1.2.1, nI z51.2.2.2.1.2.2.1, nI z51.2.2.2.1.2.2.2.1, .sl z51.2.2.2.2.1]))
def vc_turnedS (b0 : Int) (b1 : List AV) (b2 : Int) (b3 : Int) (b4 : List AV) (a0_0 : Int) (a0_1 : List AV) (a0_2 : Int) (a0_3 : Int) (a0_4 : List AV) (a1 : Int) (R : AV → Prop) : Prop :=
 ITE (a0_0 == 0)
 (ITE (decide (a0_3 ≥ a1))
 (∃ (i1 : Int) (l2 : List AV) (i3 i4 : Int) (l5 : List AV),
 PureIs Try.prog 138 [.agg [nI a0_0, .sl a0_1, nI a0_2, nI a0_3, .sl a0_4], nI a1, .eptr (.agg [nI b0, .sl b1, nI b2, nI b3, .sl b4]) 0] (.agg [nI i1, .sl l2, nI i3, nI i4, .sl l5]) ∧
 R (.agg [nI i1, .sl l2, nI i3, nI i4, .sl l5]))
 (∃ (i6 : Int) (l7 : List AV) (i8 i9 : Int) (l10 : List AV),
 PureIs Try.prog 42 [nI 0, nI a0_3] (.agg [nI i6, .sl l7, nI i8, nI i9, .sl l10]) ∧
 R (.agg [nI i6, .sl l7, nI i8, nI i9, .sl l10])))
 (∃ (l11 : List AV) (i12 : Int),
 PureIs Try.prog 92 [.agg [.sl a0_1, nI a0_2], .sl []] (.agg [.sl l11, nI i12]) ∧
 ITE (a0_0 == 3)
 (0 = List.length ([] : List AV) ∧
 (.eptr (.agg [nI b0, .sl b1, nI b2, nI b3, .sl b4]) 0 : AV) = .eptr (.agg [nI b0, .sl b1, nI b2, nI b3, .sl b4]) 0 ∧
 vc_turnedS_L9 ((IntKind.wrap .i64 (a1 + 1), ((), ()), (), (), a0_4, ((List.length a0_4 : Nat) : Int), 0, ()), ((a0_0, a0_1, a0_2, a0_3, a0_4, ()), (0, (), 0, 0, (), ()), (a0_0, l11, i12, a0_3, (), ()), [], ())) b0 b1 b2 b3 b4 R)
 (0 = List.length ([] : List AV) ∧
 (.eptr (.agg [nI b0, .sl b1, nI b2, nI b3, .sl b4]) 0 : AV) = .eptr (.agg [nI b0, .sl b1, nI b2, nI b3, .sl b4]) 0 ∧
 vc_turnedS_L9 ((a1, ((), ()), (), (), a0_4, ((List.length a0_4 : Nat) : Int), 0, ()), ((a0_0, a0_1, a0_2, a0_3, a0_4, ()), (0, (), 0, 0, (), ()), (a0_0, l11, i12, a0_3, (), ()), [], ())) b0 b1 b2 b3 b4 R))
theorem vc_turnedS_ok {b0 : Int} {b1 : List AV} {b2 : Int} {b3 : Int} {b4 : List AV} {a0_0 : Int} {a0_1 : List AV} {a0_2 : Int} {a0_3 : Int} {a0_4 : List AV} {a1 : Int} {R : AV → Prop} (h : vc_turnedS b0 b1 b2 b3 b4 a0_0 a0_1 a0_2 a0_3 a0_4 a1 R) : Pure Try.prog 100 [.agg [nI a0_0, .sl a0_1, nI a0_2, nI a0_3, .sl a0_4], nI a1, .clo 138 [.eptr (.agg [nI b0, .sl b1, nI b2, nI b3, .sl b4]) 0]] R :=
  pure_of_code (C := cfg (Func.ntmps Try.f100) [(5, [none, none, none, none, none, none, none, none, some [], none], [none, some [], none, some [], some [], none, some [], none, none, none])]) (cfg_tab _ _ _ _ _) (cfg_ord _ _ _ _ _) (L := [{ key := 9, live := [(1, none), (2, some (.f 138 [.c (.q (.eptr (.agg [nI b0, .sl b1, nI b2, nI b3, .sl b4]) 0))])), (6, none), (7, none), (38, none), (39, none), (40, none)], brows := [(2, 4, 81)] }]) (fn := Try.f100) Try.func100 rfl (by kernel_rfl) (by kernel_rfl) (by rfl) (of_eq (by kernel_rfl) h)

/-- raw.turned -/
def vc_turnedL_L11 (p0 : Int) (p1 : List AV) (p2 : Int) (p3 : Int) (p4 : List AV) (p5 : (Int × (Unit × Unit) × Unit × Unit × List AV × Int × Int × Unit) × ((Int × List AV × Int × Int × List AV × Unit) × (Int × Unit) × (Int × List AV × Int × Int × List AV × Unit) × (Int × Unit × Int × Int × Unit × Unit) × (Int × List AV × Int × Int × Unit × Unit) × List AV × Unit)) (p6 : ((Int × (Unit × Unit) × Unit × Unit × List AV × Int × Int × Unit) × ((Int × List AV × Int × Int × List AV × Unit) × (Int × Unit) × (Int × List AV × Int × Int × List AV × Unit) × (Int × Unit × Int × Int × Unit × Unit) × (Int × List AV × Int × Int × Unit × Unit) × List AV × Unit)) → Prop) : Prop :=
 ∃ (S50 : AV → List AObj → Prop),
 HFn Try.prog 100 [.agg [nI p0, .sl p1, nI p2, nI p3, .sl p4], nI p5.1.1, .clo 101 [.ptr 1 0]] [.box [nI p5.2.1.1, .sl p5.2.1.2.1, nI p5.2.1.2.2.1, nI p5.2.1.2.2.2.1, .sl p5.2.1.2.2.2.2.1], .box [nI p5.2.2.1.1]] S50 ∧
 ∀ (r57 : AV) (q58 : List AObj), S50 r57 q58 →
 ∃ (i59 : Int) (l60 : List AV) (i61 i62 : Int) (l63 : List AV) (i64 i65 : Int) (l66 : List AV) (i67 i68 : Int) (l69 : List AV),
 (r57 = .agg [nI i65, .sl l66, nI i67, nI i68, .sl l69] ∧ q58 = [.box [nI i59, .sl l60, nI i61, nI i62, .sl l63], .box [nI i64]]) ∧
 List.length p5.2.2.2.2.2.2.1 = List.length p5.2.2.2.2.2.2.1 ∧
 appOk td81 (List.length (p5.2.2.2.2.2.2.1 ++ [.agg [nI i65, .sl l66, nI i67, nI i68, .sl l69]])) [] [.agg [nI i65, .sl l66, nI i67, nI i68, .sl l69]] ∧
 List.length (p5.2.2.2.2.2.2.1 ++ [.agg [nI i65, .sl l66, nI i67, nI i68, .sl l69]]) = List.length (p5.2.2.2.2.2.2.1 ++ [.agg [nI i65, .sl l66, nI i67, nI i68, .sl l69]]) ∧
 p6 ((p5.1.1, ((), ()), (), (), p5.1.2.2.2.2.1, p5.1.2.2.2.2.2.1, IntKind.wrap .i64 (p5.1.2.2.2.2.2.2.1 + 1), ()), ((i59, l60, i61, i62, l63, ()), (i64, ()), (p5.2.2.2.1.1, p5.2.2.2.1.2.1, p5.2.2.2.1.2.2.1, p5.2.2.2.1.2.2.2.1, p5.2.2.2.1.2.2.2.2.1, ()), (p5.2.2.2.2.1.1, (), p5.2.2.2.2.1.2.2.1, p5.2.2.2.2.1.2.2.2.1, (), ()), (p5.2.2.2.2.2.1.1, p5.2.2.2.2.2.1.2.1, p5.2.2.2.2.2.1.2.2.1, p5.2.2.2.2.2.1.2.2.2.1, (), ()), p5.2.2.2.2.2.2.1 ++ [.agg [nI i65, .sl l66, nI i67, nI i68, .sl l69]], ()))
def vc_turnedL_L11' (p0 : Int) (p1 : List AV) (p2 : Int) (p3 : Int) (p4 : List AV) (p5 : (Int × (Unit × Unit) × Unit × Unit × List AV × Int × Int × Unit) × ((Int × List AV × Int × Int × List AV × Unit) × (Int × Unit) × (Int × List AV × Int × Int × List AV × Unit) × (Int × Unit × Int × Int × Unit × Unit) × (Int × List AV × Int × Int × Unit × Unit) × List AV × Unit)) (p6 : ((Int × (Unit × Unit) × Unit × Unit × List AV × Int × Int × Unit) × ((Int × List AV × Int × Int × List AV × Unit) × (Int × Unit) × (Int × List AV × Int × Int × List AV × Unit) × (Int × Unit × Int × Int × Unit × Unit) × (Int × List AV × Int × Int × Unit × Unit) × List AV × Unit)) → Prop) : Prop :=
 (vc_turnedL_L11 p0 p1 p2 p3 p4 p5 p6) ∧
 (vc_turnedL_L11 p0 p1 p2 p3 p4 p5 p6)
def vc_turnedL_L9 (p0 : (Int × (Unit × Unit) × Unit × Unit × List AV × Int × Int × Unit) × ((Int × List AV × Int × Int × List AV × Unit) × (Int × Unit) × (Int × List AV × Int × Int × List AV × Unit) × (Int × Unit × Int × Int × Unit × Unit) × (Int × List AV × Int × Int × Unit × Unit) × List AV × Unit)) (R : AV → List AObj → Prop) : Prop :=
 LoopP ((Int × (Unit × Unit) × Unit × Unit × List AV × Int × Int × Unit) × ((Int × List AV × Int × Int × List AV × Unit) × (Int × Unit) × (Int × List AV × Int × Int × List AV × Unit) × (Int × Unit × Int × Int × Unit × Unit) × (Int × List AV × Int × Int × Unit × Unit) × List AV × Unit)) p0 fun z51 ag52 =>
 ITE (decide (z51.1.2.2.2.2.2.2.1 < z51.1.2.2.2.2.2.1))
 (0 ≤ z51.1.2.2.2.2.2.2.1 ∧
 z51.1.2.2.2.2.2.2.1 < List.length z51.1.2.2.2.2.1 ∧
 ∃ (i53 : Int) (l54 : List AV) (i55 i56 : Int) (l57 : List AV),
 List.getD z51.1.2.2.2.2.1 (Int.toNat z51.1.2.2.2.2.2.2.1) .top = .agg [nI i53, .sl l54, nI i55, nI i56, .sl l57] ∧
 (vc_turnedL_L11' i53 l54 i55 i56 l57 z51 ag52) ∧
 (vc_turnedL_L11 i53 l54 i55 i56 l57 z51 ag52))
 (List.length z51.2.2.2.2.2.2.1 = List.length z51.2.2.2.2.2.2.1 ∧
 R (.agg [nI z51.2.2.2.2.2.1.1, .sl z51.2.2.2.2.2.1.2.1, nI z51.2.2.2.2.2.1.2.2.1, nI z51.2.2.2.2.2.1.2.2.2.1, .sl z51.2.2.2.2.2.2.1]) [.box [nI z51.2.1.1, .sl z51.2.1.2.1, nI z51.2.1.2.2.1, nI z51.2.1.2.2.2.1, .sl z51.2.1.2.2.2.2.1], .box [nI z51.2.2.1.1]])
def vc_turnedL (h0 : Int) (h1 : List AV) (h2 : Int) (h3 : Int) (h4 : List AV) (hn : Int) (a0_0 : Int) (a0_1 : List AV) (a0_2 : Int) (a0_3 : Int) (a0_4 : List AV) (a1 : Int) (R : AV → List AObj → Prop) : Prop :=
 ITE (a0_0 == 0)
 (ITE (decide (a0_3 ≥ a1))
 (∃ (S3 : AV → List AObj → Prop),
 HFn Try.prog 101 [.agg [nI a0_0, .sl a0_1, nI a0_2, nI a0_3, .sl a0_4], nI a1, .ptr 1 0] [.box [nI h0, .sl h1, nI h2, nI h3, .sl h4], .box [nI hn]] S3 ∧
 ∀ (r1 : AV) (q2 : List AObj), S3 r1 q2 →
 ∃ (i4 : Int) (l5 : List AV) (i6 i7 : Int) (l8 : List AV) (i9 i10 : Int) (l11 : List AV) (i12 i13 : Int) (l14 : List AV),
 (r1 = .agg [nI i10, .sl l11, nI i12, nI i13, .sl l14] ∧ q2 = [.box [nI i4, .sl l5, nI i6, nI i7, .sl l8], .box [nI i9]]) ∧
 R (.agg [nI i10, .sl l11, nI i12, nI i13, .sl l14]) [.box [nI i4, .sl l5, nI i6, nI i7, .sl l8], .box [nI i9]])
 (∃ (i15 : Int) (l16 : List AV) (i17 i18 : Int) (l19 : List AV),
 PureIs Try.prog 42 [nI 0, nI a0_3] (.agg [nI i15, .sl l16, nI i17, nI i18, .sl l19]) ∧
 R (.agg [nI i15, .sl l16, nI i17, nI i18, .sl l19]) [.box [nI h0, .sl h1, nI h2, nI h3, .sl h4], .box [nI hn]]))
 (∃ (l20 : List AV) (i21 : Int),
 PureIs Try.prog 92 [.agg [.sl a0_1, nI a0_2], .sl []] (.agg [.sl l20, nI i21]) ∧
 ITE (a0_0 == 3)
 (0 = List.length ([] : List AV) ∧
 vc_turnedL_L9 ((IntKind.wrap .i64 (a1 + 1), ((), ()), (), (), a0_4, ((List.length a0_4 : Nat) : Int), 0, ()), ((h0, h1, h2, h3, h4, ()), (hn, ()), (a0_0, a0_1, a0_2, a0_3, a0_4, ()), (0, (), 0, 0, (), ()), (a0_0, l20, i21, a0_3, (), ()), [], ())) R)
 (0 = List.length ([] : List AV) ∧
 vc_turnedL_L9 ((a1, ((), ()), (), (), a0_4, ((List.length a0_4 : Nat) : Int), 0, ()), ((h0, h1, h2, h3, h4, ()), (hn, ()), (a0_0, a0_1, a0_2, a0_3, a0_4, ()), (0, (), 0, 0, (), ()), (a0_0, l20, i21, a0_3, (), ()), [], ())) R))
theorem vc_turnedL_ok {h0 : Int} {h1 : List AV} {h2 : Int} {h3 : Int} {h4 : List AV} {hn : Int} {a0_0 : Int} {a0_1 : List AV} {a0_2 : Int} {a0_3 : Int} {a0_4 : List AV} {a1 : Int} {R : AV → List AObj → Prop} (h : vc_turnedL h0 h1 h2 h3 h4 hn a0_0 a0_1 a0_2 a0_3 a0_4 a1 R) : HFn Try.prog 100 [.agg [nI a0_0, .sl a0_1, nI a0_2, nI a0_3, .sl a0_4], nI a1, .clo 101 [.ptr 1 0]] [.box [nI h0, .sl h1, nI h2, nI h3, .sl h4], .box [nI hn]] R :=
  heap_of_code (C := cfg (Func.ntmps Try.f100) [(5, [none, none, none, none, none, none, none, none, some [], none], [none, some [], none, some [], some [], none, some [], none, none, none]), (11, [none, none, none, none, none, none, none, none, none, none], [none, none, none, none, none, none, none, none, none, none])] [(100, .heap 2 [(.v (.a [.i .i64, .l, .i .i64, .i .i64, .l]), [.box [.i .i64, .l, .i .i64, .i .i64, .l], .box [.i .i64]])]), (101, .heap 2 [(.v (.a [.i .i64, .l, .i .i64, .i .i64, .l]), [.box [.i .i64, .l, .i .i64, .i .i64, .l], .box [.i .i64]])])] [(11, [100])] [(11, (.val 2 (.val 3 (.val 4 (.two 0 (.two 1 (.eff 5 (.val 6 (.eff 7 (.val 8 (.eff 9 .done))))) 5 (.val 1 (.val 6 (.eff 7 (.val 8 (.eff 9 .done)))))) 5 (.val 0 (.val 1 (.val 6 (.eff 7 (.val 8 (.eff 9 .done)))))))))))]) (cfg_tab _ _ _ _ _) (cfg_ord _ _ _ _ _) (L := [{ key := 9, live := [(1, none), (2, none), (6, none), (7, none), (38, none), (39, none), (40, none)], brows := [(4, 4, 81)] }]) (fn := Try.f100) Try.func100 rfl (by kernel_rfl) (by kernel_rfl) (by rfl) (of_eq (by kernel_rfl) h)

/-- raw.Loose$1 -/
def vc101 (h0 : Int) (h1 : List AV) (h2 : Int) (h3 : Int) (h4 : List AV) (hn : Int) (a0_0 : Int) (a0_1 : List AV) (a0_2 : Int) (a0_3 : Int) (a0_4 : List AV) (a1 : Int) (R : AV → List AObj → Prop) : Prop :=
 R (.agg [nI a0_0, .sl a0_1, nI a0_2, nI a0_3, .sl a0_4]) [.box [nI h0, .sl h1, nI h2, nI h3, .sl h4], .box [nI (if (IntKind.wrap .i64 ((if 1000 < (IntKind.wrap .i64 (a0_3 - a1)) then 1000 else IntKind.wrap .i64 (a0_3 - a1)) + 1)) > hn then IntKind.wrap .i64 ((if 1000 < (IntKind.wrap .i64 (a0_3 - a1)) then 1000 else IntKind.wrap .i64 (a0_3 - a1)) + 1) else hn)]]
theorem vc101_ok {h0 : Int} {h1 : List AV} {h2 : Int} {h3 : Int} {h4 : List AV} {hn : Int} {a0_0 : Int} {a0_1 : List AV} {a0_2 : Int} {a0_3 : Int} {a0_4 : List AV} {a1 : Int} {R : AV → List AObj → Prop} (h : vc101 h0 h1 h2 h3 h4 hn a0_0 a0_1 a0_2 a0_3 a0_4 a1 R) : HFn Try.prog 101 [.agg [nI a0_0, .sl a0_1, nI a0_2, nI a0_3, .sl a0_4], nI a1, .ptr 1 0] [.box [nI h0, .sl h1, nI h2, nI h3, .sl h4], .box [nI hn]] R :=
  heap_of_code (C := cfg (Func.ntmps Try.f101)) (cfg_tab _ _ _ _ _) (cfg_ord _ _ _ _ _) (L := []) (fn := Try.f101) Try.func101 rfl (by kernel_rfl) (by kernel_rfl) (by rfl) (of_eq (by kernel_rfl) h)

/-- raw.kids -/
def vc102 (a0 : Int) (R : AV → Prop) : Prop :=
 ITE (a0 == 0)
 (ITE (a0 == 0)
 (R (nI 0))
 (ITE (a0 == 3)
 (R (nI 1))
 (ITE (a0 == 4)
 (R (nI 2))
 (R (nI (-1))))))
 (ITE (a0 == 1)
 (ITE (a0 == 1)
 (R (nI 0))
 (ITE (a0 == 3)
 (R (nI 1))
 (ITE (a0 == 4)
 (R (nI 2))
 (R (nI (-1))))))
 (ITE (a0 == 2)
 (R (nI 0))
 (ITE (a0 == 3)
 (R (nI 1))
 (ITE (a0 == 4)
 (R (nI 2))
 (R (nI (-1)))))))
theorem vc102_ok {a0 : Int} {R : AV → Prop} (h : vc102 a0 R) : Pure Try.prog 102 [nI a0] R :=
  pure_of_code (C := cfg (Func.ntmps Try.f102)) (cfg_tab _ _ _ _ _) (cfg_ord _ _ _ _ _) (L := []) (fn := Try.f102) Try.func102 rfl (by kernel_rfl) (by kernel_rfl) (by rfl) (of_eq (by kernel_rfl) h)

/-- slices.EqualFunc[[]raw.Raw,[]raw.Raw,raw.Raw,raw.Raw] -/
def vc103_L4 (p0 : (List AV × Unit × List AV × Int × Int × Unit) × (Unit)) (R : AV → Prop) : Prop :=
 LoopP ((List AV × Unit × List AV × Int × Int × Unit) × (Unit)) p0 fun z51 ag52 =>
 ITE (decide (z51.1.2.2.2.2.1 < z51.1.2.2.2.1))
 (0 ≤ z51.1.2.2.2.2.1 ∧
 z51.1.2.2.2.2.1 < List.length z51.1.2.2.1 ∧
 ∃ (i53 : Int) (l54 : List AV) (i55 i56 : Int) (l57 : List AV),
 List.getD z51.1.2.2.1 (Int.toNat z51.1.2.2.2.2.1) .top = .agg [nI i53, .sl l54, nI i55, nI i56, .sl l57] ∧
 0 ≤ z51.1.2.2.2.2.1 ∧
 z51.1.2.2.2.2.1 < List.length z51.1.1 ∧
 ∃ (i58 : Int) (l59 : List AV) (i60 i61 : Int) (l62 : List AV),
 List.getD z51.1.1 (Int.toNat z51.1.2.2.2.2.1) .top = .agg [nI i58, .sl l59, nI i60, nI i61, .sl l62] ∧
 ∃ (b63 : Bool),
 PureIs Try.prog 56 [.agg [nI i53, .sl l54, nI i55, nI i56, .sl l57], .agg [nI i58, .sl l59, nI i60, nI i61, .sl l62]] (nB b63) ∧
 ITE (!b63)
 (R (nB false))
 (ag52 ((z51.1.1, (), z51.1.2.2.1, z51.1.2.2.2.1, IntKind.wrap .i64 (z51.1.2.2.2.2.1 + 1), ()), ())))
 (R (nB true))
def vc103 (a0 : List AV) (a1 : List AV) (R : AV → Prop) : Prop :=
 ITE (((List.length a0 : Nat) : Int) != ((List.length a1 : Nat) : Int))
 (R (nB false))
 (vc103_L4 ((a1, (), a0, ((List.length a0 : Nat) : Int), 0, ()), ()) R)
theorem vc103_ok {a0 : List AV} {a1 : List AV} {R : AV → Prop} (h : vc103 a0 a1 R) : Pure Try.prog 103 [.sl a0, .sl a1, .clo 56 []] R :=
  pure_of_code (C := cfg (Func.ntmps Try.f103)) (cfg_tab _ _ _ _ _) (cfg_ord _ _ _ _ _) (L := [{ key := 4, live := [(1, none), (2, none), (15, none), (16, none), (17, none)] }]) (fn := Try.f103) Try.func103 rfl (by kernel_rfl) (by kernel_rfl) (by rfl) (of_eq (by kernel_rfl) h)

/-- term.headType -/
def vc104 (a0_0 : Int) (a0_1 : List AV) (a0_2 : List AV) (a1 : List AV) (a2_0 : Int) (a2_1 : Int) (R : AV → Prop) : Prop :=
 ITE (a2_0 == 1)
 (ITE (decide (a2_1 < 0))
 (R (.tup [.agg [.sl [], nI 0], nB false]))
 (ITE (decide (a2_1 ≥ ((List.length a0_1 : Nat) : Int)))
 (R (.tup [.agg [.sl [], nI 0], nB false]))
 (0 ≤ a2_1 ∧
 a2_1 < List.length a0_1 ∧
 ∃ (l1 : List AV) (i2 : Int),
 List.getD a0_1 (Int.toNat a2_1) .top = .agg [.sl l1, nI i2] ∧
 R (.tup [.agg [.sl l1, nI i2], nB true]))))
 (ITE (a2_0 == 2)
 (ITE (decide (a2_1 < 0))
 (R (.tup [.agg [.sl [], nI 0], nB false]))
 (ITE (decide (a2_1 ≥ ((List.length a0_2 : Nat) : Int)))
 (R (.tup [.agg [.sl [], nI 0], nB false]))
 (0 ≤ a2_1 ∧
 a2_1 < List.length a0_2 ∧
 ∃ (l3 : List AV) (i4 : Int),
 List.getD a0_2 (Int.toNat a2_1) .top = .agg [.sl l3, nI i4] ∧
 R (.tup [.agg [.sl l3, nI i4], nB true]))))
 (ITE (a2_0 == 0)
 (ITE (decide (a2_1 < 0))
 (R (.tup [.agg [.sl [], nI 0], nB false]))
 (ITE (decide ((IntKind.wrap .i64 ((IntKind.wrap .i64 (((List.length a1 : Nat) : Int) - 1)) - a2_1)) < 0))
 (R (.tup [.agg [.sl [], nI 0], nB false]))
 (ITE (decide ((IntKind.wrap .i64 ((IntKind.wrap .i64 (((List.length a1 : Nat) : Int) - 1)) - a2_1)) ≥ ((List.length a1 : Nat) : Int)))
 (R (.tup [.agg [.sl [], nI 0], nB false]))
 (0 ≤ (IntKind.wrap .i64 ((IntKind.wrap .i64 (((List.length a1 : Nat) : Int) - 1)) - a2_1)) ∧
 (IntKind.wrap .i64 ((IntKind.wrap .i64 (((List.length a1 : Nat) : Int) - 1)) - a2_1)) < List.length a1 ∧
 ∃ (l5 : List AV) (i6 : Int),
 List.getD a1 (Int.toNat (IntKind.wrap .i64 ((IntKind.wrap .i64 (((List.length a1 : Nat) : Int) - 1)) - a2_1))) .top = .agg [.sl l5, nI i6] ∧
 R (.tup [.agg [.sl l5, nI i6], nB true])))))
 (R (.tup [.agg [.sl [], nI 0], nB false]))))
theorem vc104_ok {a0_0 : Int} {a0_1 : List AV} {a0_2 : List AV} {a1 : List AV} {a2_0 : Int} {a2_1 : Int} {R : AV → Prop} (h : vc104 a0_0 a0_1 a0_2 a1 a2_0 a2_1 R) : Pure Try.prog 104 [.agg [nI a0_0, .sl a0_1, .sl a0_2], .sl a1, .agg [nI a2_0, nI a2_1]] R :=
  pure_of_code (C := cfg (Func.ntmps Try.f104)) (cfg_tab _ _ _ _ _) (cfg_ord _ _ _ _ _) (L := []) (fn := Try.f104) Try.func104 rfl (by kernel_rfl) (by kernel_rfl) (by rfl) (of_eq (by kernel_rfl) h)

/-- term.within -/
def vc105 (a0 : List AV) (a1 : List AV) (R : AV → Prop) : Prop :=
 ∃ (l1 : List AV),
 PureIs Try.prog 70 [.sl [.sl a0, .sl a1]] (.sl l1) ∧
 R (.sl l1)
theorem vc105_ok {a0 : List AV} {a1 : List AV} {R : AV → Prop} (h : vc105 a0 a1 R) : Pure Try.prog 105 [.sl a0, .sl a1] R :=
  pure_of_code (C := cfg (Func.ntmps Try.f105)) (cfg_tab _ _ _ _ _) (cfg_ord _ _ _ _ _) (L := []) (fn := Try.f105) Try.func105 rfl (by kernel_rfl) (by kernel_rfl) (by rfl) (of_eq (by kernel_rfl) h)

/-- term.is -/
def vc107_L8 (p0 : (Unit × List AV × Unit × List AV × Int × Int × Unit) × ((Int × List AV × List AV × Unit) × (List AV × Int × Int × List AV × Unit) × (List AV × Int × Unit) × (List AV × Int × Unit) × Unit)) (R : AV → Prop) : Prop :=
 LoopP ((Unit × List AV × Unit × List AV × Int × Int × Unit) × ((Int × List AV × List AV × Unit) × (List AV × Int × Int × List AV × Unit) × (List AV × Int × Unit) × (List AV × Int × Unit) × Unit)) p0 fun z51 ag52 =>
 ITE (decide (z51.1.2.2.2.2.2.1 < z51.1.2.2.2.2.1))
 (0 ≤ z51.1.2.2.2.2.2.1 ∧
 z51.1.2.2.2.2.2.1 < List.length z51.1.2.2.2.1 ∧
 ∃ (l53 : List AV) (i54 i55 : Int) (l56 : List AV),
 List.getD z51.1.2.2.2.1 (Int.toNat z51.1.2.2.2.2.2.1) .top = .agg [.sl l53, nI i54, nI i55, .sl l56] ∧
 0 ≤ z51.1.2.2.2.2.2.1 ∧
 z51.1.2.2.2.2.2.1 < List.length z51.2.2.2.2.1.1 ∧
 ∃ (l57 : List AV) (i58 : Int),
 List.getD z51.2.2.2.2.1.1 (Int.toNat z51.1.2.2.2.2.2.1) .top = .agg [.sl l57, nI i58] ∧
 ∃ (b59 : Bool),
 PureIs Try.prog 107 [.agg [nI z51.2.1.1, .sl z51.2.1.2.1, .sl z51.2.1.2.2.1], .sl z51.1.2.1, .agg [.sl l53, nI i54, nI i55, .sl l56], .agg [.sl l57, nI i58]] (nB b59) ∧
 ITE (!b59)
 (R (nB false))
 (ag52 (((), z51.1.2.1, (), z51.1.2.2.2.1, z51.1.2.2.2.2.1, IntKind.wrap .i64 (z51.1.2.2.2.2.2.1 + 1), ()), ((z51.2.1.1, z51.2.1.2.1, z51.2.1.2.2.1, ()), (z51.2.2.1.1, z51.2.2.1.2.1, z51.2.2.1.2.2.1, z51.2.2.1.2.2.2.1, ()), (z51.2.2.2.1.1, z51.2.2.2.1.2.1, ()), (z51.2.2.2.2.1.1, z51.2.2.2.2.1.2.1, ()), ()))))
 (R (nB true))
def vc107 (a0_0 : Int) (a0_1 : List AV) (a0_2 : List AV) (a1 : List AV) (a2_0 : List AV) (a2_1 : Int) (a2_2 : Int) (a2_3 : List AV) (a3_0 : List AV) (a3_1 : Int) (R : AV → Prop) : Prop :=
 ∃ (b1 : Bool),
 PureIs Try.prog 97 [.sl a2_0, .sl a3_0, .clo 50 []] (nB b1) ∧
 ITE (!b1)
 (R (nB false))
 (∃ (l2 : List AV),
 PureIs Try.prog 105 [.sl a1, .sl a2_0] (.sl l2) ∧
 ∃ (l3 : List AV) (i4 : Int) (b5 : Bool),
 PureIs Try.prog 104 [.agg [nI a0_0, .sl a0_1, .sl a0_2], .sl l2, .agg [nI a2_1, nI a2_2]] (.tup [.agg [.sl l3, nI i4], nB b5]) ∧
 ITE (!b5)
 (R (nB false))
 (ITE (i4 != a3_1)
 (R (nB false))
 (ITE (((List.length l3 : Nat) : Int) != ((List.length a2_3 : Nat) : Int))
 (R (nB false))
 (vc107_L8 (((), l2, (), a2_3, ((List.length a2_3 : Nat) : Int), 0, ()), ((a0_0, a0_1, a0_2, ()), (a2_0, a2_1, a2_2, a2_3, ()), (a3_0, a3_1, ()), (l3, i4, ()), ())) R))))
theorem vc107_ok {a0_0 : Int} {a0_1 : List AV} {a0_2 : List AV} {a1 : List AV} {a2_0 : List AV} {a2_1 : Int} {a2_2 : Int} {a2_3 : List AV} {a3_0 : List AV} {a3_1 : Int} {R : AV → Prop} (h : vc107 a0_0 a0_1 a0_2 a1 a2_0 a2_1 a2_2 a2_3 a3_0 a3_1 R) : Pure Try.prog 107 [.agg [nI a0_0, .sl a0_1, .sl a0_2], .sl a1, .agg [.sl a2_0, nI a2_1, nI a2_2, .sl a2_3], .agg [.sl a3_0, nI a3_1]] R :=
  pure_of_code (C := cfg (Func.ntmps Try.f107)) (cfg_tab _ _ _ _ _) (cfg_ord _ _ _ _ _) (L := [{ key := 8, live := [(4, none), (9, none), (10, none), (51, none), (52, none), (53, none)] }]) (fn := Try.f107) Try.func107 rfl (by kernel_rfl) (by kernel_rfl) (by rfl) (of_eq (by kernel_rfl) h)

/-- slices.ContainsFunc[[]kind.Type,kind.Type] -/
def vc108 (w0 : Int) (w1 : List AV) (w2 : List AV) (a0 : List AV) (R : AV → Prop) : Prop :=
 ∃ (i1 : Int),
 PureIs Try.prog 135 [.sl a0, .clo 109 [.eptr (.agg [nI w0, .sl w1, .sl w2]) 0]] (nI i1) ∧
 R (nB (decide (i1 ≥ 0)))
theorem vc108_ok {w0 : Int} {w1 : List AV} {w2 : List AV} {a0 : List AV} {R : AV → Prop} (h : vc108 w0 w1 w2 a0 R) : Pure Try.prog 108 [.sl a0, .clo 109 [.eptr (.agg [nI w0, .sl w1, .sl w2]) 0]] R :=
  pure_of_code (C := cfg (Func.ntmps Try.f108)) (cfg_tab _ _ _ _ _) (cfg_ord _ _ _ _ _) (L := []) (fn := Try.f108) Try.func108 rfl (by kernel_rfl) (by kernel_rfl) (by rfl) (of_eq (by kernel_rfl) h)

/-- term.RightWorld$1 -/
def vc109 (w0 : Int) (w1 : List AV) (w2 : List AV) (a0_0 : List AV) (a0_1 : Int) (R : AV → Prop) : Prop :=
 ∃ (b1 : Bool),
 PureIs Try.prog 110 [.agg [.sl a0_0, nI a0_1], nI w0] (nB b1) ∧
 R (nB (!b1))
theorem vc109_ok {w0 : Int} {w1 : List AV} {w2 : List AV} {a0_0 : List AV} {a0_1 : Int} {R : AV → Prop} (h : vc109 w0 w1 w2 a0_0 a0_1 R) : Pure Try.prog 109 [.agg [.sl a0_0, nI a0_1], .eptr (.agg [nI w0, .sl w1, .sl w2]) 0] R :=
  pure_of_code (C := cfg (Func.ntmps Try.f109)) (cfg_tab _ _ _ _ _) (cfg_ord _ _ _ _ _) (L := []) (fn := Try.f109) Try.func109 rfl (by kernel_rfl) (by kernel_rfl) (by rfl) (of_eq (by kernel_rfl) h)

/-- filigreeref07.few -/
def vc119_L5 (p0 : (Int × Int × Unit × Int × Int × Unit) × ((Int × List AV × Int × Int × List AV × Unit) × Unit)) (R : AV → Prop) : Prop :=
 LoopP ((Int × Int × Unit × Int × Int × Unit) × ((Int × List AV × Int × Int × List AV × Unit) × Unit)) p0 fun z51 ag52 =>
 ITE (decide (z51.1.2.2.2.2.1 < ((List.length z51.2.1.2.2.2.2.1 : Nat) : Int)))
 (ITE (decide (z51.1.2.2.2.1 ≤ z51.1.1))
 (0 ≤ z51.1.2.2.2.2.1 ∧
 z51.1.2.2.2.2.1 < List.length z51.2.1.2.2.2.2.1 ∧
 ∃ (i53 : Int) (l54 : List AV) (i55 i56 : Int) (l57 : List AV),
 List.getD z51.2.1.2.2.2.2.1 (Int.toNat z51.1.2.2.2.2.1) .top = .agg [nI i53, .sl l54, nI i55, nI i56, .sl l57] ∧
 ∃ (i58 : Int),
 PureIs Try.prog 119 [.agg [nI i53, .sl l54, nI i55, nI i56, .sl l57], nI z51.1.1, nI (IntKind.wrap .i64 (z51.1.2.1 - 1))] (nI i58) ∧
 ag52 ((z51.1.1, z51.1.2.1, (), IntKind.wrap .i64 (z51.1.2.2.2.1 + i58), IntKind.wrap .i64 (z51.1.2.2.2.2.1 + 1), ()), ((z51.2.1.1, z51.2.1.2.1, z51.2.1.2.2.1, z51.2.1.2.2.2.1, z51.2.1.2.2.2.2.1, ()), ())))
 (R (nI z51.1.2.2.2.1)))
 (R (nI z51.1.2.2.2.1))
def vc119 (a0_0 : Int) (a0_1 : List AV) (a0_2 : Int) (a0_3 : Int) (a0_4 : List AV) (a1 : Int) (a2 : Int) (R : AV → Prop) : Prop :=
 ITE (decide (a2 ≤ 0))
 (R (nI (IntKind.wrap .i64 (a1 + 1))))
 (∃ (b1 : Bool),
 PureIs Try.prog 64 [.agg [.sl a0_1, nI a0_2], nI a1, nI a2] (nB b1) ∧
 ITE (!b1)
 (R (nI (IntKind.wrap .i64 (a1 + 1))))
 (∃ (i2 : Int),
 PureIs Try.prog 127 [.agg [.sl a0_1, nI a0_2]] (nI i2) ∧
 vc119_L5 ((a1, a2, (), IntKind.wrap .i64 (1 + i2), 0, ()), ((a0_0, a0_1, a0_2, a0_3, a0_4, ()), ())) R))
theorem vc119_ok {a0_0 : Int} {a0_1 : List AV} {a0_2 : Int} {a0_3 : Int} {a0_4 : List AV} {a1 : Int} {a2 : Int} {R : AV → Prop} (h : vc119 a0_0 a0_1 a0_2 a0_3 a0_4 a1 a2 R) : Pure Try.prog 119 [.agg [nI a0_0, .sl a0_1, nI a0_2, nI a0_3, .sl a0_4], nI a1, nI a2] R :=
  pure_of_code (C := cfg (Func.ntmps Try.f119)) (cfg_tab _ _ _ _ _) (cfg_ord _ _ _ _ _) (L := [{ key := 5, live := [(1, none), (2, none), (3, none), (7, none), (8, none)] }]) (fn := Try.f119) Try.func119 rfl (by kernel_rfl) (by kernel_rfl) (by rfl) (of_eq (by kernel_rfl) h)

/-- slices.Clip[[]kind.Type,kind.Type] -/
def vc122 (a0 : List AV) (R : AV → List AObj → Prop) : Prop :=
 (0 ≤ (0 : Int) ∧ (0 : Int) ≤ ((List.length a0 : Nat) : Int) ∧ ((List.length a0 : Nat) : Int) = ((List.length a0 : Nat) : Int) ∧ ((List.length a0 : Nat) : Int) ≤ List.length a0 ∧ (∀ y : AV, y ∈ a0 → List.length (AV.cells y) = 2)) ∧
 R (.clip (List.drop (Int.toNat 0) (List.take (Int.toNat ((List.length a0 : Nat) : Int)) a0))) []
theorem vc122_ok {a0 : List AV} {R : AV → List AObj → Prop} (h : vc122 a0 R) : HFn Try.prog 122 [.sl a0] [] R :=
  heap_of_code (C := cfg (Func.ntmps Try.f122)) (cfg_tab _ _ _ _ _) (cfg_ord _ _ _ _ _) (L := []) (fn := Try.f122) Try.func122 rfl (by kernel_rfl) (by kernel_rfl) (by rfl) (of_eq (by kernel_rfl) h)

/-- kind.Rest -/
def vc124 (a0_0 : List AV) (a0_1 : Int) (a1 : Int) (R : AV → Prop) : Prop :=
 ITE (decide (a1 < 0))
 (R (.tup [.agg [.sl [], nI 0], nI 1]))
 (ITE (decide (a1 > ((List.length a0_0 : Nat) : Int)))
 (R (.tup [.agg [.sl [], nI 0], nI 1]))
 ((0 ≤ a1 ∧ a1 ≤ ((List.length a0_0 : Nat) : Int) ∧ ((List.length a0_0 : Nat) : Int) ≤ List.length a0_0 ∧ (∀ y : AV, y ∈ a0_0 → List.length (AV.cells y) = 2)) ∧
 ∃ (l1 : List AV) (i2 : Int),
 PureIs Try.prog 120 [.agg [.sl (List.drop (Int.toNat a1) (List.take (Int.toNat ((List.length a0_0 : Nat) : Int)) a0_0)), nI a0_1]] (.agg [.sl l1, nI i2]) ∧
 R (.tup [.agg [.sl l1, nI i2], nI 0])))
theorem vc124_ok {a0_0 : List AV} {a0_1 : Int} {a1 : Int} {R : AV → Prop} (h : vc124 a0_0 a0_1 a1 R) : Pure Try.prog 124 [.agg [.sl a0_0, nI a0_1], nI a1] R :=
  pure_of_code (C := cfg (Func.ntmps Try.f124)) (cfg_tab _ _ _ _ _) (cfg_ord _ _ _ _ _) (L := []) (fn := Try.f124) Try.func124 rfl (by kernel_rfl) (by kernel_rfl) (by rfl) (of_eq (by kernel_rfl) h)

/-- term.HeadType -/
def vc125 (a0_0 : Int) (a0_1 : List AV) (a0_2 : List AV) (a1 : List AV) (a2_0 : Int) (a2_1 : Int) (R : AV → Prop) : Prop :=
 ∃ (l1 : List AV) (i2 : Int) (b3 : Bool),
 PureIs Try.prog 104 [.agg [nI a0_0, .sl a0_1, .sl a0_2], .sl a1, .agg [nI a2_0, nI a2_1]] (.tup [.agg [.sl l1, nI i2], nB b3]) ∧
 ITE (!b3)
 (R (.tup [.agg [.sl [], nI 0], nI 10]))
 (∃ (l4 : List AV) (i5 : Int),
 PureIs Try.prog 92 [.agg [.sl l1, nI i2], .sl []] (.agg [.sl l4, nI i5]) ∧
 R (.tup [.agg [.sl l4, nI i5], nI 0]))
theorem vc125_ok {a0_0 : Int} {a0_1 : List AV} {a0_2 : List AV} {a1 : List AV} {a2_0 : Int} {a2_1 : Int} {R : AV → Prop} (h : vc125 a0_0 a0_1 a0_2 a1 a2_0 a2_1 R) : Pure Try.prog 125 [.agg [nI a0_0, .sl a0_1, .sl a0_2], .sl a1, .agg [nI a2_0, nI a2_1]] R :=
  pure_of_code (C := cfg (Func.ntmps Try.f125)) (cfg_tab _ _ _ _ _) (cfg_ord _ _ _ _ _) (L := []) (fn := Try.f125) Try.func125 rfl (by kernel_rfl) (by kernel_rfl) (by rfl) (of_eq (by kernel_rfl) h)

/-- filigreeref06.HeadType -/
def vc126 (a0_0 : Int) (a0_1 : List AV) (a0_2 : List AV) (a1 : List AV) (a2_0 : Int) (a2_1 : Int) (R : AV → Prop) : Prop :=
 ITE (decide (a2_1 < 0))
 (R (.tup [.agg [.sl [], nI 0], nB false]))
 (ITE (a2_0 == 0)
 (ITE (decide (a2_1 < ((List.length a1 : Nat) : Int)))
 (0 ≤ (IntKind.wrap .i64 ((IntKind.wrap .i64 (((List.length a1 : Nat) : Int) - 1)) - a2_1)) ∧
 (IntKind.wrap .i64 ((IntKind.wrap .i64 (((List.length a1 : Nat) : Int) - 1)) - a2_1)) < List.length a1 ∧
 ∃ (l1 : List AV) (i2 : Int),
 List.getD a1 (Int.toNat (IntKind.wrap .i64 ((IntKind.wrap .i64 (((List.length a1 : Nat) : Int) - 1)) - a2_1))) .top = .agg [.sl l1, nI i2] ∧
 R (.tup [.agg [.sl l1, nI i2], nB true]))
 (ITE (a2_0 == 1)
 (ITE (decide (a2_1 < ((List.length a0_1 : Nat) : Int)))
 (0 ≤ a2_1 ∧
 a2_1 < List.length a0_1 ∧
 ∃ (l3 : List AV) (i4 : Int),
 List.getD a0_1 (Int.toNat a2_1) .top = .agg [.sl l3, nI i4] ∧
 R (.tup [.agg [.sl l3, nI i4], nB true]))
 (ITE (a2_0 == 2)
 (ITE (decide (a2_1 < ((List.length a0_2 : Nat) : Int)))
 (0 ≤ a2_1 ∧
 a2_1 < List.length a0_2 ∧
 ∃ (l5 : List AV) (i6 : Int),
 List.getD a0_2 (Int.toNat a2_1) .top = .agg [.sl l5, nI i6] ∧
 R (.tup [.agg [.sl l5, nI i6], nB true]))
 (R (.tup [.agg [.sl [], nI 0], nB false])))
 (R (.tup [.agg [.sl [], nI 0], nB false]))))
 (ITE (a2_0 == 2)
 (ITE (decide (a2_1 < ((List.length a0_2 : Nat) : Int)))
 (0 ≤ a2_1 ∧
 a2_1 < List.length a0_2 ∧
 ∃ (l7 : List AV) (i8 : Int),
 List.getD a0_2 (Int.toNat a2_1) .top = .agg [.sl l7, nI i8] ∧
 R (.tup [.agg [.sl l7, nI i8], nB true]))
 (R (.tup [.agg [.sl [], nI 0], nB false])))
 (R (.tup [.agg [.sl [], nI 0], nB false])))))
 (ITE (a2_0 == 1)
 (ITE (decide (a2_1 < ((List.length a0_1 : Nat) : Int)))
 (0 ≤ a2_1 ∧
 a2_1 < List.length a0_1 ∧
 ∃ (l9 : List AV) (i10 : Int),
 List.getD a0_1 (Int.toNat a2_1) .top = .agg [.sl l9, nI i10] ∧
 R (.tup [.agg [.sl l9, nI i10], nB true]))
 (ITE (a2_0 == 2)
 (ITE (decide (a2_1 < ((List.length a0_2 : Nat) : Int)))
 (0 ≤ a2_1 ∧
 a2_1 < List.length a0_2 ∧
 ∃ (l11 : List AV) (i12 : Int),
 List.getD a0_2 (Int.toNat a2_1) .top = .agg [.sl l11, nI i12] ∧
 R (.tup [.agg [.sl l11, nI i12], nB true]))
 (R (.tup [.agg [.sl [], nI 0], nB false])))
 (R (.tup [.agg [.sl [], nI 0], nB false]))))
 (ITE (a2_0 == 2)
 (ITE (decide (a2_1 < ((List.length a0_2 : Nat) : Int)))
 (0 ≤ a2_1 ∧
 a2_1 < List.length a0_2 ∧
 ∃ (l13 : List AV) (i14 : Int),
 List.getD a0_2 (Int.toNat a2_1) .top = .agg [.sl l13, nI i14] ∧
 R (.tup [.agg [.sl l13, nI i14], nB true]))
 (R (.tup [.agg [.sl [], nI 0], nB false])))
 (R (.tup [.agg [.sl [], nI 0], nB false])))))
theorem vc126_ok {a0_0 : Int} {a0_1 : List AV} {a0_2 : List AV} {a1 : List AV} {a2_0 : Int} {a2_1 : Int} {R : AV → Prop} (h : vc126 a0_0 a0_1 a0_2 a1 a2_0 a2_1 R) : Pure Try.prog 126 [.agg [nI a0_0, .sl a0_1, .sl a0_2], .sl a1, .agg [nI a2_0, nI a2_1]] R :=
  pure_of_code (C := cfg (Func.ntmps Try.f126)) (cfg_tab _ _ _ _ _) (cfg_ord _ _ _ _ _) (L := []) (fn := Try.f126) Try.func126 rfl (by kernel_rfl) (by kernel_rfl) (by rfl) (of_eq (by kernel_rfl) h)

/-- filigreeref04.Right -/
def vc128 (a0_0 : List AV) (a0_1 : Int) (a1 : Int) (R : AV → Prop) : Prop :=
 ∃ (b1 : Bool),
 PureIs Try.prog 64 [.agg [.sl a0_0, nI a0_1], nI 1000, nI 60] (nB b1) ∧
 ITE b1
 (∃ (b2 : Bool),
 PureIs Try.prog 137 [.agg [.sl a0_0, nI a0_1], nI a1] (nB b2) ∧
 R (nB b2))
 (R (nB false))
theorem vc128_ok {a0_0 : List AV} {a0_1 : Int} {a1 : Int} {R : AV → Prop} (h : vc128 a0_0 a0_1 a1 R) : Pure Try.prog 128 [.agg [.sl a0_0, nI a0_1], nI a1] R :=
  pure_of_code (C := cfg (Func.ntmps Try.f128)) (cfg_tab _ _ _ _ _) (cfg_ord _ _ _ _ _) (L := []) (fn := Try.f128) Try.func128 rfl (by kernel_rfl) (by kernel_rfl) (by rfl) (of_eq (by kernel_rfl) h)

/-- filigreeref04.Arrow -/
def vc129_L7 (p0 : (Unit × Unit × Unit × Int × Unit) × ((List AV × Int × Unit) × (Unit × Int × Unit) × (Unit × Int × Unit) × List AV × Unit)) (R : AV → Prop) : Prop :=
 LoopP ((Unit × Unit × Unit × Int × Unit) × ((List AV × Int × Unit) × (Unit × Int × Unit) × (Unit × Int × Unit) × List AV × Unit)) p0 fun z51 ag52 =>
 ITE (decide (z51.1.2.2.2.1 < ((List.length z51.2.1.1 : Nat) : Int)))
 (0 ≤ z51.1.2.2.2.1 ∧
 z51.1.2.2.2.1 < List.length z51.2.1.1 ∧
 ∃ (l53 : List AV) (i54 : Int),
 List.getD z51.2.1.1 (Int.toNat z51.1.2.2.2.1) .top = .agg [.sl l53, nI i54] ∧
 List.length z51.2.2.2.2.1 = List.length z51.2.2.2.2.1 ∧
 appOk td72 (List.length (z51.2.2.2.2.1 ++ [.agg [.sl l53, nI i54]])) [] [.agg [.sl l53, nI i54]] ∧
 List.length (z51.2.2.2.2.1 ++ [.agg [.sl l53, nI i54]]) = List.length (z51.2.2.2.2.1 ++ [.agg [.sl l53, nI i54]]) ∧
 ag52 (((), (), (), IntKind.wrap .i64 (z51.1.2.2.2.1 + 1), ()), ((z51.2.1.1, z51.2.1.2.1, ()), ((), z51.2.2.1.2.1, ()), ((), z51.2.2.2.1.2.1, ()), z51.2.2.2.2.1 ++ [.agg [.sl l53, nI i54]], ())))
 (List.length z51.2.2.2.2.1 = List.length z51.2.2.2.2.1 ∧
 R (.agg [.sl z51.2.2.2.2.1, nI z51.2.2.2.1.2.1]))
def vc129_L3 (p0 : (List AV × Unit × Unit × Unit × Int × Unit) × ((List AV × Int × Unit) × (Unit × Int × Unit) × (Unit × Int × Unit) × List AV × Unit)) (R : AV → Prop) : Prop :=
 LoopP ((List AV × Unit × Unit × Unit × Int × Unit) × ((List AV × Int × Unit) × (Unit × Int × Unit) × (Unit × Int × Unit) × List AV × Unit)) p0 fun z51 ag52 =>
 ITE (decide (z51.1.2.2.2.2.1 < ((List.length z51.1.1 : Nat) : Int)))
 (0 ≤ z51.1.2.2.2.2.1 ∧
 z51.1.2.2.2.2.1 < List.length z51.1.1 ∧
 ∃ (l53 : List AV) (i54 : Int),
 List.getD z51.1.1 (Int.toNat z51.1.2.2.2.2.1) .top = .agg [.sl l53, nI i54] ∧
 List.length z51.2.2.2.2.1 = List.length z51.2.2.2.2.1 ∧
 appOk td72 (List.length (z51.2.2.2.2.1 ++ [.agg [.sl l53, nI i54]])) [] [.agg [.sl l53, nI i54]] ∧
 List.length (z51.2.2.2.2.1 ++ [.agg [.sl l53, nI i54]]) = List.length (z51.2.2.2.2.1 ++ [.agg [.sl l53, nI i54]]) ∧
 ag52 ((z51.1.1, (), (), (), IntKind.wrap .i64 (z51.1.2.2.2.2.1 + 1), ()), ((z51.2.1.1, z51.2.1.2.1, ()), ((), z51.2.2.1.2.1, ()), ((), z51.2.2.2.1.2.1, ()), z51.2.2.2.2.1 ++ [.agg [.sl l53, nI i54]], ())))
 (List.length z51.2.2.2.2.1 = List.length z51.2.2.2.2.1 ∧
 vc129_L7 (((), (), (), 0, ()), ((z51.2.1.1, z51.2.1.2.1, ()), ((), z51.2.2.1.2.1, ()), ((), z51.2.2.2.1.2.1, ()), z51.2.2.2.2.1, ())) R)
def vc129 (a0_0 : List AV) (a0_1 : Int) (a1 : List AV) (R : AV → Prop) : Prop :=
 0 = List.length ([] : List AV) ∧
 vc129_L3 ((a1, (), (), (), 0, ()), ((a0_0, a0_1, ()), ((), 0, ()), ((), a0_1, ()), [], ())) R
theorem vc129_ok {a0_0 : List AV} {a0_1 : Int} {a1 : List AV} {R : AV → Prop} (h : vc129 a0_0 a0_1 a1 R) : Pure Try.prog 129 [.agg [.sl a0_0, nI a0_1], .sl a1] R :=
  pure_of_code (C := cfg (Func.ntmps Try.f129)) (cfg_tab _ _ _ _ _) (cfg_ord _ _ _ _ _) (L := [{ key := 3, live := [(1, none), (2, none), (4, none), (5, none), (6, none)], brows := [(2, 0, 72)] }, { key := 7, live := [(2, none), (4, none), (5, none), (7, none)] }]) (fn := Try.f129) Try.func129 rfl (by kernel_rfl) (by kernel_rfl) (by rfl) (of_eq (by kernel_rfl) h)

/-- filigreeref04.Rest -/
def vc130 (a0_0 : List AV) (a0_1 : Int) (a1 : Int) (R : AV → Prop) : Prop :=
 (0 ≤ a1 ∧ a1 ≤ ((List.length a0_0 : Nat) : Int) ∧ ((List.length a0_0 : Nat) : Int) ≤ List.length a0_0 ∧ (∀ y : AV, y ∈ a0_0 → List.length (AV.cells y) = 2)) ∧
 ∃ (l1 : List AV) (i2 : Int),
 PureIs Try.prog 129 [.agg [.sl [], nI a0_1], .sl (List.drop (Int.toNat a1) (List.take (Int.toNat ((List.length a0_0 : Nat) : Int)) a0_0))] (.agg [.sl l1, nI i2]) ∧
 R (.agg [.sl l1, nI i2])
theorem vc130_ok {a0_0 : List AV} {a0_1 : Int} {a1 : Int} {R : AV → Prop} (h : vc130 a0_0 a0_1 a1 R) : Pure Try.prog 130 [.agg [.sl a0_0, nI a0_1], nI a1] R :=
  pure_of_code (C := cfg (Func.ntmps Try.f130)) (cfg_tab _ _ _ _ _) (cfg_ord _ _ _ _ _) (L := []) (fn := Try.f130) Try.func130 rfl (by kernel_rfl) (by kernel_rfl) (by rfl) (of_eq (by kernel_rfl) h)

/-- raw.redex -/
def vc131 (a0_0 : Int) (a0_1 : List AV) (a0_2 : Int) (a0_3 : Int) (a0_4 : List AV) (R : AV → Prop) : Prop :=
 ITE (a0_0 == 4)
 (ITE (((List.length a0_4 : Nat) : Int) == 2)
 (0 ≤ (0 : Int) ∧
 (0 : Int) < List.length a0_4 ∧
 ∃ (i1 : Int) (l2 : List AV) (i3 i4 : Int) (l5 : List AV),
 List.getD a0_4 (Int.toNat 0) .top = .agg [nI i1, .sl l2, nI i3, nI i4, .sl l5] ∧
 ITE (i1 == 3)
 (0 ≤ (0 : Int) ∧
 (0 : Int) < List.length a0_4 ∧
 ∃ (i6 : Int) (l7 : List AV) (i8 i9 : Int) (l10 : List AV),
 List.getD a0_4 (Int.toNat 0) .top = .agg [nI i6, .sl l7, nI i8, nI i9, .sl l10] ∧
 R (nB (((List.length l10 : Nat) : Int) == 1)))
 (R (nB false)))
 (R (nB false)))
 (R (nB false))
theorem vc131_ok {a0_0 : Int} {a0_1 : List AV} {a0_2 : Int} {a0_3 : Int} {a0_4 : List AV} {R : AV → Prop} (h : vc131 a0_0 a0_1 a0_2 a0_3 a0_4 R) : Pure Try.prog 131 [.agg [nI a0_0, .sl a0_1, nI a0_2, nI a0_3, .sl a0_4]] R :=
  pure_of_code (C := cfg (Func.ntmps Try.f131)) (cfg_tab _ _ _ _ _) (cfg_ord _ _ _ _ _) (L := []) (fn := Try.f131) Try.func131 rfl (by kernel_rfl) (by kernel_rfl) (by rfl) (of_eq (by kernel_rfl) h)

/-- raw.Subst -/
def vc132 (a0_0 : Int) (a0_1 : List AV) (a0_2 : Int) (a0_3 : Int) (a0_4 : List AV) (a1_0 : Int) (a1_1 : List AV) (a1_2 : Int) (a1_3 : Int) (a1_4 : List AV) (R : AV → Prop) : Prop :=
 ∃ (i1 : Int) (l2 : List AV) (i3 i4 : Int) (l5 : List AV),
 PureIs Try.prog 100 [.agg [nI a0_0, .sl a0_1, nI a0_2, nI a0_3, .sl a0_4], nI 0, .clo 138 [.eptr (.agg [nI a1_0, .sl a1_1, nI a1_2, nI a1_3, .sl a1_4]) 0]] (.agg [nI i1, .sl l2, nI i3, nI i4, .sl l5]) ∧
 R (.agg [nI i1, .sl l2, nI i3, nI i4, .sl l5])
theorem vc132_ok {a0_0 : Int} {a0_1 : List AV} {a0_2 : Int} {a0_3 : Int} {a0_4 : List AV} {a1_0 : Int} {a1_1 : List AV} {a1_2 : Int} {a1_3 : Int} {a1_4 : List AV} {R : AV → Prop} (h : vc132 a0_0 a0_1 a0_2 a0_3 a0_4 a1_0 a1_1 a1_2 a1_3 a1_4 R) : Pure Try.prog 132 [.agg [nI a0_0, .sl a0_1, nI a0_2, nI a0_3, .sl a0_4], .agg [nI a1_0, .sl a1_1, nI a1_2, nI a1_3, .sl a1_4]] R :=
  pure_of_code (C := cfg (Func.ntmps Try.f132) [] [(100, .frz (.v (.a [.i .i64, .l, .i .i64, .i .i64, .l])))] []) (cfg_tab _ _ _ _ _) (cfg_ord _ _ _ _ _) (L := []) (fn := Try.f132) Try.func132 rfl (by kernel_rfl) (by kernel_rfl) (by rfl) (of_eq (by kernel_rfl) h)

/-- slices.IndexFunc[[]kind.Type,kind.Type] -/
def vc135_L2 (p0 : (List AV × (Unit × Unit) × Int × Int × Unit) × (Unit)) (p1 : Int) (p2 : List AV) (p3 : List AV) (R : AV → Prop) : Prop :=
 LoopP ((List AV × (Unit × Unit) × Int × Int × Unit) × (Unit)) p0 fun z51 ag52 =>
 ITE (decide (z51.1.2.2.2.1 < z51.1.2.2.1))
 (0 ≤ z51.1.2.2.2.1 ∧
 z51.1.2.2.2.1 < List.length z51.1.1 ∧
 ∃ (l53 : List AV) (i54 : Int),
 List.getD z51.1.1 (Int.toNat z51.1.2.2.2.1) .top = .agg [.sl l53, nI i54] ∧
 ∃ (b55 : Bool),
 PureIs Try.prog 109 [.agg [.sl l53, nI i54], .eptr (.agg [nI p1, .sl p2, .sl p3]) 0] (nB b55) ∧
 ITE b55
 (R (nI z51.1.2.2.2.1))
 ((.eptr (.agg [nI p1, .sl p2, .sl p3]) 0 : AV) = .eptr (.agg [nI p1, .sl p2, .sl p3]) 0 ∧
 ag52 ((z51.1.1, ((), ()), z51.1.2.2.1, IntKind.wrap .i64 (z51.1.2.2.2.1 + 1), ()), ())))
 (R (nI (-1)))
def vc135 (w0 : Int) (w1 : List AV) (w2 : List AV) (a0 : List AV) (R : AV → Prop) : Prop :=
 (.eptr (.agg [nI w0, .sl w1, .sl w2]) 0 : AV) = .eptr (.agg [nI w0, .sl w1, .sl w2]) 0 ∧
 vc135_L2 ((a0, ((), ()), ((List.length a0 : Nat) : Int), 0, ()), ()) w0 w1 w2 R
theorem vc135_ok {w0 : Int} {w1 : List AV} {w2 : List AV} {a0 : List AV} {R : AV → Prop} (h : vc135 w0 w1 w2 a0 R) : Pure Try.prog 135 [.sl a0, .clo 109 [.eptr (.agg [nI w0, .sl w1, .sl w2]) 0]] R :=
  pure_of_code (C := cfg (Func.ntmps Try.f135)) (cfg_tab _ _ _ _ _) (cfg_ord _ _ _ _ _) (L := [{ key := 2, live := [(0, none), (1, some (.f 109 [.c (.q (.eptr (.agg [nI w0, .sl w1, .sl w2]) 0))])), (7, none), (8, none)] }]) (fn := Try.f135) Try.func135 rfl (by kernel_rfl) (by kernel_rfl) (by rfl) (of_eq (by kernel_rfl) h)

/-- filigreeref04.low -/
def vc137_L4 (p0 : (Int × Unit × Int × Unit) × ((List AV × Int × Unit) × Unit)) (R : AV → Prop) : Prop :=
 LoopP ((Int × Unit × Int × Unit) × ((List AV × Int × Unit) × Unit)) p0 fun z51 ag52 =>
 ITE (decide (z51.1.2.2.1 < ((List.length z51.2.1.1 : Nat) : Int)))
 (0 ≤ z51.1.2.2.1 ∧
 z51.1.2.2.1 < List.length z51.2.1.1 ∧
 ∃ (l53 : List AV) (i54 : Int),
 List.getD z51.2.1.1 (Int.toNat z51.1.2.2.1) .top = .agg [.sl l53, nI i54] ∧
 ∃ (b55 : Bool),
 PureIs Try.prog 137 [.agg [.sl l53, nI i54], nI z51.1.1] (nB b55) ∧
 ITE (!b55)
 (R (nB false))
 (ag52 ((z51.1.1, (), IntKind.wrap .i64 (z51.1.2.2.1 + 1), ()), ((z51.2.1.1, z51.2.1.2.1, ()), ()))))
 (R (nB true))
def vc137 (a0_0 : List AV) (a0_1 : Int) (a1 : Int) (R : AV → Prop) : Prop :=
 ITE (decide (a0_1 < 0))
 (R (nB false))
 (ITE (decide (a0_1 ≥ a1))
 (R (nB false))
 (vc137_L4 ((a1, (), 0, ()), ((a0_0, a0_1, ()), ())) R))
theorem vc137_ok {a0_0 : List AV} {a0_1 : Int} {a1 : Int} {R : AV → Prop} (h : vc137 a0_0 a0_1 a1 R) : Pure Try.prog 137 [.agg [.sl a0_0, nI a0_1], nI a1] R :=
  pure_of_code (C := cfg (Func.ntmps Try.f137)) (cfg_tab _ _ _ _ _) (cfg_ord _ _ _ _ _) (L := [{ key := 4, live := [(1, none), (2, none), (5, none)] }]) (fn := Try.f137) Try.func137 rfl (by kernel_rfl) (by kernel_rfl) (by rfl) (of_eq (by kernel_rfl) h)

/-- raw.Subst$1 -/
def vc138 (b0 : Int) (b1 : List AV) (b2 : Int) (b3 : Int) (b4 : List AV) (a0_0 : Int) (a0_1 : List AV) (a0_2 : Int) (a0_3 : Int) (a0_4 : List AV) (a1 : Int) (R : AV → Prop) : Prop :=
 ITE (a0_3 == a1)
 (∃ (i1 : Int) (l2 : List AV) (i3 i4 : Int) (l5 : List AV),
 PureIs Try.prog 139 [.agg [nI b0, .sl b1, nI b2, nI b3, .sl b4], nI a1] (.agg [nI i1, .sl l2, nI i3, nI i4, .sl l5]) ∧
 R (.agg [nI i1, .sl l2, nI i3, nI i4, .sl l5]))
 (∃ (i6 : Int) (l7 : List AV) (i8 i9 : Int) (l10 : List AV),
 PureIs Try.prog 42 [nI 0, nI (IntKind.wrap .i64 (a0_3 - 1))] (.agg [nI i6, .sl l7, nI i8, nI i9, .sl l10]) ∧
 R (.agg [nI i6, .sl l7, nI i8, nI i9, .sl l10]))
theorem vc138_ok {b0 : Int} {b1 : List AV} {b2 : Int} {b3 : Int} {b4 : List AV} {a0_0 : Int} {a0_1 : List AV} {a0_2 : Int} {a0_3 : Int} {a0_4 : List AV} {a1 : Int} {R : AV → Prop} (h : vc138 b0 b1 b2 b3 b4 a0_0 a0_1 a0_2 a0_3 a0_4 a1 R) : Pure Try.prog 138 [.agg [nI a0_0, .sl a0_1, nI a0_2, nI a0_3, .sl a0_4], nI a1, .eptr (.agg [nI b0, .sl b1, nI b2, nI b3, .sl b4]) 0] R :=
  pure_of_code (C := cfg (Func.ntmps Try.f138)) (cfg_tab _ _ _ _ _) (cfg_ord _ _ _ _ _) (L := []) (fn := Try.f138) Try.func138 rfl (by kernel_rfl) (by kernel_rfl) (by rfl) (of_eq (by kernel_rfl) h)

/-- raw.grown -/
def vc139 (a0_0 : Int) (a0_1 : List AV) (a0_2 : Int) (a0_3 : Int) (a0_4 : List AV) (a1 : Int) (R : AV → Prop) : Prop :=
 ∃ (i1 : Int) (l2 : List AV) (i3 i4 : Int) (l5 : List AV),
 PureIs Try.prog 100 [.agg [nI a0_0, .sl a0_1, nI a0_2, nI a0_3, .sl a0_4], nI 0, .clo 144 [.eptr (nI a1) 0]] (.agg [nI i1, .sl l2, nI i3, nI i4, .sl l5]) ∧
 R (.agg [nI i1, .sl l2, nI i3, nI i4, .sl l5])
theorem vc139_ok {a0_0 : Int} {a0_1 : List AV} {a0_2 : Int} {a0_3 : Int} {a0_4 : List AV} {a1 : Int} {R : AV → Prop} (h : vc139 a0_0 a0_1 a0_2 a0_3 a0_4 a1 R) : Pure Try.prog 139 [.agg [nI a0_0, .sl a0_1, nI a0_2, nI a0_3, .sl a0_4], nI a1] R :=
  pure_of_code (C := cfg (Func.ntmps Try.f139) [] [(100, .frz (.v (.a [.i .i64, .l, .i .i64, .i .i64, .l])))] []) (cfg_tab _ _ _ _ _) (cfg_ord _ _ _ _ _) (L := []) (fn := Try.f139) Try.func139 rfl (by kernel_rfl) (by kernel_rfl) (by rfl) (of_eq (by kernel_rfl) h)

/-- raw.grown$1 -/
def vc144 (gb : Int) (a0_0 : Int) (a0_1 : List AV) (a0_2 : Int) (a0_3 : Int) (a0_4 : List AV) (a1 : Int) (R : AV → Prop) : Prop :=
 ∃ (i1 : Int) (l2 : List AV) (i3 i4 : Int) (l5 : List AV),
 PureIs Try.prog 42 [nI 0, nI (IntKind.wrap .i64 (a0_3 + gb))] (.agg [nI i1, .sl l2, nI i3, nI i4, .sl l5]) ∧
 R (.agg [nI i1, .sl l2, nI i3, nI i4, .sl l5])
theorem vc144_ok {gb : Int} {a0_0 : Int} {a0_1 : List AV} {a0_2 : Int} {a0_3 : Int} {a0_4 : List AV} {a1 : Int} {R : AV → Prop} (h : vc144 gb a0_0 a0_1 a0_2 a0_3 a0_4 a1 R) : Pure Try.prog 144 [.agg [nI a0_0, .sl a0_1, nI a0_2, nI a0_3, .sl a0_4], nI a1, .eptr (nI gb) 0] R :=
  pure_of_code (C := cfg (Func.ntmps Try.f144)) (cfg_tab _ _ _ _ _) (cfg_ord _ _ _ _ _) (L := []) (fn := Try.f144) Try.func144 rfl (by kernel_rfl) (by kernel_rfl) (by rfl) (of_eq (by kernel_rfl) h)

end Go.Proofs.Ytfbncddnakaaiaa
