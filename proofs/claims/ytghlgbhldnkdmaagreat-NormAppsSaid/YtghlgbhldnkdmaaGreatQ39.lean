/- Texts of ours laid together for a claim: Vc8. -/
import Derived.Test.YtghlgbhldnkdmaaGreatQ38
namespace Go.Proofs.YtghlgbhldnkdmaaGreat
open Go
set_option linter.unusedSimpArgs false
set_option linter.unusedVariables false
set_option maxRecDepth 100000
def vc10 (R : AV → Prop) : Prop :=
 ∃ (l1 : List AV) (i2 : Int),
 PureIs Tryz.prog 47 [nI 0, .sl []] (.agg [.sl l1, nI i2]) ∧
 ∃ (l3 : List AV) (i4 : Int),
 PureIs Tryz.prog 47 [nI 0, .sl [.agg [.sl l1, nI i2]]] (.agg [.sl l3, nI i4]) ∧
 ∃ (i5 : Int) (l6 : List AV) (i7 i8 : Int) (l9 : List AV),
 PureIs Tryz.prog 48 [nI 0, nI 0] (.agg [nI i5, .sl l6, nI i7, nI i8, .sl l9]) ∧
 ∃ (i10 : Int) (l11 : List AV) (i12 i13 : Int) (l14 : List AV),
 PureIs Tryz.prog 48 [nI 0, nI 1] (.agg [nI i10, .sl l11, nI i12, nI i13, .sl l14]) ∧
 ∃ (i15 : Int) (l16 : List AV) (i17 i18 : Int) (l19 : List AV),
 PureIs Tryz.prog 48 [nI 0, nI 1] (.agg [nI i15, .sl l16, nI i17, nI i18, .sl l19]) ∧
 ∃ (i20 : Int) (l21 : List AV) (i22 i23 : Int) (l24 : List AV),
 PureIs Tryz.prog 41 [.agg [nI i15, .sl l16, nI i17, nI i18, .sl l19], .sl [.agg [nI i5, .sl l6, nI i7, nI i8, .sl l9]]] (.agg [nI i20, .sl l21, nI i22, nI i23, .sl l24]) ∧
 ∃ (i25 : Int) (l26 : List AV) (i27 i28 : Int) (l29 : List AV),
 PureIs Tryz.prog 41 [.agg [nI i10, .sl l11, nI i12, nI i13, .sl l14], .sl [.agg [nI i20, .sl l21, nI i22, nI i23, .sl l24]]] (.agg [nI i25, .sl l26, nI i27, nI i28, .sl l29]) ∧
 ∃ (i30 : Int) (l31 : List AV) (i32 i33 : Int) (l34 : List AV),
 PureIs Tryz.prog 49 [.agg [nI i25, .sl l26, nI i27, nI i28, .sl l29], .sl [.agg [.sl l3, nI i4], .agg [.sl l1, nI i2]]] (.agg [nI i30, .sl l31, nI i32, nI i33, .sl l34]) ∧
 ∃ (i35 : Int) (l36 : List AV) (i37 i38 : Int) (l39 : List AV),
 PureIs Tryz.prog 48 [nI 1, nI 0] (.agg [nI i35, .sl l36, nI i37, nI i38, .sl l39]) ∧
 ∃ (i40 : Int) (l41 : List AV) (i42 i43 : Int) (l44 : List AV),
 PureIs Tryz.prog 41 [.agg [nI i30, .sl l31, nI i32, nI i33, .sl l34], .sl [.agg [nI i35, .sl l36, nI i37, nI i38, .sl l39]]] (.agg [nI i40, .sl l41, nI i42, nI i43, .sl l44]) ∧
 ∃ (l45 : List AV) (i46 i47 : Int) (l48 : List AV) (i49 : Int),
 PureIs Tryz.prog 24 [.agg [nI 1, .sl [.agg [.sl l3, nI i4]], .sl []], .sl [], .agg [nI i40, .sl l41, nI i42, nI i43, .sl l44]] (.tup [.agg [.sl l45, nI i46, nI i47, .sl l48], nI i49]) ∧
 ∃ (i50 i51 : Int),
 PureIs Tryz.prog 25 [.agg [nI 1, .sl [.agg [.sl l3, nI i4]], .sl []], .sl [], .agg [nI i35, .sl l36, nI i37, nI i38, .sl l39]] (.tup [nI i50, nI i51]) ∧
 ∃ (i52 : Int) (l53 : List AV) (i54 i55 : Int) (l56 : List AV),
 PureIs Tryz.prog 41 [.agg [nI i35, .sl l36, nI i37, nI i38, .sl l39], .sl [.agg [nI i5, .sl l6, nI i7, nI i8, .sl l9]]] (.agg [nI i52, .sl l53, nI i54, nI i55, .sl l56]) ∧
 ∃ (i57 : Int) (l58 : List AV) (i59 i60 : Int) (l61 : List AV),
 PureIs Tryz.prog 41 [.agg [nI i35, .sl l36, nI i37, nI i38, .sl l39], .sl [.agg [nI i52, .sl l53, nI i54, nI i55, .sl l56]]] (.agg [nI i57, .sl l58, nI i59, nI i60, .sl l61]) ∧
 ∃ (i62 : Int) (l63 : List AV) (i64 i65 : Int) (l66 : List AV),
 PureIs Tryz.prog 49 [.agg [nI i57, .sl l58, nI i59, nI i60, .sl l61], .sl [.agg [.sl l1, nI i2]]] (.agg [nI i62, .sl l63, nI i64, nI i65, .sl l66]) ∧
 ∃ (l67 : List AV) (i68 i69 : Int) (l70 : List AV) (i71 : Int),
 PureIs Tryz.prog 24 [.agg [nI 1, .sl [.agg [.sl l3, nI i4]], .sl []], .sl [], .agg [nI i62, .sl l63, nI i64, nI i65, .sl l66]] (.tup [.agg [.sl l67, nI i68, nI i69, .sl l70], nI i71]) ∧
 ITE (i49 == 0)
 (ITE (i71 == 0)
 (∃ (b72 : Bool),
 PureIs Tryz.prog 37 [.agg [.sl l45, nI i46, nI i47, .sl l48], .agg [.sl l67, nI i68, nI i69, .sl l70]] (nB b72) ∧
 ITE b72
 (∃ (i73 : Int),
 PureIs Tryz.prog 42 [.agg [.sl l45, nI i46, nI i47, .sl l48]] (nI i73) ∧
 ITE (i73 == 3)
 (ITE (i51 == 0)
 (R (nB (i50 == 2)))
 (R (nB false)))
 (R (nB false)))
 (R (nB false)))
 (R (nB false)))
 (R (nB false))
theorem vc10_ok {R : AV → Prop} (h : vc10 R) : Pure Tryz.prog 10 [] R :=
 pure_of_code (C := cfg (Func.ntmps Tryz.f10) [(5, [none, none, none, none, none, none, none, none, none, none, none, some [], none], [some [], some [], some [], some [], some [], some [], some [], some [], some [], some [], some [], none, none]), (7, [none, none, none, none, none, none, none, none, none, some [], none, none], [some [], some [], some [], some [], some [], some [], none, none, none, none, none, none]), (9, [none, none, none, none, none, none, none, none, none, none, none, none, none, none, none, some [], none, none], [some [], some [], some [], some [], some [], some [], some [], some [], some [], some [], some [], some [], none, none, none, none, none, none])]) (cfg_tab _ _ _ _ _) (cfg_ord _ _ _ _ _) (L := []) (fn := Tryz.f10) Tryz.func10 (by exact rfl) (by kernel_rfl) (by kernel_rfl) (by rfl) (of_eq (by kernel_rfl) h)
def vc42 (a0_0 : List AV) (a0_1 a0_2 : Int) (a0_3 : List AV) (R : AV → Prop) : Prop :=
 PureIs Tryz.prog 92 [.agg [.sl a0_0, nI a0_1, nI a0_2, .sl a0_3]] (.clo 123 [.eptr (.agg [.sl a0_0, nI a0_1, nI a0_2, .sl a0_3]) 0]) ∧
 RangeP ((List AV × Int × Int × List AV × Unit) × (Int × Unit) × Unit) ((Int × Int × Unit) × (List AV × Int × Int × List AV × Unit) × Unit) ((a0_0, a0_1, a0_2, a0_3, ()), (0, ()), ()) (fun Ls => SeqIs Tryz.prog 123 [.eptr (.agg [.sl a0_0, nI a0_1, nI a0_2, .sl a0_3]) 0] [.v (.a [.i .i64, .i .i64]), .v (.a [.l, .i .i64, .i .i64, .l])] Ls)
 (fun e2 z1 again3 =>
 again3 ((z1.1.1, z1.1.2.1, z1.1.2.2.1, z1.1.2.2.2.1, ()), (IntKind.wrap .i64 (z1.2.1.1 + 1), ()), ()))
 (fun z4 =>
 R (nI z4.2.1.1))
theorem vc42_ok {a0_0 : List AV} {a0_1 a0_2 : Int} {a0_3 : List AV} {R : AV → Prop} (h : vc42 a0_0 a0_1 a0_2 a0_3 R) : Pure Tryz.prog 42 [.agg [.sl a0_0, nI a0_1, nI a0_2, .sl a0_3]] R :=
 pure_of_code (C := cfg (Func.ntmps Tryz.f42) [] [(92, .clo 123)] []) (cfg_tab _ _ _ _ _) (cfg_ord _ _ _ _ _) (L := [{ key := 3, live := [], prm := [.v (.a [.i .i64, .i .i64]), .v (.a [.l, .i .i64, .i .i64, .l])] }]) (fn := Tryz.f42) Tryz.func42 (by exact rfl) (by kernel_rfl) (by kernel_rfl) (by rfl) (of_eq (by kernel_rfl) h)
def vc91_L4 (p0 : (List AV × Unit × List AV × Int × Int × Unit) × (Unit)) (R : AV → Prop) : Prop :=
 LoopP _ p0 fun z51 ag52 =>
 ITE (decide (z51.1.2.2.2.2.1 < z51.1.2.2.2.1))
 (0 ≤ z51.1.2.2.2.2.1 ∧
 z51.1.2.2.2.2.1 < List.length z51.1.2.2.1 ∧
 ∃ (l53 : List AV) (i54 i55 : Int) (l56 : List AV),
 List.getD z51.1.2.2.1 (Int.toNat z51.1.2.2.2.2.1) .top = .agg [.sl l53, nI i54, nI i55, .sl l56] ∧
 0 ≤ z51.1.2.2.2.2.1 ∧
 z51.1.2.2.2.2.1 < List.length z51.1.1 ∧
 ∃ (l57 : List AV) (i58 i59 : Int) (l60 : List AV),
 List.getD z51.1.1 (Int.toNat z51.1.2.2.2.2.1) .top = .agg [.sl l57, nI i58, nI i59, .sl l60] ∧
 ∃ (b61 : Bool),
 PureIs Tryz.prog 37 [.agg [.sl l53, nI i54, nI i55, .sl l56], .agg [.sl l57, nI i58, nI i59, .sl l60]] (nB b61) ∧
 ITE (!b61)
 (R (nB false))
 (ag52 ((z51.1.1, (), z51.1.2.2.1, z51.1.2.2.2.1, IntKind.wrap .i64 (z51.1.2.2.2.2.1 + 1), ()), ())))
 (R (nB true))
def vc91 (a0 a1 : List AV) (R : AV → Prop) : Prop :=
 ITE (((List.length a0 : Nat) : Int) != ((List.length a1 : Nat) : Int))
 (R (nB false))
 (vc91_L4 ((a1, (), a0, ((List.length a0 : Nat) : Int), 0, ()), ()) R)
theorem vc91_ok {a0 a1 : List AV} {R : AV → Prop} (h : vc91 a0 a1 R) : Pure Tryz.prog 91 [.sl a0, .sl a1, .clo 37 []] R :=
 pure_of_code (C := cfg (Func.ntmps Tryz.f91)) (cfg_tab _ _ _ _ _) (cfg_ord _ _ _ _ _) (L := [{ key := 4, live := [(1, none), (2, none), (15, none), (16, none), (17, none)] }]) (fn := Tryz.f91) Tryz.func91 (by exact rfl) (by kernel_rfl) (by kernel_rfl) (by rfl) (of_eq (by kernel_rfl) h)
def vc37 (a0_0 : List AV) (a0_1 a0_2 : Int) (a0_3 a1_0 : List AV) (a1_1 a1_2 : Int) (a1_3 : List AV) (R : AV → Prop) : Prop :=
 ITE (a0_1 == a1_1 && a0_2 == a1_2)
 (∃ (b1 : Bool),
 PureIs Tryz.prog 89 [.sl a0_0, .sl a1_0, .clo 90 []] (nB b1) ∧
 ITE b1
 (∃ (b2 : Bool),
 PureIs Tryz.prog 91 [.sl a0_3, .sl a1_3, .clo 37 []] (nB b2) ∧
 R (nB b2))
 (R (nB false)))
 (R (nB false))
theorem vc37_ok {a0_0 : List AV} {a0_1 a0_2 : Int} {a0_3 a1_0 : List AV} {a1_1 a1_2 : Int} {a1_3 : List AV} {R : AV → Prop} (h : vc37 a0_0 a0_1 a0_2 a0_3 a1_0 a1_1 a1_2 a1_3 R) : Pure Tryz.prog 37 [.agg [.sl a0_0, nI a0_1, nI a0_2, .sl a0_3], .agg [.sl a1_0, nI a1_1, nI a1_2, .sl a1_3]] R :=
 pure_of_code (C := cfg (Func.ntmps Tryz.f37)) (cfg_tab _ _ _ _ _) (cfg_ord _ _ _ _ _) (L := []) (fn := Tryz.f37) Tryz.func37 (by exact rfl) (by kernel_rfl) (by kernel_rfl) (by rfl) (of_eq (by kernel_rfl) h)
end Go.Proofs.YtghlgbhldnkdmaaGreat
