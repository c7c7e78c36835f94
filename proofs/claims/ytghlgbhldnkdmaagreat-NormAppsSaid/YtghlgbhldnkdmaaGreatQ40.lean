/- Texts of ours laid together for a claim: Vc9. -/
import Derived.Test.YtghlgbhldnkdmaaGreatQ39
namespace Go.Proofs.YtghlgbhldnkdmaaGreat
open Go
set_option linter.unusedSimpArgs false
set_option linter.unusedVariables false
set_option maxRecDepth 100000
def vc35 (xl xu xd xm xs xy : Int) (a0_0 : List AV) (a0_1 a0_2 : Int) (a0_3 a2 : List AV) (R : AV → List AObj → Prop) : Prop :=
 ∃ (S3 : AV → List AObj → Prop),
 HFn Tryz.prog 87 [.ptr 1 0, .agg [.sl a0_0, nI a0_1, nI a0_2, .sl a0_3], .sl a2] [.box (budC xl xu xd xm xs xy), .box [.ptr 0 0, nI 0, nI 0]] S3 ∧
 ∀ (r1 : AV) (q2 : List AObj), S3 r1 q2 →
 ∃ (i4 i5 i6 i7 i8 i9 i10 i11 : Int) (l12 : List AV) (i13 i14 : Int) (l15 : List AV),
 (r1 = .agg [.sl l12, nI i13, nI i14, .sl l15] ∧ q2 = [.box (budC i4 i5 i6 i7 i8 i9), .box [.ptr 0 0, nI i10, nI i11]]) ∧
 ∃ (S18 : AV → List AObj → Prop),
 HFn Tryz.prog 86 [.ptr 1 0, .agg [.sl l12, nI i13, nI i14, .sl l15]] [.box (budC i4 i5 i6 i7 i8 i9), .box [.ptr 0 0, nI i10, nI i11]] S18 ∧
 ∀ (r16 : AV) (q17 : List AObj), S18 r16 q17 →
 ∃ (i19 i20 i21 i22 i23 i24 i25 i26 : Int) (l27 : List AV) (i28 i29 : Int) (l30 : List AV) (i31 : Int),
 (r16 = .tup [.agg [.sl l27, nI i28, nI i29, .sl l30], nI i31] ∧ q17 = [.box (budC i19 i20 i21 i22 i23 i24), .box [.ptr 0 0, nI i25, nI i26]]) ∧
 R (.tup [.agg [.sl l27, nI i28, nI i29, .sl l30], nI i31]) [.box (budC i19 i20 i21 i22 i23 i24)]
theorem vc35_ok {xl xu xd xm xs xy : Int} {a0_0 : List AV} {a0_1 a0_2 : Int} {a0_3 a2 : List AV} {R : AV → List AObj → Prop} (h : vc35 xl xu xd xm xs xy a0_0 a0_1 a0_2 a0_3 a2 R) : HFn Tryz.prog 35 [.agg [.sl a0_0, nI a0_1, nI a0_2, .sl a0_3], .ptr 0 0, .sl a2] [.box (budC xl xu xd xm xs xy)] R :=
 heap_of_code (C := cfg (Func.ntmps Tryz.f35) [] [(87, .emb [(.v (.a [.l, .i .i64, .i .i64, .l]), [.box [.i .i64, .i .i64, .i .u32, .i .i32, .i .u32, .i .u32], .box [.k (.ptr 0 0), .i .i64, .i .i64]])]), (86, .emb [(.t [.a [.l, .i .i64, .i .i64, .l], .c (.i .i64)], [.box [.i .i64, .i .i64, .i .u32, .i .i32, .i .u32, .i .u32], .box [.k (.ptr 0 0), .i .i64, .i .i64]])])] []) (cfg_tab _ _ _ _ _) (cfg_ord _ _ _ _ _) (L := []) (fn := Tryz.f35) Tryz.func35 (by exact rfl) (by kernel_rfl) (by kernel_rfl) (by rfl) (of_eq (by kernel_rfl) h)
def vc40_L5 (p0 : (List AV × Unit × Unit × List AV × Int × Int × Unit) × ((Int × List AV × List AV × Unit) × (List AV × Int × Int × List AV × Unit) × (List AV × Int × Unit) × Unit)) (R : AV → Prop) : Prop :=
 LoopP _ p0 fun z51 ag52 =>
 ITE (decide (z51.1.2.2.2.2.2.1 < z51.1.2.2.2.2.1))
 (0 ≤ z51.1.2.2.2.2.2.1 ∧
 z51.1.2.2.2.2.2.1 < List.length z51.1.2.2.2.1 ∧
 ∃ (l53 : List AV) (i54 i55 : Int) (l56 : List AV),
 List.getD z51.1.2.2.2.1 (Int.toNat z51.1.2.2.2.2.2.1) .top = .agg [.sl l53, nI i54, nI i55, .sl l56] ∧
 0 ≤ z51.1.2.2.2.2.2.1 ∧
 z51.1.2.2.2.2.2.1 < List.length z51.2.2.2.1.1 ∧
 ∃ (l57 : List AV) (i58 : Int),
 List.getD z51.2.2.2.1.1 (Int.toNat z51.1.2.2.2.2.2.1) .top = .agg [.sl l57, nI i58] ∧
 ∃ (i59 : Int),
 PureIs Tryz.prog 32 [.agg [nI z51.2.1.1, .sl z51.2.1.2.1, .sl z51.2.1.2.2.1], .sl z51.1.1, .agg [.sl l53, nI i54, nI i55, .sl l56], .agg [.sl l57, nI i58]] (nI i59) ∧
 ITE (i59 != 0)
 (R (nB false))
 (ag52 ((z51.1.1, (), (), z51.1.2.2.2.1, z51.1.2.2.2.2.1, IntKind.wrap .i64 (z51.1.2.2.2.2.2.1 + 1), ()), ((z51.2.1.1, z51.2.1.2.1, z51.2.1.2.2.1, ()), (z51.2.2.1.1, z51.2.2.1.2.1, z51.2.2.1.2.2.1, z51.2.2.1.2.2.2.1, ()), (z51.2.2.2.1.1, z51.2.2.2.1.2.1, ()), ()))))
 (R (nB true))
def vc40 (a0_0 : Int) (a0_1 a0_2 a1 a2_0 : List AV) (a2_1 a2_2 : Int) (a2_3 a3 : List AV) (R : AV → Prop) : Prop :=
 ∃ (l1 : List AV) (i2 i3 : Int),
 PureIs Tryz.prog 29 [.agg [nI a0_0, .sl a0_1, .sl a0_2], .sl a1, .agg [.sl a2_0, nI a2_1, nI a2_2, .sl a2_3]] (.tup [.agg [.sl l1, nI i2], nI i3]) ∧
 ITE (i3 != 0)
 (R (nB false))
 (∃ (b4 : Bool),
 PureIs Tryz.prog 93 [.agg [nI a0_0, .sl a0_1, .sl a0_2], .sl a1] (nB b4) ∧
 ITE (!b4)
 (R (nB false))
 (∃ (i5 : Int),
 PureIs Tryz.prog 32 [.agg [nI a0_0, .sl a0_1, .sl a0_2], .sl a1, .agg [.sl a2_0, nI a2_1, nI a2_2, .sl a2_3], .agg [.sl l1, nI i2]] (nI i5) ∧
 ITE (i5 != 0)
 (R (nB false))
 (ITE (decide (((List.length a3 : Nat) : Int) > ((List.length l1 : Nat) : Int)))
 (R (nB false))
 (vc40_L5 ((a1, (), (), a3, ((List.length a3 : Nat) : Int), 0, ()), ((a0_0, a0_1, a0_2, ()), (a2_0, a2_1, a2_2, a2_3, ()), (l1, i2, ()), ())) R))))
theorem vc40_ok {a0_0 : Int} {a0_1 a0_2 a1 a2_0 : List AV} {a2_1 a2_2 : Int} {a2_3 a3 : List AV} {R : AV → Prop} (h : vc40 a0_0 a0_1 a0_2 a1 a2_0 a2_1 a2_2 a2_3 a3 R) : Pure Tryz.prog 40 [.agg [nI a0_0, .sl a0_1, .sl a0_2], .sl a1, .agg [.sl a2_0, nI a2_1, nI a2_2, .sl a2_3], .sl a3] R :=
 pure_of_code (C := cfg (Func.ntmps Tryz.f40)) (cfg_tab _ _ _ _ _) (cfg_ord _ _ _ _ _) (L := [{ key := 5, live := [(1, none), (4, none), (9, none), (44, none), (45, none), (46, none)] }]) (fn := Tryz.f40) Tryz.func40 (by exact rfl) (by kernel_rfl) (by kernel_rfl) (by rfl) (of_eq (by kernel_rfl) h)
def vc6_L23 (p0 : (Unit × Unit × Int × Unit × Int × Unit × Bool × Int × Unit) × ((Int × List AV × List AV × Unit) × (List AV × Int × Int × List AV × Unit) × (Int × List AV × List AV × Unit) × (List AV × Int × Int × List AV × Unit) × List AV × List AV × (Int × Int × Int × Int × Int × Int × Unit) × (List AV × Int × Int × List AV × Unit) × (List AV × Int × Int × List AV × Unit) × (List AV × Int × Int × List AV × Unit) × Unit)) (p1 : List AV) (p2 p3 : Int) (p4 : List AV) (p5 p6 p7 p8 p9 p10 : Int) (p11 : ((Unit × Unit × Int × Unit × Int × Unit × Bool × Int × Unit) × ((Int × List AV × List AV × Unit) × (List AV × Int × Int × List AV × Unit) × (Int × List AV × List AV × Unit) × (List AV × Int × Int × List AV × Unit) × List AV × List AV × (Int × Int × Int × Int × Int × Int × Unit) × (List AV × Int × Int × List AV × Unit) × (List AV × Int × Int × List AV × Unit) × (List AV × Int × Int × List AV × Unit) × Unit)) → Prop) : Prop :=
 ∃ (S50 : AV → List AObj → Prop),
 HFn Tryz.prog 35 [.agg [.sl p0.2.2.2.2.2.2.2.2.2.2.1.1, nI p0.2.2.2.2.2.2.2.2.2.2.1.2.1, nI p0.2.2.2.2.2.2.2.2.2.2.1.2.2.1, .sl p0.2.2.2.2.2.2.2.2.2.2.1.2.2.2.1], .ptr 0 0, .clip [.agg [.sl p1, nI p2, nI p3, .sl p4]]] [.box (budC p5 p6 p7 p8 p9 p10)] S50 ∧
 ∀ (r62 : AV) (q63 : List AObj), S50 r62 q63 →
 ∃ (i64 i65 i66 i67 i68 i69 : Int) (l70 : List AV) (i71 i72 : Int) (l73 : List AV) (i74 : Int),
 (r62 = .tup [.agg [.sl l70, nI i71, nI i72, .sl l73], nI i74] ∧ q63 = [.box (budC i64 i65 i66 i67 i68 i69)]) ∧
 ITE p0.1.2.2.2.2.2.2.1
 (List.length p0.2.2.2.2.2.1 = List.length p0.2.2.2.2.2.1 ∧
 p11 (((), (), p0.1.2.2.1, (), p0.1.2.2.2.2.1, (), i74 == 0, IntKind.wrap .i64 (p0.1.2.2.2.2.2.2.2.1 + 1), ()), ((p0.2.1.1, p0.2.1.2.1, p0.2.1.2.2.1, ()), (p0.2.2.1.1, p0.2.2.1.2.1, p0.2.2.1.2.2.1, p0.2.2.1.2.2.2.1, ()), (p0.2.2.2.1.1, p0.2.2.2.1.2.1, p0.2.2.2.1.2.2.1, ()), (p0.2.2.2.2.1.1, p0.2.2.2.2.1.2.1, p0.2.2.2.2.1.2.2.1, p0.2.2.2.2.1.2.2.2.1, ()), p0.2.2.2.2.2.1, p0.2.2.2.2.2.2.1, (p0.2.2.2.2.2.2.2.1.1, p0.2.2.2.2.2.2.2.1.2.1, p0.2.2.2.2.2.2.2.1.2.2.1, p0.2.2.2.2.2.2.2.1.2.2.2.1, p0.2.2.2.2.2.2.2.1.2.2.2.2.1, p0.2.2.2.2.2.2.2.1.2.2.2.2.2.1, ()), (p0.2.2.2.2.2.2.2.2.1.1, p0.2.2.2.2.2.2.2.2.1.2.1, p0.2.2.2.2.2.2.2.2.1.2.2.1, p0.2.2.2.2.2.2.2.2.1.2.2.2.1, ()), (p0.2.2.2.2.2.2.2.2.2.1.1, p0.2.2.2.2.2.2.2.2.2.1.2.1, p0.2.2.2.2.2.2.2.2.2.1.2.2.1, p0.2.2.2.2.2.2.2.2.2.1.2.2.2.1, ()), (l70, i71, i72, l73, ()), ())))
 (List.length p0.2.2.2.2.2.1 = List.length p0.2.2.2.2.2.1 ∧
 p11 (((), (), p0.1.2.2.1, (), p0.1.2.2.2.2.1, (), false, IntKind.wrap .i64 (p0.1.2.2.2.2.2.2.2.1 + 1), ()), ((p0.2.1.1, p0.2.1.2.1, p0.2.1.2.2.1, ()), (p0.2.2.1.1, p0.2.2.1.2.1, p0.2.2.1.2.2.1, p0.2.2.1.2.2.2.1, ()), (p0.2.2.2.1.1, p0.2.2.2.1.2.1, p0.2.2.2.1.2.2.1, ()), (p0.2.2.2.2.1.1, p0.2.2.2.2.1.2.1, p0.2.2.2.2.1.2.2.1, p0.2.2.2.2.1.2.2.2.1, ()), p0.2.2.2.2.2.1, p0.2.2.2.2.2.2.1, (p0.2.2.2.2.2.2.2.1.1, p0.2.2.2.2.2.2.2.1.2.1, p0.2.2.2.2.2.2.2.1.2.2.1, p0.2.2.2.2.2.2.2.1.2.2.2.1, p0.2.2.2.2.2.2.2.1.2.2.2.2.1, p0.2.2.2.2.2.2.2.1.2.2.2.2.2.1, ()), (p0.2.2.2.2.2.2.2.2.1.1, p0.2.2.2.2.2.2.2.2.1.2.1, p0.2.2.2.2.2.2.2.2.1.2.2.1, p0.2.2.2.2.2.2.2.2.1.2.2.2.1, ()), (p0.2.2.2.2.2.2.2.2.2.1.1, p0.2.2.2.2.2.2.2.2.2.1.2.1, p0.2.2.2.2.2.2.2.2.2.1.2.2.1, p0.2.2.2.2.2.2.2.2.2.1.2.2.2.1, ()), (l70, i71, i72, l73, ()), ())))
def vc6_L23' (p0 : (Unit × Unit × Int × Unit × Int × Unit × Bool × Int × Unit) × ((Int × List AV × List AV × Unit) × (List AV × Int × Int × List AV × Unit) × (Int × List AV × List AV × Unit) × (List AV × Int × Int × List AV × Unit) × List AV × List AV × (Int × Int × Int × Int × Int × Int × Unit) × (List AV × Int × Int × List AV × Unit) × (List AV × Int × Int × List AV × Unit) × (List AV × Int × Int × List AV × Unit) × Unit)) (p1 : List AV) (p2 p3 : Int) (p4 : List AV) (p5 : ((Unit × Unit × Int × Unit × Int × Unit × Bool × Int × Unit) × ((Int × List AV × List AV × Unit) × (List AV × Int × Int × List AV × Unit) × (Int × List AV × List AV × Unit) × (List AV × Int × Int × List AV × Unit) × List AV × List AV × (Int × Int × Int × Int × Int × Int × Unit) × (List AV × Int × Int × List AV × Unit) × (List AV × Int × Int × List AV × Unit) × (List AV × Int × Int × List AV × Unit) × Unit)) → Prop) : Prop :=
 ∃ (S50 : AV → List AObj → Prop),
 HFn Tryz.prog 36 [nI 5000] [] S50 ∧
 ∀ (r51 : AV) (q52 : List AObj), S50 r51 q52 →
 ∃ (i53 i54 i55 i56 i57 i58 : Int),
 (r51 = .ptr 0 0 ∧ q52 = [.box (budC i53 i54 i55 i56 i57 i58)]) ∧
 (vc6_L23 p0 p1 p2 p3 p4 i53 i54 i55 i56 i57 i58 p5) ∧
 (vc6_L23 p0 p1 p2 p3 p4 i53 i54 i55 i56 i57 i58 p5)
def vc6_L23'' (p0 : (Unit × Unit × Int × Unit × Int × Unit × Bool × Int × Unit) × ((Int × List AV × List AV × Unit) × (List AV × Int × Int × List AV × Unit) × (Int × List AV × List AV × Unit) × (List AV × Int × Int × List AV × Unit) × List AV × List AV × (Int × Int × Int × Int × Int × Int × Unit) × (List AV × Int × Int × List AV × Unit) × (List AV × Int × Int × List AV × Unit) × (List AV × Int × Int × List AV × Unit) × Unit)) (p1 : List AV) (p2 p3 : Int) (p4 : List AV) (p5 : ((Unit × Unit × Int × Unit × Int × Unit × Bool × Int × Unit) × ((Int × List AV × List AV × Unit) × (List AV × Int × Int × List AV × Unit) × (Int × List AV × List AV × Unit) × (List AV × Int × Int × List AV × Unit) × List AV × List AV × (Int × Int × Int × Int × Int × Int × Unit) × (List AV × Int × Int × List AV × Unit) × (List AV × Int × Int × List AV × Unit) × (List AV × Int × Int × List AV × Unit) × Unit)) → Prop) : Prop :=
 ∃ (S50 : AV → List AObj → Prop),
 HFn Tryz.prog 36 [nI 5000] [] S50 ∧
 ∀ (r51 : AV) (q52 : List AObj), S50 r51 q52 →
 ∃ (i53 i54 i55 i56 i57 i58 : Int),
 (r51 = .ptr 0 0 ∧ q52 = [.box (budC i53 i54 i55 i56 i57 i58)]) ∧
 ∃ (S59 : AV → List AObj → Prop),
 HFn Tryz.prog 35 [.agg [.sl p0.2.2.2.2.2.2.2.2.2.2.1.1, nI p0.2.2.2.2.2.2.2.2.2.2.1.2.1, nI p0.2.2.2.2.2.2.2.2.2.2.1.2.2.1, .sl p0.2.2.2.2.2.2.2.2.2.2.1.2.2.2.1], .ptr 0 0, .clip [.agg [.sl p1, nI p2, nI p3, .sl p4]]] [.box (budC i53 i54 i55 i56 i57 i58)] S59 ∧
 ∀ (r65 : AV) (q66 : List AObj), S59 r65 q66 →
 ∃ (i67 i68 i69 i70 i71 i72 : Int) (l73 : List AV) (i74 i75 : Int) (l76 : List AV) (i77 : Int),
 (r65 = .tup [.agg [.sl l73, nI i74, nI i75, .sl l76], nI i77] ∧ q66 = [.box (budC i67 i68 i69 i70 i71 i72)]) ∧
 ITE p0.1.2.2.2.2.2.2.1
 (List.length p0.2.2.2.2.2.1 = List.length p0.2.2.2.2.2.1 ∧
 p5 (((), (), p0.1.2.2.1, (), p0.1.2.2.2.2.1, (), i77 == 0, IntKind.wrap .i64 (p0.1.2.2.2.2.2.2.2.1 + 1), ()), ((p0.2.1.1, p0.2.1.2.1, p0.2.1.2.2.1, ()), (p0.2.2.1.1, p0.2.2.1.2.1, p0.2.2.1.2.2.1, p0.2.2.1.2.2.2.1, ()), (p0.2.2.2.1.1, p0.2.2.2.1.2.1, p0.2.2.2.1.2.2.1, ()), (p0.2.2.2.2.1.1, p0.2.2.2.2.1.2.1, p0.2.2.2.2.1.2.2.1, p0.2.2.2.2.1.2.2.2.1, ()), p0.2.2.2.2.2.1, p0.2.2.2.2.2.2.1, (p0.2.2.2.2.2.2.2.1.1, p0.2.2.2.2.2.2.2.1.2.1, p0.2.2.2.2.2.2.2.1.2.2.1, p0.2.2.2.2.2.2.2.1.2.2.2.1, p0.2.2.2.2.2.2.2.1.2.2.2.2.1, p0.2.2.2.2.2.2.2.1.2.2.2.2.2.1, ()), (p0.2.2.2.2.2.2.2.2.1.1, p0.2.2.2.2.2.2.2.2.1.2.1, p0.2.2.2.2.2.2.2.2.1.2.2.1, p0.2.2.2.2.2.2.2.2.1.2.2.2.1, ()), (p0.2.2.2.2.2.2.2.2.2.1.1, p0.2.2.2.2.2.2.2.2.2.1.2.1, p0.2.2.2.2.2.2.2.2.2.1.2.2.1, p0.2.2.2.2.2.2.2.2.2.1.2.2.2.1, ()), (l73, i74, i75, l76, ()), ())))
 (List.length p0.2.2.2.2.2.1 = List.length p0.2.2.2.2.2.1 ∧
 p5 (((), (), p0.1.2.2.1, (), p0.1.2.2.2.2.1, (), false, IntKind.wrap .i64 (p0.1.2.2.2.2.2.2.2.1 + 1), ()), ((p0.2.1.1, p0.2.1.2.1, p0.2.1.2.2.1, ()), (p0.2.2.1.1, p0.2.2.1.2.1, p0.2.2.1.2.2.1, p0.2.2.1.2.2.2.1, ()), (p0.2.2.2.1.1, p0.2.2.2.1.2.1, p0.2.2.2.1.2.2.1, ()), (p0.2.2.2.2.1.1, p0.2.2.2.2.1.2.1, p0.2.2.2.2.1.2.2.1, p0.2.2.2.2.1.2.2.2.1, ()), p0.2.2.2.2.2.1, p0.2.2.2.2.2.2.1, (p0.2.2.2.2.2.2.2.1.1, p0.2.2.2.2.2.2.2.1.2.1, p0.2.2.2.2.2.2.2.1.2.2.1, p0.2.2.2.2.2.2.2.1.2.2.2.1, p0.2.2.2.2.2.2.2.1.2.2.2.2.1, p0.2.2.2.2.2.2.2.1.2.2.2.2.2.1, ()), (p0.2.2.2.2.2.2.2.2.1.1, p0.2.2.2.2.2.2.2.2.1.2.1, p0.2.2.2.2.2.2.2.2.1.2.2.1, p0.2.2.2.2.2.2.2.2.1.2.2.2.1, ()), (p0.2.2.2.2.2.2.2.2.2.1.1, p0.2.2.2.2.2.2.2.2.2.1.2.1, p0.2.2.2.2.2.2.2.2.2.1.2.2.1, p0.2.2.2.2.2.2.2.2.2.1.2.2.2.1, ()), (l73, i74, i75, l76, ()), ())))
def vc6_L21 (p0 : (Unit × Unit × Int × Unit × Int × Unit × Bool × Int × Unit) × ((Int × List AV × List AV × Unit) × (List AV × Int × Int × List AV × Unit) × (Int × List AV × List AV × Unit) × (List AV × Int × Int × List AV × Unit) × List AV × List AV × (Int × Int × Int × Int × Int × Int × Unit) × (List AV × Int × Int × List AV × Unit) × (List AV × Int × Int × List AV × Unit) × (List AV × Int × Int × List AV × Unit) × Unit)) (R : AV → Prop) : Prop :=
 LoopP _ p0 fun z51 ag52 =>
 List.length z51.2.2.2.2.2.1 = List.length z51.2.2.2.2.2.1 ∧
 ITE (decide (z51.1.2.2.2.2.2.2.2.1 < ((List.length z51.2.2.2.2.2.1 : Nat) : Int)))
 (List.length z51.2.2.2.2.2.1 = List.length z51.2.2.2.2.2.1 ∧
 0 ≤ z51.1.2.2.2.2.2.2.2.1 ∧
 z51.1.2.2.2.2.2.2.2.1 < List.length z51.2.2.2.2.2.1 ∧
 ∃ (l53 : List AV) (i54 i55 : Int) (l56 : List AV),
 List.getD z51.2.2.2.2.2.1 (Int.toNat z51.1.2.2.2.2.2.2.2.1) .top = .agg [.sl l53, nI i54, nI i55, .sl l56] ∧
 (vc6_L23' z51 l53 i54 i55 l56 ag52) ∧
 (vc6_L23'' z51 l53 i54 i55 l56 ag52))
 (ITE (z51.1.2.2.1 == 0)
 (ITE (z51.1.2.2.2.2.1 == 0)
 (∃ (b57 : Bool),
 PureIs Tryz.prog 37 [.agg [.sl z51.2.2.2.2.2.2.2.2.1.1, nI z51.2.2.2.2.2.2.2.2.1.2.1, nI z51.2.2.2.2.2.2.2.2.1.2.2.1, .sl z51.2.2.2.2.2.2.2.2.1.2.2.2.1], .agg [.sl z51.2.2.2.2.2.2.2.2.2.1.1, nI z51.2.2.2.2.2.2.2.2.2.1.2.1, nI z51.2.2.2.2.2.2.2.2.2.1.2.2.1, .sl z51.2.2.2.2.2.2.2.2.2.1.2.2.2.1]] (nB b57) ∧
 ITE (!b57)
 (R (nB false))
 (ITE (z51.1.2.2.1 == 0)
 (ITE z51.1.2.2.2.2.2.2.1
 (∃ (b58 : Bool),
 PureIs Tryz.prog 37 [.agg [.sl z51.2.2.2.2.2.2.2.2.1.1, nI z51.2.2.2.2.2.2.2.2.1.2.1, nI z51.2.2.2.2.2.2.2.2.1.2.2.1, .sl z51.2.2.2.2.2.2.2.2.1.2.2.2.1], .agg [.sl z51.2.2.2.2.2.2.2.2.2.2.1.1, nI z51.2.2.2.2.2.2.2.2.2.2.1.2.1, nI z51.2.2.2.2.2.2.2.2.2.2.1.2.2.1, .sl z51.2.2.2.2.2.2.2.2.2.2.1.2.2.2.1]] (nB b58) ∧
 ITE (!b58)
 (R (nB false))
 (∃ (b59 : Bool),
 PureIs Tryz.prog 10 [] (nB b59) ∧
 R (nB b59)))
 (∃ (b60 : Bool),
 PureIs Tryz.prog 10 [] (nB b60) ∧
 R (nB b60)))
 (∃ (b61 : Bool),
 PureIs Tryz.prog 10 [] (nB b61) ∧
 R (nB b61))))
 (ITE (z51.1.2.2.1 == 0)
 (ITE z51.1.2.2.2.2.2.2.1
 (∃ (b62 : Bool),
 PureIs Tryz.prog 37 [.agg [.sl z51.2.2.2.2.2.2.2.2.1.1, nI z51.2.2.2.2.2.2.2.2.1.2.1, nI z51.2.2.2.2.2.2.2.2.1.2.2.1, .sl z51.2.2.2.2.2.2.2.2.1.2.2.2.1], .agg [.sl z51.2.2.2.2.2.2.2.2.2.2.1.1, nI z51.2.2.2.2.2.2.2.2.2.2.1.2.1, nI z51.2.2.2.2.2.2.2.2.2.2.1.2.2.1, .sl z51.2.2.2.2.2.2.2.2.2.2.1.2.2.2.1]] (nB b62) ∧
 ITE (!b62)
 (R (nB false))
 (∃ (b63 : Bool),
 PureIs Tryz.prog 10 [] (nB b63) ∧
 R (nB b63)))
 (∃ (b64 : Bool),
 PureIs Tryz.prog 10 [] (nB b64) ∧
 R (nB b64)))
 (∃ (b65 : Bool),
 PureIs Tryz.prog 10 [] (nB b65) ∧
 R (nB b65))))
 (ITE (z51.1.2.2.1 == 0)
 (ITE z51.1.2.2.2.2.2.2.1
 (∃ (b66 : Bool),
 PureIs Tryz.prog 37 [.agg [.sl z51.2.2.2.2.2.2.2.2.1.1, nI z51.2.2.2.2.2.2.2.2.1.2.1, nI z51.2.2.2.2.2.2.2.2.1.2.2.1, .sl z51.2.2.2.2.2.2.2.2.1.2.2.2.1], .agg [.sl z51.2.2.2.2.2.2.2.2.2.2.1.1, nI z51.2.2.2.2.2.2.2.2.2.2.1.2.1, nI z51.2.2.2.2.2.2.2.2.2.2.1.2.2.1, .sl z51.2.2.2.2.2.2.2.2.2.2.1.2.2.2.1]] (nB b66) ∧
 ITE (!b66)
 (R (nB false))
 (∃ (b67 : Bool),
 PureIs Tryz.prog 10 [] (nB b67) ∧
 R (nB b67)))
 (∃ (b68 : Bool),
 PureIs Tryz.prog 10 [] (nB b68) ∧
 R (nB b68)))
 (∃ (b69 : Bool),
 PureIs Tryz.prog 10 [] (nB b69) ∧
 R (nB b69))))
def vc6_L16 (p0 : (List AV × Unit × List AV × Unit × Unit × Unit × Int × Unit) × ((Int × List AV × List AV × Unit) × (List AV × Int × Int × List AV × Unit) × (Int × List AV × List AV × Unit) × (List AV × Int × Int × List AV × Unit) × List AV × List AV × Unit)) (p1 p2 p3 p4 p5 p6 : Int) (R : AV → Prop) : Prop :=
 List.length p0.2.2.2.2.2.1 = List.length p0.2.2.2.2.2.1 ∧
 ∃ (S51 : AV → List AObj → Prop),
 HFn Tryz.prog 35 [.agg [.sl p0.2.2.2.2.1.1, nI p0.2.2.2.2.1.2.1, nI p0.2.2.2.2.1.2.2.1, .sl p0.2.2.2.2.1.2.2.2.1], .ptr 0 0, .sl p0.2.2.2.2.2.1] [.box (budC p1 p2 p3 p4 p5 p6)] S51 ∧
 ∀ (r58 : AV) (q59 : List AObj), S51 r58 q59 →
 ∃ (i60 i61 i62 i63 i64 i65 : Int) (l66 : List AV) (i67 i68 : Int) (l69 : List AV) (i70 : Int),
 (r58 = .tup [.agg [.sl l66, nI i67, nI i68, .sl l69], nI i70] ∧ q59 = [.box (budC i60 i61 i62 i63 i64 i65)]) ∧
 ∃ (i71 : Int) (l72 : List AV) (i73 i74 : Int) (l75 : List AV),
 PureIs Tryz.prog 39 [.agg [.sl p0.2.2.2.2.1.1, nI p0.2.2.2.2.1.2.1, nI p0.2.2.2.2.1.2.2.1, .sl p0.2.2.2.2.1.2.2.2.1]] (.agg [nI i71, .sl l72, nI i73, nI i74, .sl l75]) ∧
 List.length p0.2.2.2.2.2.2.1 = List.length p0.2.2.2.2.2.2.1 ∧
 ∃ (i76 : Int) (l77 : List AV) (i78 i79 : Int) (l80 : List AV),
 PureIs Tryz.prog 41 [.agg [nI i71, .sl l72, nI i73, nI i74, .sl l75], .sl p0.2.2.2.2.2.2.1] (.agg [nI i76, .sl l77, nI i78, nI i79, .sl l80]) ∧
 ∃ (l81 : List AV) (i82 i83 : Int) (l84 : List AV) (i85 : Int),
 PureIs Tryz.prog 24 [.agg [nI p0.2.2.2.1.1, .sl p0.2.2.2.1.2.1, .sl p0.2.2.2.1.2.2.1], .sl p0.1.2.2.1, .agg [nI i76, .sl l77, nI i78, nI i79, .sl l80]] (.tup [.agg [.sl l81, nI i82, nI i83, .sl l84], nI i85]) ∧
 List.length p0.2.2.2.2.2.1 = List.length p0.2.2.2.2.2.1 ∧
 vc6_L21 (((), (), i70, (), i85, (), true, 0, ()), ((p0.2.1.1, p0.2.1.2.1, p0.2.1.2.2.1, ()), (p0.2.2.1.1, p0.2.2.1.2.1, p0.2.2.1.2.2.1, p0.2.2.1.2.2.2.1, ()), (p0.2.2.2.1.1, p0.2.2.2.1.2.1, p0.2.2.2.1.2.2.1, ()), (p0.2.2.2.2.1.1, p0.2.2.2.2.1.2.1, p0.2.2.2.2.1.2.2.1, p0.2.2.2.2.1.2.2.2.1, ()), p0.2.2.2.2.2.1, p0.2.2.2.2.2.2.1, (i60, i61, i62, i63, i64, i65, ()), (l66, i67, i68, l69, ()), (l81, i82, i83, l84, ()), (p0.2.2.2.2.1.1, p0.2.2.2.2.1.2.1, p0.2.2.2.2.1.2.2.1, p0.2.2.2.2.1.2.2.2.1, ()), ())) R
def vc6_L23''' (p0 : (Unit × Unit × Int × Unit × Int × Unit × Bool × Int × Unit) × ((Int × List AV × List AV × Unit) × (List AV × Int × Int × List AV × Unit) × (Int × List AV × List AV × Unit) × (List AV × Int × Int × List AV × Unit) × List AV × List AV × (List AV × Int × Int × List AV × Unit) × (Int × Int × Int × Int × Int × Int × Unit) × (List AV × Int × Int × List AV × Unit) × (List AV × Int × Int × List AV × Unit) × Unit)) (p1 : List AV) (p2 p3 : Int) (p4 : List AV) (p5 p6 p7 p8 p9 p10 : Int) (p11 : ((Unit × Unit × Int × Unit × Int × Unit × Bool × Int × Unit) × ((Int × List AV × List AV × Unit) × (List AV × Int × Int × List AV × Unit) × (Int × List AV × List AV × Unit) × (List AV × Int × Int × List AV × Unit) × List AV × List AV × (List AV × Int × Int × List AV × Unit) × (Int × Int × Int × Int × Int × Int × Unit) × (List AV × Int × Int × List AV × Unit) × (List AV × Int × Int × List AV × Unit) × Unit)) → Prop) : Prop :=
 ∃ (S50 : AV → List AObj → Prop),
 HFn Tryz.prog 35 [.agg [.sl p0.2.2.2.2.2.2.2.2.2.2.1.1, nI p0.2.2.2.2.2.2.2.2.2.2.1.2.1, nI p0.2.2.2.2.2.2.2.2.2.2.1.2.2.1, .sl p0.2.2.2.2.2.2.2.2.2.2.1.2.2.2.1], .ptr 0 0, .clip [.agg [.sl p1, nI p2, nI p3, .sl p4]]] [.box (budC p5 p6 p7 p8 p9 p10)] S50 ∧
 ∀ (r62 : AV) (q63 : List AObj), S50 r62 q63 →
 ∃ (i64 i65 i66 i67 i68 i69 : Int) (l70 : List AV) (i71 i72 : Int) (l73 : List AV) (i74 : Int),
 (r62 = .tup [.agg [.sl l70, nI i71, nI i72, .sl l73], nI i74] ∧ q63 = [.box (budC i64 i65 i66 i67 i68 i69)]) ∧
 ITE p0.1.2.2.2.2.2.2.1
 (List.length p0.2.2.2.2.2.1 = List.length p0.2.2.2.2.2.1 ∧
 p11 (((), (), p0.1.2.2.1, (), p0.1.2.2.2.2.1, (), i74 == 0, IntKind.wrap .i64 (p0.1.2.2.2.2.2.2.2.1 + 1), ()), ((p0.2.1.1, p0.2.1.2.1, p0.2.1.2.2.1, ()), (p0.2.2.1.1, p0.2.2.1.2.1, p0.2.2.1.2.2.1, p0.2.2.1.2.2.2.1, ()), (p0.2.2.2.1.1, p0.2.2.2.1.2.1, p0.2.2.2.1.2.2.1, ()), (p0.2.2.2.2.1.1, p0.2.2.2.2.1.2.1, p0.2.2.2.2.1.2.2.1, p0.2.2.2.2.1.2.2.2.1, ()), p0.2.2.2.2.2.1, p0.2.2.2.2.2.2.1, (p0.2.2.2.2.2.2.2.1.1, p0.2.2.2.2.2.2.2.1.2.1, p0.2.2.2.2.2.2.2.1.2.2.1, p0.2.2.2.2.2.2.2.1.2.2.2.1, ()), (p0.2.2.2.2.2.2.2.2.1.1, p0.2.2.2.2.2.2.2.2.1.2.1, p0.2.2.2.2.2.2.2.2.1.2.2.1, p0.2.2.2.2.2.2.2.2.1.2.2.2.1, p0.2.2.2.2.2.2.2.2.1.2.2.2.2.1, p0.2.2.2.2.2.2.2.2.1.2.2.2.2.2.1, ()), (p0.2.2.2.2.2.2.2.2.2.1.1, p0.2.2.2.2.2.2.2.2.2.1.2.1, p0.2.2.2.2.2.2.2.2.2.1.2.2.1, p0.2.2.2.2.2.2.2.2.2.1.2.2.2.1, ()), (l70, i71, i72, l73, ()), ())))
 (List.length p0.2.2.2.2.2.1 = List.length p0.2.2.2.2.2.1 ∧
 p11 (((), (), p0.1.2.2.1, (), p0.1.2.2.2.2.1, (), false, IntKind.wrap .i64 (p0.1.2.2.2.2.2.2.2.1 + 1), ()), ((p0.2.1.1, p0.2.1.2.1, p0.2.1.2.2.1, ()), (p0.2.2.1.1, p0.2.2.1.2.1, p0.2.2.1.2.2.1, p0.2.2.1.2.2.2.1, ()), (p0.2.2.2.1.1, p0.2.2.2.1.2.1, p0.2.2.2.1.2.2.1, ()), (p0.2.2.2.2.1.1, p0.2.2.2.2.1.2.1, p0.2.2.2.2.1.2.2.1, p0.2.2.2.2.1.2.2.2.1, ()), p0.2.2.2.2.2.1, p0.2.2.2.2.2.2.1, (p0.2.2.2.2.2.2.2.1.1, p0.2.2.2.2.2.2.2.1.2.1, p0.2.2.2.2.2.2.2.1.2.2.1, p0.2.2.2.2.2.2.2.1.2.2.2.1, ()), (p0.2.2.2.2.2.2.2.2.1.1, p0.2.2.2.2.2.2.2.2.1.2.1, p0.2.2.2.2.2.2.2.2.1.2.2.1, p0.2.2.2.2.2.2.2.2.1.2.2.2.1, p0.2.2.2.2.2.2.2.2.1.2.2.2.2.1, p0.2.2.2.2.2.2.2.2.1.2.2.2.2.2.1, ()), (p0.2.2.2.2.2.2.2.2.2.1.1, p0.2.2.2.2.2.2.2.2.2.1.2.1, p0.2.2.2.2.2.2.2.2.2.1.2.2.1, p0.2.2.2.2.2.2.2.2.2.1.2.2.2.1, ()), (l70, i71, i72, l73, ()), ())))
def vc6_L23'''' (p0 : (Unit × Unit × Int × Unit × Int × Unit × Bool × Int × Unit) × ((Int × List AV × List AV × Unit) × (List AV × Int × Int × List AV × Unit) × (Int × List AV × List AV × Unit) × (List AV × Int × Int × List AV × Unit) × List AV × List AV × (List AV × Int × Int × List AV × Unit) × (Int × Int × Int × Int × Int × Int × Unit) × (List AV × Int × Int × List AV × Unit) × (List AV × Int × Int × List AV × Unit) × Unit)) (p1 : List AV) (p2 p3 : Int) (p4 : List AV) (p5 : ((Unit × Unit × Int × Unit × Int × Unit × Bool × Int × Unit) × ((Int × List AV × List AV × Unit) × (List AV × Int × Int × List AV × Unit) × (Int × List AV × List AV × Unit) × (List AV × Int × Int × List AV × Unit) × List AV × List AV × (List AV × Int × Int × List AV × Unit) × (Int × Int × Int × Int × Int × Int × Unit) × (List AV × Int × Int × List AV × Unit) × (List AV × Int × Int × List AV × Unit) × Unit)) → Prop) : Prop :=
 ∃ (S50 : AV → List AObj → Prop),
 HFn Tryz.prog 36 [nI 5000] [] S50 ∧
 ∀ (r51 : AV) (q52 : List AObj), S50 r51 q52 →
 ∃ (i53 i54 i55 i56 i57 i58 : Int),
 (r51 = .ptr 0 0 ∧ q52 = [.box (budC i53 i54 i55 i56 i57 i58)]) ∧
 (vc6_L23''' p0 p1 p2 p3 p4 i53 i54 i55 i56 i57 i58 p5) ∧
 (vc6_L23''' p0 p1 p2 p3 p4 i53 i54 i55 i56 i57 i58 p5)
def vc6_L23''''' (p0 : (Unit × Unit × Int × Unit × Int × Unit × Bool × Int × Unit) × ((Int × List AV × List AV × Unit) × (List AV × Int × Int × List AV × Unit) × (Int × List AV × List AV × Unit) × (List AV × Int × Int × List AV × Unit) × List AV × List AV × (List AV × Int × Int × List AV × Unit) × (Int × Int × Int × Int × Int × Int × Unit) × (List AV × Int × Int × List AV × Unit) × (List AV × Int × Int × List AV × Unit) × Unit)) (p1 : List AV) (p2 p3 : Int) (p4 : List AV) (p5 : ((Unit × Unit × Int × Unit × Int × Unit × Bool × Int × Unit) × ((Int × List AV × List AV × Unit) × (List AV × Int × Int × List AV × Unit) × (Int × List AV × List AV × Unit) × (List AV × Int × Int × List AV × Unit) × List AV × List AV × (List AV × Int × Int × List AV × Unit) × (Int × Int × Int × Int × Int × Int × Unit) × (List AV × Int × Int × List AV × Unit) × (List AV × Int × Int × List AV × Unit) × Unit)) → Prop) : Prop :=
 ∃ (S50 : AV → List AObj → Prop),
 HFn Tryz.prog 36 [nI 5000] [] S50 ∧
 ∀ (r51 : AV) (q52 : List AObj), S50 r51 q52 →
 ∃ (i53 i54 i55 i56 i57 i58 : Int),
 (r51 = .ptr 0 0 ∧ q52 = [.box (budC i53 i54 i55 i56 i57 i58)]) ∧
 ∃ (S59 : AV → List AObj → Prop),
 HFn Tryz.prog 35 [.agg [.sl p0.2.2.2.2.2.2.2.2.2.2.1.1, nI p0.2.2.2.2.2.2.2.2.2.2.1.2.1, nI p0.2.2.2.2.2.2.2.2.2.2.1.2.2.1, .sl p0.2.2.2.2.2.2.2.2.2.2.1.2.2.2.1], .ptr 0 0, .clip [.agg [.sl p1, nI p2, nI p3, .sl p4]]] [.box (budC i53 i54 i55 i56 i57 i58)] S59 ∧
 ∀ (r65 : AV) (q66 : List AObj), S59 r65 q66 →
 ∃ (i67 i68 i69 i70 i71 i72 : Int) (l73 : List AV) (i74 i75 : Int) (l76 : List AV) (i77 : Int),
 (r65 = .tup [.agg [.sl l73, nI i74, nI i75, .sl l76], nI i77] ∧ q66 = [.box (budC i67 i68 i69 i70 i71 i72)]) ∧
 ITE p0.1.2.2.2.2.2.2.1
 (List.length p0.2.2.2.2.2.1 = List.length p0.2.2.2.2.2.1 ∧
 p5 (((), (), p0.1.2.2.1, (), p0.1.2.2.2.2.1, (), i77 == 0, IntKind.wrap .i64 (p0.1.2.2.2.2.2.2.2.1 + 1), ()), ((p0.2.1.1, p0.2.1.2.1, p0.2.1.2.2.1, ()), (p0.2.2.1.1, p0.2.2.1.2.1, p0.2.2.1.2.2.1, p0.2.2.1.2.2.2.1, ()), (p0.2.2.2.1.1, p0.2.2.2.1.2.1, p0.2.2.2.1.2.2.1, ()), (p0.2.2.2.2.1.1, p0.2.2.2.2.1.2.1, p0.2.2.2.2.1.2.2.1, p0.2.2.2.2.1.2.2.2.1, ()), p0.2.2.2.2.2.1, p0.2.2.2.2.2.2.1, (p0.2.2.2.2.2.2.2.1.1, p0.2.2.2.2.2.2.2.1.2.1, p0.2.2.2.2.2.2.2.1.2.2.1, p0.2.2.2.2.2.2.2.1.2.2.2.1, ()), (p0.2.2.2.2.2.2.2.2.1.1, p0.2.2.2.2.2.2.2.2.1.2.1, p0.2.2.2.2.2.2.2.2.1.2.2.1, p0.2.2.2.2.2.2.2.2.1.2.2.2.1, p0.2.2.2.2.2.2.2.2.1.2.2.2.2.1, p0.2.2.2.2.2.2.2.2.1.2.2.2.2.2.1, ()), (p0.2.2.2.2.2.2.2.2.2.1.1, p0.2.2.2.2.2.2.2.2.2.1.2.1, p0.2.2.2.2.2.2.2.2.2.1.2.2.1, p0.2.2.2.2.2.2.2.2.2.1.2.2.2.1, ()), (l73, i74, i75, l76, ()), ())))
 (List.length p0.2.2.2.2.2.1 = List.length p0.2.2.2.2.2.1 ∧
 p5 (((), (), p0.1.2.2.1, (), p0.1.2.2.2.2.1, (), false, IntKind.wrap .i64 (p0.1.2.2.2.2.2.2.2.1 + 1), ()), ((p0.2.1.1, p0.2.1.2.1, p0.2.1.2.2.1, ()), (p0.2.2.1.1, p0.2.2.1.2.1, p0.2.2.1.2.2.1, p0.2.2.1.2.2.2.1, ()), (p0.2.2.2.1.1, p0.2.2.2.1.2.1, p0.2.2.2.1.2.2.1, ()), (p0.2.2.2.2.1.1, p0.2.2.2.2.1.2.1, p0.2.2.2.2.1.2.2.1, p0.2.2.2.2.1.2.2.2.1, ()), p0.2.2.2.2.2.1, p0.2.2.2.2.2.2.1, (p0.2.2.2.2.2.2.2.1.1, p0.2.2.2.2.2.2.2.1.2.1, p0.2.2.2.2.2.2.2.1.2.2.1, p0.2.2.2.2.2.2.2.1.2.2.2.1, ()), (p0.2.2.2.2.2.2.2.2.1.1, p0.2.2.2.2.2.2.2.2.1.2.1, p0.2.2.2.2.2.2.2.2.1.2.2.1, p0.2.2.2.2.2.2.2.2.1.2.2.2.1, p0.2.2.2.2.2.2.2.2.1.2.2.2.2.1, p0.2.2.2.2.2.2.2.2.1.2.2.2.2.2.1, ()), (p0.2.2.2.2.2.2.2.2.2.1.1, p0.2.2.2.2.2.2.2.2.2.1.2.1, p0.2.2.2.2.2.2.2.2.2.1.2.2.1, p0.2.2.2.2.2.2.2.2.2.1.2.2.2.1, ()), (l73, i74, i75, l76, ()), ())))
def vc6_L21' (p0 : (Unit × Unit × Int × Unit × Int × Unit × Bool × Int × Unit) × ((Int × List AV × List AV × Unit) × (List AV × Int × Int × List AV × Unit) × (Int × List AV × List AV × Unit) × (List AV × Int × Int × List AV × Unit) × List AV × List AV × (List AV × Int × Int × List AV × Unit) × (Int × Int × Int × Int × Int × Int × Unit) × (List AV × Int × Int × List AV × Unit) × (List AV × Int × Int × List AV × Unit) × Unit)) (R : AV → Prop) : Prop :=
 LoopP _ p0 fun z51 ag52 =>
 List.length z51.2.2.2.2.2.1 = List.length z51.2.2.2.2.2.1 ∧
 ITE (decide (z51.1.2.2.2.2.2.2.2.1 < ((List.length z51.2.2.2.2.2.1 : Nat) : Int)))
 (List.length z51.2.2.2.2.2.1 = List.length z51.2.2.2.2.2.1 ∧
 0 ≤ z51.1.2.2.2.2.2.2.2.1 ∧
 z51.1.2.2.2.2.2.2.2.1 < List.length z51.2.2.2.2.2.1 ∧
 ∃ (l53 : List AV) (i54 i55 : Int) (l56 : List AV),
 List.getD z51.2.2.2.2.2.1 (Int.toNat z51.1.2.2.2.2.2.2.2.1) .top = .agg [.sl l53, nI i54, nI i55, .sl l56] ∧
 (vc6_L23'''' z51 l53 i54 i55 l56 ag52) ∧
 (vc6_L23''''' z51 l53 i54 i55 l56 ag52))
 (ITE (z51.1.2.2.1 == 0)
 (ITE (z51.1.2.2.2.2.1 == 0)
 (∃ (b57 : Bool),
 PureIs Tryz.prog 37 [.agg [.sl z51.2.2.2.2.2.2.2.1.1, nI z51.2.2.2.2.2.2.2.1.2.1, nI z51.2.2.2.2.2.2.2.1.2.2.1, .sl z51.2.2.2.2.2.2.2.1.2.2.2.1], .agg [.sl z51.2.2.2.2.2.2.2.2.2.1.1, nI z51.2.2.2.2.2.2.2.2.2.1.2.1, nI z51.2.2.2.2.2.2.2.2.2.1.2.2.1, .sl z51.2.2.2.2.2.2.2.2.2.1.2.2.2.1]] (nB b57) ∧
 ITE (!b57)
 (R (nB false))
 (ITE (z51.1.2.2.1 == 0)
 (ITE z51.1.2.2.2.2.2.2.1
 (∃ (b58 : Bool),
 PureIs Tryz.prog 37 [.agg [.sl z51.2.2.2.2.2.2.2.1.1, nI z51.2.2.2.2.2.2.2.1.2.1, nI z51.2.2.2.2.2.2.2.1.2.2.1, .sl z51.2.2.2.2.2.2.2.1.2.2.2.1], .agg [.sl z51.2.2.2.2.2.2.2.2.2.2.1.1, nI z51.2.2.2.2.2.2.2.2.2.2.1.2.1, nI z51.2.2.2.2.2.2.2.2.2.2.1.2.2.1, .sl z51.2.2.2.2.2.2.2.2.2.2.1.2.2.2.1]] (nB b58) ∧
 ITE (!b58)
 (R (nB false))
 (∃ (b59 : Bool),
 PureIs Tryz.prog 10 [] (nB b59) ∧
 R (nB b59)))
 (∃ (b60 : Bool),
 PureIs Tryz.prog 10 [] (nB b60) ∧
 R (nB b60)))
 (∃ (b61 : Bool),
 PureIs Tryz.prog 10 [] (nB b61) ∧
 R (nB b61))))
 (ITE (z51.1.2.2.1 == 0)
 (ITE z51.1.2.2.2.2.2.2.1
 (∃ (b62 : Bool),
 PureIs Tryz.prog 37 [.agg [.sl z51.2.2.2.2.2.2.2.1.1, nI z51.2.2.2.2.2.2.2.1.2.1, nI z51.2.2.2.2.2.2.2.1.2.2.1, .sl z51.2.2.2.2.2.2.2.1.2.2.2.1], .agg [.sl z51.2.2.2.2.2.2.2.2.2.2.1.1, nI z51.2.2.2.2.2.2.2.2.2.2.1.2.1, nI z51.2.2.2.2.2.2.2.2.2.2.1.2.2.1, .sl z51.2.2.2.2.2.2.2.2.2.2.1.2.2.2.1]] (nB b62) ∧
 ITE (!b62)
 (R (nB false))
 (∃ (b63 : Bool),
 PureIs Tryz.prog 10 [] (nB b63) ∧
 R (nB b63)))
 (∃ (b64 : Bool),
 PureIs Tryz.prog 10 [] (nB b64) ∧
 R (nB b64)))
 (∃ (b65 : Bool),
 PureIs Tryz.prog 10 [] (nB b65) ∧
 R (nB b65))))
 (ITE (z51.1.2.2.1 == 0)
 (ITE z51.1.2.2.2.2.2.2.1
 (∃ (b66 : Bool),
 PureIs Tryz.prog 37 [.agg [.sl z51.2.2.2.2.2.2.2.1.1, nI z51.2.2.2.2.2.2.2.1.2.1, nI z51.2.2.2.2.2.2.2.1.2.2.1, .sl z51.2.2.2.2.2.2.2.1.2.2.2.1], .agg [.sl z51.2.2.2.2.2.2.2.2.2.2.1.1, nI z51.2.2.2.2.2.2.2.2.2.2.1.2.1, nI z51.2.2.2.2.2.2.2.2.2.2.1.2.2.1, .sl z51.2.2.2.2.2.2.2.2.2.2.1.2.2.2.1]] (nB b66) ∧
 ITE (!b66)
 (R (nB false))
 (∃ (b67 : Bool),
 PureIs Tryz.prog 10 [] (nB b67) ∧
 R (nB b67)))
 (∃ (b68 : Bool),
 PureIs Tryz.prog 10 [] (nB b68) ∧
 R (nB b68)))
 (∃ (b69 : Bool),
 PureIs Tryz.prog 10 [] (nB b69) ∧
 R (nB b69))))
def vc6_L16' (p0 : (List AV × Unit × List AV × Unit × Unit × Unit × Int × Unit) × ((Int × List AV × List AV × Unit) × (List AV × Int × Int × List AV × Unit) × (Int × List AV × List AV × Unit) × (List AV × Int × Int × List AV × Unit) × List AV × List AV × Unit)) (R : AV → Prop) : Prop :=
 ∃ (S50 : AV → List AObj → Prop),
 HFn Tryz.prog 36 [nI 5000] [] S50 ∧
 ∀ (r51 : AV) (q52 : List AObj), S50 r51 q52 →
 ∃ (i53 i54 i55 i56 i57 i58 : Int),
 (r51 = .ptr 0 0 ∧ q52 = [.box (budC i53 i54 i55 i56 i57 i58)]) ∧
 (vc6_L16 p0 i53 i54 i55 i56 i57 i58 R) ∧
 (vc6_L16 p0 i53 i54 i55 i56 i57 i58 R)
def vc6_L16'' (p0 : (List AV × Unit × List AV × Unit × Unit × Unit × Int × Unit) × ((Int × List AV × List AV × Unit) × (List AV × Int × Int × List AV × Unit) × (Int × List AV × List AV × Unit) × (List AV × Int × Int × List AV × Unit) × List AV × List AV × Unit)) (R : AV → Prop) : Prop :=
 ∃ (S50 : AV → List AObj → Prop),
 HFn Tryz.prog 36 [nI 5000] [] S50 ∧
 ∀ (r51 : AV) (q52 : List AObj), S50 r51 q52 →
 ∃ (i53 i54 i55 i56 i57 i58 : Int),
 (r51 = .ptr 0 0 ∧ q52 = [.box (budC i53 i54 i55 i56 i57 i58)]) ∧
 List.length p0.2.2.2.2.2.1 = List.length p0.2.2.2.2.2.1 ∧
 ∃ (S60 : AV → List AObj → Prop),
 HFn Tryz.prog 35 [.agg [.sl p0.2.2.2.2.1.1, nI p0.2.2.2.2.1.2.1, nI p0.2.2.2.2.1.2.2.1, .sl p0.2.2.2.2.1.2.2.2.1], .ptr 0 0, .sl p0.2.2.2.2.2.1] [.box (budC i53 i54 i55 i56 i57 i58)] S60 ∧
 ∀ (r61 : AV) (q62 : List AObj), S60 r61 q62 →
 ∃ (i63 i64 i65 i66 i67 i68 : Int) (l69 : List AV) (i70 i71 : Int) (l72 : List AV) (i73 : Int),
 (r61 = .tup [.agg [.sl l69, nI i70, nI i71, .sl l72], nI i73] ∧ q62 = [.box (budC i63 i64 i65 i66 i67 i68)]) ∧
 ∃ (i74 : Int) (l75 : List AV) (i76 i77 : Int) (l78 : List AV),
 PureIs Tryz.prog 39 [.agg [.sl p0.2.2.2.2.1.1, nI p0.2.2.2.2.1.2.1, nI p0.2.2.2.2.1.2.2.1, .sl p0.2.2.2.2.1.2.2.2.1]] (.agg [nI i74, .sl l75, nI i76, nI i77, .sl l78]) ∧
 List.length p0.2.2.2.2.2.2.1 = List.length p0.2.2.2.2.2.2.1 ∧
 ∃ (i79 : Int) (l80 : List AV) (i81 i82 : Int) (l83 : List AV),
 PureIs Tryz.prog 41 [.agg [nI i74, .sl l75, nI i76, nI i77, .sl l78], .sl p0.2.2.2.2.2.2.1] (.agg [nI i79, .sl l80, nI i81, nI i82, .sl l83]) ∧
 ∃ (l84 : List AV) (i85 i86 : Int) (l87 : List AV) (i88 : Int),
 PureIs Tryz.prog 24 [.agg [nI p0.2.2.2.1.1, .sl p0.2.2.2.1.2.1, .sl p0.2.2.2.1.2.2.1], .sl p0.1.2.2.1, .agg [nI i79, .sl l80, nI i81, nI i82, .sl l83]] (.tup [.agg [.sl l84, nI i85, nI i86, .sl l87], nI i88]) ∧
 List.length p0.2.2.2.2.2.1 = List.length p0.2.2.2.2.2.1 ∧
 vc6_L21' (((), (), i73, (), i88, (), true, 0, ()), ((p0.2.1.1, p0.2.1.2.1, p0.2.1.2.2.1, ()), (p0.2.2.1.1, p0.2.2.1.2.1, p0.2.2.1.2.2.1, p0.2.2.1.2.2.2.1, ()), (p0.2.2.2.1.1, p0.2.2.2.1.2.1, p0.2.2.2.1.2.2.1, ()), (p0.2.2.2.2.1.1, p0.2.2.2.2.1.2.1, p0.2.2.2.2.1.2.2.1, p0.2.2.2.2.1.2.2.2.1, ()), p0.2.2.2.2.2.1, p0.2.2.2.2.2.2.1, (l69, i70, i71, l72, ()), (i63, i64, i65, i66, i67, i68, ()), (l84, i85, i86, l87, ()), (p0.2.2.2.2.1.1, p0.2.2.2.2.1.2.1, p0.2.2.2.2.1.2.2.1, p0.2.2.2.2.1.2.2.2.1, ()), ())) R
def vc6_L8 (p0 : (List AV × Unit × List AV × Unit × Unit × Unit × Int × Unit) × ((Int × List AV × List AV × Unit) × (List AV × Int × Int × List AV × Unit) × (Int × List AV × List AV × Unit) × (List AV × Int × Int × List AV × Unit) × List AV × List AV × Unit)) (R : AV → Prop) : Prop :=
 LoopP _ p0 fun z51 ag52 =>
 ITE (decide (z51.1.2.2.2.2.2.2.1 < ((List.length z51.1.1 : Nat) : Int)))
 (0 ≤ z51.1.2.2.2.2.2.2.1 ∧
 z51.1.2.2.2.2.2.2.1 < List.length z51.1.1 ∧
 ∃ (l53 : List AV) (i54 i55 : Int) (l56 : List AV),
 List.getD z51.1.1 (Int.toNat z51.1.2.2.2.2.2.2.1) .top = .agg [.sl l53, nI i54, nI i55, .sl l56] ∧
 ∃ (b57 : Bool),
 PureIs Tryz.prog 26 [.agg [.sl l53, nI i54, nI i55, .sl l56], nI 60, nI 60] (nB b57) ∧
 ITE (!b57)
 (∃ (b58 : Bool),
 PureIs Tryz.prog 10 [] (nB b58) ∧
 R (nB b58))
 (0 ≤ z51.1.2.2.2.2.2.2.1 ∧
 z51.1.2.2.2.2.2.2.1 < List.length z51.1.1 ∧
 ∃ (l59 : List AV) (i60 i61 : Int) (l62 : List AV),
 List.getD z51.1.1 (Int.toNat z51.1.2.2.2.2.2.2.1) .top = .agg [.sl l59, nI i60, nI i61, .sl l62] ∧
 ∃ (l63 : List AV) (i64 i65 : Int) (l66 : List AV),
 PureIs Tryz.prog 28 [.agg [.sl l59, nI i60, nI i61, .sl l62]] (.agg [.sl l63, nI i64, nI i65, .sl l66]) ∧
 List.length z51.2.2.2.2.2.1 = List.length z51.2.2.2.2.2.1 ∧
 appOk td51 (List.length (z51.2.2.2.2.2.1 ++ [.agg [.sl l63, nI i64, nI i65, .sl l66]])) [] [.agg [.sl l63, nI i64, nI i65, .sl l66]] ∧
 List.length (z51.2.2.2.2.2.1 ++ [.agg [.sl l63, nI i64, nI i65, .sl l66]]) = List.length (z51.2.2.2.2.2.1 ++ [.agg [.sl l63, nI i64, nI i65, .sl l66]]) ∧
 0 ≤ z51.1.2.2.2.2.2.2.1 ∧
 z51.1.2.2.2.2.2.2.1 < List.length (z51.2.2.2.2.2.1 ++ [.agg [.sl l63, nI i64, nI i65, .sl l66]]) ∧
 ∃ (l67 : List AV) (i68 i69 : Int) (l70 : List AV),
 List.getD (z51.2.2.2.2.2.1 ++ [.agg [.sl l63, nI i64, nI i65, .sl l66]]) (Int.toNat z51.1.2.2.2.2.2.2.1) .top = .agg [.sl l67, nI i68, nI i69, .sl l70] ∧
 ∃ (i71 : Int) (l72 : List AV) (i73 i74 : Int) (l75 : List AV),
 PureIs Tryz.prog 39 [.agg [.sl l67, nI i68, nI i69, .sl l70]] (.agg [nI i71, .sl l72, nI i73, nI i74, .sl l75]) ∧
 List.length z51.2.2.2.2.2.2.1 = List.length z51.2.2.2.2.2.2.1 ∧
 appOk td42 (List.length (z51.2.2.2.2.2.2.1 ++ [.agg [nI i71, .sl l72, nI i73, nI i74, .sl l75]])) [] [.agg [nI i71, .sl l72, nI i73, nI i74, .sl l75]] ∧
 List.length (z51.2.2.2.2.2.1 ++ [.agg [.sl l63, nI i64, nI i65, .sl l66]]) = List.length (z51.2.2.2.2.2.1 ++ [.agg [.sl l63, nI i64, nI i65, .sl l66]]) ∧
 List.length (z51.2.2.2.2.2.2.1 ++ [.agg [nI i71, .sl l72, nI i73, nI i74, .sl l75]]) = List.length (z51.2.2.2.2.2.2.1 ++ [.agg [nI i71, .sl l72, nI i73, nI i74, .sl l75]]) ∧
 ag52 ((z51.1.1, (), z51.1.2.2.1, (), (), (), IntKind.wrap .i64 (z51.1.2.2.2.2.2.2.1 + 1), ()), ((z51.2.1.1, z51.2.1.2.1, z51.2.1.2.2.1, ()), (z51.2.2.1.1, z51.2.2.1.2.1, z51.2.2.1.2.2.1, z51.2.2.1.2.2.2.1, ()), (z51.2.2.2.1.1, z51.2.2.2.1.2.1, z51.2.2.2.1.2.2.1, ()), (z51.2.2.2.2.1.1, z51.2.2.2.2.1.2.1, z51.2.2.2.2.1.2.2.1, z51.2.2.2.2.1.2.2.2.1, ()), z51.2.2.2.2.2.1 ++ [.agg [.sl l63, nI i64, nI i65, .sl l66]], z51.2.2.2.2.2.2.1 ++ [.agg [nI i71, .sl l72, nI i73, nI i74, .sl l75]], ()))))
 (List.length z51.2.2.2.2.2.1 = List.length z51.2.2.2.2.2.1 ∧
 ∃ (b76 : Bool),
 PureIs Tryz.prog 40 [.agg [nI z51.2.2.2.1.1, .sl z51.2.2.2.1.2.1, .sl z51.2.2.2.1.2.2.1], .sl z51.1.2.2.1, .agg [.sl z51.2.2.2.2.1.1, nI z51.2.2.2.2.1.2.1, nI z51.2.2.2.2.1.2.2.1, .sl z51.2.2.2.2.1.2.2.2.1], .sl z51.2.2.2.2.2.1] (nB b76) ∧
 ITE (!b76)
 (∃ (b77 : Bool),
 PureIs Tryz.prog 10 [] (nB b77) ∧
 R (nB b77))
 ((vc6_L16' z51 R) ∧
 (vc6_L16'' z51 R)))
def vc6_L23'''''' (p0 : (Unit × Unit × Int × Unit × Int × Unit × Bool × Int × Unit) × ((Int × List AV × List AV × Unit) × (List AV × Int × Int × List AV × Unit) × (List AV × Int × Int × List AV × Unit) × (Int × List AV × List AV × Unit) × List AV × List AV × (Int × Int × Int × Int × Int × Int × Unit) × (List AV × Int × Int × List AV × Unit) × (List AV × Int × Int × List AV × Unit) × (List AV × Int × Int × List AV × Unit) × Unit)) (p1 : List AV) (p2 p3 : Int) (p4 : List AV) (p5 p6 p7 p8 p9 p10 : Int) (p11 : ((Unit × Unit × Int × Unit × Int × Unit × Bool × Int × Unit) × ((Int × List AV × List AV × Unit) × (List AV × Int × Int × List AV × Unit) × (List AV × Int × Int × List AV × Unit) × (Int × List AV × List AV × Unit) × List AV × List AV × (Int × Int × Int × Int × Int × Int × Unit) × (List AV × Int × Int × List AV × Unit) × (List AV × Int × Int × List AV × Unit) × (List AV × Int × Int × List AV × Unit) × Unit)) → Prop) : Prop :=
 ∃ (S50 : AV → List AObj → Prop),
 HFn Tryz.prog 35 [.agg [.sl p0.2.2.2.2.2.2.2.2.2.2.1.1, nI p0.2.2.2.2.2.2.2.2.2.2.1.2.1, nI p0.2.2.2.2.2.2.2.2.2.2.1.2.2.1, .sl p0.2.2.2.2.2.2.2.2.2.2.1.2.2.2.1], .ptr 0 0, .clip [.agg [.sl p1, nI p2, nI p3, .sl p4]]] [.box (budC p5 p6 p7 p8 p9 p10)] S50 ∧
 ∀ (r62 : AV) (q63 : List AObj), S50 r62 q63 →
 ∃ (i64 i65 i66 i67 i68 i69 : Int) (l70 : List AV) (i71 i72 : Int) (l73 : List AV) (i74 : Int),
 (r62 = .tup [.agg [.sl l70, nI i71, nI i72, .sl l73], nI i74] ∧ q63 = [.box (budC i64 i65 i66 i67 i68 i69)]) ∧
 ITE p0.1.2.2.2.2.2.2.1
 (List.length p0.2.2.2.2.2.1 = List.length p0.2.2.2.2.2.1 ∧
 p11 (((), (), p0.1.2.2.1, (), p0.1.2.2.2.2.1, (), i74 == 0, IntKind.wrap .i64 (p0.1.2.2.2.2.2.2.2.1 + 1), ()), ((p0.2.1.1, p0.2.1.2.1, p0.2.1.2.2.1, ()), (p0.2.2.1.1, p0.2.2.1.2.1, p0.2.2.1.2.2.1, p0.2.2.1.2.2.2.1, ()), (p0.2.2.2.1.1, p0.2.2.2.1.2.1, p0.2.2.2.1.2.2.1, p0.2.2.2.1.2.2.2.1, ()), (p0.2.2.2.2.1.1, p0.2.2.2.2.1.2.1, p0.2.2.2.2.1.2.2.1, ()), p0.2.2.2.2.2.1, p0.2.2.2.2.2.2.1, (p0.2.2.2.2.2.2.2.1.1, p0.2.2.2.2.2.2.2.1.2.1, p0.2.2.2.2.2.2.2.1.2.2.1, p0.2.2.2.2.2.2.2.1.2.2.2.1, p0.2.2.2.2.2.2.2.1.2.2.2.2.1, p0.2.2.2.2.2.2.2.1.2.2.2.2.2.1, ()), (p0.2.2.2.2.2.2.2.2.1.1, p0.2.2.2.2.2.2.2.2.1.2.1, p0.2.2.2.2.2.2.2.2.1.2.2.1, p0.2.2.2.2.2.2.2.2.1.2.2.2.1, ()), (p0.2.2.2.2.2.2.2.2.2.1.1, p0.2.2.2.2.2.2.2.2.2.1.2.1, p0.2.2.2.2.2.2.2.2.2.1.2.2.1, p0.2.2.2.2.2.2.2.2.2.1.2.2.2.1, ()), (l70, i71, i72, l73, ()), ())))
 (List.length p0.2.2.2.2.2.1 = List.length p0.2.2.2.2.2.1 ∧
 p11 (((), (), p0.1.2.2.1, (), p0.1.2.2.2.2.1, (), false, IntKind.wrap .i64 (p0.1.2.2.2.2.2.2.2.1 + 1), ()), ((p0.2.1.1, p0.2.1.2.1, p0.2.1.2.2.1, ()), (p0.2.2.1.1, p0.2.2.1.2.1, p0.2.2.1.2.2.1, p0.2.2.1.2.2.2.1, ()), (p0.2.2.2.1.1, p0.2.2.2.1.2.1, p0.2.2.2.1.2.2.1, p0.2.2.2.1.2.2.2.1, ()), (p0.2.2.2.2.1.1, p0.2.2.2.2.1.2.1, p0.2.2.2.2.1.2.2.1, ()), p0.2.2.2.2.2.1, p0.2.2.2.2.2.2.1, (p0.2.2.2.2.2.2.2.1.1, p0.2.2.2.2.2.2.2.1.2.1, p0.2.2.2.2.2.2.2.1.2.2.1, p0.2.2.2.2.2.2.2.1.2.2.2.1, p0.2.2.2.2.2.2.2.1.2.2.2.2.1, p0.2.2.2.2.2.2.2.1.2.2.2.2.2.1, ()), (p0.2.2.2.2.2.2.2.2.1.1, p0.2.2.2.2.2.2.2.2.1.2.1, p0.2.2.2.2.2.2.2.2.1.2.2.1, p0.2.2.2.2.2.2.2.2.1.2.2.2.1, ()), (p0.2.2.2.2.2.2.2.2.2.1.1, p0.2.2.2.2.2.2.2.2.2.1.2.1, p0.2.2.2.2.2.2.2.2.2.1.2.2.1, p0.2.2.2.2.2.2.2.2.2.1.2.2.2.1, ()), (l70, i71, i72, l73, ()), ())))
def vc6_L23''''''' (p0 : (Unit × Unit × Int × Unit × Int × Unit × Bool × Int × Unit) × ((Int × List AV × List AV × Unit) × (List AV × Int × Int × List AV × Unit) × (List AV × Int × Int × List AV × Unit) × (Int × List AV × List AV × Unit) × List AV × List AV × (Int × Int × Int × Int × Int × Int × Unit) × (List AV × Int × Int × List AV × Unit) × (List AV × Int × Int × List AV × Unit) × (List AV × Int × Int × List AV × Unit) × Unit)) (p1 : List AV) (p2 p3 : Int) (p4 : List AV) (p5 : ((Unit × Unit × Int × Unit × Int × Unit × Bool × Int × Unit) × ((Int × List AV × List AV × Unit) × (List AV × Int × Int × List AV × Unit) × (List AV × Int × Int × List AV × Unit) × (Int × List AV × List AV × Unit) × List AV × List AV × (Int × Int × Int × Int × Int × Int × Unit) × (List AV × Int × Int × List AV × Unit) × (List AV × Int × Int × List AV × Unit) × (List AV × Int × Int × List AV × Unit) × Unit)) → Prop) : Prop :=
 ∃ (S50 : AV → List AObj → Prop),
 HFn Tryz.prog 36 [nI 5000] [] S50 ∧
 ∀ (r51 : AV) (q52 : List AObj), S50 r51 q52 →
 ∃ (i53 i54 i55 i56 i57 i58 : Int),
 (r51 = .ptr 0 0 ∧ q52 = [.box (budC i53 i54 i55 i56 i57 i58)]) ∧
 (vc6_L23'''''' p0 p1 p2 p3 p4 i53 i54 i55 i56 i57 i58 p5) ∧
 (vc6_L23'''''' p0 p1 p2 p3 p4 i53 i54 i55 i56 i57 i58 p5)
def vc6_L23'''''''' (p0 : (Unit × Unit × Int × Unit × Int × Unit × Bool × Int × Unit) × ((Int × List AV × List AV × Unit) × (List AV × Int × Int × List AV × Unit) × (List AV × Int × Int × List AV × Unit) × (Int × List AV × List AV × Unit) × List AV × List AV × (Int × Int × Int × Int × Int × Int × Unit) × (List AV × Int × Int × List AV × Unit) × (List AV × Int × Int × List AV × Unit) × (List AV × Int × Int × List AV × Unit) × Unit)) (p1 : List AV) (p2 p3 : Int) (p4 : List AV) (p5 : ((Unit × Unit × Int × Unit × Int × Unit × Bool × Int × Unit) × ((Int × List AV × List AV × Unit) × (List AV × Int × Int × List AV × Unit) × (List AV × Int × Int × List AV × Unit) × (Int × List AV × List AV × Unit) × List AV × List AV × (Int × Int × Int × Int × Int × Int × Unit) × (List AV × Int × Int × List AV × Unit) × (List AV × Int × Int × List AV × Unit) × (List AV × Int × Int × List AV × Unit) × Unit)) → Prop) : Prop :=
 ∃ (S50 : AV → List AObj → Prop),
 HFn Tryz.prog 36 [nI 5000] [] S50 ∧
 ∀ (r51 : AV) (q52 : List AObj), S50 r51 q52 →
 ∃ (i53 i54 i55 i56 i57 i58 : Int),
 (r51 = .ptr 0 0 ∧ q52 = [.box (budC i53 i54 i55 i56 i57 i58)]) ∧
 ∃ (S59 : AV → List AObj → Prop),
 HFn Tryz.prog 35 [.agg [.sl p0.2.2.2.2.2.2.2.2.2.2.1.1, nI p0.2.2.2.2.2.2.2.2.2.2.1.2.1, nI p0.2.2.2.2.2.2.2.2.2.2.1.2.2.1, .sl p0.2.2.2.2.2.2.2.2.2.2.1.2.2.2.1], .ptr 0 0, .clip [.agg [.sl p1, nI p2, nI p3, .sl p4]]] [.box (budC i53 i54 i55 i56 i57 i58)] S59 ∧
 ∀ (r65 : AV) (q66 : List AObj), S59 r65 q66 →
 ∃ (i67 i68 i69 i70 i71 i72 : Int) (l73 : List AV) (i74 i75 : Int) (l76 : List AV) (i77 : Int),
 (r65 = .tup [.agg [.sl l73, nI i74, nI i75, .sl l76], nI i77] ∧ q66 = [.box (budC i67 i68 i69 i70 i71 i72)]) ∧
 ITE p0.1.2.2.2.2.2.2.1
 (List.length p0.2.2.2.2.2.1 = List.length p0.2.2.2.2.2.1 ∧
 p5 (((), (), p0.1.2.2.1, (), p0.1.2.2.2.2.1, (), i77 == 0, IntKind.wrap .i64 (p0.1.2.2.2.2.2.2.2.1 + 1), ()), ((p0.2.1.1, p0.2.1.2.1, p0.2.1.2.2.1, ()), (p0.2.2.1.1, p0.2.2.1.2.1, p0.2.2.1.2.2.1, p0.2.2.1.2.2.2.1, ()), (p0.2.2.2.1.1, p0.2.2.2.1.2.1, p0.2.2.2.1.2.2.1, p0.2.2.2.1.2.2.2.1, ()), (p0.2.2.2.2.1.1, p0.2.2.2.2.1.2.1, p0.2.2.2.2.1.2.2.1, ()), p0.2.2.2.2.2.1, p0.2.2.2.2.2.2.1, (p0.2.2.2.2.2.2.2.1.1, p0.2.2.2.2.2.2.2.1.2.1, p0.2.2.2.2.2.2.2.1.2.2.1, p0.2.2.2.2.2.2.2.1.2.2.2.1, p0.2.2.2.2.2.2.2.1.2.2.2.2.1, p0.2.2.2.2.2.2.2.1.2.2.2.2.2.1, ()), (p0.2.2.2.2.2.2.2.2.1.1, p0.2.2.2.2.2.2.2.2.1.2.1, p0.2.2.2.2.2.2.2.2.1.2.2.1, p0.2.2.2.2.2.2.2.2.1.2.2.2.1, ()), (p0.2.2.2.2.2.2.2.2.2.1.1, p0.2.2.2.2.2.2.2.2.2.1.2.1, p0.2.2.2.2.2.2.2.2.2.1.2.2.1, p0.2.2.2.2.2.2.2.2.2.1.2.2.2.1, ()), (l73, i74, i75, l76, ()), ())))
 (List.length p0.2.2.2.2.2.1 = List.length p0.2.2.2.2.2.1 ∧
 p5 (((), (), p0.1.2.2.1, (), p0.1.2.2.2.2.1, (), false, IntKind.wrap .i64 (p0.1.2.2.2.2.2.2.2.1 + 1), ()), ((p0.2.1.1, p0.2.1.2.1, p0.2.1.2.2.1, ()), (p0.2.2.1.1, p0.2.2.1.2.1, p0.2.2.1.2.2.1, p0.2.2.1.2.2.2.1, ()), (p0.2.2.2.1.1, p0.2.2.2.1.2.1, p0.2.2.2.1.2.2.1, p0.2.2.2.1.2.2.2.1, ()), (p0.2.2.2.2.1.1, p0.2.2.2.2.1.2.1, p0.2.2.2.2.1.2.2.1, ()), p0.2.2.2.2.2.1, p0.2.2.2.2.2.2.1, (p0.2.2.2.2.2.2.2.1.1, p0.2.2.2.2.2.2.2.1.2.1, p0.2.2.2.2.2.2.2.1.2.2.1, p0.2.2.2.2.2.2.2.1.2.2.2.1, p0.2.2.2.2.2.2.2.1.2.2.2.2.1, p0.2.2.2.2.2.2.2.1.2.2.2.2.2.1, ()), (p0.2.2.2.2.2.2.2.2.1.1, p0.2.2.2.2.2.2.2.2.1.2.1, p0.2.2.2.2.2.2.2.2.1.2.2.1, p0.2.2.2.2.2.2.2.2.1.2.2.2.1, ()), (p0.2.2.2.2.2.2.2.2.2.1.1, p0.2.2.2.2.2.2.2.2.2.1.2.1, p0.2.2.2.2.2.2.2.2.2.1.2.2.1, p0.2.2.2.2.2.2.2.2.2.1.2.2.2.1, ()), (l73, i74, i75, l76, ()), ())))
def vc6_L21'' (p0 : (Unit × Unit × Int × Unit × Int × Unit × Bool × Int × Unit) × ((Int × List AV × List AV × Unit) × (List AV × Int × Int × List AV × Unit) × (List AV × Int × Int × List AV × Unit) × (Int × List AV × List AV × Unit) × List AV × List AV × (Int × Int × Int × Int × Int × Int × Unit) × (List AV × Int × Int × List AV × Unit) × (List AV × Int × Int × List AV × Unit) × (List AV × Int × Int × List AV × Unit) × Unit)) (R : AV → Prop) : Prop :=
 LoopP _ p0 fun z51 ag52 =>
 List.length z51.2.2.2.2.2.1 = List.length z51.2.2.2.2.2.1 ∧
 ITE (decide (z51.1.2.2.2.2.2.2.2.1 < ((List.length z51.2.2.2.2.2.1 : Nat) : Int)))
 (List.length z51.2.2.2.2.2.1 = List.length z51.2.2.2.2.2.1 ∧
 0 ≤ z51.1.2.2.2.2.2.2.2.1 ∧
 z51.1.2.2.2.2.2.2.2.1 < List.length z51.2.2.2.2.2.1 ∧
 ∃ (l53 : List AV) (i54 i55 : Int) (l56 : List AV),
 List.getD z51.2.2.2.2.2.1 (Int.toNat z51.1.2.2.2.2.2.2.2.1) .top = .agg [.sl l53, nI i54, nI i55, .sl l56] ∧
 (vc6_L23''''''' z51 l53 i54 i55 l56 ag52) ∧
 (vc6_L23'''''''' z51 l53 i54 i55 l56 ag52))
 (ITE (z51.1.2.2.1 == 0)
 (ITE (z51.1.2.2.2.2.1 == 0)
 (∃ (b57 : Bool),
 PureIs Tryz.prog 37 [.agg [.sl z51.2.2.2.2.2.2.2.2.1.1, nI z51.2.2.2.2.2.2.2.2.1.2.1, nI z51.2.2.2.2.2.2.2.2.1.2.2.1, .sl z51.2.2.2.2.2.2.2.2.1.2.2.2.1], .agg [.sl z51.2.2.2.2.2.2.2.2.2.1.1, nI z51.2.2.2.2.2.2.2.2.2.1.2.1, nI z51.2.2.2.2.2.2.2.2.2.1.2.2.1, .sl z51.2.2.2.2.2.2.2.2.2.1.2.2.2.1]] (nB b57) ∧
 ITE (!b57)
 (R (nB false))
 (ITE (z51.1.2.2.1 == 0)
 (ITE z51.1.2.2.2.2.2.2.1
 (∃ (b58 : Bool),
 PureIs Tryz.prog 37 [.agg [.sl z51.2.2.2.2.2.2.2.2.1.1, nI z51.2.2.2.2.2.2.2.2.1.2.1, nI z51.2.2.2.2.2.2.2.2.1.2.2.1, .sl z51.2.2.2.2.2.2.2.2.1.2.2.2.1], .agg [.sl z51.2.2.2.2.2.2.2.2.2.2.1.1, nI z51.2.2.2.2.2.2.2.2.2.2.1.2.1, nI z51.2.2.2.2.2.2.2.2.2.2.1.2.2.1, .sl z51.2.2.2.2.2.2.2.2.2.2.1.2.2.2.1]] (nB b58) ∧
 ITE (!b58)
 (R (nB false))
 (∃ (b59 : Bool),
 PureIs Tryz.prog 10 [] (nB b59) ∧
 R (nB b59)))
 (∃ (b60 : Bool),
 PureIs Tryz.prog 10 [] (nB b60) ∧
 R (nB b60)))
 (∃ (b61 : Bool),
 PureIs Tryz.prog 10 [] (nB b61) ∧
 R (nB b61))))
 (ITE (z51.1.2.2.1 == 0)
 (ITE z51.1.2.2.2.2.2.2.1
 (∃ (b62 : Bool),
 PureIs Tryz.prog 37 [.agg [.sl z51.2.2.2.2.2.2.2.2.1.1, nI z51.2.2.2.2.2.2.2.2.1.2.1, nI z51.2.2.2.2.2.2.2.2.1.2.2.1, .sl z51.2.2.2.2.2.2.2.2.1.2.2.2.1], .agg [.sl z51.2.2.2.2.2.2.2.2.2.2.1.1, nI z51.2.2.2.2.2.2.2.2.2.2.1.2.1, nI z51.2.2.2.2.2.2.2.2.2.2.1.2.2.1, .sl z51.2.2.2.2.2.2.2.2.2.2.1.2.2.2.1]] (nB b62) ∧
 ITE (!b62)
 (R (nB false))
 (∃ (b63 : Bool),
 PureIs Tryz.prog 10 [] (nB b63) ∧
 R (nB b63)))
 (∃ (b64 : Bool),
 PureIs Tryz.prog 10 [] (nB b64) ∧
 R (nB b64)))
 (∃ (b65 : Bool),
 PureIs Tryz.prog 10 [] (nB b65) ∧
 R (nB b65))))
 (ITE (z51.1.2.2.1 == 0)
 (ITE z51.1.2.2.2.2.2.2.1
 (∃ (b66 : Bool),
 PureIs Tryz.prog 37 [.agg [.sl z51.2.2.2.2.2.2.2.2.1.1, nI z51.2.2.2.2.2.2.2.2.1.2.1, nI z51.2.2.2.2.2.2.2.2.1.2.2.1, .sl z51.2.2.2.2.2.2.2.2.1.2.2.2.1], .agg [.sl z51.2.2.2.2.2.2.2.2.2.2.1.1, nI z51.2.2.2.2.2.2.2.2.2.2.1.2.1, nI z51.2.2.2.2.2.2.2.2.2.2.1.2.2.1, .sl z51.2.2.2.2.2.2.2.2.2.2.1.2.2.2.1]] (nB b66) ∧
 ITE (!b66)
 (R (nB false))
 (∃ (b67 : Bool),
 PureIs Tryz.prog 10 [] (nB b67) ∧
 R (nB b67)))
 (∃ (b68 : Bool),
 PureIs Tryz.prog 10 [] (nB b68) ∧
 R (nB b68)))
 (∃ (b69 : Bool),
 PureIs Tryz.prog 10 [] (nB b69) ∧
 R (nB b69))))
def vc6_L16''' (p0 : (List AV × Unit × List AV × Unit × Unit × Unit × Int × Unit) × ((Int × List AV × List AV × Unit) × (List AV × Int × Int × List AV × Unit) × (List AV × Int × Int × List AV × Unit) × (Int × List AV × List AV × Unit) × List AV × List AV × Unit)) (p1 p2 p3 p4 p5 p6 : Int) (R : AV → Prop) : Prop :=
 List.length p0.2.2.2.2.2.1 = List.length p0.2.2.2.2.2.1 ∧
 ∃ (S51 : AV → List AObj → Prop),
 HFn Tryz.prog 35 [.agg [.sl p0.2.2.2.1.1, nI p0.2.2.2.1.2.1, nI p0.2.2.2.1.2.2.1, .sl p0.2.2.2.1.2.2.2.1], .ptr 0 0, .sl p0.2.2.2.2.2.1] [.box (budC p1 p2 p3 p4 p5 p6)] S51 ∧
 ∀ (r58 : AV) (q59 : List AObj), S51 r58 q59 →
 ∃ (i60 i61 i62 i63 i64 i65 : Int) (l66 : List AV) (i67 i68 : Int) (l69 : List AV) (i70 : Int),
 (r58 = .tup [.agg [.sl l66, nI i67, nI i68, .sl l69], nI i70] ∧ q59 = [.box (budC i60 i61 i62 i63 i64 i65)]) ∧
 ∃ (i71 : Int) (l72 : List AV) (i73 i74 : Int) (l75 : List AV),
 PureIs Tryz.prog 39 [.agg [.sl p0.2.2.2.1.1, nI p0.2.2.2.1.2.1, nI p0.2.2.2.1.2.2.1, .sl p0.2.2.2.1.2.2.2.1]] (.agg [nI i71, .sl l72, nI i73, nI i74, .sl l75]) ∧
 List.length p0.2.2.2.2.2.2.1 = List.length p0.2.2.2.2.2.2.1 ∧
 ∃ (i76 : Int) (l77 : List AV) (i78 i79 : Int) (l80 : List AV),
 PureIs Tryz.prog 41 [.agg [nI i71, .sl l72, nI i73, nI i74, .sl l75], .sl p0.2.2.2.2.2.2.1] (.agg [nI i76, .sl l77, nI i78, nI i79, .sl l80]) ∧
 ∃ (l81 : List AV) (i82 i83 : Int) (l84 : List AV) (i85 : Int),
 PureIs Tryz.prog 24 [.agg [nI p0.2.2.2.2.1.1, .sl p0.2.2.2.2.1.2.1, .sl p0.2.2.2.2.1.2.2.1], .sl p0.1.2.2.1, .agg [nI i76, .sl l77, nI i78, nI i79, .sl l80]] (.tup [.agg [.sl l81, nI i82, nI i83, .sl l84], nI i85]) ∧
 List.length p0.2.2.2.2.2.1 = List.length p0.2.2.2.2.2.1 ∧
 vc6_L21'' (((), (), i70, (), i85, (), true, 0, ()), ((p0.2.1.1, p0.2.1.2.1, p0.2.1.2.2.1, ()), (p0.2.2.1.1, p0.2.2.1.2.1, p0.2.2.1.2.2.1, p0.2.2.1.2.2.2.1, ()), (p0.2.2.2.1.1, p0.2.2.2.1.2.1, p0.2.2.2.1.2.2.1, p0.2.2.2.1.2.2.2.1, ()), (p0.2.2.2.2.1.1, p0.2.2.2.2.1.2.1, p0.2.2.2.2.1.2.2.1, ()), p0.2.2.2.2.2.1, p0.2.2.2.2.2.2.1, (i60, i61, i62, i63, i64, i65, ()), (l66, i67, i68, l69, ()), (l81, i82, i83, l84, ()), (p0.2.2.2.1.1, p0.2.2.2.1.2.1, p0.2.2.2.1.2.2.1, p0.2.2.2.1.2.2.2.1, ()), ())) R
def vc6_L23''''''''' (p0 : (Unit × Unit × Int × Unit × Int × Unit × Bool × Int × Unit) × ((Int × List AV × List AV × Unit) × (List AV × Int × Int × List AV × Unit) × (List AV × Int × Int × List AV × Unit) × (Int × List AV × List AV × Unit) × List AV × List AV × (List AV × Int × Int × List AV × Unit) × (Int × Int × Int × Int × Int × Int × Unit) × (List AV × Int × Int × List AV × Unit) × (List AV × Int × Int × List AV × Unit) × Unit)) (p1 : List AV) (p2 p3 : Int) (p4 : List AV) (p5 p6 p7 p8 p9 p10 : Int) (p11 : ((Unit × Unit × Int × Unit × Int × Unit × Bool × Int × Unit) × ((Int × List AV × List AV × Unit) × (List AV × Int × Int × List AV × Unit) × (List AV × Int × Int × List AV × Unit) × (Int × List AV × List AV × Unit) × List AV × List AV × (List AV × Int × Int × List AV × Unit) × (Int × Int × Int × Int × Int × Int × Unit) × (List AV × Int × Int × List AV × Unit) × (List AV × Int × Int × List AV × Unit) × Unit)) → Prop) : Prop :=
 ∃ (S50 : AV → List AObj → Prop),
 HFn Tryz.prog 35 [.agg [.sl p0.2.2.2.2.2.2.2.2.2.2.1.1, nI p0.2.2.2.2.2.2.2.2.2.2.1.2.1, nI p0.2.2.2.2.2.2.2.2.2.2.1.2.2.1, .sl p0.2.2.2.2.2.2.2.2.2.2.1.2.2.2.1], .ptr 0 0, .clip [.agg [.sl p1, nI p2, nI p3, .sl p4]]] [.box (budC p5 p6 p7 p8 p9 p10)] S50 ∧
 ∀ (r62 : AV) (q63 : List AObj), S50 r62 q63 →
 ∃ (i64 i65 i66 i67 i68 i69 : Int) (l70 : List AV) (i71 i72 : Int) (l73 : List AV) (i74 : Int),
 (r62 = .tup [.agg [.sl l70, nI i71, nI i72, .sl l73], nI i74] ∧ q63 = [.box (budC i64 i65 i66 i67 i68 i69)]) ∧
 ITE p0.1.2.2.2.2.2.2.1
 (List.length p0.2.2.2.2.2.1 = List.length p0.2.2.2.2.2.1 ∧
 p11 (((), (), p0.1.2.2.1, (), p0.1.2.2.2.2.1, (), i74 == 0, IntKind.wrap .i64 (p0.1.2.2.2.2.2.2.2.1 + 1), ()), ((p0.2.1.1, p0.2.1.2.1, p0.2.1.2.2.1, ()), (p0.2.2.1.1, p0.2.2.1.2.1, p0.2.2.1.2.2.1, p0.2.2.1.2.2.2.1, ()), (p0.2.2.2.1.1, p0.2.2.2.1.2.1, p0.2.2.2.1.2.2.1, p0.2.2.2.1.2.2.2.1, ()), (p0.2.2.2.2.1.1, p0.2.2.2.2.1.2.1, p0.2.2.2.2.1.2.2.1, ()), p0.2.2.2.2.2.1, p0.2.2.2.2.2.2.1, (p0.2.2.2.2.2.2.2.1.1, p0.2.2.2.2.2.2.2.1.2.1, p0.2.2.2.2.2.2.2.1.2.2.1, p0.2.2.2.2.2.2.2.1.2.2.2.1, ()), (p0.2.2.2.2.2.2.2.2.1.1, p0.2.2.2.2.2.2.2.2.1.2.1, p0.2.2.2.2.2.2.2.2.1.2.2.1, p0.2.2.2.2.2.2.2.2.1.2.2.2.1, p0.2.2.2.2.2.2.2.2.1.2.2.2.2.1, p0.2.2.2.2.2.2.2.2.1.2.2.2.2.2.1, ()), (p0.2.2.2.2.2.2.2.2.2.1.1, p0.2.2.2.2.2.2.2.2.2.1.2.1, p0.2.2.2.2.2.2.2.2.2.1.2.2.1, p0.2.2.2.2.2.2.2.2.2.1.2.2.2.1, ()), (l70, i71, i72, l73, ()), ())))
 (List.length p0.2.2.2.2.2.1 = List.length p0.2.2.2.2.2.1 ∧
 p11 (((), (), p0.1.2.2.1, (), p0.1.2.2.2.2.1, (), false, IntKind.wrap .i64 (p0.1.2.2.2.2.2.2.2.1 + 1), ()), ((p0.2.1.1, p0.2.1.2.1, p0.2.1.2.2.1, ()), (p0.2.2.1.1, p0.2.2.1.2.1, p0.2.2.1.2.2.1, p0.2.2.1.2.2.2.1, ()), (p0.2.2.2.1.1, p0.2.2.2.1.2.1, p0.2.2.2.1.2.2.1, p0.2.2.2.1.2.2.2.1, ()), (p0.2.2.2.2.1.1, p0.2.2.2.2.1.2.1, p0.2.2.2.2.1.2.2.1, ()), p0.2.2.2.2.2.1, p0.2.2.2.2.2.2.1, (p0.2.2.2.2.2.2.2.1.1, p0.2.2.2.2.2.2.2.1.2.1, p0.2.2.2.2.2.2.2.1.2.2.1, p0.2.2.2.2.2.2.2.1.2.2.2.1, ()), (p0.2.2.2.2.2.2.2.2.1.1, p0.2.2.2.2.2.2.2.2.1.2.1, p0.2.2.2.2.2.2.2.2.1.2.2.1, p0.2.2.2.2.2.2.2.2.1.2.2.2.1, p0.2.2.2.2.2.2.2.2.1.2.2.2.2.1, p0.2.2.2.2.2.2.2.2.1.2.2.2.2.2.1, ()), (p0.2.2.2.2.2.2.2.2.2.1.1, p0.2.2.2.2.2.2.2.2.2.1.2.1, p0.2.2.2.2.2.2.2.2.2.1.2.2.1, p0.2.2.2.2.2.2.2.2.2.1.2.2.2.1, ()), (l70, i71, i72, l73, ()), ())))
def vc6_L23'''''''''' (p0 : (Unit × Unit × Int × Unit × Int × Unit × Bool × Int × Unit) × ((Int × List AV × List AV × Unit) × (List AV × Int × Int × List AV × Unit) × (List AV × Int × Int × List AV × Unit) × (Int × List AV × List AV × Unit) × List AV × List AV × (List AV × Int × Int × List AV × Unit) × (Int × Int × Int × Int × Int × Int × Unit) × (List AV × Int × Int × List AV × Unit) × (List AV × Int × Int × List AV × Unit) × Unit)) (p1 : List AV) (p2 p3 : Int) (p4 : List AV) (p5 : ((Unit × Unit × Int × Unit × Int × Unit × Bool × Int × Unit) × ((Int × List AV × List AV × Unit) × (List AV × Int × Int × List AV × Unit) × (List AV × Int × Int × List AV × Unit) × (Int × List AV × List AV × Unit) × List AV × List AV × (List AV × Int × Int × List AV × Unit) × (Int × Int × Int × Int × Int × Int × Unit) × (List AV × Int × Int × List AV × Unit) × (List AV × Int × Int × List AV × Unit) × Unit)) → Prop) : Prop :=
 ∃ (S50 : AV → List AObj → Prop),
 HFn Tryz.prog 36 [nI 5000] [] S50 ∧
 ∀ (r51 : AV) (q52 : List AObj), S50 r51 q52 →
 ∃ (i53 i54 i55 i56 i57 i58 : Int),
 (r51 = .ptr 0 0 ∧ q52 = [.box (budC i53 i54 i55 i56 i57 i58)]) ∧
 (vc6_L23''''''''' p0 p1 p2 p3 p4 i53 i54 i55 i56 i57 i58 p5) ∧
 (vc6_L23''''''''' p0 p1 p2 p3 p4 i53 i54 i55 i56 i57 i58 p5)
def vc6_L23''''''''''' (p0 : (Unit × Unit × Int × Unit × Int × Unit × Bool × Int × Unit) × ((Int × List AV × List AV × Unit) × (List AV × Int × Int × List AV × Unit) × (List AV × Int × Int × List AV × Unit) × (Int × List AV × List AV × Unit) × List AV × List AV × (List AV × Int × Int × List AV × Unit) × (Int × Int × Int × Int × Int × Int × Unit) × (List AV × Int × Int × List AV × Unit) × (List AV × Int × Int × List AV × Unit) × Unit)) (p1 : List AV) (p2 p3 : Int) (p4 : List AV) (p5 : ((Unit × Unit × Int × Unit × Int × Unit × Bool × Int × Unit) × ((Int × List AV × List AV × Unit) × (List AV × Int × Int × List AV × Unit) × (List AV × Int × Int × List AV × Unit) × (Int × List AV × List AV × Unit) × List AV × List AV × (List AV × Int × Int × List AV × Unit) × (Int × Int × Int × Int × Int × Int × Unit) × (List AV × Int × Int × List AV × Unit) × (List AV × Int × Int × List AV × Unit) × Unit)) → Prop) : Prop :=
 ∃ (S50 : AV → List AObj → Prop),
 HFn Tryz.prog 36 [nI 5000] [] S50 ∧
 ∀ (r51 : AV) (q52 : List AObj), S50 r51 q52 →
 ∃ (i53 i54 i55 i56 i57 i58 : Int),
 (r51 = .ptr 0 0 ∧ q52 = [.box (budC i53 i54 i55 i56 i57 i58)]) ∧
 ∃ (S59 : AV → List AObj → Prop),
 HFn Tryz.prog 35 [.agg [.sl p0.2.2.2.2.2.2.2.2.2.2.1.1, nI p0.2.2.2.2.2.2.2.2.2.2.1.2.1, nI p0.2.2.2.2.2.2.2.2.2.2.1.2.2.1, .sl p0.2.2.2.2.2.2.2.2.2.2.1.2.2.2.1], .ptr 0 0, .clip [.agg [.sl p1, nI p2, nI p3, .sl p4]]] [.box (budC i53 i54 i55 i56 i57 i58)] S59 ∧
 ∀ (r65 : AV) (q66 : List AObj), S59 r65 q66 →
 ∃ (i67 i68 i69 i70 i71 i72 : Int) (l73 : List AV) (i74 i75 : Int) (l76 : List AV) (i77 : Int),
 (r65 = .tup [.agg [.sl l73, nI i74, nI i75, .sl l76], nI i77] ∧ q66 = [.box (budC i67 i68 i69 i70 i71 i72)]) ∧
 ITE p0.1.2.2.2.2.2.2.1
 (List.length p0.2.2.2.2.2.1 = List.length p0.2.2.2.2.2.1 ∧
 p5 (((), (), p0.1.2.2.1, (), p0.1.2.2.2.2.1, (), i77 == 0, IntKind.wrap .i64 (p0.1.2.2.2.2.2.2.2.1 + 1), ()), ((p0.2.1.1, p0.2.1.2.1, p0.2.1.2.2.1, ()), (p0.2.2.1.1, p0.2.2.1.2.1, p0.2.2.1.2.2.1, p0.2.2.1.2.2.2.1, ()), (p0.2.2.2.1.1, p0.2.2.2.1.2.1, p0.2.2.2.1.2.2.1, p0.2.2.2.1.2.2.2.1, ()), (p0.2.2.2.2.1.1, p0.2.2.2.2.1.2.1, p0.2.2.2.2.1.2.2.1, ()), p0.2.2.2.2.2.1, p0.2.2.2.2.2.2.1, (p0.2.2.2.2.2.2.2.1.1, p0.2.2.2.2.2.2.2.1.2.1, p0.2.2.2.2.2.2.2.1.2.2.1, p0.2.2.2.2.2.2.2.1.2.2.2.1, ()), (p0.2.2.2.2.2.2.2.2.1.1, p0.2.2.2.2.2.2.2.2.1.2.1, p0.2.2.2.2.2.2.2.2.1.2.2.1, p0.2.2.2.2.2.2.2.2.1.2.2.2.1, p0.2.2.2.2.2.2.2.2.1.2.2.2.2.1, p0.2.2.2.2.2.2.2.2.1.2.2.2.2.2.1, ()), (p0.2.2.2.2.2.2.2.2.2.1.1, p0.2.2.2.2.2.2.2.2.2.1.2.1, p0.2.2.2.2.2.2.2.2.2.1.2.2.1, p0.2.2.2.2.2.2.2.2.2.1.2.2.2.1, ()), (l73, i74, i75, l76, ()), ())))
 (List.length p0.2.2.2.2.2.1 = List.length p0.2.2.2.2.2.1 ∧
 p5 (((), (), p0.1.2.2.1, (), p0.1.2.2.2.2.1, (), false, IntKind.wrap .i64 (p0.1.2.2.2.2.2.2.2.1 + 1), ()), ((p0.2.1.1, p0.2.1.2.1, p0.2.1.2.2.1, ()), (p0.2.2.1.1, p0.2.2.1.2.1, p0.2.2.1.2.2.1, p0.2.2.1.2.2.2.1, ()), (p0.2.2.2.1.1, p0.2.2.2.1.2.1, p0.2.2.2.1.2.2.1, p0.2.2.2.1.2.2.2.1, ()), (p0.2.2.2.2.1.1, p0.2.2.2.2.1.2.1, p0.2.2.2.2.1.2.2.1, ()), p0.2.2.2.2.2.1, p0.2.2.2.2.2.2.1, (p0.2.2.2.2.2.2.2.1.1, p0.2.2.2.2.2.2.2.1.2.1, p0.2.2.2.2.2.2.2.1.2.2.1, p0.2.2.2.2.2.2.2.1.2.2.2.1, ()), (p0.2.2.2.2.2.2.2.2.1.1, p0.2.2.2.2.2.2.2.2.1.2.1, p0.2.2.2.2.2.2.2.2.1.2.2.1, p0.2.2.2.2.2.2.2.2.1.2.2.2.1, p0.2.2.2.2.2.2.2.2.1.2.2.2.2.1, p0.2.2.2.2.2.2.2.2.1.2.2.2.2.2.1, ()), (p0.2.2.2.2.2.2.2.2.2.1.1, p0.2.2.2.2.2.2.2.2.2.1.2.1, p0.2.2.2.2.2.2.2.2.2.1.2.2.1, p0.2.2.2.2.2.2.2.2.2.1.2.2.2.1, ()), (l73, i74, i75, l76, ()), ())))
def vc6_L21''' (p0 : (Unit × Unit × Int × Unit × Int × Unit × Bool × Int × Unit) × ((Int × List AV × List AV × Unit) × (List AV × Int × Int × List AV × Unit) × (List AV × Int × Int × List AV × Unit) × (Int × List AV × List AV × Unit) × List AV × List AV × (List AV × Int × Int × List AV × Unit) × (Int × Int × Int × Int × Int × Int × Unit) × (List AV × Int × Int × List AV × Unit) × (List AV × Int × Int × List AV × Unit) × Unit)) (R : AV → Prop) : Prop :=
 LoopP _ p0 fun z51 ag52 =>
 List.length z51.2.2.2.2.2.1 = List.length z51.2.2.2.2.2.1 ∧
 ITE (decide (z51.1.2.2.2.2.2.2.2.1 < ((List.length z51.2.2.2.2.2.1 : Nat) : Int)))
 (List.length z51.2.2.2.2.2.1 = List.length z51.2.2.2.2.2.1 ∧
 0 ≤ z51.1.2.2.2.2.2.2.2.1 ∧
 z51.1.2.2.2.2.2.2.2.1 < List.length z51.2.2.2.2.2.1 ∧
 ∃ (l53 : List AV) (i54 i55 : Int) (l56 : List AV),
 List.getD z51.2.2.2.2.2.1 (Int.toNat z51.1.2.2.2.2.2.2.2.1) .top = .agg [.sl l53, nI i54, nI i55, .sl l56] ∧
 (vc6_L23'''''''''' z51 l53 i54 i55 l56 ag52) ∧
 (vc6_L23''''''''''' z51 l53 i54 i55 l56 ag52))
 (ITE (z51.1.2.2.1 == 0)
 (ITE (z51.1.2.2.2.2.1 == 0)
 (∃ (b57 : Bool),
 PureIs Tryz.prog 37 [.agg [.sl z51.2.2.2.2.2.2.2.1.1, nI z51.2.2.2.2.2.2.2.1.2.1, nI z51.2.2.2.2.2.2.2.1.2.2.1, .sl z51.2.2.2.2.2.2.2.1.2.2.2.1], .agg [.sl z51.2.2.2.2.2.2.2.2.2.1.1, nI z51.2.2.2.2.2.2.2.2.2.1.2.1, nI z51.2.2.2.2.2.2.2.2.2.1.2.2.1, .sl z51.2.2.2.2.2.2.2.2.2.1.2.2.2.1]] (nB b57) ∧
 ITE (!b57)
 (R (nB false))
 (ITE (z51.1.2.2.1 == 0)
 (ITE z51.1.2.2.2.2.2.2.1
 (∃ (b58 : Bool),
 PureIs Tryz.prog 37 [.agg [.sl z51.2.2.2.2.2.2.2.1.1, nI z51.2.2.2.2.2.2.2.1.2.1, nI z51.2.2.2.2.2.2.2.1.2.2.1, .sl z51.2.2.2.2.2.2.2.1.2.2.2.1], .agg [.sl z51.2.2.2.2.2.2.2.2.2.2.1.1, nI z51.2.2.2.2.2.2.2.2.2.2.1.2.1, nI z51.2.2.2.2.2.2.2.2.2.2.1.2.2.1, .sl z51.2.2.2.2.2.2.2.2.2.2.1.2.2.2.1]] (nB b58) ∧
 ITE (!b58)
 (R (nB false))
 (∃ (b59 : Bool),
 PureIs Tryz.prog 10 [] (nB b59) ∧
 R (nB b59)))
 (∃ (b60 : Bool),
 PureIs Tryz.prog 10 [] (nB b60) ∧
 R (nB b60)))
 (∃ (b61 : Bool),
 PureIs Tryz.prog 10 [] (nB b61) ∧
 R (nB b61))))
 (ITE (z51.1.2.2.1 == 0)
 (ITE z51.1.2.2.2.2.2.2.1
 (∃ (b62 : Bool),
 PureIs Tryz.prog 37 [.agg [.sl z51.2.2.2.2.2.2.2.1.1, nI z51.2.2.2.2.2.2.2.1.2.1, nI z51.2.2.2.2.2.2.2.1.2.2.1, .sl z51.2.2.2.2.2.2.2.1.2.2.2.1], .agg [.sl z51.2.2.2.2.2.2.2.2.2.2.1.1, nI z51.2.2.2.2.2.2.2.2.2.2.1.2.1, nI z51.2.2.2.2.2.2.2.2.2.2.1.2.2.1, .sl z51.2.2.2.2.2.2.2.2.2.2.1.2.2.2.1]] (nB b62) ∧
 ITE (!b62)
 (R (nB false))
 (∃ (b63 : Bool),
 PureIs Tryz.prog 10 [] (nB b63) ∧
 R (nB b63)))
 (∃ (b64 : Bool),
 PureIs Tryz.prog 10 [] (nB b64) ∧
 R (nB b64)))
 (∃ (b65 : Bool),
 PureIs Tryz.prog 10 [] (nB b65) ∧
 R (nB b65))))
 (ITE (z51.1.2.2.1 == 0)
 (ITE z51.1.2.2.2.2.2.2.1
 (∃ (b66 : Bool),
 PureIs Tryz.prog 37 [.agg [.sl z51.2.2.2.2.2.2.2.1.1, nI z51.2.2.2.2.2.2.2.1.2.1, nI z51.2.2.2.2.2.2.2.1.2.2.1, .sl z51.2.2.2.2.2.2.2.1.2.2.2.1], .agg [.sl z51.2.2.2.2.2.2.2.2.2.2.1.1, nI z51.2.2.2.2.2.2.2.2.2.2.1.2.1, nI z51.2.2.2.2.2.2.2.2.2.2.1.2.2.1, .sl z51.2.2.2.2.2.2.2.2.2.2.1.2.2.2.1]] (nB b66) ∧
 ITE (!b66)
 (R (nB false))
 (∃ (b67 : Bool),
 PureIs Tryz.prog 10 [] (nB b67) ∧
 R (nB b67)))
 (∃ (b68 : Bool),
 PureIs Tryz.prog 10 [] (nB b68) ∧
 R (nB b68)))
 (∃ (b69 : Bool),
 PureIs Tryz.prog 10 [] (nB b69) ∧
 R (nB b69))))
def vc6_L16'''' (p0 : (List AV × Unit × List AV × Unit × Unit × Unit × Int × Unit) × ((Int × List AV × List AV × Unit) × (List AV × Int × Int × List AV × Unit) × (List AV × Int × Int × List AV × Unit) × (Int × List AV × List AV × Unit) × List AV × List AV × Unit)) (R : AV → Prop) : Prop :=
 ∃ (S50 : AV → List AObj → Prop),
 HFn Tryz.prog 36 [nI 5000] [] S50 ∧
 ∀ (r51 : AV) (q52 : List AObj), S50 r51 q52 →
 ∃ (i53 i54 i55 i56 i57 i58 : Int),
 (r51 = .ptr 0 0 ∧ q52 = [.box (budC i53 i54 i55 i56 i57 i58)]) ∧
 (vc6_L16''' p0 i53 i54 i55 i56 i57 i58 R) ∧
 (vc6_L16''' p0 i53 i54 i55 i56 i57 i58 R)
def vc6_L16''''' (p0 : (List AV × Unit × List AV × Unit × Unit × Unit × Int × Unit) × ((Int × List AV × List AV × Unit) × (List AV × Int × Int × List AV × Unit) × (List AV × Int × Int × List AV × Unit) × (Int × List AV × List AV × Unit) × List AV × List AV × Unit)) (R : AV → Prop) : Prop :=
 ∃ (S50 : AV → List AObj → Prop),
 HFn Tryz.prog 36 [nI 5000] [] S50 ∧
 ∀ (r51 : AV) (q52 : List AObj), S50 r51 q52 →
 ∃ (i53 i54 i55 i56 i57 i58 : Int),
 (r51 = .ptr 0 0 ∧ q52 = [.box (budC i53 i54 i55 i56 i57 i58)]) ∧
 List.length p0.2.2.2.2.2.1 = List.length p0.2.2.2.2.2.1 ∧
 ∃ (S60 : AV → List AObj → Prop),
 HFn Tryz.prog 35 [.agg [.sl p0.2.2.2.1.1, nI p0.2.2.2.1.2.1, nI p0.2.2.2.1.2.2.1, .sl p0.2.2.2.1.2.2.2.1], .ptr 0 0, .sl p0.2.2.2.2.2.1] [.box (budC i53 i54 i55 i56 i57 i58)] S60 ∧
 ∀ (r61 : AV) (q62 : List AObj), S60 r61 q62 →
 ∃ (i63 i64 i65 i66 i67 i68 : Int) (l69 : List AV) (i70 i71 : Int) (l72 : List AV) (i73 : Int),
 (r61 = .tup [.agg [.sl l69, nI i70, nI i71, .sl l72], nI i73] ∧ q62 = [.box (budC i63 i64 i65 i66 i67 i68)]) ∧
 ∃ (i74 : Int) (l75 : List AV) (i76 i77 : Int) (l78 : List AV),
 PureIs Tryz.prog 39 [.agg [.sl p0.2.2.2.1.1, nI p0.2.2.2.1.2.1, nI p0.2.2.2.1.2.2.1, .sl p0.2.2.2.1.2.2.2.1]] (.agg [nI i74, .sl l75, nI i76, nI i77, .sl l78]) ∧
 List.length p0.2.2.2.2.2.2.1 = List.length p0.2.2.2.2.2.2.1 ∧
 ∃ (i79 : Int) (l80 : List AV) (i81 i82 : Int) (l83 : List AV),
 PureIs Tryz.prog 41 [.agg [nI i74, .sl l75, nI i76, nI i77, .sl l78], .sl p0.2.2.2.2.2.2.1] (.agg [nI i79, .sl l80, nI i81, nI i82, .sl l83]) ∧
 ∃ (l84 : List AV) (i85 i86 : Int) (l87 : List AV) (i88 : Int),
 PureIs Tryz.prog 24 [.agg [nI p0.2.2.2.2.1.1, .sl p0.2.2.2.2.1.2.1, .sl p0.2.2.2.2.1.2.2.1], .sl p0.1.2.2.1, .agg [nI i79, .sl l80, nI i81, nI i82, .sl l83]] (.tup [.agg [.sl l84, nI i85, nI i86, .sl l87], nI i88]) ∧
 List.length p0.2.2.2.2.2.1 = List.length p0.2.2.2.2.2.1 ∧
 vc6_L21''' (((), (), i73, (), i88, (), true, 0, ()), ((p0.2.1.1, p0.2.1.2.1, p0.2.1.2.2.1, ()), (p0.2.2.1.1, p0.2.2.1.2.1, p0.2.2.1.2.2.1, p0.2.2.1.2.2.2.1, ()), (p0.2.2.2.1.1, p0.2.2.2.1.2.1, p0.2.2.2.1.2.2.1, p0.2.2.2.1.2.2.2.1, ()), (p0.2.2.2.2.1.1, p0.2.2.2.2.1.2.1, p0.2.2.2.2.1.2.2.1, ()), p0.2.2.2.2.2.1, p0.2.2.2.2.2.2.1, (l69, i70, i71, l72, ()), (i63, i64, i65, i66, i67, i68, ()), (l84, i85, i86, l87, ()), (p0.2.2.2.1.1, p0.2.2.2.1.2.1, p0.2.2.2.1.2.2.1, p0.2.2.2.1.2.2.2.1, ()), ())) R
def vc6_L8' (p0 : (List AV × Unit × List AV × Unit × Unit × Unit × Int × Unit) × ((Int × List AV × List AV × Unit) × (List AV × Int × Int × List AV × Unit) × (List AV × Int × Int × List AV × Unit) × (Int × List AV × List AV × Unit) × List AV × List AV × Unit)) (R : AV → Prop) : Prop :=
 LoopP _ p0 fun z51 ag52 =>
 ITE (decide (z51.1.2.2.2.2.2.2.1 < ((List.length z51.1.1 : Nat) : Int)))
 (0 ≤ z51.1.2.2.2.2.2.2.1 ∧
 z51.1.2.2.2.2.2.2.1 < List.length z51.1.1 ∧
 ∃ (l53 : List AV) (i54 i55 : Int) (l56 : List AV),
 List.getD z51.1.1 (Int.toNat z51.1.2.2.2.2.2.2.1) .top = .agg [.sl l53, nI i54, nI i55, .sl l56] ∧
 ∃ (b57 : Bool),
 PureIs Tryz.prog 26 [.agg [.sl l53, nI i54, nI i55, .sl l56], nI 60, nI 60] (nB b57) ∧
 ITE (!b57)
 (∃ (b58 : Bool),
 PureIs Tryz.prog 10 [] (nB b58) ∧
 R (nB b58))
 (0 ≤ z51.1.2.2.2.2.2.2.1 ∧
 z51.1.2.2.2.2.2.2.1 < List.length z51.1.1 ∧
 ∃ (l59 : List AV) (i60 i61 : Int) (l62 : List AV),
 List.getD z51.1.1 (Int.toNat z51.1.2.2.2.2.2.2.1) .top = .agg [.sl l59, nI i60, nI i61, .sl l62] ∧
 ∃ (l63 : List AV) (i64 i65 : Int) (l66 : List AV),
 PureIs Tryz.prog 28 [.agg [.sl l59, nI i60, nI i61, .sl l62]] (.agg [.sl l63, nI i64, nI i65, .sl l66]) ∧
 List.length z51.2.2.2.2.2.1 = List.length z51.2.2.2.2.2.1 ∧
 appOk td51 (List.length (z51.2.2.2.2.2.1 ++ [.agg [.sl l63, nI i64, nI i65, .sl l66]])) [] [.agg [.sl l63, nI i64, nI i65, .sl l66]] ∧
 List.length (z51.2.2.2.2.2.1 ++ [.agg [.sl l63, nI i64, nI i65, .sl l66]]) = List.length (z51.2.2.2.2.2.1 ++ [.agg [.sl l63, nI i64, nI i65, .sl l66]]) ∧
 0 ≤ z51.1.2.2.2.2.2.2.1 ∧
 z51.1.2.2.2.2.2.2.1 < List.length (z51.2.2.2.2.2.1 ++ [.agg [.sl l63, nI i64, nI i65, .sl l66]]) ∧
 ∃ (l67 : List AV) (i68 i69 : Int) (l70 : List AV),
 List.getD (z51.2.2.2.2.2.1 ++ [.agg [.sl l63, nI i64, nI i65, .sl l66]]) (Int.toNat z51.1.2.2.2.2.2.2.1) .top = .agg [.sl l67, nI i68, nI i69, .sl l70] ∧
 ∃ (i71 : Int) (l72 : List AV) (i73 i74 : Int) (l75 : List AV),
 PureIs Tryz.prog 39 [.agg [.sl l67, nI i68, nI i69, .sl l70]] (.agg [nI i71, .sl l72, nI i73, nI i74, .sl l75]) ∧
 List.length z51.2.2.2.2.2.2.1 = List.length z51.2.2.2.2.2.2.1 ∧
 appOk td42 (List.length (z51.2.2.2.2.2.2.1 ++ [.agg [nI i71, .sl l72, nI i73, nI i74, .sl l75]])) [] [.agg [nI i71, .sl l72, nI i73, nI i74, .sl l75]] ∧
 List.length (z51.2.2.2.2.2.1 ++ [.agg [.sl l63, nI i64, nI i65, .sl l66]]) = List.length (z51.2.2.2.2.2.1 ++ [.agg [.sl l63, nI i64, nI i65, .sl l66]]) ∧
 List.length (z51.2.2.2.2.2.2.1 ++ [.agg [nI i71, .sl l72, nI i73, nI i74, .sl l75]]) = List.length (z51.2.2.2.2.2.2.1 ++ [.agg [nI i71, .sl l72, nI i73, nI i74, .sl l75]]) ∧
 ag52 ((z51.1.1, (), z51.1.2.2.1, (), (), (), IntKind.wrap .i64 (z51.1.2.2.2.2.2.2.1 + 1), ()), ((z51.2.1.1, z51.2.1.2.1, z51.2.1.2.2.1, ()), (z51.2.2.1.1, z51.2.2.1.2.1, z51.2.2.1.2.2.1, z51.2.2.1.2.2.2.1, ()), (z51.2.2.2.1.1, z51.2.2.2.1.2.1, z51.2.2.2.1.2.2.1, z51.2.2.2.1.2.2.2.1, ()), (z51.2.2.2.2.1.1, z51.2.2.2.2.1.2.1, z51.2.2.2.2.1.2.2.1, ()), z51.2.2.2.2.2.1 ++ [.agg [.sl l63, nI i64, nI i65, .sl l66]], z51.2.2.2.2.2.2.1 ++ [.agg [nI i71, .sl l72, nI i73, nI i74, .sl l75]], ()))))
 (List.length z51.2.2.2.2.2.1 = List.length z51.2.2.2.2.2.1 ∧
 ∃ (b76 : Bool),
 PureIs Tryz.prog 40 [.agg [nI z51.2.2.2.2.1.1, .sl z51.2.2.2.2.1.2.1, .sl z51.2.2.2.2.1.2.2.1], .sl z51.1.2.2.1, .agg [.sl z51.2.2.2.1.1, nI z51.2.2.2.1.2.1, nI z51.2.2.2.1.2.2.1, .sl z51.2.2.2.1.2.2.2.1], .sl z51.2.2.2.2.2.1] (nB b76) ∧
 ITE (!b76)
 (∃ (b77 : Bool),
 PureIs Tryz.prog 10 [] (nB b77) ∧
 R (nB b77))
 ((vc6_L16'''' z51 R) ∧
 (vc6_L16''''' z51 R)))
def vc6_L4 (p0 p1 : List AV) (p2 : Int) (p3 p4 p5 : List AV) (p6 p7 : Int) (p8 : List AV) (p9 : Int) (p10 p11 p12 : List AV) (p13 p14 : Int) (p15 : List AV) (R : AV → Prop) : Prop :=
 0 = List.length ([] : List AV) ∧
 0 = List.length ([] : List AV) ∧
 vc6_L8 ((List.drop (Int.toNat 0) (List.take (Int.toNat (if 4 < ((List.length p0 : Nat) : Int) then 4 else ((List.length p0 : Nat) : Int))) p0), (), p1, (), (), (), 0, ()), ((p2, p3, p4, ()), (p5, p6, p7, p8, ()), (p9, p10, p11, ()), (p12, p13, p14, p15, ()), [], [], ())) R
def vc6_L4' (p0 p1 : List AV) (p2 : Int) (p3 p4 p5 : List AV) (p6 p7 : Int) (p8 p9 : List AV) (p10 p11 : Int) (p12 : List AV) (p13 : Int) (p14 p15 : List AV) (R : AV → Prop) : Prop :=
 0 = List.length ([] : List AV) ∧
 0 = List.length ([] : List AV) ∧
 vc6_L8' ((List.drop (Int.toNat 0) (List.take (Int.toNat (if 4 < ((List.length p0 : Nat) : Int) then 4 else ((List.length p0 : Nat) : Int))) p0), (), p1, (), (), (), 0, ()), ((p2, p3, p4, ()), (p5, p6, p7, p8, ()), (p9, p10, p11, p12, ()), (p13, p14, p15, ()), [], [], ())) R
def vc6 (a0_0 : Int) (a0_1 a0_2 a1 a2_0 : List AV) (a2_1 a2_2 : Int) (a2_3 a3 : List AV) (R : AV → Prop) : Prop :=
 (0 ≤ (0 : Int) ∧ (0 : Int) ≤ (if 4 < ((List.length a3 : Nat) : Int) then 4 else ((List.length a3 : Nat) : Int)) ∧ (if 4 < ((List.length a3 : Nat) : Int) then 4 else ((List.length a3 : Nat) : Int)) ≤ List.length a3 ∧ (∀ y : AV, y ∈ a3 → List.length (AV.cells y) = 4)) ∧
 ∃ (b1 : Bool),
 PureIs Tryz.prog 26 [.agg [.sl a2_0, nI a2_1, nI a2_2, .sl a2_3], nI 60, nI 60] (nB b1) ∧
 ITE (!b1)
 (∃ (b2 : Bool),
 PureIs Tryz.prog 10 [] (nB b2) ∧
 R (nB b2))
 (∃ (b3 : Bool),
 PureIs Tryz.prog 9 [.agg [nI a0_0, .sl a0_1, .sl a0_2], .sl a1] (nB b3) ∧
 ITE (!b3)
 (∃ (b4 : Bool),
 PureIs Tryz.prog 10 [] (nB b4) ∧
 R (nB b4))
 (∃ (i5 : Int) (l6 l7 : List AV),
 PureIs Tryz.prog 11 [.agg [nI a0_0, .sl a0_1, .sl a0_2]] (.agg [nI i5, .sl l6, .sl l7]) ∧
 ∃ (l8 : List AV),
 PureIs Tryz.prog 12 [.sl a1] (.sl l8) ∧
 ∃ (l9 : List AV) (i10 i11 : Int) (l12 : List AV),
 PureIs Tryz.prog 28 [.agg [.sl a2_0, nI a2_1, nI a2_2, .sl a2_3]] (.agg [.sl l9, nI i10, nI i11, .sl l12]) ∧
 (vc6_L4 a3 l8 a0_0 a0_1 a0_2 a2_0 a2_1 a2_2 a2_3 i5 l6 l7 l9 i10 i11 l12 R) ∧
 (vc6_L4' a3 l8 a0_0 a0_1 a0_2 a2_0 a2_1 a2_2 a2_3 l9 i10 i11 l12 i5 l6 l7 R)))
theorem vc6_ok {a0_0 : Int} {a0_1 a0_2 a1 a2_0 : List AV} {a2_1 a2_2 : Int} {a2_3 a3 : List AV} {R : AV → Prop} (h : vc6 a0_0 a0_1 a0_2 a1 a2_0 a2_1 a2_2 a2_3 a3 R) : Pure Tryz.prog 6 [.agg [nI a0_0, .sl a0_1, .sl a0_2], .sl a1, .agg [.sl a2_0, nI a2_1, nI a2_2, .sl a2_3], .sl a3] R :=
 pure_of_code (C := cfg (Func.ntmps Tryz.f6) [(4, [none, none, none, none, none, none, some [], some [], none, none, none], [some [], some [], none, some [], some [], some [], none, none, none, none, none]), (16, [none, some [], none, none, none, none, none, some [], none, none], [some [], some [], none, some [], none, none, none, none, none, none]), (17, [none, none, none, none, none, none, none, none, none, none, some [], none, none], [some [], none, some [], some [], none, some [], some [], none, none, none, none, none, none]), (23, [none, some [], none, none, none, none, none, none, none, none, none, some [], none, none], [some [], some [], none, none, some [], some [], some [], some [], none, none, none, none, none, none])] [(35, .emb [(.t [.a [.l, .i .i64, .i .i64, .l], .c (.i .i64)], [.box [.i .i64, .i .i64, .i .u32, .i .i32, .i .u32, .i .u32]])]), (36, .emb [(.v (.c (.k (.ptr 0 0))), [.box [.i .i64, .i .i64, .i .u32, .i .i32, .i .u32, .i .u32]])])] [(16, [35, 36]), (23, [35, 36])] [(4, (.val 0 (.val 1 (.val 2 (.val 3 (.val 4 (.val 5 (.two 6 (.eff 7 (.eff 8 (.val 9 (.eff 10 .done)))) 7 (.eff 6 (.eff 8 (.val 9 (.eff 10 .done)))))))))))), (16, (.val 0 (.val 2 (.two 1 (.two 3 (.val 4 (.val 5 (.val 6 (.eff 7 (.eff 8 (.val 9 .done)))))) 7 (.eff 3 (.val 4 (.val 5 (.val 6 (.eff 8 (.val 9 .done))))))) 7 (.eff 1 (.eff 3 (.val 4 (.val 5 (.val 6 (.eff 8 (.val 9 .done))))))))))), (23, (.val 0 (.val 2 (.val 3 (.val 4 (.val 5 (.val 6 (.two 1 (.two 7 (.val 8 (.val 9 (.val 10 (.eff 11 (.eff 12 (.val 13 .done)))))) 11 (.eff 7 (.val 8 (.val 9 (.val 10 (.eff 12 (.val 13 .done))))))) 11 (.eff 1 (.eff 7 (.val 8 (.val 9 (.val 10 (.eff 12 (.val 13 .done)))))))))))))))]) (cfg_tab _ _ _ _ _) (cfg_ord _ _ _ _ _) (L := [{ key := 8, live := [(3, none), (9, none), (10, none), (11, none), (12, none), (13, none), (14, none)], rows := [(12, 51), (13, 42)] }, { key := 21, live := [(12, none), (15, none), (16, none), (17, none), (18, none), (19, none), (20, none), (21, none)] }]) (fn := Tryz.f6) Tryz.func6 (by exact rfl) (by kernel_rfl) (by kernel_rfl) (by rfl) (of_eq (by kernel_rfl) h)
end Go.Proofs.YtghlgbhldnkdmaaGreat
