/- Texts of ours laid together for a claim: Vc7. -/
import Derived.Test.YtghlgbhldnkdmaaGreatQ36
namespace Go.Proofs.YtghlgbhldnkdmaaGreat
open Go
set_option linter.unusedSimpArgs false
set_option linter.unusedVariables false
set_option maxRecDepth 100000
abbrev sxVc7_0 : Nat × Sig := (120, .emb [(.t [], [.box [.i .i64, .i .i64, .i .u32, .i .i32, .i .u32, .i .u32], .box [.k (.ptr 0 0), .i .i64, .i .i64]])])
abbrev sxVc7_1 : Nat × Sig := (135, .emb [(.v (.c (.b)), [.box [.i .i64, .i .i64, .i .u32, .i .i32, .i .u32, .i .u32], .box [.k (.ptr 0 0), .i .i64, .i .i64]])])
abbrev sxVc7_2 : Nat × Sig := (121, .emb [(.v (.a [.l, .i .i64, .i .i64, .l]), [.box [.i .i64, .i .i64, .i .u32, .i .i32, .i .u32, .i .u32], .box [.k (.ptr 0 0), .i .i64, .i .i64]])])
abbrev sxVc7_3 : Nat × Sig := (87, .emb [(.v (.a [.l, .i .i64, .i .i64, .l]), [.box [.i .i64, .i .i64, .i .u32, .i .i32, .i .u32, .i .u32], .box [.k (.ptr 0 0), .i .i64, .i .i64]])])
def vc120 (xl xu xd xm xs xy xc xe a1 : Int) (R : AV → List AObj → Prop) : Prop :=
 ITE (xe == 0)
 (R (.tup []) [.box (budC xl xu xd xm xs xy), .box [.ptr 0 0, nI xc, nI a1]])
 (R (.tup []) [.box (budC xl xu xd xm xs xy), .box [.ptr 0 0, nI xc, nI xe]])
theorem vc120_ok {xl xu xd xm xs xy xc xe a1 : Int} {R : AV → List AObj → Prop} (h : vc120 xl xu xd xm xs xy xc xe a1 R) : HFn Tryz.prog 120 [.ptr 1 0, nI a1] [.box (budC xl xu xd xm xs xy), .box [.ptr 0 0, nI xc, nI xe]] R :=
 heap_of_code (C := cfg (Func.ntmps Tryz.f120)) (cfg_tab _ _ _ _ _) (cfg_ord _ _ _ _ _) (L := []) (fn := Tryz.f120) Tryz.func120 (by exact rfl) (by kernel_rfl) (by kernel_rfl) (by rfl) (of_eq (by kernel_rfl) h)
def vc135_L1 (p0 : (Unit × Int × Unit) × ((Int × Int × Int × Int × Int × Int × Unit) × (Unit × Int × Int × Unit) × Unit)) (R : AV → List AObj → Prop) : Prop :=
 LoopP _ p0 fun z51 ag52 =>
 ITE (decide (z51.1.2.1 > 0))
 (ITE (z51.2.2.1.2.2.1 == 0)
 (ITE (z51.2.2.1.2.1 == 100000)
 (∃ (S53 : AV → List AObj → Prop),
 HFn Tryz.prog 120 [.ptr 1 0, nI 2] [.box (budC z51.2.1.1 z51.2.1.2.1 z51.2.1.2.2.1 z51.2.1.2.2.2.1 z51.2.1.2.2.2.2.1 z51.2.1.2.2.2.2.2.1), .box [.ptr 0 0, nI z51.2.2.1.2.1, nI z51.2.2.1.2.2.1]] S53 ∧
 ∀ (r54 : AV) (q55 : List AObj), S53 r54 q55 →
 ∃ (i56 i57 i58 i59 i60 i61 i62 i63 : Int),
 (r54 = .tup [] ∧ q55 = [.box (budC i56 i57 i58 i59 i60 i61), .box [.ptr 0 0, nI i62, nI i63]]) ∧
 ag52 (((), IntKind.wrap .i64 (z51.1.2.1 - 1), ()), ((i56, i57, i58, i59, i60, i61, ()), ((), IntKind.wrap .i64 (i62 + 1), i63, ()), ())))
 (∃ (S64 : AV → List AObj → Prop),
 HFn Tryz.prog 157 [.ptr 0 0, nI 1] [.box (budC z51.2.1.1 z51.2.1.2.1 z51.2.1.2.2.1 z51.2.1.2.2.2.1 z51.2.1.2.2.2.2.1 z51.2.1.2.2.2.2.2.1)] S64 ∧
 ∀ (r65 : AV) (q66 : List AObj), S64 r65 q66 →
 ∃ (i67 i68 i69 i70 i71 i72 : Int) (b73 : Bool),
 (r65 = nB b73 ∧ q66 = [.box (budC i67 i68 i69 i70 i71 i72)]) ∧
 ITE (!b73)
 (∃ (S74 : AV → List AObj → Prop),
 HFn Tryz.prog 120 [.ptr 1 0, nI 11] [.box (budC i67 i68 i69 i70 i71 i72), .box [.ptr 0 0, nI z51.2.2.1.2.1, nI z51.2.2.1.2.2.1]] S74 ∧
 ∀ (r75 : AV) (q76 : List AObj), S74 r75 q76 →
 ∃ (i77 i78 i79 i80 i81 i82 i83 i84 : Int),
 (r75 = .tup [] ∧ q76 = [.box (budC i77 i78 i79 i80 i81 i82), .box [.ptr 0 0, nI i83, nI i84]]) ∧
 ag52 (((), IntKind.wrap .i64 (z51.1.2.1 - 1), ()), ((i77, i78, i79, i80, i81, i82, ()), ((), IntKind.wrap .i64 (i83 + 1), i84, ()), ())))
 (ag52 (((), IntKind.wrap .i64 (z51.1.2.1 - 1), ()), ((i67, i68, i69, i70, i71, i72, ()), ((), IntKind.wrap .i64 (z51.2.2.1.2.1 + 1), z51.2.2.1.2.2.1, ()), ())))))
 (R (nB (z51.2.2.1.2.2.1 == 0)) [.box (budC z51.2.1.1 z51.2.1.2.1 z51.2.1.2.2.1 z51.2.1.2.2.2.1 z51.2.1.2.2.2.2.1 z51.2.1.2.2.2.2.2.1), .box [.ptr 0 0, nI z51.2.2.1.2.1, nI z51.2.2.1.2.2.1]]))
 (R (nB (z51.2.2.1.2.2.1 == 0)) [.box (budC z51.2.1.1 z51.2.1.2.1 z51.2.1.2.2.1 z51.2.1.2.2.2.1 z51.2.1.2.2.2.2.1 z51.2.1.2.2.2.2.2.1), .box [.ptr 0 0, nI z51.2.2.1.2.1, nI z51.2.2.1.2.2.1]])
def vc135 (xl xu xd xm xs xy xc xe a1 : Int) (R : AV → List AObj → Prop) : Prop :=
 vc135_L1 (((), a1, ()), ((xl, xu, xd, xm, xs, xy, ()), ((), xc, xe, ()), ())) R
theorem vc135_ok {xl xu xd xm xs xy xc xe a1 : Int} {R : AV → List AObj → Prop} (h : vc135 xl xu xd xm xs xy xc xe a1 R) : HFn Tryz.prog 135 [.ptr 1 0, nI a1] [.box (budC xl xu xd xm xs xy), .box [.ptr 0 0, nI xc, nI xe]] R :=
 heap_of_code (C := cfg (Func.ntmps Tryz.f135) [] [(157, .emb [(.v (.c (.b)), [.box [.i .i64, .i .i64, .i .u32, .i .i32, .i .u32, .i .u32]])]), sxVc7_0] []) (cfg_tab _ _ _ _ _) (cfg_ord _ _ _ _ _) (L := [{ key := 1, live := [(0, none), (1, none)] }]) (fn := Tryz.f135) Tryz.func135 (by exact rfl) (by kernel_rfl) (by kernel_rfl) (by rfl) (of_eq (by kernel_rfl) h)
def vc152 (a0_0 : List AV) (a0_1 a0_2 : Int) (a0_3 : List AV) (a1 : Int) (R : AV → Prop) : Prop :=
 ITE (a1 == 0)
 (R (.agg [.sl a0_0, nI a0_1, nI a0_2, .sl a0_3]))
 (∃ (l1 : List AV) (i2 i3 : Int) (l4 : List AV),
 PureIs Tryz.prog 161 [.agg [.sl a0_0, nI a0_1, nI a0_2, .sl a0_3], nI a1, nI 0] (.agg [.sl l1, nI i2, nI i3, .sl l4]) ∧
 R (.agg [.sl l1, nI i2, nI i3, .sl l4]))
theorem vc152_ok {a0_0 : List AV} {a0_1 a0_2 : Int} {a0_3 : List AV} {a1 : Int} {R : AV → Prop} (h : vc152 a0_0 a0_1 a0_2 a0_3 a1 R) : Pure Tryz.prog 152 [.agg [.sl a0_0, nI a0_1, nI a0_2, .sl a0_3], nI a1] R :=
 pure_of_code (C := cfg (Func.ntmps Tryz.f152)) (cfg_tab _ _ _ _ _) (cfg_ord _ _ _ _ _) (L := []) (fn := Tryz.f152) Tryz.func152 (by exact rfl) (by kernel_rfl) (by kernel_rfl) (by rfl) (of_eq (by kernel_rfl) h)
def vc161_L6 (p0 : (Int × Int × Unit × Unit × Unit × List AV × Int × Int × Unit) × ((List AV × Int × Int × List AV × Unit) × (Unit × Int × Int × Unit × Unit) × List AV × Unit)) (R : AV → Prop) : Prop :=
 LoopP _ p0 fun z51 ag52 =>
 ITE (decide (z51.1.2.2.2.2.2.2.2.1 < z51.1.2.2.2.2.2.2.1))
 (0 ≤ z51.1.2.2.2.2.2.2.2.1 ∧
 z51.1.2.2.2.2.2.2.2.1 < List.length z51.1.2.2.2.2.2.1 ∧
 ∃ (l53 : List AV) (i54 i55 : Int) (l56 : List AV),
 List.getD z51.1.2.2.2.2.2.1 (Int.toNat z51.1.2.2.2.2.2.2.2.1) .top = .agg [.sl l53, nI i54, nI i55, .sl l56] ∧
 ∃ (l57 : List AV) (i58 i59 : Int) (l60 : List AV),
 PureIs Tryz.prog 161 [.agg [.sl l53, nI i54, nI i55, .sl l56], nI z51.1.1, nI z51.1.2.1] (.agg [.sl l57, nI i58, nI i59, .sl l60]) ∧
 List.length z51.2.2.2.1 = List.length z51.2.2.2.1 ∧
 appOk td51 (List.length (z51.2.2.2.1 ++ [.agg [.sl l57, nI i58, nI i59, .sl l60]])) [] [.agg [.sl l57, nI i58, nI i59, .sl l60]] ∧
 List.length (z51.2.2.2.1 ++ [.agg [.sl l57, nI i58, nI i59, .sl l60]]) = List.length (z51.2.2.2.1 ++ [.agg [.sl l57, nI i58, nI i59, .sl l60]]) ∧
 ag52 ((z51.1.1, z51.1.2.1, (), (), (), z51.1.2.2.2.2.2.1, z51.1.2.2.2.2.2.2.1, IntKind.wrap .i64 (z51.1.2.2.2.2.2.2.2.1 + 1), ()), ((z51.2.1.1, z51.2.1.2.1, z51.2.1.2.2.1, z51.2.1.2.2.2.1, ()), ((), z51.2.2.1.2.1, z51.2.2.1.2.2.1, (), ()), z51.2.2.2.1 ++ [.agg [.sl l57, nI i58, nI i59, .sl l60]], ())))
 (List.length z51.2.2.2.1 = List.length z51.2.2.2.1 ∧
 R (.agg [.sl z51.2.1.1, nI z51.2.1.2.1, nI z51.2.1.2.2.1, .sl z51.2.2.2.1]))
def vc161 (a0_0 : List AV) (a0_1 a0_2 : Int) (a0_3 : List AV) (a1 a2 : Int) (R : AV → Prop) : Prop :=
 ITE (a0_1 == 0)
 (ITE (decide (a0_2 ≥ (IntKind.wrap .i64 (a2 + ((List.length a0_0 : Nat) : Int)))))
 ((0 ≤ ((List.length a0_3 : Nat) : Int) ∧ ((List.length a0_3 : Nat) : Int) ≤ 9223372036854775807 ∧ (TD.bytes td51 : Int) * ((List.length a0_3 : Nat) : Int) ≤ 281474976710656) ∧
 List.length ([] : List AV) = List.length ([] : List AV) ∧
 vc161_L6 ((a1, IntKind.wrap .i64 (a2 + ((List.length a0_0 : Nat) : Int)), (), (), (), a0_3, ((List.length a0_3 : Nat) : Int), 0, ()), ((a0_0, a0_1, IntKind.wrap .i64 (a0_2 + a1), a0_3, ()), ((), 0, 0, (), ()), [], ())) R)
 ((0 ≤ ((List.length a0_3 : Nat) : Int) ∧ ((List.length a0_3 : Nat) : Int) ≤ 9223372036854775807 ∧ (TD.bytes td51 : Int) * ((List.length a0_3 : Nat) : Int) ≤ 281474976710656) ∧
 List.length ([] : List AV) = List.length ([] : List AV) ∧
 vc161_L6 ((a1, IntKind.wrap .i64 (a2 + ((List.length a0_0 : Nat) : Int)), (), (), (), a0_3, ((List.length a0_3 : Nat) : Int), 0, ()), ((a0_0, a0_1, a0_2, a0_3, ()), ((), 0, 0, (), ()), [], ())) R))
 ((0 ≤ ((List.length a0_3 : Nat) : Int) ∧ ((List.length a0_3 : Nat) : Int) ≤ 9223372036854775807 ∧ (TD.bytes td51 : Int) * ((List.length a0_3 : Nat) : Int) ≤ 281474976710656) ∧
 List.length ([] : List AV) = List.length ([] : List AV) ∧
 vc161_L6 ((a1, IntKind.wrap .i64 (a2 + ((List.length a0_0 : Nat) : Int)), (), (), (), a0_3, ((List.length a0_3 : Nat) : Int), 0, ()), ((a0_0, a0_1, a0_2, a0_3, ()), ((), 0, 0, (), ()), [], ())) R)
theorem vc161_ok {a0_0 : List AV} {a0_1 a0_2 : Int} {a0_3 : List AV} {a1 a2 : Int} {R : AV → Prop} (h : vc161 a0_0 a0_1 a0_2 a0_3 a1 a2 R) : Pure Tryz.prog 161 [.agg [.sl a0_0, nI a0_1, nI a0_2, .sl a0_3], nI a1, nI a2] R :=
 pure_of_code (C := cfg (Func.ntmps Tryz.f161)) (cfg_tab _ _ _ _ _) (cfg_ord _ _ _ _ _) (L := [{ key := 6, live := [(1, none), (2, none), (3, none), (6, none), (7, none), (38, none), (39, none), (40, none)] }]) (fn := Tryz.f161) Tryz.func161 (by exact rfl) (by kernel_rfl) (by kernel_rfl) (by rfl) (of_eq (by kernel_rfl) h)
def vc121_L8 (p0 : (Int × Unit × Unit × Unit × Unit × List AV × Int × Int × Unit) × ((Int × Int × Int × Int × Int × Int × Unit) × (Unit × Int × Int × Unit) × (Unit × List AV × Int × Unit) × (List AV × Int × Int × List AV × Unit) × (Unit × Int × Int × Unit × Unit) × (List AV × Int × Int × Unit × Unit) × List AV × Unit)) (p1 : List AV) (p2 p3 : Int) (p4 : List AV) (p5 : ((Int × Unit × Unit × Unit × Unit × List AV × Int × Int × Unit) × ((Int × Int × Int × Int × Int × Int × Unit) × (Unit × Int × Int × Unit) × (Unit × List AV × Int × Unit) × (List AV × Int × Int × List AV × Unit) × (Unit × Int × Int × Unit × Unit) × (List AV × Int × Int × Unit × Unit) × List AV × Unit)) → Prop) : Prop :=
 ∃ (S50 : AV → List AObj → Prop),
 HFn Tryz.prog 121 [.agg [.ptr 1 0, .sl p0.2.2.2.1.2.1, nI p0.2.2.2.1.2.2.1], .agg [.sl p1, nI p2, nI p3, .sl p4], nI p0.1.1] [.box (budC p0.2.1.1 p0.2.1.2.1 p0.2.1.2.2.1 p0.2.1.2.2.2.1 p0.2.1.2.2.2.2.1 p0.2.1.2.2.2.2.2.1), .box [.ptr 0 0, nI p0.2.2.1.2.1, nI p0.2.2.1.2.2.1]] S50 ∧
 ∀ (r56 : AV) (q57 : List AObj), S50 r56 q57 →
 ∃ (i58 i59 i60 i61 i62 i63 i64 i65 : Int) (l66 : List AV) (i67 i68 : Int) (l69 : List AV),
 (r56 = .agg [.sl l66, nI i67, nI i68, .sl l69] ∧ q57 = [.box (budC i58 i59 i60 i61 i62 i63), .box [.ptr 0 0, nI i64, nI i65]]) ∧
 List.length p0.2.2.2.2.2.2.2.1 = List.length p0.2.2.2.2.2.2.2.1 ∧
 appOk td51 (List.length (p0.2.2.2.2.2.2.2.1 ++ [.agg [.sl l66, nI i67, nI i68, .sl l69]])) [] [.agg [.sl l66, nI i67, nI i68, .sl l69]] ∧
 List.length (p0.2.2.2.2.2.2.2.1 ++ [.agg [.sl l66, nI i67, nI i68, .sl l69]]) = List.length (p0.2.2.2.2.2.2.2.1 ++ [.agg [.sl l66, nI i67, nI i68, .sl l69]]) ∧
 p5 ((p0.1.1, (), (), (), (), p0.1.2.2.2.2.2.1, p0.1.2.2.2.2.2.2.1, IntKind.wrap .i64 (p0.1.2.2.2.2.2.2.2.1 + 1), ()), ((i58, i59, i60, i61, i62, i63, ()), ((), i64, i65, ()), ((), p0.2.2.2.1.2.1, p0.2.2.2.1.2.2.1, ()), (p0.2.2.2.2.1.1, p0.2.2.2.2.1.2.1, p0.2.2.2.2.1.2.2.1, p0.2.2.2.2.1.2.2.2.1, ()), ((), p0.2.2.2.2.2.1.2.1, p0.2.2.2.2.2.1.2.2.1, (), ()), (p0.2.2.2.2.2.2.1.1, p0.2.2.2.2.2.2.1.2.1, p0.2.2.2.2.2.2.1.2.2.1, (), ()), p0.2.2.2.2.2.2.2.1 ++ [.agg [.sl l66, nI i67, nI i68, .sl l69]], ()))
def vc121_L6 (p0 : (Int × Unit × Unit × Unit × Unit × List AV × Int × Int × Unit) × ((Int × Int × Int × Int × Int × Int × Unit) × (Unit × Int × Int × Unit) × (Unit × List AV × Int × Unit) × (List AV × Int × Int × List AV × Unit) × (Unit × Int × Int × Unit × Unit) × (List AV × Int × Int × Unit × Unit) × List AV × Unit)) (R : AV → List AObj → Prop) : Prop :=
 LoopP _ p0 fun z51 ag52 =>
 ITE (decide (z51.1.2.2.2.2.2.2.2.1 < z51.1.2.2.2.2.2.2.1))
 (0 ≤ z51.1.2.2.2.2.2.2.2.1 ∧
 z51.1.2.2.2.2.2.2.2.1 < List.length z51.1.2.2.2.2.2.1 ∧
 ∃ (l53 : List AV) (i54 i55 : Int) (l56 : List AV),
 List.getD z51.1.2.2.2.2.2.1 (Int.toNat z51.1.2.2.2.2.2.2.2.1) .top = .agg [.sl l53, nI i54, nI i55, .sl l56] ∧
 (vc121_L8 z51 l53 i54 i55 l56 ag52) ∧
 (vc121_L8 z51 l53 i54 i55 l56 ag52))
 (ITE (z51.2.2.2.2.1.2.1 != 0)
 (List.length z51.2.2.2.2.2.2.2.1 = List.length z51.2.2.2.2.2.2.2.1 ∧
 R (.agg [.sl z51.2.2.2.2.2.2.1.1, nI z51.2.2.2.2.2.2.1.2.1, nI z51.2.2.2.2.2.2.1.2.2.1, .sl z51.2.2.2.2.2.2.2.1]) [.box (budC z51.2.1.1 z51.2.1.2.1 z51.2.1.2.2.1 z51.2.1.2.2.2.1 z51.2.1.2.2.2.2.1 z51.2.1.2.2.2.2.2.1), .box [.ptr 0 0, nI z51.2.2.1.2.1, nI z51.2.2.1.2.2.1]])
 (ITE (decide (z51.2.2.2.2.1.2.2.1 < z51.1.1))
 (List.length z51.2.2.2.2.2.2.2.1 = List.length z51.2.2.2.2.2.2.2.1 ∧
 R (.agg [.sl z51.2.2.2.2.2.2.1.1, nI z51.2.2.2.2.2.2.1.2.1, nI z51.2.2.2.2.2.2.1.2.2.1, .sl z51.2.2.2.2.2.2.2.1]) [.box (budC z51.2.1.1 z51.2.1.2.1 z51.2.1.2.2.1 z51.2.1.2.2.2.1 z51.2.1.2.2.2.2.1 z51.2.1.2.2.2.2.2.1), .box [.ptr 0 0, nI z51.2.2.1.2.1, nI z51.2.2.1.2.2.1]])
 (ITE (decide ((IntKind.wrap .i64 (z51.2.2.2.2.1.2.2.1 - z51.1.1)) < (IntKind.wrap .i64 (z51.2.2.2.1.2.2.1 - ((List.length z51.2.2.2.1.2.1 : Nat) : Int)))))
 (List.length z51.2.2.2.2.2.2.2.1 = List.length z51.2.2.2.2.2.2.2.1 ∧
 R (.agg [.sl z51.2.2.2.2.2.2.1.1, nI z51.2.2.2.2.2.2.1.2.1, nI z51.2.2.2.2.2.2.1.2.2.1, .sl z51.2.2.2.2.2.2.2.1]) [.box (budC z51.2.1.1 z51.2.1.2.1 z51.2.1.2.2.1 z51.2.1.2.2.2.1 z51.2.1.2.2.2.2.1 z51.2.1.2.2.2.2.2.1), .box [.ptr 0 0, nI z51.2.2.1.2.1, nI z51.2.2.1.2.2.1]])
 (ITE (decide ((IntKind.wrap .i64 (z51.2.2.2.2.1.2.2.1 - z51.1.1)) ≥ z51.2.2.2.1.2.2.1))
 (List.length z51.2.2.2.2.2.2.2.1 = List.length z51.2.2.2.2.2.2.2.1 ∧
 R (.agg [.sl z51.2.2.2.2.2.2.1.1, nI z51.2.2.2.2.2.2.1.2.1, nI (IntKind.wrap .i64 (z51.2.2.2.2.2.2.1.2.2.1 - ((List.length z51.2.2.2.1.2.1 : Nat) : Int))), .sl z51.2.2.2.2.2.2.2.1]) [.box (budC z51.2.1.1 z51.2.1.2.1 z51.2.1.2.2.1 z51.2.1.2.2.2.1 z51.2.1.2.2.2.2.1 z51.2.1.2.2.2.2.2.1), .box [.ptr 0 0, nI z51.2.2.1.2.1, nI z51.2.2.1.2.2.1]])
 (0 ≤ (IntKind.wrap .i64 ((IntKind.wrap .i64 (z51.2.2.2.1.2.2.1 - 1)) - (IntKind.wrap .i64 (z51.2.2.2.2.1.2.2.1 - z51.1.1)))) ∧
 (IntKind.wrap .i64 ((IntKind.wrap .i64 (z51.2.2.2.1.2.2.1 - 1)) - (IntKind.wrap .i64 (z51.2.2.2.2.1.2.2.1 - z51.1.1)))) < List.length z51.2.2.2.1.2.1 ∧
 ∃ (l57 : List AV) (i58 i59 : Int) (l60 : List AV),
 List.getD z51.2.2.2.1.2.1 (Int.toNat (IntKind.wrap .i64 ((IntKind.wrap .i64 (z51.2.2.2.1.2.2.1 - 1)) - (IntKind.wrap .i64 (z51.2.2.2.2.1.2.2.1 - z51.1.1))))) .top = .agg [.sl l57, nI i58, nI i59, .sl l60] ∧
 ∃ (l61 : List AV) (i62 i63 : Int) (l64 : List AV),
 PureIs Tryz.prog 152 [.agg [.sl l57, nI i58, nI i59, .sl l60], nI (IntKind.wrap .i64 ((IntKind.wrap .i64 (z51.1.1 + z51.2.2.2.1.2.2.1)) - ((List.length z51.2.2.2.1.2.1 : Nat) : Int)))] (.agg [.sl l61, nI i62, nI i63, .sl l64]) ∧
 List.length z51.2.2.2.2.2.2.2.1 = List.length z51.2.2.2.2.2.2.2.1 ∧
 ITE (((List.length l61 : Nat) : Int) != ((List.length z51.2.2.2.2.2.2.2.1 : Nat) : Int))
 (∃ (S65 : AV → List AObj → Prop),
 HFn Tryz.prog 120 [.ptr 1 0, nI 1] [.box (budC z51.2.1.1 z51.2.1.2.1 z51.2.1.2.2.1 z51.2.1.2.2.2.1 z51.2.1.2.2.2.2.1 z51.2.1.2.2.2.2.2.1), .box [.ptr 0 0, nI z51.2.2.1.2.1, nI z51.2.2.1.2.2.1]] S65 ∧
 ∀ (r66 : AV) (q67 : List AObj), S65 r66 q67 →
 ∃ (i68 i69 i70 i71 i72 i73 i74 i75 : Int),
 (r66 = .tup [] ∧ q67 = [.box (budC i68 i69 i70 i71 i72 i73), .box [.ptr 0 0, nI i74, nI i75]]) ∧
 R (.agg [.prim (.slice none 0 0), nI 0, nI 0, .prim (.slice none 0 0)]) [.box (budC i68 i69 i70 i71 i72 i73), .box [.ptr 0 0, nI i74, nI i75]])
 (List.length z51.2.2.2.2.2.2.2.1 = List.length z51.2.2.2.2.2.2.2.1 ∧
 ∃ (S76 : AV → List AObj → Prop),
 HFn Tryz.prog 87 [.ptr 1 0, .agg [.sl l61, nI i62, nI i63, .sl l64], .sl z51.2.2.2.2.2.2.2.1] [.box (budC z51.2.1.1 z51.2.1.2.1 z51.2.1.2.2.1 z51.2.1.2.2.2.1 z51.2.1.2.2.2.2.1 z51.2.1.2.2.2.2.2.1), .box [.ptr 0 0, nI z51.2.2.1.2.1, nI z51.2.2.1.2.2.1]] S76 ∧
 ∀ (r77 : AV) (q78 : List AObj), S76 r77 q78 →
 ∃ (i79 i80 i81 i82 i83 i84 i85 i86 : Int) (l87 : List AV) (i88 i89 : Int) (l90 : List AV),
 (r77 = .agg [.sl l87, nI i88, nI i89, .sl l90] ∧ q78 = [.box (budC i79 i80 i81 i82 i83 i84), .box [.ptr 0 0, nI i85, nI i86]]) ∧
 R (.agg [.sl z51.2.2.2.2.2.2.1.1, nI i88, nI i89, .sl l90]) [.box (budC i79 i80 i81 i82 i83 i84), .box [.ptr 0 0, nI i85, nI i86]]))))))
def vc121 (xl xu xd xm xs xy xc xe : Int) (us : List AV) (pn : Int) (a1_0 : List AV) (a1_1 a1_2 : Int) (a1_3 : List AV) (a2 : Int) (R : AV → List AObj → Prop) : Prop :=
 ∃ (S3 : AV → List AObj → Prop),
 HFn Tryz.prog 135 [.ptr 1 0, nI 1] [.box (budC xl xu xd xm xs xy), .box [.ptr 0 0, nI xc, nI xe]] S3 ∧
 ∀ (r1 : AV) (q2 : List AObj), S3 r1 q2 →
 ∃ (i4 i5 i6 i7 i8 i9 i10 i11 : Int) (b12 : Bool),
 (r1 = nB b12 ∧ q2 = [.box (budC i4 i5 i6 i7 i8 i9), .box [.ptr 0 0, nI i10, nI i11]]) ∧
 ITE (!b12)
 (R (.agg [.prim (.slice none 0 0), nI 0, nI 0, .prim (.slice none 0 0)]) [.box (budC i4 i5 i6 i7 i8 i9), .box [.ptr 0 0, nI i10, nI i11]])
 (0 = List.length ([] : List AV) ∧
 vc121_L6 ((IntKind.wrap .i64 (a2 + ((List.length a1_0 : Nat) : Int)), (), (), (), (), a1_3, ((List.length a1_3 : Nat) : Int), 0, ()), ((i4, i5, i6, i7, i8, i9, ()), ((), i10, i11, ()), ((), us, pn, ()), (a1_0, a1_1, a1_2, a1_3, ()), ((), 0, 0, (), ()), (a1_0, a1_1, a1_2, (), ()), [], ())) R)
theorem vc121_ok {xl xu xd xm xs xy xc xe : Int} {us : List AV} {pn : Int} {a1_0 : List AV} {a1_1 a1_2 : Int} {a1_3 : List AV} {a2 : Int} {R : AV → List AObj → Prop} (h : vc121 xl xu xd xm xs xy xc xe us pn a1_0 a1_1 a1_2 a1_3 a2 R) : HFn Tryz.prog 121 [.agg [.ptr 1 0, .sl us, nI pn], .agg [.sl a1_0, nI a1_1, nI a1_2, .sl a1_3], nI a2] [.box (budC xl xu xd xm xs xy), .box [.ptr 0 0, nI xc, nI xe]] R :=
 heap_of_code (C := cfg (Func.ntmps Tryz.f121) [(8, [none, none, none, none, none, some [0, 1], none, none, none, none], [none, none, none, none, none, none, none, none, none, none]), (14, [none, none, none, none, none, none, none, none, none, none, none, none, none, none, none, none, some [], none], [none, some [], none, some [], none, none, none, some [], some [], none, none, some [], none, none, none, some [], none, none]), (19, [none, none, none, none, none, some [5], none, none], [none, none, none, some [5], none, none, none, none])] [sxVc7_0, sxVc7_1, sxVc7_2, sxVc7_3] [(8, [121])] [(8, (.val 0 (.val 2 (.val 3 (.val 4 (.two 1 (.eff 5 (.val 6 (.eff 7 (.val 8 (.eff 9 .done))))) 5 (.val 1 (.val 6 (.eff 7 (.val 8 (.eff 9 .done)))))))))))]) (cfg_tab _ _ _ _ _) (cfg_ord _ _ _ _ _) (L := [{ key := 6, live := [(2, none), (3, none), (4, none), (6, none), (7, none), (30, none), (31, none), (32, none)], brows := [(5, 3, 51)] }]) (fn := Tryz.f121) Tryz.func121 (by exact rfl) (by kernel_rfl) (by kernel_rfl) (by rfl) (of_eq (by kernel_rfl) h)
def vc87 (xl xu xd xm xs xy xc xe : Int) (a1_0 : List AV) (a1_1 a1_2 : Int) (a1_3 a2 : List AV) (R : AV → List AObj → Prop) : Prop :=
 ITE (xe != 0)
 (∃ (S3 : AV → List AObj → Prop),
 HFn Tryz.prog 120 [.ptr 1 0, nI 1] [.box (budC xl xu xd xm xs xy), .box [.ptr 0 0, nI xc, nI xe]] S3 ∧
 ∀ (r1 : AV) (q2 : List AObj), S3 r1 q2 →
 ∃ (i4 i5 i6 i7 i8 i9 i10 i11 : Int),
 (r1 = .tup [] ∧ q2 = [.box (budC i4 i5 i6 i7 i8 i9), .box [.ptr 0 0, nI i10, nI i11]]) ∧
 R (.agg [.prim (.slice none 0 0), nI 0, nI 0, .prim (.slice none 0 0)]) [.box (budC i4 i5 i6 i7 i8 i9), .box [.ptr 0 0, nI i10, nI i11]])
 (ITE (decide (((List.length a2 : Nat) : Int) > ((List.length a1_0 : Nat) : Int)))
 (∃ (S14 : AV → List AObj → Prop),
 HFn Tryz.prog 120 [.ptr 1 0, nI 1] [.box (budC xl xu xd xm xs xy), .box [.ptr 0 0, nI xc, nI xe]] S14 ∧
 ∀ (r12 : AV) (q13 : List AObj), S14 r12 q13 →
 ∃ (i15 i16 i17 i18 i19 i20 i21 i22 : Int),
 (r12 = .tup [] ∧ q13 = [.box (budC i15 i16 i17 i18 i19 i20), .box [.ptr 0 0, nI i21, nI i22]]) ∧
 R (.agg [.prim (.slice none 0 0), nI 0, nI 0, .prim (.slice none 0 0)]) [.box (budC i15 i16 i17 i18 i19 i20), .box [.ptr 0 0, nI i21, nI i22]])
 (∃ (S25 : AV → List AObj → Prop),
 HFn Tryz.prog 121 [.agg [.ptr 1 0, .sl a2, nI ((List.length a1_0 : Nat) : Int)], .agg [.prim (.slice none 0 0), nI a1_1, nI a1_2, .sl a1_3], nI 0] [.box (budC xl xu xd xm xs xy), .box [.ptr 0 0, nI xc, nI xe]] S25 ∧
 ∀ (r23 : AV) (q24 : List AObj), S25 r23 q24 →
 ∃ (i26 i27 i28 i29 i30 i31 i32 i33 : Int) (l34 : List AV) (i35 i36 : Int) (l37 : List AV),
 (r23 = .agg [.sl l34, nI i35, nI i36, .sl l37] ∧ q24 = [.box (budC i26 i27 i28 i29 i30 i31), .box [.ptr 0 0, nI i32, nI i33]]) ∧
 (0 ≤ ((List.length a2 : Nat) : Int) ∧ ((List.length a2 : Nat) : Int) ≤ ((List.length a1_0 : Nat) : Int) ∧ ((List.length a1_0 : Nat) : Int) ≤ List.length a1_0 ∧ (∀ y : AV, y ∈ a1_0 → List.length (AV.cells y) = 2)) ∧
 R (.agg [.sl (List.drop (Int.toNat ((List.length a2 : Nat) : Int)) (List.take (Int.toNat ((List.length a1_0 : Nat) : Int)) a1_0)), nI i35, nI i36, .sl l37]) [.box (budC i26 i27 i28 i29 i30 i31), .box [.ptr 0 0, nI i32, nI i33]]))
theorem vc87_ok {xl xu xd xm xs xy xc xe : Int} {a1_0 : List AV} {a1_1 a1_2 : Int} {a1_3 a2 : List AV} {R : AV → List AObj → Prop} (h : vc87 xl xu xd xm xs xy xc xe a1_0 a1_1 a1_2 a1_3 a2 R) : HFn Tryz.prog 87 [.ptr 1 0, .agg [.sl a1_0, nI a1_1, nI a1_2, .sl a1_3], .sl a2] [.box (budC xl xu xd xm xs xy), .box [.ptr 0 0, nI xc, nI xe]] R :=
 heap_of_code (C := cfg (Func.ntmps Tryz.f87) [] [sxVc7_0, sxVc7_2] []) (cfg_tab _ _ _ _ _) (cfg_ord _ _ _ _ _) (L := []) (fn := Tryz.f87) Tryz.func87 (by exact rfl) (by kernel_rfl) (by kernel_rfl) (by rfl) (of_eq (by kernel_rfl) h)
def vc86 (xl xu xd xm xs xy xc xe : Int) (a1_0 : List AV) (a1_1 a1_2 : Int) (a1_3 : List AV) (R : AV → List AObj → Prop) : Prop :=
 ITE (xe == 0)
 (∃ (b1 : Bool),
 PureIs Tryz.prog 80 [.agg [.sl a1_0, nI a1_1, nI a1_2, .sl a1_3]] (nB b1) ∧
 ITE (!b1)
 (∃ (S4 : AV → List AObj → Prop),
 HFn Tryz.prog 120 [.ptr 1 0, nI 2] [.box (budC xl xu xd xm xs xy), .box [.ptr 0 0, nI xc, nI xe]] S4 ∧
 ∀ (r2 : AV) (q3 : List AObj), S4 r2 q3 →
 ∃ (i5 i6 i7 i8 i9 i10 i11 i12 : Int),
 (r2 = .tup [] ∧ q3 = [.box (budC i5 i6 i7 i8 i9 i10), .box [.ptr 0 0, nI i11, nI i12]]) ∧
 ITE (i12 != 0)
 (R (.tup [.agg [.prim (.slice none 0 0), nI 0, nI 0, .prim (.slice none 0 0)], nI i12]) [.box (budC i5 i6 i7 i8 i9 i10), .box [.ptr 0 0, nI i11, nI i12]])
 (∃ (l13 : List AV) (i14 i15 : Int) (l16 : List AV),
 PureIs Tryz.prog 76 [.agg [.sl a1_0, nI a1_1, nI a1_2, .sl a1_3]] (.agg [.sl l13, nI i14, nI i15, .sl l16]) ∧
 R (.tup [.agg [.sl l13, nI i14, nI i15, .sl l16], nI 0]) [.box (budC i5 i6 i7 i8 i9 i10), .box [.ptr 0 0, nI i11, nI i12]]))
 (ITE (xe != 0)
 (R (.tup [.agg [.prim (.slice none 0 0), nI 0, nI 0, .prim (.slice none 0 0)], nI xe]) [.box (budC xl xu xd xm xs xy), .box [.ptr 0 0, nI xc, nI xe]])
 (∃ (l17 : List AV) (i18 i19 : Int) (l20 : List AV),
 PureIs Tryz.prog 76 [.agg [.sl a1_0, nI a1_1, nI a1_2, .sl a1_3]] (.agg [.sl l17, nI i18, nI i19, .sl l20]) ∧
 R (.tup [.agg [.sl l17, nI i18, nI i19, .sl l20], nI 0]) [.box (budC xl xu xd xm xs xy), .box [.ptr 0 0, nI xc, nI xe]])))
 (ITE (xe != 0)
 (R (.tup [.agg [.prim (.slice none 0 0), nI 0, nI 0, .prim (.slice none 0 0)], nI xe]) [.box (budC xl xu xd xm xs xy), .box [.ptr 0 0, nI xc, nI xe]])
 (∃ (l21 : List AV) (i22 i23 : Int) (l24 : List AV),
 PureIs Tryz.prog 76 [.agg [.sl a1_0, nI a1_1, nI a1_2, .sl a1_3]] (.agg [.sl l21, nI i22, nI i23, .sl l24]) ∧
 R (.tup [.agg [.sl l21, nI i22, nI i23, .sl l24], nI 0]) [.box (budC xl xu xd xm xs xy), .box [.ptr 0 0, nI xc, nI xe]]))
theorem vc86_ok {xl xu xd xm xs xy xc xe : Int} {a1_0 : List AV} {a1_1 a1_2 : Int} {a1_3 : List AV} {R : AV → List AObj → Prop} (h : vc86 xl xu xd xm xs xy xc xe a1_0 a1_1 a1_2 a1_3 R) : HFn Tryz.prog 86 [.ptr 1 0, .agg [.sl a1_0, nI a1_1, nI a1_2, .sl a1_3]] [.box (budC xl xu xd xm xs xy), .box [.ptr 0 0, nI xc, nI xe]] R :=
 heap_of_code (C := cfg (Func.ntmps Tryz.f86) [(4, [none, none, none, none, none, some [3], none], [none, none, none, none, some [3], none, none])] [sxVc7_0] []) (cfg_tab _ _ _ _ _) (cfg_ord _ _ _ _ _) (L := []) (fn := Tryz.f86) Tryz.func86 (by exact rfl) (by kernel_rfl) (by kernel_rfl) (by rfl) (of_eq (by kernel_rfl) h)
end Go.Proofs.YtghlgbhldnkdmaaGreat
