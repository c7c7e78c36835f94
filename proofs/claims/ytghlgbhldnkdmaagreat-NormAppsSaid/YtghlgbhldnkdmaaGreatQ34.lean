/- Texts of ours laid together for a claim: Vc4. -/
import Derived.Test.YtghlgbhldnkdmaaGreatQ33
namespace Go.Proofs.YtghlgbhldnkdmaaGreat
open Go
set_option linter.unusedSimpArgs false
set_option linter.unusedVariables false
set_option maxRecDepth 100000
abbrev sxVc4_0 : Nat × Sig := (126, .heap 2 [(.v (.c (.b)), [.box [.i .i64, .l, .i .i64, .i .i64, .l], .box [.i .i64]])])
def vc41_L3 (p0 : (Unit × Unit × List AV × Int × Int × Unit) × ((Int × List AV × Int × Int × List AV × Unit) × (Int × Unit × Int × Int × Unit × Unit) × (Int × List AV × Int × Int × List AV × Unit) × Unit)) (R : AV → Prop) : Prop :=
 LoopP _ p0 fun z51 ag52 =>
 ITE (decide (z51.1.2.2.2.2.1 < z51.1.2.2.2.1))
 (0 ≤ z51.1.2.2.2.2.1 ∧
 z51.1.2.2.2.2.1 < List.length z51.1.2.2.1 ∧
 ∃ (i53 : Int) (l54 : List AV) (i55 i56 : Int) (l57 : List AV),
 List.getD z51.1.2.2.1 (Int.toNat z51.1.2.2.2.2.1) .top = .agg [nI i53, .sl l54, nI i55, nI i56, .sl l57] ∧
 ∃ (i58 : Int) (l59 : List AV) (i60 i61 : Int) (l62 : List AV),
 PureIs Tryz.prog 94 [.agg [nI i53, .sl l54, nI i55, nI i56, .sl l57]] (.agg [nI i58, .sl l59, nI i60, nI i61, .sl l62]) ∧
 ag52 (((), (), z51.1.2.2.1, z51.1.2.2.2.1, IntKind.wrap .i64 (z51.1.2.2.2.2.1 + 1), ()), ((z51.2.1.1, z51.2.1.2.1, z51.2.1.2.2.1, z51.2.1.2.2.2.1, z51.2.1.2.2.2.2.1, ()), (z51.2.2.1.1, (), z51.2.2.1.2.2.1, z51.2.2.1.2.2.2.1, (), ()), (4, [], 0, 0, [.agg [nI z51.2.2.2.1.1, .sl z51.2.2.2.1.2.1, nI z51.2.2.2.1.2.2.1, nI z51.2.2.2.1.2.2.2.1, .sl z51.2.2.2.1.2.2.2.2.1], .agg [nI i58, .sl l59, nI i60, nI i61, .sl l62]], ()), ())))
 (R (.agg [nI z51.2.2.2.1.1, .sl z51.2.2.2.1.2.1, nI z51.2.2.2.1.2.2.1, nI z51.2.2.2.1.2.2.2.1, .sl z51.2.2.2.1.2.2.2.2.1]))
def vc41 (a0_0 : Int) (a0_1 : List AV) (a0_2 a0_3 : Int) (a0_4 a1 : List AV) (R : AV → Prop) : Prop :=
 ∃ (i1 : Int) (l2 : List AV) (i3 i4 : Int) (l5 : List AV),
 PureIs Tryz.prog 94 [.agg [nI a0_0, .sl a0_1, nI a0_2, nI a0_3, .sl a0_4]] (.agg [nI i1, .sl l2, nI i3, nI i4, .sl l5]) ∧
 vc41_L3 (((), (), a1, ((List.length a1 : Nat) : Int), 0, ()), ((a0_0, a0_1, a0_2, a0_3, a0_4, ()), (0, (), 0, 0, (), ()), (i1, l2, i3, i4, l5, ()), ())) R
theorem vc41_ok {a0_0 : Int} {a0_1 : List AV} {a0_2 a0_3 : Int} {a0_4 a1 : List AV} {R : AV → Prop} (h : vc41 a0_0 a0_1 a0_2 a0_3 a0_4 a1 R) : Pure Tryz.prog 41 [.agg [nI a0_0, .sl a0_1, nI a0_2, nI a0_3, .sl a0_4], .sl a1] R :=
 pure_of_code (C := cfg (Func.ntmps Tryz.f41)) (cfg_tab _ _ _ _ _) (cfg_ord _ _ _ _ _) (L := [{ key := 3, live := [(4, none), (5, none), (10, none), (11, none), (12, none)] }]) (fn := Tryz.f41) Tryz.func41 (by exact rfl) (by kernel_rfl) (by kernel_rfl) (by rfl) (of_eq (by kernel_rfl) h)
def vc48 (a0 a1 : Int) (R : AV → Prop) : Prop :=
 R (.agg [nI a0, .sl [], nI 0, nI a1, .sl []])
theorem vc48_ok {a0 a1 : Int} {R : AV → Prop} (h : vc48 a0 a1 R) : Pure Tryz.prog 48 [nI a0, nI a1] R :=
 pure_of_code (C := cfg (Func.ntmps Tryz.f48)) (cfg_tab _ _ _ _ _) (cfg_ord _ _ _ _ _) (L := []) (fn := Tryz.f48) Tryz.func48 (by exact rfl) (by kernel_rfl) (by kernel_rfl) (by rfl) (of_eq (by kernel_rfl) h)
def vc43 (a0_0 : Int) (a0_1 a0_2 a1 : List AV) (a2_0 : Int) (a2_1 : List AV) (a2_2 a2_3 : Int) (a2_4 : List AV) (R : AV → Prop) : Prop :=
 ∃ (b1 : Bool),
 PureIs Tryz.prog 95 [.agg [nI a2_0, .sl a2_1, nI a2_2, nI a2_3, .sl a2_4]] (nB b1) ∧
 ITE (!b1)
 (R (.tup [.agg [.sl [], nI 0], nI 1]))
 (∃ (l2 : List AV) (i3 i4 : Int),
 PureIs Tryz.prog 96 [.agg [nI a0_0, .sl a0_1, .sl a0_2], .sl a1, .agg [nI a2_0, .sl a2_1, nI a2_2, nI a2_3, .sl a2_4]] (.tup [.agg [.sl l2, nI i3], nI i4]) ∧
 R (.tup [.agg [.sl l2, nI i3], nI i4]))
theorem vc43_ok {a0_0 : Int} {a0_1 a0_2 a1 : List AV} {a2_0 : Int} {a2_1 : List AV} {a2_2 a2_3 : Int} {a2_4 : List AV} {R : AV → Prop} (h : vc43 a0_0 a0_1 a0_2 a1 a2_0 a2_1 a2_2 a2_3 a2_4 R) : Pure Tryz.prog 43 [.agg [nI a0_0, .sl a0_1, .sl a0_2], .sl a1, .agg [nI a2_0, .sl a2_1, nI a2_2, nI a2_3, .sl a2_4]] R :=
 pure_of_code (C := cfg (Func.ntmps Tryz.f43)) (cfg_tab _ _ _ _ _) (cfg_ord _ _ _ _ _) (L := []) (fn := Tryz.f43) Tryz.func43 (by exact rfl) (by kernel_rfl) (by kernel_rfl) (by rfl) (of_eq (by kernel_rfl) h)
def vc11 (a0_0 : Int) (a0_1 a0_2 : List AV) (R : AV → Prop) : Prop :=
 ∃ (l1 : List AV),
 PureIs Tryz.prog 12 [.sl a0_1] (.sl l1) ∧
 ∃ (l2 : List AV),
 PureIs Tryz.prog 12 [.sl a0_2] (.sl l2) ∧
 R (.agg [nI a0_0, .sl l1, .sl l2])
theorem vc11_ok {a0_0 : Int} {a0_1 a0_2 : List AV} {R : AV → Prop} (h : vc11 a0_0 a0_1 a0_2 R) : Pure Tryz.prog 11 [.agg [nI a0_0, .sl a0_1, .sl a0_2]] R :=
 pure_of_code (C := cfg (Func.ntmps Tryz.f11)) (cfg_tab _ _ _ _ _) (cfg_ord _ _ _ _ _) (L := []) (fn := Tryz.f11) Tryz.func11 (by exact rfl) (by kernel_rfl) (by kernel_rfl) (by rfl) (of_eq (by kernel_rfl) h)
def vc95 (a0_0 : Int) (a0_1 : List AV) (a0_2 a0_3 : Int) (a0_4 : List AV) (R : AV → Prop) : Prop :=
 ∃ (S3 : AV → List AObj → Prop),
 HFn Tryz.prog 126 [.agg [nI a0_0, .sl a0_1, nI a0_2, nI a0_3, .sl a0_4], nI 1, .ptr 1 0] [.box [nI a0_0, .sl a0_1, nI a0_2, nI a0_3, .sl a0_4], .box [nI 5000]] S3 ∧
 ∀ (r1 : AV) (q2 : List AObj), S3 r1 q2 →
 ∃ (i4 : Int) (l5 : List AV) (i6 i7 : Int) (l8 : List AV) (i9 : Int) (b10 : Bool),
 (r1 = nB b10 ∧ q2 = [.box [nI i4, .sl l5, nI i6, nI i7, .sl l8], .box [nI i9]]) ∧
 R (nB b10)
theorem vc95_ok {a0_0 : Int} {a0_1 : List AV} {a0_2 a0_3 : Int} {a0_4 : List AV} {R : AV → Prop} (h : vc95 a0_0 a0_1 a0_2 a0_3 a0_4 R) : Pure Tryz.prog 95 [.agg [nI a0_0, .sl a0_1, nI a0_2, nI a0_3, .sl a0_4]] R :=
 pure_of_code (C := cfg (Func.ntmps Tryz.f95) [] [sxVc4_0] []) (cfg_tab _ _ _ _ _) (cfg_ord _ _ _ _ _) (L := []) (fn := Tryz.f95) Tryz.func95 (by exact rfl) (by kernel_rfl) (by kernel_rfl) (by rfl) (of_eq (by kernel_rfl) h)
def vc138_L3 (p0 : (Unit × Int × Int × Unit) × ((Int × List AV × Int × Int × List AV × Unit) × Unit)) (R : AV → Prop) : Prop :=
 LoopP _ p0 fun z51 ag52 =>
 ITE (decide (z51.1.2.2.1 < ((List.length z51.2.1.2.2.2.2.1 : Nat) : Int)))
 (0 ≤ z51.1.2.2.1 ∧
 z51.1.2.2.1 < List.length z51.2.1.2.2.2.2.1 ∧
 ∃ (i53 : Int) (l54 : List AV) (i55 i56 : Int) (l57 : List AV),
 List.getD z51.2.1.2.2.2.2.1 (Int.toNat z51.1.2.2.1) .top = .agg [nI i53, .sl l54, nI i55, nI i56, .sl l57] ∧
 ∃ (i58 : Int),
 PureIs Tryz.prog 138 [.agg [nI i53, .sl l54, nI i55, nI i56, .sl l57]] (nI i58) ∧
 ag52 (((), IntKind.wrap .i64 (z51.1.2.1 + i58), IntKind.wrap .i64 (z51.1.2.2.1 + 1), ()), ((z51.2.1.1, z51.2.1.2.1, z51.2.1.2.2.1, z51.2.1.2.2.2.1, z51.2.1.2.2.2.2.1, ()), ())))
 (R (nI z51.1.2.1))
def vc138 (a0_0 : Int) (a0_1 : List AV) (a0_2 a0_3 : Int) (a0_4 : List AV) (R : AV → Prop) : Prop :=
 vc138_L3 (((), 1, 0, ()), ((a0_0, a0_1, a0_2, a0_3, a0_4, ()), ())) R
theorem vc138_ok {a0_0 : Int} {a0_1 : List AV} {a0_2 a0_3 : Int} {a0_4 : List AV} {R : AV → Prop} (h : vc138 a0_0 a0_1 a0_2 a0_3 a0_4 R) : Pure Tryz.prog 138 [.agg [nI a0_0, .sl a0_1, nI a0_2, nI a0_3, .sl a0_4]] R :=
 pure_of_code (C := cfg (Func.ntmps Tryz.f138)) (cfg_tab _ _ _ _ _) (cfg_ord _ _ _ _ _) (L := [{ key := 3, live := [(1, none), (3, none), (4, none)] }]) (fn := Tryz.f138) Tryz.func138 (by exact rfl) (by kernel_rfl) (by kernel_rfl) (by rfl) (of_eq (by kernel_rfl) h)
def vc39_L4 (p0 : (Unit × Unit × Unit × Unit × List AV × Int × Int × Unit) × ((List AV × Int × Int × List AV × Unit) × (Int × Unit × Int × Int × Unit × Unit) × (Int × List AV × Int × Int × List AV × Unit) × List AV × Unit)) (R : AV → Prop) : Prop :=
 LoopP _ p0 fun z51 ag52 =>
 ITE (decide (z51.1.2.2.2.2.2.2.1 < z51.1.2.2.2.2.2.1))
 (0 ≤ z51.1.2.2.2.2.2.2.1 ∧
 z51.1.2.2.2.2.2.2.1 < List.length z51.1.2.2.2.2.1 ∧
 ∃ (l53 : List AV) (i54 i55 : Int) (l56 : List AV),
 List.getD z51.1.2.2.2.2.1 (Int.toNat z51.1.2.2.2.2.2.2.1) .top = .agg [.sl l53, nI i54, nI i55, .sl l56] ∧
 ∃ (i57 : Int) (l58 : List AV) (i59 i60 : Int) (l61 : List AV),
 PureIs Tryz.prog 39 [.agg [.sl l53, nI i54, nI i55, .sl l56]] (.agg [nI i57, .sl l58, nI i59, nI i60, .sl l61]) ∧
 List.length z51.2.2.2.2.1 = List.length z51.2.2.2.2.1 ∧
 appOk td42 (List.length (z51.2.2.2.2.1 ++ [.agg [nI i57, .sl l58, nI i59, nI i60, .sl l61]])) [] [.agg [nI i57, .sl l58, nI i59, nI i60, .sl l61]] ∧
 List.length (z51.2.2.2.2.1 ++ [.agg [nI i57, .sl l58, nI i59, nI i60, .sl l61]]) = List.length (z51.2.2.2.2.1 ++ [.agg [nI i57, .sl l58, nI i59, nI i60, .sl l61]]) ∧
 ag52 (((), (), (), (), z51.1.2.2.2.2.1, z51.1.2.2.2.2.2.1, IntKind.wrap .i64 (z51.1.2.2.2.2.2.2.1 + 1), ()), ((z51.2.1.1, z51.2.1.2.1, z51.2.1.2.2.1, z51.2.1.2.2.2.1, ()), (z51.2.2.1.1, (), z51.2.2.1.2.2.1, z51.2.2.1.2.2.2.1, (), ()), (z51.2.2.2.1.1, z51.2.2.2.1.2.1, z51.2.2.2.1.2.2.1, z51.2.2.2.1.2.2.2.1, z51.2.2.2.1.2.2.2.2.1, ()), z51.2.2.2.2.1 ++ [.agg [nI i57, .sl l58, nI i59, nI i60, .sl l61]], ())))
 (List.length z51.2.2.2.2.1 = List.length z51.2.2.2.2.1 ∧
 ∃ (i62 : Int) (l63 : List AV) (i64 i65 : Int) (l66 : List AV),
 PureIs Tryz.prog 41 [.agg [nI z51.2.2.2.1.1, .sl z51.2.2.2.1.2.1, nI z51.2.2.2.1.2.2.1, nI z51.2.2.2.1.2.2.2.1, .sl z51.2.2.2.1.2.2.2.2.1], .sl z51.2.2.2.2.1] (.agg [nI i62, .sl l63, nI i64, nI i65, .sl l66]) ∧
 ∃ (i67 : Int) (l68 : List AV) (i69 i70 : Int) (l71 : List AV),
 PureIs Tryz.prog 49 [.agg [nI i62, .sl l63, nI i64, nI i65, .sl l66], .sl z51.2.1.1] (.agg [nI i67, .sl l68, nI i69, nI i70, .sl l71]) ∧
 R (.agg [nI i67, .sl l68, nI i69, nI i70, .sl l71]))
def vc39 (a0_0 : List AV) (a0_1 a0_2 : Int) (a0_3 : List AV) (R : AV → Prop) : Prop :=
 ∃ (i1 : Int) (l2 : List AV) (i3 i4 : Int) (l5 : List AV),
 PureIs Tryz.prog 48 [nI a0_1, nI a0_2] (.agg [nI i1, .sl l2, nI i3, nI i4, .sl l5]) ∧
 0 = List.length ([] : List AV) ∧
 vc39_L4 (((), (), (), (), a0_3, ((List.length a0_3 : Nat) : Int), 0, ()), ((a0_0, a0_1, a0_2, a0_3, ()), (0, (), 0, 0, (), ()), (i1, l2, i3, i4, l5, ()), [], ())) R
theorem vc39_ok {a0_0 : List AV} {a0_1 a0_2 : Int} {a0_3 : List AV} {R : AV → Prop} (h : vc39 a0_0 a0_1 a0_2 a0_3 R) : Pure Tryz.prog 39 [.agg [.sl a0_0, nI a0_1, nI a0_2, .sl a0_3]] R :=
 pure_of_code (C := cfg (Func.ntmps Tryz.f39)) (cfg_tab _ _ _ _ _) (cfg_ord _ _ _ _ _) (L := [{ key := 4, live := [(1, none), (2, none), (3, none), (4, none), (15, none), (16, none), (17, none)], rows := [(4, 42)] }]) (fn := Tryz.f39) Tryz.func39 (by exact rfl) (by kernel_rfl) (by kernel_rfl) (by rfl) (of_eq (by kernel_rfl) h)
def vc29 (a0_0 : Int) (a0_1 a0_2 a1 a2_0 : List AV) (a2_1 a2_2 : Int) (a2_3 : List AV) (R : AV → Prop) : Prop :=
 ∃ (l1 : List AV),
 PureIs Tryz.prog 70 [.sl a1, .sl a2_0] (.sl l1) ∧
 ∃ (l2 : List AV) (i3 : Int) (b4 : Bool),
 PureIs Tryz.prog 69 [.agg [nI a0_0, .sl a0_1, .sl a0_2], .sl l1, .agg [nI a2_1, nI a2_2]] (.tup [.agg [.sl l2, nI i3], nB b4]) ∧
 ITE (!b4)
 (R (.tup [.agg [.sl [], nI 0], nI 10]))
 (∃ (l5 : List AV) (i6 : Int),
 PureIs Tryz.prog 47 [nI i3, .sl a2_0] (.agg [.sl l5, nI i6]) ∧
 R (.tup [.agg [.sl l5, nI i6], nI 0]))
theorem vc29_ok {a0_0 : Int} {a0_1 a0_2 a1 a2_0 : List AV} {a2_1 a2_2 : Int} {a2_3 : List AV} {R : AV → Prop} (h : vc29 a0_0 a0_1 a0_2 a1 a2_0 a2_1 a2_2 a2_3 R) : Pure Tryz.prog 29 [.agg [nI a0_0, .sl a0_1, .sl a0_2], .sl a1, .agg [.sl a2_0, nI a2_1, nI a2_2, .sl a2_3]] R :=
 pure_of_code (C := cfg (Func.ntmps Tryz.f29) [(1, [none, none, none, none, none, none, none, none, none, none, none, some [], none, none], [some [], none, none, some [], some [], none, some [], some [], none, none, none, none, none, none])]) (cfg_tab _ _ _ _ _) (cfg_ord _ _ _ _ _) (L := []) (fn := Tryz.f29) Tryz.func29 (by exact rfl) (by kernel_rfl) (by kernel_rfl) (by rfl) (of_eq (by kernel_rfl) h)
def vc32 (a0_0 : Int) (a0_1 a0_2 a1 a2_0 : List AV) (a2_1 a2_2 : Int) (a2_3 a3_0 : List AV) (a3_1 : Int) (R : AV → Prop) : Prop :=
 ∃ (b1 : Bool),
 PureIs Tryz.prog 80 [.agg [.sl a2_0, nI a2_1, nI a2_2, .sl a2_3]] (nB b1) ∧
 ITE (!b1)
 (R (nI 2))
 (∃ (b2 : Bool),
 PureIs Tryz.prog 81 [.agg [nI a0_0, .sl a0_1, .sl a0_2], .sl a1, .agg [.sl a2_0, nI a2_1, nI a2_2, .sl a2_3], .agg [.sl a3_0, nI a3_1]] (nB b2) ∧
 ITE (!b2)
 (R (nI 5))
 (R (nI 0)))
theorem vc32_ok {a0_0 : Int} {a0_1 a0_2 a1 a2_0 : List AV} {a2_1 a2_2 : Int} {a2_3 a3_0 : List AV} {a3_1 : Int} {R : AV → Prop} (h : vc32 a0_0 a0_1 a0_2 a1 a2_0 a2_1 a2_2 a2_3 a3_0 a3_1 R) : Pure Tryz.prog 32 [.agg [nI a0_0, .sl a0_1, .sl a0_2], .sl a1, .agg [.sl a2_0, nI a2_1, nI a2_2, .sl a2_3], .agg [.sl a3_0, nI a3_1]] R :=
 pure_of_code (C := cfg (Func.ntmps Tryz.f32)) (cfg_tab _ _ _ _ _) (cfg_ord _ _ _ _ _) (L := []) (fn := Tryz.f32) Tryz.func32 (by exact rfl) (by kernel_rfl) (by kernel_rfl) (by rfl) (of_eq (by kernel_rfl) h)
def vc31 (a0_0 : Int) (a0_1 a0_2 : List AV) (R : AV → Prop) : Prop :=
 ITE (decide (((List.length a0_1 : Nat) : Int) > 1000))
 (R (nB false))
 (ITE (decide (((List.length a0_2 : Nat) : Int) > (IntKind.wrap .i64 (1000 - ((List.length a0_1 : Nat) : Int)))))
 (R (nB false))
 (∃ (l1 : List AV),
 PureIs Tryz.prog 74 [.sl [.sl a0_1, .sl a0_2]] (.sl l1) ∧
 ∃ (b2 : Bool),
 PureIs Tryz.prog 77 [.sl l1, .clo 78 [.eptr (.agg [nI a0_0, .sl a0_1, .sl a0_2]) 0]] (nB b2) ∧
 R (nB (!b2))))
theorem vc31_ok {a0_0 : Int} {a0_1 a0_2 : List AV} {R : AV → Prop} (h : vc31 a0_0 a0_1 a0_2 R) : Pure Tryz.prog 31 [.agg [nI a0_0, .sl a0_1, .sl a0_2]] R :=
 pure_of_code (C := cfg (Func.ntmps Tryz.f31) [] [(77, .frz (.v (.c (.b))))] []) (cfg_tab _ _ _ _ _) (cfg_ord _ _ _ _ _) (L := []) (fn := Tryz.f31) Tryz.func31 (by exact rfl) (by kernel_rfl) (by kernel_rfl) (by rfl) (of_eq (by kernel_rfl) h)
def vc94_L3 (p0 : (Unit × Unit × List AV × Int × Int × Unit) × ((Int × List AV × Int × Int × List AV × Unit) × (Int × Unit × Int × Int × Unit × Unit) × (Int × List AV × Int × Int × Unit × Unit) × List AV × Unit)) (R : AV → Prop) : Prop :=
 LoopP _ p0 fun z51 ag52 =>
 ITE (decide (z51.1.2.2.2.2.1 < z51.1.2.2.2.1))
 (0 ≤ z51.1.2.2.2.2.1 ∧
 z51.1.2.2.2.2.1 < List.length z51.1.2.2.1 ∧
 ∃ (i53 : Int) (l54 : List AV) (i55 i56 : Int) (l57 : List AV),
 List.getD z51.1.2.2.1 (Int.toNat z51.1.2.2.2.2.1) .top = .agg [nI i53, .sl l54, nI i55, nI i56, .sl l57] ∧
 ∃ (i58 : Int) (l59 : List AV) (i60 i61 : Int) (l62 : List AV),
 PureIs Tryz.prog 94 [.agg [nI i53, .sl l54, nI i55, nI i56, .sl l57]] (.agg [nI i58, .sl l59, nI i60, nI i61, .sl l62]) ∧
 List.length z51.2.2.2.2.1 = List.length z51.2.2.2.2.1 ∧
 appOk td42 (List.length (z51.2.2.2.2.1 ++ [.agg [nI i58, .sl l59, nI i60, nI i61, .sl l62]])) [] [.agg [nI i58, .sl l59, nI i60, nI i61, .sl l62]] ∧
 List.length (z51.2.2.2.2.1 ++ [.agg [nI i58, .sl l59, nI i60, nI i61, .sl l62]]) = List.length (z51.2.2.2.2.1 ++ [.agg [nI i58, .sl l59, nI i60, nI i61, .sl l62]]) ∧
 ag52 (((), (), z51.1.2.2.1, z51.1.2.2.2.1, IntKind.wrap .i64 (z51.1.2.2.2.2.1 + 1), ()), ((z51.2.1.1, z51.2.1.2.1, z51.2.1.2.2.1, z51.2.1.2.2.2.1, z51.2.1.2.2.2.2.1, ()), (z51.2.2.1.1, (), z51.2.2.1.2.2.1, z51.2.2.1.2.2.2.1, (), ()), (z51.2.2.2.1.1, z51.2.2.2.1.2.1, z51.2.2.2.1.2.2.1, z51.2.2.2.1.2.2.2.1, (), ()), z51.2.2.2.2.1 ++ [.agg [nI i58, .sl l59, nI i60, nI i61, .sl l62]], ())))
 (List.length z51.2.2.2.2.1 = List.length z51.2.2.2.2.1 ∧
 R (.agg [nI z51.2.2.2.1.1, .sl z51.2.2.2.1.2.1, nI z51.2.2.2.1.2.2.1, nI z51.2.2.2.1.2.2.2.1, .sl z51.2.2.2.2.1]))
def vc94 (a0_0 : Int) (a0_1 : List AV) (a0_2 a0_3 : Int) (a0_4 : List AV) (R : AV → Prop) : Prop :=
 ∃ (l1 : List AV) (i2 : Int),
 PureIs Tryz.prog 82 [.agg [.sl a0_1, nI a0_2], .sl []] (.agg [.sl l1, nI i2]) ∧
 0 = List.length ([] : List AV) ∧
 vc94_L3 (((), (), a0_4, ((List.length a0_4 : Nat) : Int), 0, ()), ((a0_0, a0_1, a0_2, a0_3, a0_4, ()), (0, (), 0, 0, (), ()), (a0_0, l1, i2, a0_3, (), ()), [], ())) R
theorem vc94_ok {a0_0 : Int} {a0_1 : List AV} {a0_2 a0_3 : Int} {a0_4 : List AV} {R : AV → Prop} (h : vc94 a0_0 a0_1 a0_2 a0_3 a0_4 R) : Pure Tryz.prog 94 [.agg [nI a0_0, .sl a0_1, nI a0_2, nI a0_3, .sl a0_4]] R :=
 pure_of_code (C := cfg (Func.ntmps Tryz.f94) [(1, [none, none, none, none, none, none, none, none, some [], none], [none, some [], none, some [], some [], none, some [], none, none, none])]) (cfg_tab _ _ _ _ _) (cfg_ord _ _ _ _ _) (L := [{ key := 3, live := [(2, none), (3, none), (15, none), (16, none), (17, none)], brows := [(2, 4, 42)] }]) (fn := Tryz.f94) Tryz.func94 (by exact rfl) (by kernel_rfl) (by kernel_rfl) (by rfl) (of_eq (by kernel_rfl) h)
def vc96_L5 (p0 : List AV) (p1 : Int) (p2 : List AV) (p3 : Int) (p4 p5 : List AV) (p6 : Int) (p7 : List AV) (p8 p9 : Int) (p10 : List AV) (R : AV → Prop) : Prop :=
 (([.agg [.sl p0, nI p1]] : List AV) = [] → (p2 : List AV) = []) ∧
 appOk td39 (List.length (p2 ++ [.agg [.sl p0, nI p1]])) p2 [.agg [.sl p0, nI p1]] ∧
 List.length (p2 ++ [.agg [.sl p0, nI p1]]) = List.length (p2 ++ [.agg [.sl p0, nI p1]]) ∧
 ∃ (l53 : List AV) (i54 i55 : Int),
 PureIs Tryz.prog 96 [.agg [nI p3, .sl p4, .sl p5], .sl (p2 ++ [.agg [.sl p0, nI p1]]), .agg [nI p6, .sl p7, nI p8, nI p9, .sl p10]] (.tup [.agg [.sl l53, nI i54], nI i55]) ∧
 ITE (i55 != 0)
 (R (.tup [.agg [.sl [], nI 0], nI i55]))
 (∃ (l64 : List AV) (i65 : Int),
 PureIs Tryz.prog 82 [.agg [.sl l53, nI i54], .sl [.agg [.sl p0, nI p1]]] (.agg [.sl l64, nI i65]) ∧
 ∃ (i66 : Int),
 PureIs Tryz.prog 128 [.agg [.sl l64, nI i65]] (nI i66) ∧
 ITE (decide (i66 > 1000))
 (R (.tup [.agg [.sl [], nI 0], nI 2]))
 (R (.tup [.agg [.sl l64, nI i65], nI 0])))
def vc96 (a0_0 : Int) (a0_1 a0_2 a1 : List AV) (a2_0 : Int) (a2_1 : List AV) (a2_2 a2_3 : Int) (a2_4 : List AV) (R : AV → Prop) : Prop :=
 ITE (a2_0 == 3)
 (∃ (b1 : Bool),
 PureIs Tryz.prog 79 [.agg [.sl a2_1, nI a2_2], nI a0_0] (nB b1) ∧
 ITE (!b1)
 (R (.tup [.agg [.sl [], nI 0], nI 2]))
 (∃ (l2 : List AV),
 PureIs Tryz.prog 127 [.sl a1] (.clip l2) ∧
 0 ≤ (0 : Int) ∧
 (0 : Int) < List.length a2_4 ∧
 ∃ (i3 : Int) (l4 : List AV) (i5 i6 : Int) (l7 : List AV),
 List.getD a2_4 (Int.toNat 0) .top = .agg [nI i3, .sl l4, nI i5, nI i6, .sl l7] ∧
 (vc96_L5 a2_1 a2_2 l2 a0_0 a0_1 a0_2 i3 l4 i5 i6 l7 R) ∧
 (vc96_L5 a2_1 a2_2 l2 a0_0 a0_1 a0_2 i3 l4 i5 i6 l7 R)))
 (ITE (a2_0 == 4)
 (0 ≤ (0 : Int) ∧
 (0 : Int) < List.length a2_4 ∧
 ∃ (i20 : Int) (l21 : List AV) (i22 i23 : Int) (l24 : List AV),
 List.getD a2_4 (Int.toNat 0) .top = .agg [nI i20, .sl l21, nI i22, nI i23, .sl l24] ∧
 ∃ (l25 : List AV) (i26 i27 : Int),
 PureIs Tryz.prog 96 [.agg [nI a0_0, .sl a0_1, .sl a0_2], .sl a1, .agg [nI i20, .sl l21, nI i22, nI i23, .sl l24]] (.tup [.agg [.sl l25, nI i26], nI i27]) ∧
 ITE (i27 != 0)
 (R (.tup [.agg [.sl [], nI 0], nI i27]))
 (0 ≤ (1 : Int) ∧
 (1 : Int) < List.length a2_4 ∧
 ∃ (i28 : Int) (l29 : List AV) (i30 i31 : Int) (l32 : List AV),
 List.getD a2_4 (Int.toNat 1) .top = .agg [nI i28, .sl l29, nI i30, nI i31, .sl l32] ∧
 ∃ (l33 : List AV) (i34 i35 : Int),
 PureIs Tryz.prog 96 [.agg [nI a0_0, .sl a0_1, .sl a0_2], .sl a1, .agg [nI i28, .sl l29, nI i30, nI i31, .sl l32]] (.tup [.agg [.sl l33, nI i34], nI i35]) ∧
 ITE (i35 != 0)
 (R (.tup [.agg [.sl [], nI 0], nI i35]))
 (ITE (((List.length l25 : Nat) : Int) == 0)
 (R (.tup [.agg [.sl [], nI 0], nI 5]))
 (0 ≤ (0 : Int) ∧
 (0 : Int) < List.length l25 ∧
 ∃ (l36 : List AV) (i37 : Int),
 List.getD l25 (Int.toNat 0) .top = .agg [.sl l36, nI i37] ∧
 ∃ (b38 : Bool),
 PureIs Tryz.prog 90 [.agg [.sl l36, nI i37], .agg [.sl l33, nI i34]] (nB b38) ∧
 ITE (!b38)
 (R (.tup [.agg [.sl [], nI 0], nI 5]))
 (∃ (l39 : List AV) (i40 i41 : Int),
 PureIs Tryz.prog 129 [.agg [.sl l25, nI i26], nI 1] (.tup [.agg [.sl l39, nI i40], nI i41]) ∧
 R (.tup [.agg [.sl l39, nI i40], nI i41]))))))
 (∃ (l42 : List AV) (i43 i44 : Int),
 PureIs Tryz.prog 130 [.agg [nI a0_0, .sl a0_1, .sl a0_2], .sl a1, .agg [nI a2_0, nI a2_3]] (.tup [.agg [.sl l42, nI i43], nI i44]) ∧
 ITE (i44 == 0)
 (∃ (i45 : Int),
 PureIs Tryz.prog 128 [.agg [.sl l42, nI i43]] (nI i45) ∧
 ITE (decide (i45 > 1000))
 (R (.tup [.agg [.sl [], nI 0], nI 2]))
 (R (.tup [.agg [.sl l42, nI i43], nI i44])))
 (R (.tup [.agg [.sl l42, nI i43], nI i44]))))
theorem vc96_ok {a0_0 : Int} {a0_1 a0_2 a1 : List AV} {a2_0 : Int} {a2_1 : List AV} {a2_2 a2_3 : Int} {a2_4 : List AV} {R : AV → Prop} (h : vc96 a0_0 a0_1 a0_2 a1 a2_0 a2_1 a2_2 a2_3 a2_4 R) : Pure Tryz.prog 96 [.agg [nI a0_0, .sl a0_1, .sl a0_2], .sl a1, .agg [nI a2_0, .sl a2_1, nI a2_2, nI a2_3, .sl a2_4]] R :=
 pure_of_code (C := cfg (Func.ntmps Tryz.f96) [(5, [none, none, none, none, none, none, some [], none, none, none, none, none, none, none, none, some [], none, none], [some [], none, some [], none, some [], some [], none, none, some [], some [], some [], some [], none, none, none, none, none, none]), (13, [none, none, none, none, none, none, none, none, none, none, some [], none, none], [some [], none, none, some [], some [], some [], some [], none, none, none, none, none, none]), (16, [none, none, none, none, none, none, none, none, none, none, some [], none, none], [some [], none, none, some [], some [], some [], some [], none, none, none, none, none, none])] [] [] [(5, (.val 0 (.val 1 (.val 2 (.val 3 (.val 4 (.val 5 (.val 7 (.val 8 (.val 9 (.val 10 (.two 6 (.val 11 (.val 12 (.val 13 (.val 14 (.eff 15 (.eff 16 (.val 17 .done))))))) 15 (.eff 6 (.val 11 (.val 12 (.val 13 (.val 14 (.eff 16 (.val 17 .done)))))))))))))))))))]) (cfg_tab _ _ _ _ _) (cfg_ord _ _ _ _ _) (L := []) (fn := Tryz.f96) Tryz.func96 (by exact rfl) (by kernel_rfl) (by kernel_rfl) (by rfl) (of_eq (by kernel_rfl) h)
def vc126_L5 (p0 : (Int × Unit × List AV × Int × Int × Unit) × ((Int × List AV × Int × Int × List AV × Unit) × (Int × Unit) × (Int × List AV × Int × Int × List AV × Unit) × Unit)) (R : AV → List AObj → Prop) : Prop :=
 LoopP _ p0 fun z51 ag52 =>
 ITE (decide (z51.1.2.2.2.2.1 < z51.1.2.2.2.1))
 (0 ≤ z51.1.2.2.2.2.1 ∧
 z51.1.2.2.2.2.1 < List.length z51.1.2.2.1 ∧
 ∃ (i53 : Int) (l54 : List AV) (i55 i56 : Int) (l57 : List AV),
 List.getD z51.1.2.2.1 (Int.toNat z51.1.2.2.2.2.1) .top = .agg [nI i53, .sl l54, nI i55, nI i56, .sl l57] ∧
 ∃ (S58 : AV → List AObj → Prop),
 HFn Tryz.prog 126 [.agg [nI i53, .sl l54, nI i55, nI i56, .sl l57], nI (IntKind.wrap .i64 (z51.1.1 + 1)), .ptr 1 0] [.box [nI z51.2.1.1, .sl z51.2.1.2.1, nI z51.2.1.2.2.1, nI z51.2.1.2.2.2.1, .sl z51.2.1.2.2.2.2.1], .box [nI z51.2.2.1.1]] S58 ∧
 ∀ (r59 : AV) (q60 : List AObj), S58 r59 q60 →
 ∃ (i61 : Int) (l62 : List AV) (i63 i64 : Int) (l65 : List AV) (i66 : Int) (b67 : Bool),
 (r59 = nB b67 ∧ q60 = [.box [nI i61, .sl l62, nI i63, nI i64, .sl l65], .box [nI i66]]) ∧
 ITE (!b67)
 (R (nB false) [.box [nI i61, .sl l62, nI i63, nI i64, .sl l65], .box [nI i66]])
 (ag52 ((z51.1.1, (), z51.1.2.2.1, z51.1.2.2.2.1, IntKind.wrap .i64 (z51.1.2.2.2.2.1 + 1), ()), ((i61, l62, i63, i64, l65, ()), (i66, ()), (z51.2.2.2.1.1, z51.2.2.2.1.2.1, z51.2.2.2.1.2.2.1, z51.2.2.2.1.2.2.2.1, z51.2.2.2.1.2.2.2.2.1, ()), ()))))
 (R (nB true) [.box [nI z51.2.1.1, .sl z51.2.1.2.1, nI z51.2.1.2.2.1, nI z51.2.1.2.2.2.1, .sl z51.2.1.2.2.2.2.1], .box [nI z51.2.2.1.1]])
def vc126 (h0 : Int) (h1 : List AV) (h2 h3 : Int) (h4 : List AV) (left a0_0 : Int) (a0_1 : List AV) (a0_2 a0_3 : Int) (a0_4 : List AV) (a1 : Int) (R : AV → List AObj → Prop) : Prop :=
 ITE (decide ((IntKind.wrap .i64 (left - 1)) < 0))
 (R (nB false) [.box [nI h0, .sl h1, nI h2, nI h3, .sl h4], .box [nI (IntKind.wrap .i64 (left - 1))]])
 (ITE (decide (a1 > 60))
 (R (nB false) [.box [nI h0, .sl h1, nI h2, nI h3, .sl h4], .box [nI (IntKind.wrap .i64 (left - 1))]])
 (∃ (i1 : Int),
 PureIs Tryz.prog 153 [nI a0_0] (nI i1) ∧
 ITE (i1 != ((List.length a0_4 : Nat) : Int))
 (R (nB false) [.box [nI h0, .sl h1, nI h2, nI h3, .sl h4], .box [nI (IntKind.wrap .i64 (left - 1))]])
 (vc126_L5 ((a1, (), a0_4, ((List.length a0_4 : Nat) : Int), 0, ()), ((h0, h1, h2, h3, h4, ()), (IntKind.wrap .i64 (left - 1), ()), (a0_0, a0_1, a0_2, a0_3, a0_4, ()), ())) R)))
theorem vc126_ok {h0 : Int} {h1 : List AV} {h2 h3 : Int} {h4 : List AV} {left a0_0 : Int} {a0_1 : List AV} {a0_2 a0_3 : Int} {a0_4 : List AV} {a1 : Int} {R : AV → List AObj → Prop} (h : vc126 h0 h1 h2 h3 h4 left a0_0 a0_1 a0_2 a0_3 a0_4 a1 R) : HFn Tryz.prog 126 [.agg [nI a0_0, .sl a0_1, nI a0_2, nI a0_3, .sl a0_4], nI a1, .ptr 1 0] [.box [nI h0, .sl h1, nI h2, nI h3, .sl h4], .box [nI left]] R :=
 heap_of_code (C := cfg (Func.ntmps Tryz.f126) [] [sxVc4_0] []) (cfg_tab _ _ _ _ _) (cfg_ord _ _ _ _ _) (L := [{ key := 5, live := [(1, none), (2, none), (32, none), (33, none), (34, none)] }]) (fn := Tryz.f126) Tryz.func126 (by exact rfl) (by kernel_rfl) (by kernel_rfl) (by rfl) (of_eq (by kernel_rfl) h)
def vc139_L3 (p0 : (Unit × Int × Int × Unit) × ((Int × List AV × Int × Int × List AV × Unit) × Unit)) (R : AV → Prop) : Prop :=
 LoopP _ p0 fun z51 ag52 =>
 ITE (decide (z51.1.2.2.1 < ((List.length z51.2.1.2.2.2.2.1 : Nat) : Int)))
 (0 ≤ z51.1.2.2.1 ∧
 z51.1.2.2.1 < List.length z51.2.1.2.2.2.2.1 ∧
 ∃ (i53 : Int) (l54 : List AV) (i55 i56 : Int) (l57 : List AV),
 List.getD z51.2.1.2.2.2.2.1 (Int.toNat z51.1.2.2.1) .top = .agg [nI i53, .sl l54, nI i55, nI i56, .sl l57] ∧
 ∃ (i58 : Int),
 PureIs Tryz.prog 139 [.agg [nI i53, .sl l54, nI i55, nI i56, .sl l57]] (nI i58) ∧
 ITE (decide (i58 > z51.1.2.1))
 (ag52 (((), i58, IntKind.wrap .i64 (z51.1.2.2.1 + 1), ()), ((z51.2.1.1, z51.2.1.2.1, z51.2.1.2.2.1, z51.2.1.2.2.2.1, z51.2.1.2.2.2.2.1, ()), ())))
 (ag52 (((), z51.1.2.1, IntKind.wrap .i64 (z51.1.2.2.1 + 1), ()), ((z51.2.1.1, z51.2.1.2.1, z51.2.1.2.2.1, z51.2.1.2.2.2.1, z51.2.1.2.2.2.2.1, ()), ()))))
 (R (nI (IntKind.wrap .i64 (z51.1.2.1 + 1))))
def vc139 (a0_0 : Int) (a0_1 : List AV) (a0_2 a0_3 : Int) (a0_4 : List AV) (R : AV → Prop) : Prop :=
 vc139_L3 (((), 0, 0, ()), ((a0_0, a0_1, a0_2, a0_3, a0_4, ()), ())) R
theorem vc139_ok {a0_0 : Int} {a0_1 : List AV} {a0_2 a0_3 : Int} {a0_4 : List AV} {R : AV → Prop} (h : vc139 a0_0 a0_1 a0_2 a0_3 a0_4 R) : Pure Tryz.prog 139 [.agg [nI a0_0, .sl a0_1, nI a0_2, nI a0_3, .sl a0_4]] R :=
 pure_of_code (C := cfg (Func.ntmps Tryz.f139)) (cfg_tab _ _ _ _ _) (cfg_ord _ _ _ _ _) (L := [{ key := 3, live := [(1, none), (3, none), (4, none)] }]) (fn := Tryz.f139) Tryz.func139 (by exact rfl) (by kernel_rfl) (by kernel_rfl) (by rfl) (of_eq (by kernel_rfl) h)
def vc153 (a0 : Int) (R : AV → Prop) : Prop :=
 ITE (a0 == 0)
 (ITE (a0 == 0)
 (R (nI 0))
 (ITE (a0 == 3)
 (R (nI 1))
 (ITE (a0 == 4)
 (R (nI 2))
 (R (nI (-1))))))
 (ITE (a0 == 1)
 (ITE (a0 == 1)
 (R (nI 0))
 (ITE (a0 == 3)
 (R (nI 1))
 (ITE (a0 == 4)
 (R (nI 2))
 (R (nI (-1))))))
 (ITE (a0 == 2)
 (R (nI 0))
 (ITE (a0 == 3)
 (R (nI 1))
 (ITE (a0 == 4)
 (R (nI 2))
 (R (nI (-1)))))))
theorem vc153_ok {a0 : Int} {R : AV → Prop} (h : vc153 a0 R) : Pure Tryz.prog 153 [nI a0] R :=
 pure_of_code (C := cfg (Func.ntmps Tryz.f153)) (cfg_tab _ _ _ _ _) (cfg_ord _ _ _ _ _) (L := []) (fn := Tryz.f153) Tryz.func153 (by exact rfl) (by kernel_rfl) (by kernel_rfl) (by rfl) (of_eq (by kernel_rfl) h)
def vc69 (a0_0 : Int) (a0_1 a0_2 a1 : List AV) (a2_0 a2_1 : Int) (R : AV → Prop) : Prop :=
 ITE (a2_0 == 1)
 (ITE (decide (a2_1 < 0))
 (R (.tup [.agg [.sl [], nI 0], nB false]))
 (ITE (decide (a2_1 ≥ ((List.length a0_1 : Nat) : Int)))
 (R (.tup [.agg [.sl [], nI 0], nB false]))
 (0 ≤ a2_1 ∧
 a2_1 < List.length a0_1 ∧
 ∃ (l1 : List AV) (i2 : Int),
 List.getD a0_1 (Int.toNat a2_1) .top = .agg [.sl l1, nI i2] ∧
 R (.tup [.agg [.sl l1, nI i2], nB true]))))
 (ITE (a2_0 == 2)
 (ITE (decide (a2_1 < 0))
 (R (.tup [.agg [.sl [], nI 0], nB false]))
 (ITE (decide (a2_1 ≥ ((List.length a0_2 : Nat) : Int)))
 (R (.tup [.agg [.sl [], nI 0], nB false]))
 (0 ≤ a2_1 ∧
 a2_1 < List.length a0_2 ∧
 ∃ (l3 : List AV) (i4 : Int),
 List.getD a0_2 (Int.toNat a2_1) .top = .agg [.sl l3, nI i4] ∧
 R (.tup [.agg [.sl l3, nI i4], nB true]))))
 (ITE (a2_0 == 0)
 (ITE (decide (a2_1 < 0))
 (R (.tup [.agg [.sl [], nI 0], nB false]))
 (ITE (decide ((IntKind.wrap .i64 ((IntKind.wrap .i64 (((List.length a1 : Nat) : Int) - 1)) - a2_1)) < 0))
 (R (.tup [.agg [.sl [], nI 0], nB false]))
 (ITE (decide ((IntKind.wrap .i64 ((IntKind.wrap .i64 (((List.length a1 : Nat) : Int) - 1)) - a2_1)) ≥ ((List.length a1 : Nat) : Int)))
 (R (.tup [.agg [.sl [], nI 0], nB false]))
 (0 ≤ (IntKind.wrap .i64 ((IntKind.wrap .i64 (((List.length a1 : Nat) : Int) - 1)) - a2_1)) ∧
 (IntKind.wrap .i64 ((IntKind.wrap .i64 (((List.length a1 : Nat) : Int) - 1)) - a2_1)) < List.length a1 ∧
 ∃ (l5 : List AV) (i6 : Int),
 List.getD a1 (Int.toNat (IntKind.wrap .i64 ((IntKind.wrap .i64 (((List.length a1 : Nat) : Int) - 1)) - a2_1))) .top = .agg [.sl l5, nI i6] ∧
 R (.tup [.agg [.sl l5, nI i6], nB true])))))
 (R (.tup [.agg [.sl [], nI 0], nB false]))))
theorem vc69_ok {a0_0 : Int} {a0_1 a0_2 a1 : List AV} {a2_0 a2_1 : Int} {R : AV → Prop} (h : vc69 a0_0 a0_1 a0_2 a1 a2_0 a2_1 R) : Pure Tryz.prog 69 [.agg [nI a0_0, .sl a0_1, .sl a0_2], .sl a1, .agg [nI a2_0, nI a2_1]] R :=
 pure_of_code (C := cfg (Func.ntmps Tryz.f69)) (cfg_tab _ _ _ _ _) (cfg_ord _ _ _ _ _) (L := []) (fn := Tryz.f69) Tryz.func69 (by exact rfl) (by kernel_rfl) (by kernel_rfl) (by rfl) (of_eq (by kernel_rfl) h)
def vc70 (a0 a1 : List AV) (R : AV → Prop) : Prop :=
 ∃ (l1 : List AV),
 PureIs Tryz.prog 74 [.sl [.sl a0, .sl a1]] (.sl l1) ∧
 R (.sl l1)
theorem vc70_ok {a0 a1 : List AV} {R : AV → Prop} (h : vc70 a0 a1 R) : Pure Tryz.prog 70 [.sl a0, .sl a1] R :=
 pure_of_code (C := cfg (Func.ntmps Tryz.f70)) (cfg_tab _ _ _ _ _) (cfg_ord _ _ _ _ _) (L := []) (fn := Tryz.f70) Tryz.func70 (by exact rfl) (by kernel_rfl) (by kernel_rfl) (by rfl) (of_eq (by kernel_rfl) h)
def vc81_L8 (p0 : (Unit × List AV × Unit × List AV × Int × Int × Unit) × ((Int × List AV × List AV × Unit) × (List AV × Int × Int × List AV × Unit) × (List AV × Int × Unit) × (List AV × Int × Unit) × Unit)) (R : AV → Prop) : Prop :=
 LoopP _ p0 fun z51 ag52 =>
 ITE (decide (z51.1.2.2.2.2.2.1 < z51.1.2.2.2.2.1))
 (0 ≤ z51.1.2.2.2.2.2.1 ∧
 z51.1.2.2.2.2.2.1 < List.length z51.1.2.2.2.1 ∧
 ∃ (l53 : List AV) (i54 i55 : Int) (l56 : List AV),
 List.getD z51.1.2.2.2.1 (Int.toNat z51.1.2.2.2.2.2.1) .top = .agg [.sl l53, nI i54, nI i55, .sl l56] ∧
 0 ≤ z51.1.2.2.2.2.2.1 ∧
 z51.1.2.2.2.2.2.1 < List.length z51.2.2.2.2.1.1 ∧
 ∃ (l57 : List AV) (i58 : Int),
 List.getD z51.2.2.2.2.1.1 (Int.toNat z51.1.2.2.2.2.2.1) .top = .agg [.sl l57, nI i58] ∧
 ∃ (b59 : Bool),
 PureIs Tryz.prog 81 [.agg [nI z51.2.1.1, .sl z51.2.1.2.1, .sl z51.2.1.2.2.1], .sl z51.1.2.1, .agg [.sl l53, nI i54, nI i55, .sl l56], .agg [.sl l57, nI i58]] (nB b59) ∧
 ITE (!b59)
 (R (nB false))
 (ag52 (((), z51.1.2.1, (), z51.1.2.2.2.1, z51.1.2.2.2.2.1, IntKind.wrap .i64 (z51.1.2.2.2.2.2.1 + 1), ()), ((z51.2.1.1, z51.2.1.2.1, z51.2.1.2.2.1, ()), (z51.2.2.1.1, z51.2.2.1.2.1, z51.2.2.1.2.2.1, z51.2.2.1.2.2.2.1, ()), (z51.2.2.2.1.1, z51.2.2.2.1.2.1, ()), (z51.2.2.2.2.1.1, z51.2.2.2.2.1.2.1, ()), ()))))
 (R (nB true))
def vc81 (a0_0 : Int) (a0_1 a0_2 a1 a2_0 : List AV) (a2_1 a2_2 : Int) (a2_3 a3_0 : List AV) (a3_1 : Int) (R : AV → Prop) : Prop :=
 ∃ (b1 : Bool),
 PureIs Tryz.prog 89 [.sl a2_0, .sl a3_0, .clo 90 []] (nB b1) ∧
 ITE (!b1)
 (R (nB false))
 (∃ (l2 : List AV),
 PureIs Tryz.prog 70 [.sl a1, .sl a2_0] (.sl l2) ∧
 ∃ (l3 : List AV) (i4 : Int) (b5 : Bool),
 PureIs Tryz.prog 69 [.agg [nI a0_0, .sl a0_1, .sl a0_2], .sl l2, .agg [nI a2_1, nI a2_2]] (.tup [.agg [.sl l3, nI i4], nB b5]) ∧
 ITE (!b5)
 (R (nB false))
 (ITE (i4 != a3_1)
 (R (nB false))
 (ITE (((List.length l3 : Nat) : Int) != ((List.length a2_3 : Nat) : Int))
 (R (nB false))
 (vc81_L8 (((), l2, (), a2_3, ((List.length a2_3 : Nat) : Int), 0, ()), ((a0_0, a0_1, a0_2, ()), (a2_0, a2_1, a2_2, a2_3, ()), (a3_0, a3_1, ()), (l3, i4, ()), ())) R))))
theorem vc81_ok {a0_0 : Int} {a0_1 a0_2 a1 a2_0 : List AV} {a2_1 a2_2 : Int} {a2_3 a3_0 : List AV} {a3_1 : Int} {R : AV → Prop} (h : vc81 a0_0 a0_1 a0_2 a1 a2_0 a2_1 a2_2 a2_3 a3_0 a3_1 R) : Pure Tryz.prog 81 [.agg [nI a0_0, .sl a0_1, .sl a0_2], .sl a1, .agg [.sl a2_0, nI a2_1, nI a2_2, .sl a2_3], .agg [.sl a3_0, nI a3_1]] R :=
 pure_of_code (C := cfg (Func.ntmps Tryz.f81)) (cfg_tab _ _ _ _ _) (cfg_ord _ _ _ _ _) (L := [{ key := 8, live := [(4, none), (9, none), (10, none), (51, none), (52, none), (53, none)] }]) (fn := Tryz.f81) Tryz.func81 (by exact rfl) (by kernel_rfl) (by kernel_rfl) (by rfl) (of_eq (by kernel_rfl) h)
def vc77 (w0 : Int) (w1 w2 a0 : List AV) (R : AV → Prop) : Prop :=
 ∃ (i1 : Int),
 PureIs Tryz.prog 118 [.sl a0, .clo 78 [.eptr (.agg [nI w0, .sl w1, .sl w2]) 0]] (nI i1) ∧
 R (nB (decide (i1 ≥ 0)))
theorem vc77_ok {w0 : Int} {w1 w2 a0 : List AV} {R : AV → Prop} (h : vc77 w0 w1 w2 a0 R) : Pure Tryz.prog 77 [.sl a0, .clo 78 [.eptr (.agg [nI w0, .sl w1, .sl w2]) 0]] R :=
 pure_of_code (C := cfg (Func.ntmps Tryz.f77)) (cfg_tab _ _ _ _ _) (cfg_ord _ _ _ _ _) (L := []) (fn := Tryz.f77) Tryz.func77 (by exact rfl) (by kernel_rfl) (by kernel_rfl) (by rfl) (of_eq (by kernel_rfl) h)
def vc78 (w0 : Int) (w1 w2 a0_0 : List AV) (a0_1 : Int) (R : AV → Prop) : Prop :=
 ∃ (b1 : Bool),
 PureIs Tryz.prog 79 [.agg [.sl a0_0, nI a0_1], nI w0] (nB b1) ∧
 R (nB (!b1))
theorem vc78_ok {w0 : Int} {w1 w2 a0_0 : List AV} {a0_1 : Int} {R : AV → Prop} (h : vc78 w0 w1 w2 a0_0 a0_1 R) : Pure Tryz.prog 78 [.agg [.sl a0_0, nI a0_1], .eptr (.agg [nI w0, .sl w1, .sl w2]) 0] R :=
 pure_of_code (C := cfg (Func.ntmps Tryz.f78)) (cfg_tab _ _ _ _ _) (cfg_ord _ _ _ _ _) (L := []) (fn := Tryz.f78) Tryz.func78 (by exact rfl) (by kernel_rfl) (by kernel_rfl) (by rfl) (of_eq (by kernel_rfl) h)
def vc127 (a0 : List AV) (R : AV → List AObj → Prop) : Prop :=
 (0 ≤ (0 : Int) ∧ (0 : Int) ≤ ((List.length a0 : Nat) : Int) ∧ ((List.length a0 : Nat) : Int) = ((List.length a0 : Nat) : Int) ∧ ((List.length a0 : Nat) : Int) ≤ List.length a0 ∧ (∀ y : AV, y ∈ a0 → List.length (AV.cells y) = 2)) ∧
 R (.clip (List.drop (Int.toNat 0) (List.take (Int.toNat ((List.length a0 : Nat) : Int)) a0))) []
theorem vc127_ok {a0 : List AV} {R : AV → List AObj → Prop} (h : vc127 a0 R) : HFn Tryz.prog 127 [.sl a0] [] R :=
 heap_of_code (C := cfg (Func.ntmps Tryz.f127)) (cfg_tab _ _ _ _ _) (cfg_ord _ _ _ _ _) (L := []) (fn := Tryz.f127) Tryz.func127 (by exact rfl) (by kernel_rfl) (by kernel_rfl) (by rfl) (of_eq (by kernel_rfl) h)
def vc129 (a0_0 : List AV) (a0_1 a1 : Int) (R : AV → Prop) : Prop :=
 ITE (decide (a1 < 0))
 (R (.tup [.agg [.sl [], nI 0], nI 1]))
 (ITE (decide (a1 > ((List.length a0_0 : Nat) : Int)))
 (R (.tup [.agg [.sl [], nI 0], nI 1]))
 ((0 ≤ a1 ∧ a1 ≤ ((List.length a0_0 : Nat) : Int) ∧ ((List.length a0_0 : Nat) : Int) ≤ List.length a0_0 ∧ (∀ y : AV, y ∈ a0_0 → List.length (AV.cells y) = 2)) ∧
 ∃ (l1 : List AV) (i2 : Int),
 PureIs Tryz.prog 99 [.agg [.sl (List.drop (Int.toNat a1) (List.take (Int.toNat ((List.length a0_0 : Nat) : Int)) a0_0)), nI a0_1]] (.agg [.sl l1, nI i2]) ∧
 R (.tup [.agg [.sl l1, nI i2], nI 0])))
theorem vc129_ok {a0_0 : List AV} {a0_1 a1 : Int} {R : AV → Prop} (h : vc129 a0_0 a0_1 a1 R) : Pure Tryz.prog 129 [.agg [.sl a0_0, nI a0_1], nI a1] R :=
 pure_of_code (C := cfg (Func.ntmps Tryz.f129)) (cfg_tab _ _ _ _ _) (cfg_ord _ _ _ _ _) (L := []) (fn := Tryz.f129) Tryz.func129 (by exact rfl) (by kernel_rfl) (by kernel_rfl) (by rfl) (of_eq (by kernel_rfl) h)
def vc130 (a0_0 : Int) (a0_1 a0_2 a1 : List AV) (a2_0 a2_1 : Int) (R : AV → Prop) : Prop :=
 ∃ (l1 : List AV) (i2 : Int) (b3 : Bool),
 PureIs Tryz.prog 69 [.agg [nI a0_0, .sl a0_1, .sl a0_2], .sl a1, .agg [nI a2_0, nI a2_1]] (.tup [.agg [.sl l1, nI i2], nB b3]) ∧
 ITE (!b3)
 (R (.tup [.agg [.sl [], nI 0], nI 10]))
 (∃ (l4 : List AV) (i5 : Int),
 PureIs Tryz.prog 82 [.agg [.sl l1, nI i2], .sl []] (.agg [.sl l4, nI i5]) ∧
 R (.tup [.agg [.sl l4, nI i5], nI 0]))
theorem vc130_ok {a0_0 : Int} {a0_1 a0_2 a1 : List AV} {a2_0 a2_1 : Int} {R : AV → Prop} (h : vc130 a0_0 a0_1 a0_2 a1 a2_0 a2_1 R) : Pure Tryz.prog 130 [.agg [nI a0_0, .sl a0_1, .sl a0_2], .sl a1, .agg [nI a2_0, nI a2_1]] R :=
 pure_of_code (C := cfg (Func.ntmps Tryz.f130)) (cfg_tab _ _ _ _ _) (cfg_ord _ _ _ _ _) (L := []) (fn := Tryz.f130) Tryz.func130 (by exact rfl) (by kernel_rfl) (by kernel_rfl) (by rfl) (of_eq (by kernel_rfl) h)
def vc118_L2 (p0 : (List AV × (Unit × Unit) × Int × Int × Unit) × (Unit)) (p1 : Int) (p2 p3 : List AV) (R : AV → Prop) : Prop :=
 LoopP _ p0 fun z51 ag52 =>
 ITE (decide (z51.1.2.2.2.1 < z51.1.2.2.1))
 (0 ≤ z51.1.2.2.2.1 ∧
 z51.1.2.2.2.1 < List.length z51.1.1 ∧
 ∃ (l53 : List AV) (i54 : Int),
 List.getD z51.1.1 (Int.toNat z51.1.2.2.2.1) .top = .agg [.sl l53, nI i54] ∧
 ∃ (b55 : Bool),
 PureIs Tryz.prog 78 [.agg [.sl l53, nI i54], .eptr (.agg [nI p1, .sl p2, .sl p3]) 0] (nB b55) ∧
 ITE b55
 (R (nI z51.1.2.2.2.1))
 ((.eptr (.agg [nI p1, .sl p2, .sl p3]) 0 : AV) = .eptr (.agg [nI p1, .sl p2, .sl p3]) 0 ∧
 ag52 ((z51.1.1, ((), ()), z51.1.2.2.1, IntKind.wrap .i64 (z51.1.2.2.2.1 + 1), ()), ())))
 (R (nI (-1)))
def vc118 (w0 : Int) (w1 w2 a0 : List AV) (R : AV → Prop) : Prop :=
 (.eptr (.agg [nI w0, .sl w1, .sl w2]) 0 : AV) = .eptr (.agg [nI w0, .sl w1, .sl w2]) 0 ∧
 vc118_L2 ((a0, ((), ()), ((List.length a0 : Nat) : Int), 0, ()), ()) w0 w1 w2 R
theorem vc118_ok {w0 : Int} {w1 w2 a0 : List AV} {R : AV → Prop} (h : vc118 w0 w1 w2 a0 R) : Pure Tryz.prog 118 [.sl a0, .clo 78 [.eptr (.agg [nI w0, .sl w1, .sl w2]) 0]] R :=
 pure_of_code (C := cfg (Func.ntmps Tryz.f118)) (cfg_tab _ _ _ _ _) (cfg_ord _ _ _ _ _) (L := [{ key := 2, live := [(0, none), (1, some (.f 78 [.c (.q (.eptr (.agg [nI w0, .sl w1, .sl w2]) 0))])), (7, none), (8, none)] }]) (fn := Tryz.f118) Tryz.func118 (by exact rfl) (by kernel_rfl) (by kernel_rfl) (by rfl) (of_eq (by kernel_rfl) h)
end Go.Proofs.YtghlgbhldnkdmaaGreat
