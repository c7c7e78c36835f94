/- Texts of ours laid together for a claim: Vc1. -/
import Derived.Test.YtghlgbhldnkdmaaGreatQ30
namespace Go.Proofs.YtghlgbhldnkdmaaGreat
open Go
set_option linter.unusedSimpArgs false
set_option linter.unusedVariables false
set_option maxRecDepth 100000
def vc99_L3 (p0 : (Unit × Unit × List AV × Int × Int × Unit) × ((List AV × Int × Unit) × (Unit × Int × Unit) × (Unit × Int × Unit) × List AV × Unit)) (R : AV → Prop) : Prop :=
 LoopP _ p0 fun z51 ag52 =>
 ITE (decide (z51.1.2.2.2.2.1 < z51.1.2.2.2.1))
 (0 ≤ z51.1.2.2.2.2.1 ∧
 z51.1.2.2.2.2.1 < List.length z51.1.2.2.1 ∧
 ∃ (l53 : List AV) (i54 : Int),
 List.getD z51.1.2.2.1 (Int.toNat z51.1.2.2.2.2.1) .top = .agg [.sl l53, nI i54] ∧
 ∃ (l55 : List AV) (i56 : Int),
 PureIs Tryz.prog 99 [.agg [.sl l53, nI i54]] (.agg [.sl l55, nI i56]) ∧
 List.length z51.2.2.2.2.1 = List.length z51.2.2.2.2.1 ∧
 appOk td39 (List.length (z51.2.2.2.2.1 ++ [.agg [.sl l55, nI i56]])) [] [.agg [.sl l55, nI i56]] ∧
 List.length (z51.2.2.2.2.1 ++ [.agg [.sl l55, nI i56]]) = List.length (z51.2.2.2.2.1 ++ [.agg [.sl l55, nI i56]]) ∧
 ag52 (((), (), z51.1.2.2.1, z51.1.2.2.2.1, IntKind.wrap .i64 (z51.1.2.2.2.2.1 + 1), ()), ((z51.2.1.1, z51.2.1.2.1, ()), ((), z51.2.2.1.2.1, ()), ((), z51.2.2.2.1.2.1, ()), z51.2.2.2.2.1 ++ [.agg [.sl l55, nI i56]], ())))
 (List.length z51.2.2.2.2.1 = List.length z51.2.2.2.2.1 ∧
 R (.agg [.sl z51.2.2.2.2.1, nI z51.2.2.2.1.2.1]))
def vc99 (a0_0 : List AV) (a0_1 : Int) (R : AV → Prop) : Prop :=
 0 = List.length ([] : List AV) ∧
 vc99_L3 (((), (), a0_0, ((List.length a0_0 : Nat) : Int), 0, ()), ((a0_0, a0_1, ()), ((), 0, ()), ((), a0_1, ()), [], ())) R
theorem vc99_ok {a0_0 : List AV} {a0_1 : Int} {R : AV → Prop} (h : vc99 a0_0 a0_1 R) : Pure Tryz.prog 99 [.agg [.sl a0_0, nI a0_1]] R :=
 pure_of_code (C := cfg (Func.ntmps Tryz.f99)) (cfg_tab _ _ _ _ _) (cfg_ord _ _ _ _ _) (L := [{ key := 3, live := [(2, none), (3, none), (10, none), (11, none), (12, none)], brows := [(2, 0, 39)] }]) (fn := Tryz.f99) Tryz.func99 (by exact rfl) (by kernel_rfl) (by kernel_rfl) (by rfl) (of_eq (by kernel_rfl) h)
def vc82 (a0_0 : List AV) (a0_1 : Int) (a1 : List AV) (R : AV → Prop) : Prop :=
 ∃ (l1 : List AV),
 PureIs Tryz.prog 74 [.sl [.sl a1, .sl a0_0]] (.sl l1) ∧
 ∃ (l2 : List AV) (i3 : Int),
 PureIs Tryz.prog 99 [.agg [.sl l1, nI a0_1]] (.agg [.sl l2, nI i3]) ∧
 R (.agg [.sl l2, nI i3])
theorem vc82_ok {a0_0 : List AV} {a0_1 : Int} {a1 : List AV} {R : AV → Prop} (h : vc82 a0_0 a0_1 a1 R) : Pure Tryz.prog 82 [.agg [.sl a0_0, nI a0_1], .sl a1] R :=
 pure_of_code (C := cfg (Func.ntmps Tryz.f82)) (cfg_tab _ _ _ _ _) (cfg_ord _ _ _ _ _) (L := []) (fn := Tryz.f82) Tryz.func82 (by exact rfl) (by kernel_rfl) (by kernel_rfl) (by rfl) (of_eq (by kernel_rfl) h)
def vc89_L4 (p0 : (List AV × Unit × List AV × Int × Int × Unit) × (Unit)) (R : AV → Prop) : Prop :=
 LoopP _ p0 fun z51 ag52 =>
 ITE (decide (z51.1.2.2.2.2.1 < z51.1.2.2.2.1))
 (0 ≤ z51.1.2.2.2.2.1 ∧
 z51.1.2.2.2.2.1 < List.length z51.1.2.2.1 ∧
 ∃ (l53 : List AV) (i54 : Int),
 List.getD z51.1.2.2.1 (Int.toNat z51.1.2.2.2.2.1) .top = .agg [.sl l53, nI i54] ∧
 0 ≤ z51.1.2.2.2.2.1 ∧
 z51.1.2.2.2.2.1 < List.length z51.1.1 ∧
 ∃ (l55 : List AV) (i56 : Int),
 List.getD z51.1.1 (Int.toNat z51.1.2.2.2.2.1) .top = .agg [.sl l55, nI i56] ∧
 ∃ (b57 : Bool),
 PureIs Tryz.prog 90 [.agg [.sl l53, nI i54], .agg [.sl l55, nI i56]] (nB b57) ∧
 ITE (!b57)
 (R (nB false))
 (ag52 ((z51.1.1, (), z51.1.2.2.1, z51.1.2.2.2.1, IntKind.wrap .i64 (z51.1.2.2.2.2.1 + 1), ()), ())))
 (R (nB true))
def vc89 (a0 a1 : List AV) (R : AV → Prop) : Prop :=
 ITE (((List.length a0 : Nat) : Int) != ((List.length a1 : Nat) : Int))
 (R (nB false))
 (vc89_L4 ((a1, (), a0, ((List.length a0 : Nat) : Int), 0, ()), ()) R)
theorem vc89_ok {a0 a1 : List AV} {R : AV → Prop} (h : vc89 a0 a1 R) : Pure Tryz.prog 89 [.sl a0, .sl a1, .clo 90 []] R :=
 pure_of_code (C := cfg (Func.ntmps Tryz.f89)) (cfg_tab _ _ _ _ _) (cfg_ord _ _ _ _ _) (L := [{ key := 4, live := [(1, none), (2, none), (15, none), (16, none), (17, none)] }]) (fn := Tryz.f89) Tryz.func89 (by exact rfl) (by kernel_rfl) (by kernel_rfl) (by rfl) (of_eq (by kernel_rfl) h)
def vc90 (a0_0 : List AV) (a0_1 : Int) (a1_0 : List AV) (a1_1 : Int) (R : AV → Prop) : Prop :=
 ITE (a0_1 == a1_1)
 (∃ (b1 : Bool),
 PureIs Tryz.prog 89 [.sl a0_0, .sl a1_0, .clo 90 []] (nB b1) ∧
 R (nB b1))
 (R (nB false))
theorem vc90_ok {a0_0 : List AV} {a0_1 : Int} {a1_0 : List AV} {a1_1 : Int} {R : AV → Prop} (h : vc90 a0_0 a0_1 a1_0 a1_1 R) : Pure Tryz.prog 90 [.agg [.sl a0_0, nI a0_1], .agg [.sl a1_0, nI a1_1]] R :=
 pure_of_code (C := cfg (Func.ntmps Tryz.f90)) (cfg_tab _ _ _ _ _) (cfg_ord _ _ _ _ _) (L := []) (fn := Tryz.f90) Tryz.func90 (by exact rfl) (by kernel_rfl) (by kernel_rfl) (by rfl) (of_eq (by kernel_rfl) h)
def vc160_L6 (p0 : (Unit × Unit × Int × Unit × List AV × Int × Int × Unit) × ((List AV × Int × Int × List AV × Unit) × (Int × Int × Unit) × (Int × Int × Unit) × Unit)) (R : AV → Prop) : Prop :=
 LoopP _ p0 fun z51 ag52 =>
 ITE (decide (z51.1.2.2.2.2.2.2.1 < z51.1.2.2.2.2.2.1))
 (0 ≤ z51.1.2.2.2.2.2.2.1 ∧
 z51.1.2.2.2.2.2.2.1 < List.length z51.1.2.2.2.2.1 ∧
 ∃ (l53 : List AV) (i54 i55 : Int) (l56 : List AV),
 List.getD z51.1.2.2.2.2.1 (Int.toNat z51.1.2.2.2.2.2.2.1) .top = .agg [.sl l53, nI i54, nI i55, .sl l56] ∧
 ∃ (i57 i58 : Int) (b59 : Bool),
 PureIs Tryz.prog 160 [.agg [.sl l53, nI i54, nI i55, .sl l56]] (.tup [.agg [nI i57, nI i58], nB b59]) ∧
 ITE (!b59)
 (R (.tup [.agg [nI 0, nI 0], nB false]))
 (ITE (!(i57 == 0 && i58 == (IntKind.wrap .i64 ((IntKind.wrap .i64 (z51.1.2.2.1 - 1)) - z51.1.2.2.2.2.2.2.1))))
 (R (.tup [.agg [nI 0, nI 0], nB false]))
 (0 ≤ z51.1.2.2.2.2.2.2.1 ∧
 z51.1.2.2.2.2.2.2.1 < List.length z51.2.1.1 ∧
 ∃ (l60 : List AV) (i61 : Int),
 List.getD z51.2.1.1 (Int.toNat z51.1.2.2.2.2.2.2.1) .top = .agg [.sl l60, nI i61] ∧
 ∃ (b62 : Bool),
 PureIs Tryz.prog 89 [.sl l53, .sl l60, .clo 90 []] (nB b62) ∧
 ITE (!b62)
 (R (.tup [.agg [nI 0, nI 0], nB false]))
 (ag52 (((), (), z51.1.2.2.1, (), z51.1.2.2.2.2.1, z51.1.2.2.2.2.2.1, IntKind.wrap .i64 (z51.1.2.2.2.2.2.2.1 + 1), ()), ((z51.2.1.1, z51.2.1.2.1, z51.2.1.2.2.1, z51.2.1.2.2.2.1, ()), (z51.2.2.1.1, z51.2.2.1.2.1, ()), (z51.2.2.2.1.1, z51.2.2.2.1.2.1, ()), ()))))))
 (ITE (z51.2.2.2.1.1 == 0)
 (R (.tup [.agg [nI z51.2.2.2.1.1, nI (IntKind.wrap .i64 (z51.2.2.2.1.2.1 - z51.1.2.2.1))], nB true]))
 (R (.tup [.agg [nI z51.2.2.2.1.1, nI z51.2.2.2.1.2.1], nB true])))
def vc160 (a0_0 : List AV) (a0_1 a0_2 : Int) (a0_3 : List AV) (R : AV → Prop) : Prop :=
 ITE (((List.length a0_3 : Nat) : Int) != ((List.length a0_0 : Nat) : Int))
 (R (.tup [.agg [nI 0, nI 0], nB false]))
 (ITE (a0_1 == 0)
 (ITE (decide (a0_2 < ((List.length a0_0 : Nat) : Int)))
 (R (.tup [.agg [nI 0, nI 0], nB false]))
 (vc160_L6 (((), (), ((List.length a0_0 : Nat) : Int), (), a0_3, ((List.length a0_3 : Nat) : Int), 0, ()), ((a0_0, a0_1, a0_2, a0_3, ()), (0, 0, ()), (a0_1, a0_2, ()), ())) R))
 (vc160_L6 (((), (), ((List.length a0_0 : Nat) : Int), (), a0_3, ((List.length a0_3 : Nat) : Int), 0, ()), ((a0_0, a0_1, a0_2, a0_3, ()), (0, 0, ()), (a0_1, a0_2, ()), ())) R))
theorem vc160_ok {a0_0 : List AV} {a0_1 a0_2 : Int} {a0_3 : List AV} {R : AV → Prop} (h : vc160 a0_0 a0_1 a0_2 a0_3 R) : Pure Tryz.prog 160 [.agg [.sl a0_0, nI a0_1, nI a0_2, .sl a0_3]] R :=
 pure_of_code (C := cfg (Func.ntmps Tryz.f160)) (cfg_tab _ _ _ _ _) (cfg_ord _ _ _ _ _) (L := [{ key := 6, live := [(1, none), (2, none), (4, none), (5, none), (33, none), (34, none), (35, none)] }]) (fn := Tryz.f160) Tryz.func160 (by exact rfl) (by kernel_rfl) (by kernel_rfl) (by rfl) (of_eq (by kernel_rfl) h)
def vc84_L6 (p0 : (Int × Unit × Unit × Unit × List AV × Int × Int × Unit) × ((List AV × Int × Int × List AV × Unit) × (Unit × Int × Int × Unit × Unit) × (List AV × Int × Int × Unit × Unit) × List AV × Unit)) (R : AV → Prop) : Prop :=
 LoopP _ p0 fun z51 ag52 =>
 ITE (decide (z51.1.2.2.2.2.2.2.1 < z51.1.2.2.2.2.2.1))
 (0 ≤ z51.1.2.2.2.2.2.2.1 ∧
 z51.1.2.2.2.2.2.2.1 < List.length z51.1.2.2.2.2.1 ∧
 ∃ (l53 : List AV) (i54 i55 : Int) (l56 : List AV),
 List.getD z51.1.2.2.2.2.1 (Int.toNat z51.1.2.2.2.2.2.2.1) .top = .agg [.sl l53, nI i54, nI i55, .sl l56] ∧
 ∃ (l57 : List AV) (i58 i59 : Int) (l60 : List AV),
 PureIs Tryz.prog 84 [.agg [.sl l53, nI i54, nI i55, .sl l56], nI z51.1.1, .clo 117 []] (.agg [.sl l57, nI i58, nI i59, .sl l60]) ∧
 List.length z51.2.2.2.2.1 = List.length z51.2.2.2.2.1 ∧
 appOk td51 (List.length (z51.2.2.2.2.1 ++ [.agg [.sl l57, nI i58, nI i59, .sl l60]])) [] [.agg [.sl l57, nI i58, nI i59, .sl l60]] ∧
 List.length (z51.2.2.2.2.1 ++ [.agg [.sl l57, nI i58, nI i59, .sl l60]]) = List.length (z51.2.2.2.2.1 ++ [.agg [.sl l57, nI i58, nI i59, .sl l60]]) ∧
 ag52 ((z51.1.1, (), (), (), z51.1.2.2.2.2.1, z51.1.2.2.2.2.2.1, IntKind.wrap .i64 (z51.1.2.2.2.2.2.2.1 + 1), ()), ((z51.2.1.1, z51.2.1.2.1, z51.2.1.2.2.1, z51.2.1.2.2.2.1, ()), ((), z51.2.2.1.2.1, z51.2.2.1.2.2.1, (), ()), (z51.2.2.2.1.1, z51.2.2.2.1.2.1, z51.2.2.2.1.2.2.1, (), ()), z51.2.2.2.2.1 ++ [.agg [.sl l57, nI i58, nI i59, .sl l60]], ())))
 (List.length z51.2.2.2.2.1 = List.length z51.2.2.2.2.1 ∧
 R (.agg [.sl z51.2.2.2.1.1, nI z51.2.2.2.1.2.1, nI z51.2.2.2.1.2.2.1, .sl z51.2.2.2.2.1]))
def vc84 (a0_0 : List AV) (a0_1 a0_2 : Int) (a0_3 : List AV) (a1 : Int) (R : AV → Prop) : Prop :=
 ∃ (l1 : List AV) (i2 : Int),
 PureIs Tryz.prog 82 [.agg [.sl [], nI 0], .sl a0_0] (.agg [.sl l1, nI i2]) ∧
 ITE (a0_1 == 0)
 (ITE (decide (a0_2 ≥ (IntKind.wrap .i64 (a1 + ((List.length a0_0 : Nat) : Int)))))
 (∃ (i3 : Int),
 PureIs Tryz.prog 117 [nI (IntKind.wrap .i64 (a0_2 - (IntKind.wrap .i64 (a1 + ((List.length a0_0 : Nat) : Int)))))] (nI i3) ∧
 0 = List.length ([] : List AV) ∧
 vc84_L6 ((IntKind.wrap .i64 (a1 + ((List.length a0_0 : Nat) : Int)), (), (), (), a0_3, ((List.length a0_3 : Nat) : Int), 0, ()), ((a0_0, a0_1, a0_2, a0_3, ()), ((), 0, 0, (), ()), (l1, a0_1, IntKind.wrap .i64 ((IntKind.wrap .i64 (a1 + ((List.length a0_0 : Nat) : Int))) + i3), (), ()), [], ())) R)
 (0 = List.length ([] : List AV) ∧
 vc84_L6 ((IntKind.wrap .i64 (a1 + ((List.length a0_0 : Nat) : Int)), (), (), (), a0_3, ((List.length a0_3 : Nat) : Int), 0, ()), ((a0_0, a0_1, a0_2, a0_3, ()), ((), 0, 0, (), ()), (l1, a0_1, a0_2, (), ()), [], ())) R))
 (0 = List.length ([] : List AV) ∧
 vc84_L6 ((IntKind.wrap .i64 (a1 + ((List.length a0_0 : Nat) : Int)), (), (), (), a0_3, ((List.length a0_3 : Nat) : Int), 0, ()), ((a0_0, a0_1, a0_2, a0_3, ()), ((), 0, 0, (), ()), (l1, a0_1, a0_2, (), ()), [], ())) R)
theorem vc84_ok {a0_0 : List AV} {a0_1 a0_2 : Int} {a0_3 : List AV} {a1 : Int} {R : AV → Prop} (h : vc84 a0_0 a0_1 a0_2 a0_3 a1 R) : Pure Tryz.prog 84 [.agg [.sl a0_0, nI a0_1, nI a0_2, .sl a0_3], nI a1, .clo 117 []] R :=
 pure_of_code (C := cfg (Func.ntmps Tryz.f84) [(2, [none, none, none, none, none, none, none, none, some [], none], [none, none, some [], some [], none, none, some [], none, none, none])]) (cfg_tab _ _ _ _ _) (cfg_ord _ _ _ _ _) (L := [{ key := 6, live := [(1, none), (2, none), (6, none), (7, none), (46, none), (47, none), (48, none)], brows := [(2, 3, 51)] }]) (fn := Tryz.f84) Tryz.func84 (by exact rfl) (by kernel_rfl) (by kernel_rfl) (by rfl) (of_eq (by kernel_rfl) h)
def vc117 (a0 : Int) (R : AV → Prop) : Prop :=
 R (nI a0)
theorem vc117_ok {a0 : Int} {R : AV → Prop} (h : vc117 a0 R) : Pure Tryz.prog 117 [nI a0] R :=
 pure_of_code (C := cfg (Func.ntmps Tryz.f117)) (cfg_tab _ _ _ _ _) (cfg_ord _ _ _ _ _) (L := []) (fn := Tryz.f117) Tryz.func117 (by exact rfl) (by kernel_rfl) (by kernel_rfl) (by rfl) (of_eq (by kernel_rfl) h)
def vc76 (a0_0 : List AV) (a0_1 a0_2 : Int) (a0_3 : List AV) (R : AV → Prop) : Prop :=
 ∃ (l1 : List AV) (i2 i3 : Int) (l4 : List AV),
 PureIs Tryz.prog 84 [.agg [.sl a0_0, nI a0_1, nI a0_2, .sl a0_3], nI 0, .clo 117 []] (.agg [.sl l1, nI i2, nI i3, .sl l4]) ∧
 R (.agg [.sl l1, nI i2, nI i3, .sl l4])
theorem vc76_ok {a0_0 : List AV} {a0_1 a0_2 : Int} {a0_3 : List AV} {R : AV → Prop} (h : vc76 a0_0 a0_1 a0_2 a0_3 R) : Pure Tryz.prog 76 [.agg [.sl a0_0, nI a0_1, nI a0_2, .sl a0_3]] R :=
 pure_of_code (C := cfg (Func.ntmps Tryz.f76)) (cfg_tab _ _ _ _ _) (cfg_ord _ _ _ _ _) (L := []) (fn := Tryz.f76) Tryz.func76 (by exact rfl) (by kernel_rfl) (by kernel_rfl) (by rfl) (of_eq (by kernel_rfl) h)
def vc33_L8 (p0 : (Unit × Int × Unit × List AV × Int × Int × Unit) × ((Int × Int × Unit) × (List AV × Int × Unit) × (Unit × Int × Int × Unit × Unit) × (List AV × Int × Int × Unit × Unit) × List AV × Unit)) (R : AV → Prop) : Prop :=
 LoopP _ p0 fun z51 ag52 =>
 ITE (decide (z51.1.2.2.2.2.2.1 < z51.1.2.2.2.2.1))
 (0 ≤ z51.1.2.2.2.2.2.1 ∧
 z51.1.2.2.2.2.2.1 < List.length z51.1.2.2.2.1 ∧
 ∃ (l53 : List AV) (i54 : Int),
 List.getD z51.1.2.2.2.1 (Int.toNat z51.1.2.2.2.2.2.1) .top = .agg [.sl l53, nI i54] ∧
 ∃ (l55 : List AV) (i56 i57 : Int) (l58 : List AV),
 PureIs Tryz.prog 33 [.agg [nI 0, nI (IntKind.wrap .i64 ((IntKind.wrap .i64 (z51.1.2.1 - 1)) - z51.1.2.2.2.2.2.1))], .agg [.sl l53, nI i54]] (.agg [.sl l55, nI i56, nI i57, .sl l58]) ∧
 List.length z51.2.2.2.2.2.1 = List.length z51.2.2.2.2.2.1 ∧
 appOk td51 (List.length (z51.2.2.2.2.2.1 ++ [.agg [.sl l55, nI i56, nI i57, .sl l58]])) [] [.agg [.sl l55, nI i56, nI i57, .sl l58]] ∧
 List.length (z51.2.2.2.2.2.1 ++ [.agg [.sl l55, nI i56, nI i57, .sl l58]]) = List.length (z51.2.2.2.2.2.1 ++ [.agg [.sl l55, nI i56, nI i57, .sl l58]]) ∧
 ag52 (((), z51.1.2.1, (), z51.1.2.2.2.1, z51.1.2.2.2.2.1, IntKind.wrap .i64 (z51.1.2.2.2.2.2.1 + 1), ()), ((z51.2.1.1, z51.2.1.2.1, ()), (z51.2.2.1.1, z51.2.2.1.2.1, ()), ((), z51.2.2.2.1.2.1, z51.2.2.2.1.2.2.1, (), ()), (z51.2.2.2.2.1.1, z51.2.2.2.2.1.2.1, z51.2.2.2.2.1.2.2.1, (), ()), z51.2.2.2.2.2.1 ++ [.agg [.sl l55, nI i56, nI i57, .sl l58]], ())))
 (List.length z51.2.2.2.2.2.1 = List.length z51.2.2.2.2.2.1 ∧
 R (.agg [.sl z51.2.2.2.2.1.1, nI z51.2.2.2.2.1.2.1, nI z51.2.2.2.2.1.2.2.1, .sl z51.2.2.2.2.2.1]))
def vc33 (a0_0 a0_1 : Int) (a1_0 : List AV) (a1_1 : Int) (R : AV → Prop) : Prop :=
 ITE (a0_0 == 0)
 (ITE (decide (a0_1 < 0))
 (R (.agg [.sl [], nI 0, nI 0, .sl []]))
 (ITE (decide (a0_1 > 1000))
 (R (.agg [.sl [], nI 0, nI 0, .sl []]))
 (∃ (l1 : List AV) (i2 : Int),
 PureIs Tryz.prog 82 [.agg [.sl a1_0, nI a1_1], .sl []] (.agg [.sl l1, nI i2]) ∧
 ITE (a0_0 == 0)
 (0 = List.length ([] : List AV) ∧
 vc33_L8 (((), ((List.length a1_0 : Nat) : Int), (), a1_0, ((List.length a1_0 : Nat) : Int), 0, ()), ((a0_0, a0_1, ()), (a1_0, a1_1, ()), ((), 0, 0, (), ()), (l1, a0_0, IntKind.wrap .i64 (a0_1 + ((List.length a1_0 : Nat) : Int)), (), ()), [], ())) R)
 (0 = List.length ([] : List AV) ∧
 vc33_L8 (((), ((List.length a1_0 : Nat) : Int), (), a1_0, ((List.length a1_0 : Nat) : Int), 0, ()), ((a0_0, a0_1, ()), (a1_0, a1_1, ()), ((), 0, 0, (), ()), (l1, a0_0, a0_1, (), ()), [], ())) R))))
 (∃ (l19 : List AV) (i20 : Int),
 PureIs Tryz.prog 82 [.agg [.sl a1_0, nI a1_1], .sl []] (.agg [.sl l19, nI i20]) ∧
 ITE (a0_0 == 0)
 (0 = List.length ([] : List AV) ∧
 vc33_L8 (((), ((List.length a1_0 : Nat) : Int), (), a1_0, ((List.length a1_0 : Nat) : Int), 0, ()), ((a0_0, a0_1, ()), (a1_0, a1_1, ()), ((), 0, 0, (), ()), (l19, a0_0, IntKind.wrap .i64 (a0_1 + ((List.length a1_0 : Nat) : Int)), (), ()), [], ())) R)
 (0 = List.length ([] : List AV) ∧
 vc33_L8 (((), ((List.length a1_0 : Nat) : Int), (), a1_0, ((List.length a1_0 : Nat) : Int), 0, ()), ((a0_0, a0_1, ()), (a1_0, a1_1, ()), ((), 0, 0, (), ()), (l19, a0_0, a0_1, (), ()), [], ())) R))
theorem vc33_ok {a0_0 a0_1 : Int} {a1_0 : List AV} {a1_1 : Int} {R : AV → Prop} (h : vc33 a0_0 a0_1 a1_0 a1_1 R) : Pure Tryz.prog 33 [.agg [nI a0_0, nI a0_1], .agg [.sl a1_0, nI a1_1]] R :=
 pure_of_code (C := cfg (Func.ntmps Tryz.f33) [(4, [none, none, none, none, none, some [], none], [some [], some [], none, some [], none, none, none])]) (cfg_tab _ _ _ _ _) (cfg_ord _ _ _ _ _) (L := [{ key := 8, live := [(4, none), (5, none), (6, none), (42, none), (43, none), (44, none)], brows := [(3, 3, 51)] }]) (fn := Tryz.f33) Tryz.func33 (by exact rfl) (by kernel_rfl) (by kernel_rfl) (by rfl) (of_eq (by kernel_rfl) h)
end Go.Proofs.YtghlgbhldnkdmaaGreat
