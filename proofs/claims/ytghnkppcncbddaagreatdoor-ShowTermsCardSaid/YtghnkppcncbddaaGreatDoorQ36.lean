/- Texts of ours laid together for a claim: Vc2. -/
import Derived.Test.YtghnkppcncbddaaGreatDoorQ35
namespace Go.Proofs.YtghnkppcncbddaaGreatDoor
open Go
set_option linter.unusedSimpArgs false
set_option linter.unusedVariables false
set_option maxRecDepth 100000
def vc12_L3 (p0 : (Unit × Unit × Unit × Int × Unit) × ((List AV × Int × Unit) × (Unit × Int × Unit) × (Unit × Int × Unit) × List AV × Unit)) (R : AV → Prop) : Prop :=
 LoopP _ p0 fun z51 ag52 =>
 ITE (decide (z51.1.2.2.2.1 < ((List.length z51.2.1.1 : Nat) : Int)))
 (0 ≤ z51.1.2.2.2.1 ∧
 z51.1.2.2.2.1 < List.length z51.2.1.1 ∧
 ∃ (l53 : List AV) (i54 : Int),
 List.getD z51.2.1.1 (Int.toNat z51.1.2.2.2.1) .top = .agg [.sl l53, nI i54] ∧
 ∃ (l55 : List AV) (i56 : Int),
 PureIs Tryz.prog 12 [.agg [.sl l53, nI i54]] (.agg [.sl l55, nI i56]) ∧
 List.length z51.2.2.2.2.1 = List.length z51.2.2.2.2.1 ∧
 appOk td47 (List.length (z51.2.2.2.2.1 ++ [.agg [.sl l55, nI i56]])) [] [.agg [.sl l55, nI i56]] ∧
 List.length (z51.2.2.2.2.1 ++ [.agg [.sl l55, nI i56]]) = List.length (z51.2.2.2.2.1 ++ [.agg [.sl l55, nI i56]]) ∧
 ag52 (((), (), (), IntKind.wrap .i64 (z51.1.2.2.2.1 + 1), ()), ((z51.2.1.1, z51.2.1.2.1, ()), ((), z51.2.2.1.2.1, ()), ((), z51.2.2.2.1.2.1, ()), z51.2.2.2.2.1 ++ [.agg [.sl l55, nI i56]], ())))
 (List.length z51.2.2.2.2.1 = List.length z51.2.2.2.2.1 ∧
 R (.agg [.sl z51.2.2.2.2.1, nI z51.2.2.2.1.2.1]))
def vc12 (a0_0 : List AV) (a0_1 : Int) (R : AV → Prop) : Prop :=
 0 = List.length ([] : List AV) ∧
 vc12_L3 (((), (), (), 0, ()), ((a0_0, a0_1, ()), ((), 0, ()), ((), a0_1, ()), [], ())) R
theorem vc12_ok {a0_0 : List AV} {a0_1 : Int} {R : AV → Prop} (h : vc12 a0_0 a0_1 R) : Pure Tryz.prog 12 [.agg [.sl a0_0, nI a0_1]] R :=
 pure_of_code (C := cfg (Func.ntmps Tryz.f12)) (cfg_tab _ _ _ _ _) (cfg_ord _ _ _ _ _) (L := [{ key := 3, live := [(1, none), (2, none), (3, none), (4, none)], brows := [(2, 0, 47)] }]) (fn := Tryz.f12) Tryz.func12 (by exact rfl) (by kernel_rfl) (by kernel_rfl) (by rfl) (of_eq (by kernel_rfl) h)
def vc45_L3 (p0 : (List AV × Unit × Int × Unit) × (List AV × Unit)) (R : AV → Prop) : Prop :=
 LoopP _ p0 fun z51 ag52 =>
 ITE (decide (z51.1.2.2.1 < ((List.length z51.1.1 : Nat) : Int)))
 (0 ≤ z51.1.2.2.1 ∧
 z51.1.2.2.1 < List.length z51.1.1 ∧
 ∃ (l53 : List AV) (i54 : Int),
 List.getD z51.1.1 (Int.toNat z51.1.2.2.1) .top = .agg [.sl l53, nI i54] ∧
 ∃ (l55 : List AV) (i56 : Int),
 PureIs Tryz.prog 12 [.agg [.sl l53, nI i54]] (.agg [.sl l55, nI i56]) ∧
 List.length z51.2.1 = List.length z51.2.1 ∧
 appOk td47 (List.length (z51.2.1 ++ [.agg [.sl l55, nI i56]])) [] [.agg [.sl l55, nI i56]] ∧
 List.length (z51.2.1 ++ [.agg [.sl l55, nI i56]]) = List.length (z51.2.1 ++ [.agg [.sl l55, nI i56]]) ∧
 ag52 ((z51.1.1, (), IntKind.wrap .i64 (z51.1.2.2.1 + 1), ()), (z51.2.1 ++ [.agg [.sl l55, nI i56]], ())))
 (List.length z51.2.1 = List.length z51.2.1 ∧
 R (.sl z51.2.1))
def vc45 (a0 : List AV) (R : AV → Prop) : Prop :=
 0 = List.length ([] : List AV) ∧
 vc45_L3 ((a0, (), 0, ()), ([], ())) R
theorem vc45_ok {a0 : List AV} {R : AV → Prop} (h : vc45 a0 R) : Pure Tryz.prog 45 [.sl a0] R :=
 pure_of_code (C := cfg (Func.ntmps Tryz.f45)) (cfg_tab _ _ _ _ _) (cfg_ord _ _ _ _ _) (L := [{ key := 3, live := [(0, none), (3, none), (4, none)], rows := [(3, 47)] }]) (fn := Tryz.f45) Tryz.func45 (by exact rfl) (by kernel_rfl) (by kernel_rfl) (by rfl) (of_eq (by kernel_rfl) h)
def vc15_L3 (p0 : (Unit × Unit × Unit × Int × Unit) × ((List AV × Int × Int × List AV × Unit) × (Unit × Int × Int × Unit × Unit) × (List AV × Int × Int × Unit × Unit) × List AV × Unit)) (R : AV → Prop) : Prop :=
 LoopP _ p0 fun z51 ag52 =>
 ITE (decide (z51.1.2.2.2.1 < ((List.length z51.2.1.2.2.2.1 : Nat) : Int)))
 (0 ≤ z51.1.2.2.2.1 ∧
 z51.1.2.2.2.1 < List.length z51.2.1.2.2.2.1 ∧
 ∃ (l53 : List AV) (i54 i55 : Int) (l56 : List AV),
 List.getD z51.2.1.2.2.2.1 (Int.toNat z51.1.2.2.2.1) .top = .agg [.sl l53, nI i54, nI i55, .sl l56] ∧
 ∃ (l57 : List AV) (i58 i59 : Int) (l60 : List AV),
 PureIs Tryz.prog 15 [.agg [.sl l53, nI i54, nI i55, .sl l56]] (.agg [.sl l57, nI i58, nI i59, .sl l60]) ∧
 List.length z51.2.2.2.2.1 = List.length z51.2.2.2.2.1 ∧
 appOk td58 (List.length (z51.2.2.2.2.1 ++ [.agg [.sl l57, nI i58, nI i59, .sl l60]])) [] [.agg [.sl l57, nI i58, nI i59, .sl l60]] ∧
 List.length (z51.2.2.2.2.1 ++ [.agg [.sl l57, nI i58, nI i59, .sl l60]]) = List.length (z51.2.2.2.2.1 ++ [.agg [.sl l57, nI i58, nI i59, .sl l60]]) ∧
 ag52 (((), (), (), IntKind.wrap .i64 (z51.1.2.2.2.1 + 1), ()), ((z51.2.1.1, z51.2.1.2.1, z51.2.1.2.2.1, z51.2.1.2.2.2.1, ()), ((), z51.2.2.1.2.1, z51.2.2.1.2.2.1, (), ()), (z51.2.2.2.1.1, z51.2.2.2.1.2.1, z51.2.2.2.1.2.2.1, (), ()), z51.2.2.2.2.1 ++ [.agg [.sl l57, nI i58, nI i59, .sl l60]], ())))
 (List.length z51.2.2.2.2.1 = List.length z51.2.2.2.2.1 ∧
 R (.agg [.sl z51.2.2.2.1.1, nI z51.2.2.2.1.2.1, nI z51.2.2.2.1.2.2.1, .sl z51.2.2.2.2.1]))
def vc15 (a0_0 : List AV) (a0_1 a0_2 : Int) (a0_3 : List AV) (R : AV → Prop) : Prop :=
 ∃ (l1 : List AV),
 PureIs Tryz.prog 45 [.sl a0_0] (.sl l1) ∧
 0 = List.length ([] : List AV) ∧
 vc15_L3 (((), (), (), 0, ()), ((a0_0, a0_1, a0_2, a0_3, ()), ((), 0, 0, (), ()), (l1, a0_1, a0_2, (), ()), [], ())) R
theorem vc15_ok {a0_0 : List AV} {a0_1 a0_2 : Int} {a0_3 : List AV} {R : AV → Prop} (h : vc15 a0_0 a0_1 a0_2 a0_3 R) : Pure Tryz.prog 15 [.agg [.sl a0_0, nI a0_1, nI a0_2, .sl a0_3]] R :=
 pure_of_code (C := cfg (Func.ntmps Tryz.f15) [(1, [none, none, none, none, none, none, none, none, none, none, none, some [], none], [none, some [], some [], none, none, some [], none, none, some [], none, none, none, none])]) (cfg_tab _ _ _ _ _) (cfg_ord _ _ _ _ _) (L := [{ key := 3, live := [(1, none), (2, none), (3, none), (4, none)], brows := [(2, 3, 58)] }]) (fn := Tryz.f15) Tryz.func15 (by exact rfl) (by kernel_rfl) (by kernel_rfl) (by rfl) (of_eq (by kernel_rfl) h)
def vc112_L3 (p0 : (Unit × Int × Int × Unit) × ((List AV × Int × Unit) × Unit)) (R : AV → Prop) : Prop :=
 LoopP _ p0 fun z51 ag52 =>
 ITE (decide (z51.1.2.2.1 < ((List.length z51.2.1.1 : Nat) : Int)))
 (0 ≤ z51.1.2.2.1 ∧
 z51.1.2.2.1 < List.length z51.2.1.1 ∧
 ∃ (l53 : List AV) (i54 : Int),
 List.getD z51.2.1.1 (Int.toNat z51.1.2.2.1) .top = .agg [.sl l53, nI i54] ∧
 ∃ (i55 : Int),
 PureIs Tryz.prog 112 [.agg [.sl l53, nI i54]] (nI i55) ∧
 ag52 (((), IntKind.wrap .i64 (z51.1.2.1 + i55), IntKind.wrap .i64 (z51.1.2.2.1 + 1), ()), ((z51.2.1.1, z51.2.1.2.1, ()), ())))
 (R (nI z51.1.2.1))
def vc112 (a0_0 : List AV) (a0_1 : Int) (R : AV → Prop) : Prop :=
 vc112_L3 (((), 1, 0, ()), ((a0_0, a0_1, ()), ())) R
theorem vc112_ok {a0_0 : List AV} {a0_1 : Int} {R : AV → Prop} (h : vc112 a0_0 a0_1 R) : Pure Tryz.prog 112 [.agg [.sl a0_0, nI a0_1]] R :=
 pure_of_code (C := cfg (Func.ntmps Tryz.f112)) (cfg_tab _ _ _ _ _) (cfg_ord _ _ _ _ _) (L := [{ key := 3, live := [(1, none), (3, none), (4, none)] }]) (fn := Tryz.f112) Tryz.func112 (by exact rfl) (by kernel_rfl) (by kernel_rfl) (by rfl) (of_eq (by kernel_rfl) h)
def vc30_L5 (p0 : (Int × Int × Unit × Int × Int × Unit) × ((List AV × Int × Unit) × Unit)) (R : AV → Prop) : Prop :=
 LoopP _ p0 fun z51 ag52 =>
 ITE (decide (z51.1.2.2.2.2.1 < ((List.length z51.2.1.1 : Nat) : Int)))
 (ITE (decide (z51.1.2.2.2.1 ≤ z51.1.1))
 (0 ≤ z51.1.2.2.2.2.1 ∧
 z51.1.2.2.2.2.1 < List.length z51.2.1.1 ∧
 ∃ (l53 : List AV) (i54 : Int),
 List.getD z51.2.1.1 (Int.toNat z51.1.2.2.2.2.1) .top = .agg [.sl l53, nI i54] ∧
 ∃ (i55 : Int),
 PureIs Tryz.prog 30 [.agg [.sl l53, nI i54], nI z51.1.1, nI (IntKind.wrap .i64 (z51.1.2.1 - 1))] (nI i55) ∧
 ag52 ((z51.1.1, z51.1.2.1, (), IntKind.wrap .i64 (z51.1.2.2.2.1 + i55), IntKind.wrap .i64 (z51.1.2.2.2.2.1 + 1), ()), ((z51.2.1.1, z51.2.1.2.1, ()), ())))
 (R (nI z51.1.2.2.2.1)))
 (R (nI z51.1.2.2.2.1))
def vc30 (a0_0 : List AV) (a0_1 a1 a2 : Int) (R : AV → Prop) : Prop :=
 ITE (decide (a2 ≤ 0))
 (R (nI (IntKind.wrap .i64 (a1 + 1))))
 (vc30_L5 ((a1, a2, (), 1, 0, ()), ((a0_0, a0_1, ()), ())) R)
theorem vc30_ok {a0_0 : List AV} {a0_1 a1 a2 : Int} {R : AV → Prop} (h : vc30 a0_0 a0_1 a1 a2 R) : Pure Tryz.prog 30 [.agg [.sl a0_0, nI a0_1], nI a1, nI a2] R :=
 pure_of_code (C := cfg (Func.ntmps Tryz.f30)) (cfg_tab _ _ _ _ _) (cfg_ord _ _ _ _ _) (L := [{ key := 5, live := [(1, none), (2, none), (3, none), (7, none), (8, none)] }]) (fn := Tryz.f30) Tryz.func30 (by exact rfl) (by kernel_rfl) (by kernel_rfl) (by rfl) (of_eq (by kernel_rfl) h)
def vc7 (a0_0 : List AV) (a0_1 a1 a2 : Int) (R : AV → Prop) : Prop :=
 ∃ (i1 : Int),
 PureIs Tryz.prog 30 [.agg [.sl a0_0, nI a0_1], nI a1, nI a2] (nI i1) ∧
 R (nB (decide (i1 ≤ a1)))
theorem vc7_ok {a0_0 : List AV} {a0_1 a1 a2 : Int} {R : AV → Prop} (h : vc7 a0_0 a0_1 a1 a2 R) : Pure Tryz.prog 7 [.agg [.sl a0_0, nI a0_1], nI a1, nI a2] R :=
 pure_of_code (C := cfg (Func.ntmps Tryz.f7)) (cfg_tab _ _ _ _ _) (cfg_ord _ _ _ _ _) (L := []) (fn := Tryz.f7) Tryz.func7 (by exact rfl) (by kernel_rfl) (by kernel_rfl) (by rfl) (of_eq (by kernel_rfl) h)
def vc67_L11 (p0 : (Int × Int × Unit × Int × Int × Unit) × ((List AV × Int × Int × List AV × Unit) × Unit)) (R : AV → Prop) : Prop :=
 LoopP _ p0 fun z51 ag52 =>
 ITE (decide (z51.1.2.2.2.2.1 < ((List.length z51.2.1.2.2.2.1 : Nat) : Int)))
 (ITE (decide (z51.1.2.2.2.1 ≤ z51.1.1))
 (0 ≤ z51.1.2.2.2.2.1 ∧
 z51.1.2.2.2.2.1 < List.length z51.2.1.2.2.2.1 ∧
 ∃ (l53 : List AV) (i54 i55 : Int) (l56 : List AV),
 List.getD z51.2.1.2.2.2.1 (Int.toNat z51.1.2.2.2.2.1) .top = .agg [.sl l53, nI i54, nI i55, .sl l56] ∧
 ∃ (i57 : Int),
 PureIs Tryz.prog 67 [.agg [.sl l53, nI i54, nI i55, .sl l56], nI z51.1.1, nI (IntKind.wrap .i64 (z51.1.2.1 - 1))] (nI i57) ∧
 ag52 ((z51.1.1, z51.1.2.1, (), IntKind.wrap .i64 (z51.1.2.2.2.1 + i57), IntKind.wrap .i64 (z51.1.2.2.2.2.1 + 1), ()), ((z51.2.1.1, z51.2.1.2.1, z51.2.1.2.2.1, z51.2.1.2.2.2.1, ()), ())))
 (R (nI z51.1.2.2.2.1)))
 (R (nI z51.1.2.2.2.1))
def vc67_L5 (p0 : (Int × Int × Unit × Int × Int × Unit) × ((List AV × Int × Int × List AV × Unit) × Unit)) (R : AV → Prop) : Prop :=
 LoopP _ p0 fun z51 ag52 =>
 ITE (decide (z51.1.2.2.2.2.1 < ((List.length z51.2.1.1 : Nat) : Int)))
 (ITE (decide (z51.1.2.2.2.1 ≤ z51.1.1))
 (0 ≤ z51.1.2.2.2.2.1 ∧
 z51.1.2.2.2.2.1 < List.length z51.2.1.1 ∧
 ∃ (l53 : List AV) (i54 : Int),
 List.getD z51.2.1.1 (Int.toNat z51.1.2.2.2.2.1) .top = .agg [.sl l53, nI i54] ∧
 ∃ (b55 : Bool),
 PureIs Tryz.prog 7 [.agg [.sl l53, nI i54], nI z51.1.1, nI z51.1.2.1] (nB b55) ∧
 ITE (!b55)
 (R (nI (IntKind.wrap .i64 (z51.1.1 + 1))))
 (0 ≤ z51.1.2.2.2.2.1 ∧
 z51.1.2.2.2.2.1 < List.length z51.2.1.1 ∧
 ∃ (l56 : List AV) (i57 : Int),
 List.getD z51.2.1.1 (Int.toNat z51.1.2.2.2.2.1) .top = .agg [.sl l56, nI i57] ∧
 ∃ (i58 : Int),
 PureIs Tryz.prog 112 [.agg [.sl l56, nI i57]] (nI i58) ∧
 ag52 ((z51.1.1, z51.1.2.1, (), IntKind.wrap .i64 (z51.1.2.2.2.1 + i58), IntKind.wrap .i64 (z51.1.2.2.2.2.1 + 1), ()), ((z51.2.1.1, z51.2.1.2.1, z51.2.1.2.2.1, z51.2.1.2.2.2.1, ()), ()))))
 (vc67_L11 ((z51.1.1, z51.1.2.1, (), z51.1.2.2.2.1, 0, ()), ((z51.2.1.1, z51.2.1.2.1, z51.2.1.2.2.1, z51.2.1.2.2.2.1, ()), ())) R))
 (vc67_L11 ((z51.1.1, z51.1.2.1, (), z51.1.2.2.2.1, 0, ()), ((z51.2.1.1, z51.2.1.2.1, z51.2.1.2.2.1, z51.2.1.2.2.2.1, ()), ())) R)
def vc67 (a0_0 : List AV) (a0_1 a0_2 : Int) (a0_3 : List AV) (a1 a2 : Int) (R : AV → Prop) : Prop :=
 ITE (decide (a2 ≤ 0))
 (R (nI (IntKind.wrap .i64 (a1 + 1))))
 (vc67_L5 ((a1, a2, (), 1, 0, ()), ((a0_0, a0_1, a0_2, a0_3, ()), ())) R)
theorem vc67_ok {a0_0 : List AV} {a0_1 a0_2 : Int} {a0_3 : List AV} {a1 a2 : Int} {R : AV → Prop} (h : vc67 a0_0 a0_1 a0_2 a0_3 a1 a2 R) : Pure Tryz.prog 67 [.agg [.sl a0_0, nI a0_1, nI a0_2, .sl a0_3], nI a1, nI a2] R :=
 pure_of_code (C := cfg (Func.ntmps Tryz.f67)) (cfg_tab _ _ _ _ _) (cfg_ord _ _ _ _ _) (L := [{ key := 5, live := [(1, none), (2, none), (3, none), (7, none), (8, none)] }, { key := 11, live := [(1, none), (2, none), (3, none), (7, none), (9, none)] }]) (fn := Tryz.f67) Tryz.func67 (by exact rfl) (by kernel_rfl) (by kernel_rfl) (by rfl) (of_eq (by kernel_rfl) h)
def vc29 (a0_0 : List AV) (a0_1 a0_2 : Int) (a0_3 : List AV) (a1 a2 : Int) (R : AV → Prop) : Prop :=
 ∃ (i1 : Int),
 PureIs Tryz.prog 67 [.agg [.sl a0_0, nI a0_1, nI a0_2, .sl a0_3], nI a1, nI a2] (nI i1) ∧
 R (nB (decide (i1 ≤ a1)))
theorem vc29_ok {a0_0 : List AV} {a0_1 a0_2 : Int} {a0_3 : List AV} {a1 a2 : Int} {R : AV → Prop} (h : vc29 a0_0 a0_1 a0_2 a0_3 a1 a2 R) : Pure Tryz.prog 29 [.agg [.sl a0_0, nI a0_1, nI a0_2, .sl a0_3], nI a1, nI a2] R :=
 pure_of_code (C := cfg (Func.ntmps Tryz.f29)) (cfg_tab _ _ _ _ _) (cfg_ord _ _ _ _ _) (L := []) (fn := Tryz.f29) Tryz.func29 (by exact rfl) (by kernel_rfl) (by kernel_rfl) (by rfl) (of_eq (by kernel_rfl) h)
def vc6_L2 (p0 : (List AV × Int × Unit) × (Unit)) (R : AV → Prop) : Prop :=
 LoopP _ p0 fun z51 ag52 =>
 ITE (decide (z51.1.2.1 < ((List.length z51.1.1 : Nat) : Int)))
 (0 ≤ z51.1.2.1 ∧
 z51.1.2.1 < List.length z51.1.1 ∧
 ∃ (l53 : List AV) (i54 i55 : Int) (l56 : List AV),
 List.getD z51.1.1 (Int.toNat z51.1.2.1) .top = .agg [.sl l53, nI i54, nI i55, .sl l56] ∧
 ∃ (b57 : Bool),
 PureIs Tryz.prog 29 [.agg [.sl l53, nI i54, nI i55, .sl l56], nI 150, nI 70] (nB b57) ∧
 ITE (!b57)
 (R (nB false))
 (ag52 ((z51.1.1, IntKind.wrap .i64 (z51.1.2.1 + 1), ()), ())))
 (R (nB true))
def vc6 (a0 : List AV) (R : AV → Prop) : Prop :=
 vc6_L2 ((a0, 0, ()), ()) R
theorem vc6_ok {a0 : List AV} {R : AV → Prop} (h : vc6 a0 R) : Pure Tryz.prog 6 [.sl a0] R :=
 pure_of_code (C := cfg (Func.ntmps Tryz.f6)) (cfg_tab _ _ _ _ _) (cfg_ord _ _ _ _ _) (L := [{ key := 2, live := [(0, none), (3, none)] }]) (fn := Tryz.f6) Tryz.func6 (by exact rfl) (by kernel_rfl) (by kernel_rfl) (by rfl) (of_eq (by kernel_rfl) h)
def vc32 (a0 : Int) (a1 : List AV) (R : AV → Prop) : Prop :=
 ∃ (l1 : List AV) (i2 : Int),
 PureIs Tryz.prog 69 [.agg [.sl a1, nI a0]] (.agg [.sl l1, nI i2]) ∧
 R (.agg [.sl l1, nI i2])
theorem vc32_ok {a0 : Int} {a1 : List AV} {R : AV → Prop} (h : vc32 a0 a1 R) : Pure Tryz.prog 32 [nI a0, .sl a1] R :=
 pure_of_code (C := cfg (Func.ntmps Tryz.f32)) (cfg_tab _ _ _ _ _) (cfg_ord _ _ _ _ _) (L := []) (fn := Tryz.f32) Tryz.func32 (by exact rfl) (by kernel_rfl) (by kernel_rfl) (by rfl) (of_eq (by kernel_rfl) h)
end Go.Proofs.YtghnkppcncbddaaGreatDoor
