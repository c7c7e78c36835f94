/- Texts of ours laid together for a claim: Vc2. -/
import Derived.Test.YtghlgbhldnkdmaaGreatQ32
namespace Go.Proofs.YtghlgbhldnkdmaaGreat
open Go
set_option linter.unusedSimpArgs false
set_option linter.unusedVariables false
set_option maxRecDepth 100000
def vc45 (a0 a1 : List AV) (R : AV → Prop) : Prop :=
 appOk td26 (List.length a0) [] a0 ∧
 List.length a0 = List.length a0 ∧
 appOk td26 (List.length (a0 ++ a1)) [] a1 ∧
 List.length (a0 ++ a1) = List.length (a0 ++ a1) ∧
 R (.sl (a0 ++ a1))
theorem vc45_ok {a0 a1 : List AV} {R : AV → Prop} (h : vc45 a0 a1 R) : Pure Tryz.prog 45 [.sl a0, .sl a1] R :=
 pure_of_code (C := cfg (Func.ntmps Tryz.f45)) (cfg_tab _ _ _ _ _) (cfg_ord _ _ _ _ _) (L := []) (fn := Tryz.f45) Tryz.func45 (by exact rfl) (by kernel_rfl) (by kernel_rfl) (by rfl) (of_eq (by kernel_rfl) h)
def vc50_L3 (p0 : (Unit × Unit × Unit × Int × Unit) × ((List AV × Int × Unit) × (Unit × Int × Unit) × (Unit × Int × Unit) × List AV × Unit)) (R : AV → Prop) : Prop :=
 LoopP _ p0 fun z51 ag52 =>
 ITE (decide (z51.1.2.2.2.1 < ((List.length z51.2.1.1 : Nat) : Int)))
 (0 ≤ z51.1.2.2.2.1 ∧
 z51.1.2.2.2.1 < List.length z51.2.1.1 ∧
 ∃ (l53 : List AV) (i54 : Int),
 List.getD z51.2.1.1 (Int.toNat z51.1.2.2.2.1) .top = .agg [.sl l53, nI i54] ∧
 ∃ (l55 : List AV) (i56 : Int),
 PureIs Tryz.prog 50 [.agg [.sl l53, nI i54]] (.agg [.sl l55, nI i56]) ∧
 List.length z51.2.2.2.2.1 = List.length z51.2.2.2.2.1 ∧
 appOk td39 (List.length (z51.2.2.2.2.1 ++ [.agg [.sl l55, nI i56]])) [] [.agg [.sl l55, nI i56]] ∧
 List.length (z51.2.2.2.2.1 ++ [.agg [.sl l55, nI i56]]) = List.length (z51.2.2.2.2.1 ++ [.agg [.sl l55, nI i56]]) ∧
 ag52 (((), (), (), IntKind.wrap .i64 (z51.1.2.2.2.1 + 1), ()), ((z51.2.1.1, z51.2.1.2.1, ()), ((), z51.2.2.1.2.1, ()), ((), z51.2.2.2.1.2.1, ()), z51.2.2.2.2.1 ++ [.agg [.sl l55, nI i56]], ())))
 (List.length z51.2.2.2.2.1 = List.length z51.2.2.2.2.1 ∧
 R (.agg [.sl z51.2.2.2.2.1, nI z51.2.2.2.1.2.1]))
def vc50 (a0_0 : List AV) (a0_1 : Int) (R : AV → Prop) : Prop :=
 0 = List.length ([] : List AV) ∧
 vc50_L3 (((), (), (), 0, ()), ((a0_0, a0_1, ()), ((), 0, ()), ((), a0_1, ()), [], ())) R
theorem vc50_ok {a0_0 : List AV} {a0_1 : Int} {R : AV → Prop} (h : vc50 a0_0 a0_1 R) : Pure Tryz.prog 50 [.agg [.sl a0_0, nI a0_1]] R :=
 pure_of_code (C := cfg (Func.ntmps Tryz.f50)) (cfg_tab _ _ _ _ _) (cfg_ord _ _ _ _ _) (L := [{ key := 3, live := [(1, none), (2, none), (3, none), (4, none)], brows := [(2, 0, 39)] }]) (fn := Tryz.f50) Tryz.func50 (by exact rfl) (by kernel_rfl) (by kernel_rfl) (by rfl) (of_eq (by kernel_rfl) h)
def vc12_L3 (p0 : (List AV × Unit × Int × Unit) × (List AV × Unit)) (R : AV → Prop) : Prop :=
 LoopP _ p0 fun z51 ag52 =>
 ITE (decide (z51.1.2.2.1 < ((List.length z51.1.1 : Nat) : Int)))
 (0 ≤ z51.1.2.2.1 ∧
 z51.1.2.2.1 < List.length z51.1.1 ∧
 ∃ (l53 : List AV) (i54 : Int),
 List.getD z51.1.1 (Int.toNat z51.1.2.2.1) .top = .agg [.sl l53, nI i54] ∧
 ∃ (l55 : List AV) (i56 : Int),
 PureIs Tryz.prog 50 [.agg [.sl l53, nI i54]] (.agg [.sl l55, nI i56]) ∧
 List.length z51.2.1 = List.length z51.2.1 ∧
 appOk td39 (List.length (z51.2.1 ++ [.agg [.sl l55, nI i56]])) [] [.agg [.sl l55, nI i56]] ∧
 List.length (z51.2.1 ++ [.agg [.sl l55, nI i56]]) = List.length (z51.2.1 ++ [.agg [.sl l55, nI i56]]) ∧
 ag52 ((z51.1.1, (), IntKind.wrap .i64 (z51.1.2.2.1 + 1), ()), (z51.2.1 ++ [.agg [.sl l55, nI i56]], ())))
 (List.length z51.2.1 = List.length z51.2.1 ∧
 R (.sl z51.2.1))
def vc12 (a0 : List AV) (R : AV → Prop) : Prop :=
 0 = List.length ([] : List AV) ∧
 vc12_L3 ((a0, (), 0, ()), ([], ())) R
theorem vc12_ok {a0 : List AV} {R : AV → Prop} (h : vc12 a0 R) : Pure Tryz.prog 12 [.sl a0] R :=
 pure_of_code (C := cfg (Func.ntmps Tryz.f12)) (cfg_tab _ _ _ _ _) (cfg_ord _ _ _ _ _) (L := [{ key := 3, live := [(0, none), (3, none), (4, none)], rows := [(3, 39)] }]) (fn := Tryz.f12) Tryz.func12 (by exact rfl) (by kernel_rfl) (by kernel_rfl) (by rfl) (of_eq (by kernel_rfl) h)
def vc28_L3 (p0 : (Unit × Unit × Unit × Int × Unit) × ((List AV × Int × Int × List AV × Unit) × (Unit × Int × Int × Unit × Unit) × (List AV × Int × Int × Unit × Unit) × List AV × Unit)) (R : AV → Prop) : Prop :=
 LoopP _ p0 fun z51 ag52 =>
 ITE (decide (z51.1.2.2.2.1 < ((List.length z51.2.1.2.2.2.1 : Nat) : Int)))
 (0 ≤ z51.1.2.2.2.1 ∧
 z51.1.2.2.2.1 < List.length z51.2.1.2.2.2.1 ∧
 ∃ (l53 : List AV) (i54 i55 : Int) (l56 : List AV),
 List.getD z51.2.1.2.2.2.1 (Int.toNat z51.1.2.2.2.1) .top = .agg [.sl l53, nI i54, nI i55, .sl l56] ∧
 ∃ (l57 : List AV) (i58 i59 : Int) (l60 : List AV),
 PureIs Tryz.prog 28 [.agg [.sl l53, nI i54, nI i55, .sl l56]] (.agg [.sl l57, nI i58, nI i59, .sl l60]) ∧
 List.length z51.2.2.2.2.1 = List.length z51.2.2.2.2.1 ∧
 appOk td51 (List.length (z51.2.2.2.2.1 ++ [.agg [.sl l57, nI i58, nI i59, .sl l60]])) [] [.agg [.sl l57, nI i58, nI i59, .sl l60]] ∧
 List.length (z51.2.2.2.2.1 ++ [.agg [.sl l57, nI i58, nI i59, .sl l60]]) = List.length (z51.2.2.2.2.1 ++ [.agg [.sl l57, nI i58, nI i59, .sl l60]]) ∧
 ag52 (((), (), (), IntKind.wrap .i64 (z51.1.2.2.2.1 + 1), ()), ((z51.2.1.1, z51.2.1.2.1, z51.2.1.2.2.1, z51.2.1.2.2.2.1, ()), ((), z51.2.2.1.2.1, z51.2.2.1.2.2.1, (), ()), (z51.2.2.2.1.1, z51.2.2.2.1.2.1, z51.2.2.2.1.2.2.1, (), ()), z51.2.2.2.2.1 ++ [.agg [.sl l57, nI i58, nI i59, .sl l60]], ())))
 (List.length z51.2.2.2.2.1 = List.length z51.2.2.2.2.1 ∧
 R (.agg [.sl z51.2.2.2.1.1, nI z51.2.2.2.1.2.1, nI z51.2.2.2.1.2.2.1, .sl z51.2.2.2.2.1]))
def vc28 (a0_0 : List AV) (a0_1 a0_2 : Int) (a0_3 : List AV) (R : AV → Prop) : Prop :=
 ∃ (l1 : List AV),
 PureIs Tryz.prog 12 [.sl a0_0] (.sl l1) ∧
 0 = List.length ([] : List AV) ∧
 vc28_L3 (((), (), (), 0, ()), ((a0_0, a0_1, a0_2, a0_3, ()), ((), 0, 0, (), ()), (l1, a0_1, a0_2, (), ()), [], ())) R
theorem vc28_ok {a0_0 : List AV} {a0_1 a0_2 : Int} {a0_3 : List AV} {R : AV → Prop} (h : vc28 a0_0 a0_1 a0_2 a0_3 R) : Pure Tryz.prog 28 [.agg [.sl a0_0, nI a0_1, nI a0_2, .sl a0_3]] R :=
 pure_of_code (C := cfg (Func.ntmps Tryz.f28) [(1, [none, none, none, none, none, none, none, none, none, none, none, some [], none], [none, some [], some [], none, none, some [], none, none, some [], none, none, none, none])]) (cfg_tab _ _ _ _ _) (cfg_ord _ _ _ _ _) (L := [{ key := 3, live := [(1, none), (2, none), (3, none), (4, none)], brows := [(2, 3, 51)] }]) (fn := Tryz.f28) Tryz.func28 (by exact rfl) (by kernel_rfl) (by kernel_rfl) (by rfl) (of_eq (by kernel_rfl) h)
def vc109_L3 (p0 : (Unit × Int × Int × Unit) × ((List AV × Int × Unit) × Unit)) (R : AV → Prop) : Prop :=
 LoopP _ p0 fun z51 ag52 =>
 ITE (decide (z51.1.2.2.1 < ((List.length z51.2.1.1 : Nat) : Int)))
 (0 ≤ z51.1.2.2.1 ∧
 z51.1.2.2.1 < List.length z51.2.1.1 ∧
 ∃ (l53 : List AV) (i54 : Int),
 List.getD z51.2.1.1 (Int.toNat z51.1.2.2.1) .top = .agg [.sl l53, nI i54] ∧
 ∃ (i55 : Int),
 PureIs Tryz.prog 109 [.agg [.sl l53, nI i54]] (nI i55) ∧
 ag52 (((), IntKind.wrap .i64 (z51.1.2.1 + i55), IntKind.wrap .i64 (z51.1.2.2.1 + 1), ()), ((z51.2.1.1, z51.2.1.2.1, ()), ())))
 (R (nI z51.1.2.1))
def vc109 (a0_0 : List AV) (a0_1 : Int) (R : AV → Prop) : Prop :=
 vc109_L3 (((), 1, 0, ()), ((a0_0, a0_1, ()), ())) R
theorem vc109_ok {a0_0 : List AV} {a0_1 : Int} {R : AV → Prop} (h : vc109 a0_0 a0_1 R) : Pure Tryz.prog 109 [.agg [.sl a0_0, nI a0_1]] R :=
 pure_of_code (C := cfg (Func.ntmps Tryz.f109)) (cfg_tab _ _ _ _ _) (cfg_ord _ _ _ _ _) (L := [{ key := 3, live := [(1, none), (3, none), (4, none)] }]) (fn := Tryz.f109) Tryz.func109 (by exact rfl) (by kernel_rfl) (by kernel_rfl) (by rfl) (of_eq (by kernel_rfl) h)
def vc98_L5 (p0 : (Int × Int × Unit × Int × Int × Unit) × ((List AV × Int × Unit) × Unit)) (R : AV → Prop) : Prop :=
 LoopP _ p0 fun z51 ag52 =>
 ITE (decide (z51.1.2.2.2.2.1 < ((List.length z51.2.1.1 : Nat) : Int)))
 (ITE (decide (z51.1.2.2.2.1 ≤ z51.1.1))
 (0 ≤ z51.1.2.2.2.2.1 ∧
 z51.1.2.2.2.2.1 < List.length z51.2.1.1 ∧
 ∃ (l53 : List AV) (i54 : Int),
 List.getD z51.2.1.1 (Int.toNat z51.1.2.2.2.2.1) .top = .agg [.sl l53, nI i54] ∧
 ∃ (i55 : Int),
 PureIs Tryz.prog 98 [.agg [.sl l53, nI i54], nI z51.1.1, nI (IntKind.wrap .i64 (z51.1.2.1 - 1))] (nI i55) ∧
 ag52 ((z51.1.1, z51.1.2.1, (), IntKind.wrap .i64 (z51.1.2.2.2.1 + i55), IntKind.wrap .i64 (z51.1.2.2.2.2.1 + 1), ()), ((z51.2.1.1, z51.2.1.2.1, ()), ())))
 (R (nI z51.1.2.2.2.1)))
 (R (nI z51.1.2.2.2.1))
def vc98 (a0_0 : List AV) (a0_1 a1 a2 : Int) (R : AV → Prop) : Prop :=
 ITE (decide (a2 ≤ 0))
 (R (nI (IntKind.wrap .i64 (a1 + 1))))
 (vc98_L5 ((a1, a2, (), 1, 0, ()), ((a0_0, a0_1, ()), ())) R)
theorem vc98_ok {a0_0 : List AV} {a0_1 a1 a2 : Int} {R : AV → Prop} (h : vc98 a0_0 a0_1 a1 a2 R) : Pure Tryz.prog 98 [.agg [.sl a0_0, nI a0_1], nI a1, nI a2] R :=
 pure_of_code (C := cfg (Func.ntmps Tryz.f98)) (cfg_tab _ _ _ _ _) (cfg_ord _ _ _ _ _) (L := [{ key := 5, live := [(1, none), (2, none), (3, none), (7, none), (8, none)] }]) (fn := Tryz.f98) Tryz.func98 (by exact rfl) (by kernel_rfl) (by kernel_rfl) (by rfl) (of_eq (by kernel_rfl) h)
def vc46 (a0_0 : List AV) (a0_1 a1 a2 : Int) (R : AV → Prop) : Prop :=
 ∃ (i1 : Int),
 PureIs Tryz.prog 98 [.agg [.sl a0_0, nI a0_1], nI a1, nI a2] (nI i1) ∧
 R (nB (decide (i1 ≤ a1)))
theorem vc46_ok {a0_0 : List AV} {a0_1 a1 a2 : Int} {R : AV → Prop} (h : vc46 a0_0 a0_1 a1 a2 R) : Pure Tryz.prog 46 [.agg [.sl a0_0, nI a0_1], nI a1, nI a2] R :=
 pure_of_code (C := cfg (Func.ntmps Tryz.f46)) (cfg_tab _ _ _ _ _) (cfg_ord _ _ _ _ _) (L := []) (fn := Tryz.f46) Tryz.func46 (by exact rfl) (by kernel_rfl) (by kernel_rfl) (by rfl) (of_eq (by kernel_rfl) h)
def vc63_L11 (p0 : (Int × Int × Unit × Int × Int × Unit) × ((List AV × Int × Int × List AV × Unit) × Unit)) (R : AV → Prop) : Prop :=
 LoopP _ p0 fun z51 ag52 =>
 ITE (decide (z51.1.2.2.2.2.1 < ((List.length z51.2.1.2.2.2.1 : Nat) : Int)))
 (ITE (decide (z51.1.2.2.2.1 ≤ z51.1.1))
 (0 ≤ z51.1.2.2.2.2.1 ∧
 z51.1.2.2.2.2.1 < List.length z51.2.1.2.2.2.1 ∧
 ∃ (l53 : List AV) (i54 i55 : Int) (l56 : List AV),
 List.getD z51.2.1.2.2.2.1 (Int.toNat z51.1.2.2.2.2.1) .top = .agg [.sl l53, nI i54, nI i55, .sl l56] ∧
 ∃ (i57 : Int),
 PureIs Tryz.prog 63 [.agg [.sl l53, nI i54, nI i55, .sl l56], nI z51.1.1, nI (IntKind.wrap .i64 (z51.1.2.1 - 1))] (nI i57) ∧
 ag52 ((z51.1.1, z51.1.2.1, (), IntKind.wrap .i64 (z51.1.2.2.2.1 + i57), IntKind.wrap .i64 (z51.1.2.2.2.2.1 + 1), ()), ((z51.2.1.1, z51.2.1.2.1, z51.2.1.2.2.1, z51.2.1.2.2.2.1, ()), ())))
 (R (nI z51.1.2.2.2.1)))
 (R (nI z51.1.2.2.2.1))
def vc63_L5 (p0 : (Int × Int × Unit × Int × Int × Unit) × ((List AV × Int × Int × List AV × Unit) × Unit)) (R : AV → Prop) : Prop :=
 LoopP _ p0 fun z51 ag52 =>
 ITE (decide (z51.1.2.2.2.2.1 < ((List.length z51.2.1.1 : Nat) : Int)))
 (ITE (decide (z51.1.2.2.2.1 ≤ z51.1.1))
 (0 ≤ z51.1.2.2.2.2.1 ∧
 z51.1.2.2.2.2.1 < List.length z51.2.1.1 ∧
 ∃ (l53 : List AV) (i54 : Int),
 List.getD z51.2.1.1 (Int.toNat z51.1.2.2.2.2.1) .top = .agg [.sl l53, nI i54] ∧
 ∃ (b55 : Bool),
 PureIs Tryz.prog 46 [.agg [.sl l53, nI i54], nI z51.1.1, nI z51.1.2.1] (nB b55) ∧
 ITE (!b55)
 (R (nI (IntKind.wrap .i64 (z51.1.1 + 1))))
 (0 ≤ z51.1.2.2.2.2.1 ∧
 z51.1.2.2.2.2.1 < List.length z51.2.1.1 ∧
 ∃ (l56 : List AV) (i57 : Int),
 List.getD z51.2.1.1 (Int.toNat z51.1.2.2.2.2.1) .top = .agg [.sl l56, nI i57] ∧
 ∃ (i58 : Int),
 PureIs Tryz.prog 109 [.agg [.sl l56, nI i57]] (nI i58) ∧
 ag52 ((z51.1.1, z51.1.2.1, (), IntKind.wrap .i64 (z51.1.2.2.2.1 + i58), IntKind.wrap .i64 (z51.1.2.2.2.2.1 + 1), ()), ((z51.2.1.1, z51.2.1.2.1, z51.2.1.2.2.1, z51.2.1.2.2.2.1, ()), ()))))
 (vc63_L11 ((z51.1.1, z51.1.2.1, (), z51.1.2.2.2.1, 0, ()), ((z51.2.1.1, z51.2.1.2.1, z51.2.1.2.2.1, z51.2.1.2.2.2.1, ()), ())) R))
 (vc63_L11 ((z51.1.1, z51.1.2.1, (), z51.1.2.2.2.1, 0, ()), ((z51.2.1.1, z51.2.1.2.1, z51.2.1.2.2.1, z51.2.1.2.2.2.1, ()), ())) R)
def vc63 (a0_0 : List AV) (a0_1 a0_2 : Int) (a0_3 : List AV) (a1 a2 : Int) (R : AV → Prop) : Prop :=
 ITE (decide (a2 ≤ 0))
 (R (nI (IntKind.wrap .i64 (a1 + 1))))
 (vc63_L5 ((a1, a2, (), 1, 0, ()), ((a0_0, a0_1, a0_2, a0_3, ()), ())) R)
theorem vc63_ok {a0_0 : List AV} {a0_1 a0_2 : Int} {a0_3 : List AV} {a1 a2 : Int} {R : AV → Prop} (h : vc63 a0_0 a0_1 a0_2 a0_3 a1 a2 R) : Pure Tryz.prog 63 [.agg [.sl a0_0, nI a0_1, nI a0_2, .sl a0_3], nI a1, nI a2] R :=
 pure_of_code (C := cfg (Func.ntmps Tryz.f63)) (cfg_tab _ _ _ _ _) (cfg_ord _ _ _ _ _) (L := [{ key := 5, live := [(1, none), (2, none), (3, none), (7, none), (8, none)] }, { key := 11, live := [(1, none), (2, none), (3, none), (7, none), (9, none)] }]) (fn := Tryz.f63) Tryz.func63 (by exact rfl) (by kernel_rfl) (by kernel_rfl) (by rfl) (of_eq (by kernel_rfl) h)
def vc26 (a0_0 : List AV) (a0_1 a0_2 : Int) (a0_3 : List AV) (a1 a2 : Int) (R : AV → Prop) : Prop :=
 ∃ (i1 : Int),
 PureIs Tryz.prog 63 [.agg [.sl a0_0, nI a0_1, nI a0_2, .sl a0_3], nI a1, nI a2] (nI i1) ∧
 R (nB (decide (i1 ≤ a1)))
theorem vc26_ok {a0_0 : List AV} {a0_1 a0_2 : Int} {a0_3 : List AV} {a1 a2 : Int} {R : AV → Prop} (h : vc26 a0_0 a0_1 a0_2 a0_3 a1 a2 R) : Pure Tryz.prog 26 [.agg [.sl a0_0, nI a0_1, nI a0_2, .sl a0_3], nI a1, nI a2] R :=
 pure_of_code (C := cfg (Func.ntmps Tryz.f26)) (cfg_tab _ _ _ _ _) (cfg_ord _ _ _ _ _) (L := []) (fn := Tryz.f26) Tryz.func26 (by exact rfl) (by kernel_rfl) (by kernel_rfl) (by rfl) (of_eq (by kernel_rfl) h)
def vc9_L5 (p0 : (List AV × Int × Unit) × ((Int × List AV × List AV × Unit) × Unit)) (R : AV → Prop) : Prop :=
 LoopP _ p0 fun z51 ag52 =>
 ITE (decide (z51.1.2.1 < ((List.length z51.1.1 : Nat) : Int)))
 (0 ≤ z51.1.2.1 ∧
 z51.1.2.1 < List.length z51.1.1 ∧
 ∃ (l53 : List AV) (i54 : Int),
 List.getD z51.1.1 (Int.toNat z51.1.2.1) .top = .agg [.sl l53, nI i54] ∧
 ∃ (b55 : Bool),
 PureIs Tryz.prog 46 [.agg [.sl l53, nI i54], nI 60, nI 60] (nB b55) ∧
 ITE (!b55)
 (R (nB false))
 (ag52 ((z51.1.1, IntKind.wrap .i64 (z51.1.2.1 + 1), ()), ((z51.2.1.1, z51.2.1.2.1, z51.2.1.2.2.1, ()), ()))))
 (R (nB true))
def vc9 (a0_0 : Int) (a0_1 a0_2 a1 : List AV) (R : AV → Prop) : Prop :=
 ITE (decide (((List.length a0_1 : Nat) : Int) > 20))
 (R (nB false))
 (ITE (decide (((List.length a0_2 : Nat) : Int) > 20))
 (R (nB false))
 (ITE (decide (((List.length a1 : Nat) : Int) > 20))
 (R (nB false))
 (∃ (l1 : List AV),
 PureIs Tryz.prog 45 [.sl a0_1, .sl a0_2] (.sl l1) ∧
 ∃ (l2 : List AV),
 PureIs Tryz.prog 45 [.sl l1, .sl a1] (.sl l2) ∧
 vc9_L5 ((l2, 0, ()), ((a0_0, a0_1, a0_2, ()), ())) R)))
theorem vc9_ok {a0_0 : Int} {a0_1 a0_2 a1 : List AV} {R : AV → Prop} (h : vc9 a0_0 a0_1 a0_2 a1 R) : Pure Tryz.prog 9 [.agg [nI a0_0, .sl a0_1, .sl a0_2], .sl a1] R :=
 pure_of_code (C := cfg (Func.ntmps Tryz.f9)) (cfg_tab _ _ _ _ _) (cfg_ord _ _ _ _ _) (L := [{ key := 5, live := [(5, none), (6, none)] }]) (fn := Tryz.f9) Tryz.func9 (by exact rfl) (by kernel_rfl) (by kernel_rfl) (by rfl) (of_eq (by kernel_rfl) h)
def vc145_L6 (p0 : (Unit × Unit × Int × Unit × Int × Unit) × ((Int × Int × Unit) × (List AV × Int × Unit) × (Unit × Int × Int × Unit × Unit) × (List AV × Int × Int × Unit × Unit) × List AV × Unit)) (R : AV → Prop) : Prop :=
 LoopP _ p0 fun z51 ag52 =>
 ITE (decide (z51.1.2.2.2.2.1 < z51.1.2.2.1))
 (0 ≤ z51.1.2.2.2.2.1 ∧
 z51.1.2.2.2.2.1 < List.length z51.2.2.1.1 ∧
 ∃ (l53 : List AV) (i54 : Int),
 List.getD z51.2.2.1.1 (Int.toNat z51.1.2.2.2.2.1) .top = .agg [.sl l53, nI i54] ∧
 ∃ (l55 : List AV) (i56 i57 : Int) (l58 : List AV),
 PureIs Tryz.prog 145 [.agg [nI 0, nI (IntKind.wrap .i64 ((IntKind.wrap .i64 (z51.1.2.2.1 - 1)) - z51.1.2.2.2.2.1))], .agg [.sl l53, nI i54]] (.agg [.sl l55, nI i56, nI i57, .sl l58]) ∧
 List.length z51.2.2.2.2.2.1 = List.length z51.2.2.2.2.2.1 ∧
 appOk td58 (List.length (z51.2.2.2.2.2.1 ++ [.agg [.sl l55, nI i56, nI i57, .sl l58]])) [] [.agg [.sl l55, nI i56, nI i57, .sl l58]] ∧
 List.length (z51.2.2.2.2.2.1 ++ [.agg [.sl l55, nI i56, nI i57, .sl l58]]) = List.length (z51.2.2.2.2.2.1 ++ [.agg [.sl l55, nI i56, nI i57, .sl l58]]) ∧
 ag52 (((), (), z51.1.2.2.1, (), IntKind.wrap .i64 (z51.1.2.2.2.2.1 + 1), ()), ((z51.2.1.1, z51.2.1.2.1, ()), (z51.2.2.1.1, z51.2.2.1.2.1, ()), ((), z51.2.2.2.1.2.1, z51.2.2.2.1.2.2.1, (), ()), (z51.2.2.2.2.1.1, z51.2.2.2.2.1.2.1, z51.2.2.2.2.1.2.2.1, (), ()), z51.2.2.2.2.2.1 ++ [.agg [.sl l55, nI i56, nI i57, .sl l58]], ())))
 (List.length z51.2.2.2.2.2.1 = List.length z51.2.2.2.2.2.1 ∧
 R (.agg [.sl z51.2.2.2.2.1.1, nI z51.2.2.2.2.1.2.1, nI z51.2.2.2.2.1.2.2.1, .sl z51.2.2.2.2.2.1]))
def vc145 (a0_0 a0_1 : Int) (a1_0 : List AV) (a1_1 : Int) (R : AV → Prop) : Prop :=
 ITE (a0_0 == 0)
 (0 = List.length ([] : List AV) ∧
 vc145_L6 (((), (), ((List.length a1_0 : Nat) : Int), (), 0, ()), ((a0_0, a0_1, ()), (a1_0, a1_1, ()), ((), 0, 0, (), ()), (a1_0, a0_0, IntKind.wrap .i64 (a0_1 + ((List.length a1_0 : Nat) : Int)), (), ()), [], ())) R)
 (0 = List.length ([] : List AV) ∧
 vc145_L6 (((), (), ((List.length a1_0 : Nat) : Int), (), 0, ()), ((a0_0, a0_1, ()), (a1_0, a1_1, ()), ((), 0, 0, (), ()), (a1_0, a0_0, a0_1, (), ()), [], ())) R)
theorem vc145_ok {a0_0 a0_1 : Int} {a1_0 : List AV} {a1_1 : Int} {R : AV → Prop} (h : vc145 a0_0 a0_1 a1_0 a1_1 R) : Pure Tryz.prog 145 [.agg [nI a0_0, nI a0_1], .agg [.sl a1_0, nI a1_1]] R :=
 pure_of_code (C := cfg (Func.ntmps Tryz.f145)) (cfg_tab _ _ _ _ _) (cfg_ord _ _ _ _ _) (L := [{ key := 6, live := [(3, none), (4, none), (5, none), (6, none), (7, none)], brows := [(3, 3, 58)] }]) (fn := Tryz.f145) Tryz.func145 (by exact rfl) (by kernel_rfl) (by kernel_rfl) (by rfl) (of_eq (by kernel_rfl) h)
def vc47 (a0 : Int) (a1 : List AV) (R : AV → Prop) : Prop :=
 ∃ (l1 : List AV) (i2 : Int),
 PureIs Tryz.prog 99 [.agg [.sl a1, nI a0]] (.agg [.sl l1, nI i2]) ∧
 R (.agg [.sl l1, nI i2])
theorem vc47_ok {a0 : Int} {a1 : List AV} {R : AV → Prop} (h : vc47 a0 a1 R) : Pure Tryz.prog 47 [nI a0, .sl a1] R :=
 pure_of_code (C := cfg (Func.ntmps Tryz.f47)) (cfg_tab _ _ _ _ _) (cfg_ord _ _ _ _ _) (L := []) (fn := Tryz.f47) Tryz.func47 (by exact rfl) (by kernel_rfl) (by kernel_rfl) (by rfl) (of_eq (by kernel_rfl) h)
end Go.Proofs.YtghlgbhldnkdmaaGreat
