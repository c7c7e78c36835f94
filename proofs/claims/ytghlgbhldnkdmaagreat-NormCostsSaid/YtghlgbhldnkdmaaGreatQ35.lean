/- Texts of ours laid together for a claim: Vc2. -/
import Derived.Test.YtghlgbhldnkdmaaGreatQ34
namespace Go.Proofs.YtghlgbhldnkdmaaGreat
open Go
set_option linter.unusedSimpArgs false
set_option linter.unusedVariables false
set_option maxRecDepth 100000
def vc45 (a0 a1 : List AV) (R : AV → Prop) : Prop :=
 appOk td26 (List.length a0) [] a0 ∧
 List.length a0 = List.length a0 ∧
 appOk td26 (List.length (a0 ++ a1)) [] a1 ∧
 List.length (a0 ++ a1) = List.length (a0 ++ a1) ∧
 R (.sl (a0 ++ a1))
theorem vc45_ok {a0 a1 : List AV} {R : AV → Prop} (h : vc45 a0 a1 R) : Pure Tryz.prog 45 [.sl a0, .sl a1] R :=
 pure_of_code (C := cfg (Func.ntmps Tryz.f45)) (cfg_tab _ _ _ _ _) (cfg_ord _ _ _ _ _) (L := []) (fn := Tryz.f45) Tryz.func45 (by exact rfl) (by kernel_rfl) (by kernel_rfl) (by rfl) (of_eq (by kernel_rfl) h)
def vc50_L3 (p0 : (Unit × Unit × Unit × Int × Unit) × ((List AV × Int × Unit) × (Unit × Int × Unit) × (Unit × Int × Unit) × List AV × Unit)) (R : AV → Prop) : Prop :=
 LoopP _ p0 fun z51 ag52 =>
 ITE (decide (z51.1.2.2.2.1 < ((List.length z51.2.1.1 : Nat) : Int)))
 (0 ≤ z51.1.2.2.2.1 ∧
 z51.1.2.2.2.1 < List.length z51.2.1.1 ∧
 ∃ (l53 : List AV) (i54 : Int),
 List.getD z51.2.1.1 (Int.toNat z51.1.2.2.2.1) .top = .agg [.sl l53, nI i54] ∧
 ∃ (l55 : List AV) (i56 : Int),
 PureIs Tryz.prog 50 [.agg [.sl l53, nI i54]] (.agg [.sl l55, nI i56]) ∧
 List.length z51.2.2.2.2.1 = List.length z51.2.2.2.2.1 ∧
 appOk td39 (List.length (z51.2.2.2.2.1 ++ [.agg [.sl l55, nI i56]])) [] [.agg [.sl l55, nI i56]] ∧
 List.length (z51.2.2.2.2.1 ++ [.agg [.sl l55, nI i56]]) = List.length (z51.2.2.2.2.1 ++ [.agg [.sl l55, nI i56]]) ∧
 ag52 (((), (), (), IntKind.wrap .i64 (z51.1.2.2.2.1 + 1), ()), ((z51.2.1.1, z51.2.1.2.1, ()), ((), z51.2.2.1.2.1, ()), ((), z51.2.2.2.1.2.1, ()), z51.2.2.2.2.1 ++ [.agg [.sl l55, nI i56]], ())))
 (List.length z51.2.2.2.2.1 = List.length z51.2.2.2.2.1 ∧
 R (.agg [.sl z51.2.2.2.2.1, nI z51.2.2.2.1.2.1]))
def vc50 (a0_0 : List AV) (a0_1 : Int) (R : AV → Prop) : Prop :=
 0 = List.length ([] : List AV) ∧
 vc50_L3 (((), (), (), 0, ()), ((a0_0, a0_1, ()), ((), 0, ()), ((), a0_1, ()), [], ())) R
theorem vc50_ok {a0_0 : List AV} {a0_1 : Int} {R : AV → Prop} (h : vc50 a0_0 a0_1 R) : Pure Tryz.prog 50 [.agg [.sl a0_0, nI a0_1]] R :=
 pure_of_code (C := cfg (Func.ntmps Tryz.f50)) (cfg_tab _ _ _ _ _) (cfg_ord _ _ _ _ _) (L := [{ key := 3, live := [(1, none), (2, none), (3, none), (4, none)], brows := [(2, 0, 39)] }]) (fn := Tryz.f50) Tryz.func50 (by exact rfl) (by kernel_rfl) (by kernel_rfl) (by rfl) (of_eq (by kernel_rfl) h)
def vc12_L3 (p0 : (List AV × Unit × Int × Unit) × (List AV × Unit)) (R : AV → Prop) : Prop :=
 LoopP _ p0 fun z51 ag52 =>
 ITE (decide (z51.1.2.2.1 < ((List.length z51.1.1 : Nat) : Int)))
 (0 ≤ z51.1.2.2.1 ∧
 z51.1.2.2.1 < List.length z51.1.1 ∧
 ∃ (l53 : List AV) (i54 : Int),
 List.getD z51.1.1 (Int.toNat z51.1.2.2.1) .top = .agg [.sl l53, nI i54] ∧
 ∃ (l55 : List AV) (i56 : Int),
 PureIs Tryz.prog 50 [.agg [.sl l53, nI i54]] (.agg [.sl l55, nI i56]) ∧
 List.length z51.2.1 = List.length z51.2.1 ∧
 appOk td39 (List.length (z51.2.1 ++ [.agg [.sl l55, nI i56]])) [] [.agg [.sl l55, nI i56]] ∧
 List.length (z51.2.1 ++ [.agg [.sl l55, nI i56]]) = List.length (z51.2.1 ++ [.agg [.sl l55, nI i56]]) ∧
 ag52 ((z51.1.1, (), IntKind.wrap .i64 (z51.1.2.2.1 + 1), ()), (z51.2.1 ++ [.agg [.sl l55, nI i56]], ())))
 (List.length z51.2.1 = List.length z51.2.1 ∧
 R (.sl z51.2.1))
def vc12 (a0 : List AV) (R : AV → Prop) : Prop :=
 0 = List.length ([] : List AV) ∧
 vc12_L3 ((a0, (), 0, ()), ([], ())) R
theorem vc12_ok {a0 : List AV} {R : AV → Prop} (h : vc12 a0 R) : Pure Tryz.prog 12 [.sl a0] R :=
 pure_of_code (C := cfg (Func.ntmps Tryz.f12)) (cfg_tab _ _ _ _ _) (cfg_ord _ _ _ _ _) (L := [{ key := 3, live := [(0, none), (3, none), (4, none)], rows := [(3, 39)] }]) (fn := Tryz.f12) Tryz.func12 (by exact rfl) (by kernel_rfl) (by kernel_rfl) (by rfl) (of_eq (by kernel_rfl) h)
def vc28_L3 (p0 : (Unit × Unit × Unit × Int × Unit) × ((List AV × Int × Int × List AV × Unit) × (Unit × Int × Int × Unit × Unit) × (List AV × Int × Int × Unit × Unit) × List AV × Unit)) (R : AV → Prop) : Prop :=
 LoopP _ p0 fun z51 ag52 =>
 ITE (decide (z51.1.2.2.2.1 < ((List.length z51.2.1.2.2.2.1 : Nat) : Int)))
 (0 ≤ z51.1.2.2.2.1 ∧
 z51.1.2.2.2.1 < List.length z51.2.1.2.2.2.1 ∧
 ∃ (l53 : List AV) (i54 i55 : Int) (l56 : List AV),
 List.getD z51.2.1.2.2.2.1 (Int.toNat z51.1.2.2.2.1) .top = .agg [.sl l53, nI i54, nI i55, .sl l56] ∧
 ∃ (l57 : List AV) (i58 i59 : Int) (l60 : List AV),
 PureIs Tryz.prog 28 [.agg [.sl l53, nI i54, nI i55, .sl l56]] (.agg [.sl l57, nI i58, nI i59, .sl l60]) ∧
 List.length z51.2.2.2.2.1 = List.length z51.2.2.2.2.1 ∧
 appOk td51 (List.length (z51.2.2.2.2.1 ++ [.agg [.sl l57, nI i58, nI i59, .sl l60]])) [] [.agg [.sl l57, nI i58, nI i59, .sl l60]] ∧
 List.length (z51.2.2.2.2.1 ++ [.agg [.sl l57, nI i58, nI i59, .sl l60]]) = List.length (z51.2.2.2.2.1 ++ [.agg [.sl l57, nI i58, nI i59, .sl l60]]) ∧
 ag52 (((), (), (), IntKind.wrap .i64 (z51.1.2.2.2.1 + 1), ()), ((z51.2.1.1, z51.2.1.2.1, z51.2.1.2.2.1, z51.2.1.2.2.2.1, ()), ((), z51.2.2.1.2.1, z51.2.2.1.2.2.1, (), ()), (z51.2.2.2.1.1, z51.2.2.2.1.2.1, z51.2.2.2.1.2.2.1, (), ()), z51.2.2.2.2.1 ++ [.agg [.sl l57, nI i58, nI i59, .sl l60]], ())))
 (List.length z51.2.2.2.2.1 = List.length z51.2.2.2.2.1 ∧
 R (.agg [.sl z51.2.2.2.1.1, nI z51.2.2.2.1.2.1, nI z51.2.2.2.1.2.2.1, .sl z51.2.2.2.2.1]))
def vc28 (a0_0 : List AV) (a0_1 a0_2 : Int) (a0_3 : List AV) (R : AV → Prop) : Prop :=
 ∃ (l1 : List AV),
 PureIs Tryz.prog 12 [.sl a0_0] (.sl l1) ∧
 0 = List.length ([] : List AV) ∧
 vc28_L3 (((), (), (), 0, ()), ((a0_0, a0_1, a0_2, a0_3, ()), ((), 0, 0, (), ()), (l1, a0_1, a0_2, (), ()), [], ())) R
theorem vc28_ok {a0_0 : List AV} {a0_1 a0_2 : Int} {a0_3 : List AV} {R : AV → Prop} (h : vc28 a0_0 a0_1 a0_2 a0_3 R) : Pure Tryz.prog 28 [.agg [.sl a0_0, nI a0_1, nI a0_2, .sl a0_3]] R :=
 pure_of_code (C := cfg (Func.ntmps Tryz.f28) [(1, [none, none, none, none, none, none, none, none, none, none, none, some [], none], [none, some [], some [], none, none, some [], none, none, some [], none, none, none, none])]) (cfg_tab _ _ _ _ _) (cfg_ord _ _ _ _ _) (L := [{ key := 3, live := [(1, none), (2, none), (3, none), (4, none)], brows := [(2, 3, 51)] }]) (fn := Tryz.f28) Tryz.func28 (by exact rfl) (by kernel_rfl) (by kernel_rfl) (by rfl) (of_eq (by kernel_rfl) h)
def vc61_L3 (p0 : (Unit × Unit × Unit × Int × Unit) × ((List AV × Int × Unit) × (Unit × Int × Unit) × (Unit × Int × Unit) × List AV × Unit)) (R : AV → Prop) : Prop :=
 LoopP _ p0 fun z51 ag52 =>
 ITE (decide (z51.1.2.2.2.1 < ((List.length z51.2.1.1 : Nat) : Int)))
 (0 ≤ z51.1.2.2.2.1 ∧
 z51.1.2.2.2.1 < List.length z51.2.1.1 ∧
 ∃ (l53 : List AV) (i54 : Int),
 List.getD z51.2.1.1 (Int.toNat z51.1.2.2.2.1) .top = .agg [.sl l53, nI i54] ∧
 ∃ (l55 : List AV) (i56 : Int),
 PureIs Tryz.prog 61 [.agg [.sl l53, nI i54]] (.agg [.sl l55, nI i56]) ∧
 List.length z51.2.2.2.2.1 = List.length z51.2.2.2.2.1 ∧
 appOk td26 (List.length (z51.2.2.2.2.1 ++ [.agg [.sl l55, nI i56]])) [] [.agg [.sl l55, nI i56]] ∧
 List.length (z51.2.2.2.2.1 ++ [.agg [.sl l55, nI i56]]) = List.length (z51.2.2.2.2.1 ++ [.agg [.sl l55, nI i56]]) ∧
 ag52 (((), (), (), IntKind.wrap .i64 (z51.1.2.2.2.1 + 1), ()), ((z51.2.1.1, z51.2.1.2.1, ()), ((), z51.2.2.1.2.1, ()), ((), z51.2.2.2.1.2.1, ()), z51.2.2.2.2.1 ++ [.agg [.sl l55, nI i56]], ())))
 (List.length z51.2.2.2.2.1 = List.length z51.2.2.2.2.1 ∧
 R (.agg [.sl z51.2.2.2.2.1, nI z51.2.2.2.1.2.1]))
def vc61 (a0_0 : List AV) (a0_1 : Int) (R : AV → Prop) : Prop :=
 0 = List.length ([] : List AV) ∧
 vc61_L3 (((), (), (), 0, ()), ((a0_0, a0_1, ()), ((), 0, ()), ((), a0_1, ()), [], ())) R
theorem vc61_ok {a0_0 : List AV} {a0_1 : Int} {R : AV → Prop} (h : vc61 a0_0 a0_1 R) : Pure Tryz.prog 61 [.agg [.sl a0_0, nI a0_1]] R :=
 pure_of_code (C := cfg (Func.ntmps Tryz.f61)) (cfg_tab _ _ _ _ _) (cfg_ord _ _ _ _ _) (L := [{ key := 3, live := [(1, none), (2, none), (3, none), (4, none)], brows := [(2, 0, 26)] }]) (fn := Tryz.f61) Tryz.func61 (by exact rfl) (by kernel_rfl) (by kernel_rfl) (by rfl) (of_eq (by kernel_rfl) h)
def vc57_L3 (p0 : (List AV × Unit × Int × Unit) × (List AV × Unit)) (R : AV → Prop) : Prop :=
 LoopP _ p0 fun z51 ag52 =>
 ITE (decide (z51.1.2.2.1 < ((List.length z51.1.1 : Nat) : Int)))
 (0 ≤ z51.1.2.2.1 ∧
 z51.1.2.2.1 < List.length z51.1.1 ∧
 ∃ (l53 : List AV) (i54 : Int),
 List.getD z51.1.1 (Int.toNat z51.1.2.2.1) .top = .agg [.sl l53, nI i54] ∧
 ∃ (l55 : List AV) (i56 : Int),
 PureIs Tryz.prog 61 [.agg [.sl l53, nI i54]] (.agg [.sl l55, nI i56]) ∧
 List.length z51.2.1 = List.length z51.2.1 ∧
 appOk td26 (List.length (z51.2.1 ++ [.agg [.sl l55, nI i56]])) [] [.agg [.sl l55, nI i56]] ∧
 List.length (z51.2.1 ++ [.agg [.sl l55, nI i56]]) = List.length (z51.2.1 ++ [.agg [.sl l55, nI i56]]) ∧
 ag52 ((z51.1.1, (), IntKind.wrap .i64 (z51.1.2.2.1 + 1), ()), (z51.2.1 ++ [.agg [.sl l55, nI i56]], ())))
 (List.length z51.2.1 = List.length z51.2.1 ∧
 R (.sl z51.2.1))
def vc57 (a0 : List AV) (R : AV → Prop) : Prop :=
 0 = List.length ([] : List AV) ∧
 vc57_L3 ((a0, (), 0, ()), ([], ())) R
theorem vc57_ok {a0 : List AV} {R : AV → Prop} (h : vc57 a0 R) : Pure Tryz.prog 57 [.sl a0] R :=
 pure_of_code (C := cfg (Func.ntmps Tryz.f57)) (cfg_tab _ _ _ _ _) (cfg_ord _ _ _ _ _) (L := [{ key := 3, live := [(0, none), (3, none), (4, none)], rows := [(3, 26)] }]) (fn := Tryz.f57) Tryz.func57 (by exact rfl) (by kernel_rfl) (by kernel_rfl) (by rfl) (of_eq (by kernel_rfl) h)
def vc18_L3 (p0 : (Unit × Unit × Unit × Int × Unit) × ((List AV × Int × Int × List AV × Unit) × (Unit × Int × Int × Unit × Unit) × (List AV × Int × Int × Unit × Unit) × List AV × Unit)) (R : AV → Prop) : Prop :=
 LoopP _ p0 fun z51 ag52 =>
 ITE (decide (z51.1.2.2.2.1 < ((List.length z51.2.1.2.2.2.1 : Nat) : Int)))
 (0 ≤ z51.1.2.2.2.1 ∧
 z51.1.2.2.2.1 < List.length z51.2.1.2.2.2.1 ∧
 ∃ (l53 : List AV) (i54 i55 : Int) (l56 : List AV),
 List.getD z51.2.1.2.2.2.1 (Int.toNat z51.1.2.2.2.1) .top = .agg [.sl l53, nI i54, nI i55, .sl l56] ∧
 ∃ (l57 : List AV) (i58 i59 : Int) (l60 : List AV),
 PureIs Tryz.prog 18 [.agg [.sl l53, nI i54, nI i55, .sl l56]] (.agg [.sl l57, nI i58, nI i59, .sl l60]) ∧
 List.length z51.2.2.2.2.1 = List.length z51.2.2.2.2.1 ∧
 appOk td58 (List.length (z51.2.2.2.2.1 ++ [.agg [.sl l57, nI i58, nI i59, .sl l60]])) [] [.agg [.sl l57, nI i58, nI i59, .sl l60]] ∧
 List.length (z51.2.2.2.2.1 ++ [.agg [.sl l57, nI i58, nI i59, .sl l60]]) = List.length (z51.2.2.2.2.1 ++ [.agg [.sl l57, nI i58, nI i59, .sl l60]]) ∧
 ag52 (((), (), (), IntKind.wrap .i64 (z51.1.2.2.2.1 + 1), ()), ((z51.2.1.1, z51.2.1.2.1, z51.2.1.2.2.1, z51.2.1.2.2.2.1, ()), ((), z51.2.2.1.2.1, z51.2.2.1.2.2.1, (), ()), (z51.2.2.2.1.1, z51.2.2.2.1.2.1, z51.2.2.2.1.2.2.1, (), ()), z51.2.2.2.2.1 ++ [.agg [.sl l57, nI i58, nI i59, .sl l60]], ())))
 (List.length z51.2.2.2.2.1 = List.length z51.2.2.2.2.1 ∧
 R (.agg [.sl z51.2.2.2.1.1, nI z51.2.2.2.1.2.1, nI z51.2.2.2.1.2.2.1, .sl z51.2.2.2.2.1]))
def vc18 (a0_0 : List AV) (a0_1 a0_2 : Int) (a0_3 : List AV) (R : AV → Prop) : Prop :=
 ∃ (l1 : List AV),
 PureIs Tryz.prog 57 [.sl a0_0] (.sl l1) ∧
 0 = List.length ([] : List AV) ∧
 vc18_L3 (((), (), (), 0, ()), ((a0_0, a0_1, a0_2, a0_3, ()), ((), 0, 0, (), ()), (l1, a0_1, a0_2, (), ()), [], ())) R
theorem vc18_ok {a0_0 : List AV} {a0_1 a0_2 : Int} {a0_3 : List AV} {R : AV → Prop} (h : vc18 a0_0 a0_1 a0_2 a0_3 R) : Pure Tryz.prog 18 [.agg [.sl a0_0, nI a0_1, nI a0_2, .sl a0_3]] R :=
 pure_of_code (C := cfg (Func.ntmps Tryz.f18) [(1, [none, none, none, none, none, none, none, none, none, none, none, some [], none], [none, some [], some [], none, none, some [], none, none, some [], none, none, none, none])]) (cfg_tab _ _ _ _ _) (cfg_ord _ _ _ _ _) (L := [{ key := 3, live := [(1, none), (2, none), (3, none), (4, none)], brows := [(2, 3, 58)] }]) (fn := Tryz.f18) Tryz.func18 (by exact rfl) (by kernel_rfl) (by kernel_rfl) (by rfl) (of_eq (by kernel_rfl) h)
def vc60_L4 (p0 : (Unit × Unit × Int × Unit) × ((List AV × Int × Unit) × (List AV × Int × Unit) × Unit)) (R : AV → Prop) : Prop :=
 LoopP _ p0 fun z51 ag52 =>
 ITE (decide (z51.1.2.2.1 < ((List.length z51.2.1.1 : Nat) : Int)))
 (0 ≤ z51.1.2.2.1 ∧
 z51.1.2.2.1 < List.length z51.2.1.1 ∧
 ∃ (l53 : List AV) (i54 : Int),
 List.getD z51.2.1.1 (Int.toNat z51.1.2.2.1) .top = .agg [.sl l53, nI i54] ∧
 0 ≤ z51.1.2.2.1 ∧
 z51.1.2.2.1 < List.length z51.2.2.1.1 ∧
 ∃ (l55 : List AV) (i56 : Int),
 List.getD z51.2.2.1.1 (Int.toNat z51.1.2.2.1) .top = .agg [.sl l55, nI i56] ∧
 ∃ (b57 : Bool),
 PureIs Tryz.prog 60 [.agg [.sl l53, nI i54], .agg [.sl l55, nI i56]] (nB b57) ∧
 ITE (!b57)
 (R (nB false))
 (ag52 (((), (), IntKind.wrap .i64 (z51.1.2.2.1 + 1), ()), ((z51.2.1.1, z51.2.1.2.1, ()), (z51.2.2.1.1, z51.2.2.1.2.1, ()), ()))))
 (R (nB true))
def vc60 (a0_0 : List AV) (a0_1 : Int) (a1_0 : List AV) (a1_1 : Int) (R : AV → Prop) : Prop :=
 ITE (a0_1 != a1_1)
 (R (nB false))
 (ITE (((List.length a0_0 : Nat) : Int) != ((List.length a1_0 : Nat) : Int))
 (R (nB false))
 (vc60_L4 (((), (), 0, ()), ((a0_0, a0_1, ()), (a1_0, a1_1, ()), ())) R))
theorem vc60_ok {a0_0 : List AV} {a0_1 : Int} {a1_0 : List AV} {a1_1 : Int} {R : AV → Prop} (h : vc60 a0_0 a0_1 a1_0 a1_1 R) : Pure Tryz.prog 60 [.agg [.sl a0_0, nI a0_1], .agg [.sl a1_0, nI a1_1]] R :=
 pure_of_code (C := cfg (Func.ntmps Tryz.f60)) (cfg_tab _ _ _ _ _) (cfg_ord _ _ _ _ _) (L := [{ key := 4, live := [(2, none), (3, none), (5, none)] }]) (fn := Tryz.f60) Tryz.func60 (by exact rfl) (by kernel_rfl) (by kernel_rfl) (by rfl) (of_eq (by kernel_rfl) h)
def vc56_L4 (p0 : (List AV × List AV × Int × Unit) × (Unit)) (R : AV → Prop) : Prop :=
 LoopP _ p0 fun z51 ag52 =>
 ITE (decide (z51.1.2.2.1 < ((List.length z51.1.1 : Nat) : Int)))
 (0 ≤ z51.1.2.2.1 ∧
 z51.1.2.2.1 < List.length z51.1.1 ∧
 ∃ (l53 : List AV) (i54 : Int),
 List.getD z51.1.1 (Int.toNat z51.1.2.2.1) .top = .agg [.sl l53, nI i54] ∧
 0 ≤ z51.1.2.2.1 ∧
 z51.1.2.2.1 < List.length z51.1.2.1 ∧
 ∃ (l55 : List AV) (i56 : Int),
 List.getD z51.1.2.1 (Int.toNat z51.1.2.2.1) .top = .agg [.sl l55, nI i56] ∧
 ∃ (b57 : Bool),
 PureIs Tryz.prog 60 [.agg [.sl l53, nI i54], .agg [.sl l55, nI i56]] (nB b57) ∧
 ITE (!b57)
 (R (nB false))
 (ag52 ((z51.1.1, z51.1.2.1, IntKind.wrap .i64 (z51.1.2.2.1 + 1), ()), ())))
 (R (nB true))
def vc56 (a0 a1 : List AV) (R : AV → Prop) : Prop :=
 ITE (((List.length a0 : Nat) : Int) != ((List.length a1 : Nat) : Int))
 (R (nB false))
 (vc56_L4 ((a0, a1, 0, ()), ()) R)
theorem vc56_ok {a0 a1 : List AV} {R : AV → Prop} (h : vc56 a0 a1 R) : Pure Tryz.prog 56 [.sl a0, .sl a1] R :=
 pure_of_code (C := cfg (Func.ntmps Tryz.f56)) (cfg_tab _ _ _ _ _) (cfg_ord _ _ _ _ _) (L := [{ key := 4, live := [(0, none), (1, none), (5, none)] }]) (fn := Tryz.f56) Tryz.func56 (by exact rfl) (by kernel_rfl) (by kernel_rfl) (by rfl) (of_eq (by kernel_rfl) h)
def vc17_L4 (p0 : (Unit × Unit × Int × Unit) × ((List AV × Int × Int × List AV × Unit) × (List AV × Int × Int × List AV × Unit) × Unit)) (R : AV → Prop) : Prop :=
 LoopP _ p0 fun z51 ag52 =>
 ITE (decide (z51.1.2.2.1 < ((List.length z51.2.1.2.2.2.1 : Nat) : Int)))
 (0 ≤ z51.1.2.2.1 ∧
 z51.1.2.2.1 < List.length z51.2.1.2.2.2.1 ∧
 ∃ (l53 : List AV) (i54 i55 : Int) (l56 : List AV),
 List.getD z51.2.1.2.2.2.1 (Int.toNat z51.1.2.2.1) .top = .agg [.sl l53, nI i54, nI i55, .sl l56] ∧
 0 ≤ z51.1.2.2.1 ∧
 z51.1.2.2.1 < List.length z51.2.2.1.2.2.2.1 ∧
 ∃ (l57 : List AV) (i58 i59 : Int) (l60 : List AV),
 List.getD z51.2.2.1.2.2.2.1 (Int.toNat z51.1.2.2.1) .top = .agg [.sl l57, nI i58, nI i59, .sl l60] ∧
 ∃ (b61 : Bool),
 PureIs Tryz.prog 17 [.agg [.sl l53, nI i54, nI i55, .sl l56], .agg [.sl l57, nI i58, nI i59, .sl l60]] (nB b61) ∧
 ITE (!b61)
 (R (nB false))
 (ag52 (((), (), IntKind.wrap .i64 (z51.1.2.2.1 + 1), ()), ((z51.2.1.1, z51.2.1.2.1, z51.2.1.2.2.1, z51.2.1.2.2.2.1, ()), (z51.2.2.1.1, z51.2.2.1.2.1, z51.2.2.1.2.2.1, z51.2.2.1.2.2.2.1, ()), ()))))
 (R (nB true))
def vc17 (a0_0 : List AV) (a0_1 a0_2 : Int) (a0_3 a1_0 : List AV) (a1_1 a1_2 : Int) (a1_3 : List AV) (R : AV → Prop) : Prop :=
 ITE (!(a0_1 == a1_1 && a0_2 == a1_2))
 (R (nB false))
 (ITE (((List.length a0_3 : Nat) : Int) != ((List.length a1_3 : Nat) : Int))
 (R (nB false))
 (∃ (b1 : Bool),
 PureIs Tryz.prog 56 [.sl a0_0, .sl a1_0] (nB b1) ∧
 ITE (!b1)
 (R (nB false))
 (vc17_L4 (((), (), 0, ()), ((a0_0, a0_1, a0_2, a0_3, ()), (a1_0, a1_1, a1_2, a1_3, ()), ())) R)))
theorem vc17_ok {a0_0 : List AV} {a0_1 a0_2 : Int} {a0_3 a1_0 : List AV} {a1_1 a1_2 : Int} {a1_3 : List AV} {R : AV → Prop} (h : vc17 a0_0 a0_1 a0_2 a0_3 a1_0 a1_1 a1_2 a1_3 R) : Pure Tryz.prog 17 [.agg [.sl a0_0, nI a0_1, nI a0_2, .sl a0_3], .agg [.sl a1_0, nI a1_1, nI a1_2, .sl a1_3]] R :=
 pure_of_code (C := cfg (Func.ntmps Tryz.f17)) (cfg_tab _ _ _ _ _) (cfg_ord _ _ _ _ _) (L := [{ key := 4, live := [(2, none), (3, none), (5, none)] }]) (fn := Tryz.f17) Tryz.func17 (by exact rfl) (by kernel_rfl) (by kernel_rfl) (by rfl) (of_eq (by kernel_rfl) h)
def vc109_L3 (p0 : (Unit × Int × Int × Unit) × ((List AV × Int × Unit) × Unit)) (R : AV → Prop) : Prop :=
 LoopP _ p0 fun z51 ag52 =>
 ITE (decide (z51.1.2.2.1 < ((List.length z51.2.1.1 : Nat) : Int)))
 (0 ≤ z51.1.2.2.1 ∧
 z51.1.2.2.1 < List.length z51.2.1.1 ∧
 ∃ (l53 : List AV) (i54 : Int),
 List.getD z51.2.1.1 (Int.toNat z51.1.2.2.1) .top = .agg [.sl l53, nI i54] ∧
 ∃ (i55 : Int),
 PureIs Tryz.prog 109 [.agg [.sl l53, nI i54]] (nI i55) ∧
 ag52 (((), IntKind.wrap .i64 (z51.1.2.1 + i55), IntKind.wrap .i64 (z51.1.2.2.1 + 1), ()), ((z51.2.1.1, z51.2.1.2.1, ()), ())))
 (R (nI z51.1.2.1))
def vc109 (a0_0 : List AV) (a0_1 : Int) (R : AV → Prop) : Prop :=
 vc109_L3 (((), 1, 0, ()), ((a0_0, a0_1, ()), ())) R
theorem vc109_ok {a0_0 : List AV} {a0_1 : Int} {R : AV → Prop} (h : vc109 a0_0 a0_1 R) : Pure Tryz.prog 109 [.agg [.sl a0_0, nI a0_1]] R :=
 pure_of_code (C := cfg (Func.ntmps Tryz.f109)) (cfg_tab _ _ _ _ _) (cfg_ord _ _ _ _ _) (L := [{ key := 3, live := [(1, none), (3, none), (4, none)] }]) (fn := Tryz.f109) Tryz.func109 (by exact rfl) (by kernel_rfl) (by kernel_rfl) (by rfl) (of_eq (by kernel_rfl) h)
def vc98_L5 (p0 : (Int × Int × Unit × Int × Int × Unit) × ((List AV × Int × Unit) × Unit)) (R : AV → Prop) : Prop :=
 LoopP _ p0 fun z51 ag52 =>
 ITE (decide (z51.1.2.2.2.2.1 < ((List.length z51.2.1.1 : Nat) : Int)))
 (ITE (decide (z51.1.2.2.2.1 ≤ z51.1.1))
 (0 ≤ z51.1.2.2.2.2.1 ∧
 z51.1.2.2.2.2.1 < List.length z51.2.1.1 ∧
 ∃ (l53 : List AV) (i54 : Int),
 List.getD z51.2.1.1 (Int.toNat z51.1.2.2.2.2.1) .top = .agg [.sl l53, nI i54] ∧
 ∃ (i55 : Int),
 PureIs Tryz.prog 98 [.agg [.sl l53, nI i54], nI z51.1.1, nI (IntKind.wrap .i64 (z51.1.2.1 - 1))] (nI i55) ∧
 ag52 ((z51.1.1, z51.1.2.1, (), IntKind.wrap .i64 (z51.1.2.2.2.1 + i55), IntKind.wrap .i64 (z51.1.2.2.2.2.1 + 1), ()), ((z51.2.1.1, z51.2.1.2.1, ()), ())))
 (R (nI z51.1.2.2.2.1)))
 (R (nI z51.1.2.2.2.1))
def vc98 (a0_0 : List AV) (a0_1 a1 a2 : Int) (R : AV → Prop) : Prop :=
 ITE (decide (a2 ≤ 0))
 (R (nI (IntKind.wrap .i64 (a1 + 1))))
 (vc98_L5 ((a1, a2, (), 1, 0, ()), ((a0_0, a0_1, ()), ())) R)
theorem vc98_ok {a0_0 : List AV} {a0_1 a1 a2 : Int} {R : AV → Prop} (h : vc98 a0_0 a0_1 a1 a2 R) : Pure Tryz.prog 98 [.agg [.sl a0_0, nI a0_1], nI a1, nI a2] R :=
 pure_of_code (C := cfg (Func.ntmps Tryz.f98)) (cfg_tab _ _ _ _ _) (cfg_ord _ _ _ _ _) (L := [{ key := 5, live := [(1, none), (2, none), (3, none), (7, none), (8, none)] }]) (fn := Tryz.f98) Tryz.func98 (by exact rfl) (by kernel_rfl) (by kernel_rfl) (by rfl) (of_eq (by kernel_rfl) h)
def vc46 (a0_0 : List AV) (a0_1 a1 a2 : Int) (R : AV → Prop) : Prop :=
 ∃ (i1 : Int),
 PureIs Tryz.prog 98 [.agg [.sl a0_0, nI a0_1], nI a1, nI a2] (nI i1) ∧
 R (nB (decide (i1 ≤ a1)))
theorem vc46_ok {a0_0 : List AV} {a0_1 a1 a2 : Int} {R : AV → Prop} (h : vc46 a0_0 a0_1 a1 a2 R) : Pure Tryz.prog 46 [.agg [.sl a0_0, nI a0_1], nI a1, nI a2] R :=
 pure_of_code (C := cfg (Func.ntmps Tryz.f46)) (cfg_tab _ _ _ _ _) (cfg_ord _ _ _ _ _) (L := []) (fn := Tryz.f46) Tryz.func46 (by exact rfl) (by kernel_rfl) (by kernel_rfl) (by rfl) (of_eq (by kernel_rfl) h)
def vc9_L5 (p0 : (List AV × Int × Unit) × ((Int × List AV × List AV × Unit) × Unit)) (R : AV → Prop) : Prop :=
 LoopP _ p0 fun z51 ag52 =>
 ITE (decide (z51.1.2.1 < ((List.length z51.1.1 : Nat) : Int)))
 (0 ≤ z51.1.2.1 ∧
 z51.1.2.1 < List.length z51.1.1 ∧
 ∃ (l53 : List AV) (i54 : Int),
 List.getD z51.1.1 (Int.toNat z51.1.2.1) .top = .agg [.sl l53, nI i54] ∧
 ∃ (b55 : Bool),
 PureIs Tryz.prog 46 [.agg [.sl l53, nI i54], nI 60, nI 60] (nB b55) ∧
 ITE (!b55)
 (R (nB false))
 (ag52 ((z51.1.1, IntKind.wrap .i64 (z51.1.2.1 + 1), ()), ((z51.2.1.1, z51.2.1.2.1, z51.2.1.2.2.1, ()), ()))))
 (R (nB true))
def vc9 (a0_0 : Int) (a0_1 a0_2 a1 : List AV) (R : AV → Prop) : Prop :=
 ITE (decide (((List.length a0_1 : Nat) : Int) > 20))
 (R (nB false))
 (ITE (decide (((List.length a0_2 : Nat) : Int) > 20))
 (R (nB false))
 (ITE (decide (((List.length a1 : Nat) : Int) > 20))
 (R (nB false))
 (∃ (l1 : List AV),
 PureIs Tryz.prog 45 [.sl a0_1, .sl a0_2] (.sl l1) ∧
 ∃ (l2 : List AV),
 PureIs Tryz.prog 45 [.sl l1, .sl a1] (.sl l2) ∧
 vc9_L5 ((l2, 0, ()), ((a0_0, a0_1, a0_2, ()), ())) R)))
theorem vc9_ok {a0_0 : Int} {a0_1 a0_2 a1 : List AV} {R : AV → Prop} (h : vc9 a0_0 a0_1 a0_2 a1 R) : Pure Tryz.prog 9 [.agg [nI a0_0, .sl a0_1, .sl a0_2], .sl a1] R :=
 pure_of_code (C := cfg (Func.ntmps Tryz.f9)) (cfg_tab _ _ _ _ _) (cfg_ord _ _ _ _ _) (L := [{ key := 5, live := [(5, none), (6, none)] }]) (fn := Tryz.f9) Tryz.func9 (by exact rfl) (by kernel_rfl) (by kernel_rfl) (by rfl) (of_eq (by kernel_rfl) h)
def vc145_L6 (p0 : (Unit × Unit × Int × Unit × Int × Unit) × ((Int × Int × Unit) × (List AV × Int × Unit) × (Unit × Int × Int × Unit × Unit) × (List AV × Int × Int × Unit × Unit) × List AV × Unit)) (R : AV → Prop) : Prop :=
 LoopP _ p0 fun z51 ag52 =>
 ITE (decide (z51.1.2.2.2.2.1 < z51.1.2.2.1))
 (0 ≤ z51.1.2.2.2.2.1 ∧
 z51.1.2.2.2.2.1 < List.length z51.2.2.1.1 ∧
 ∃ (l53 : List AV) (i54 : Int),
 List.getD z51.2.2.1.1 (Int.toNat z51.1.2.2.2.2.1) .top = .agg [.sl l53, nI i54] ∧
 ∃ (l55 : List AV) (i56 i57 : Int) (l58 : List AV),
 PureIs Tryz.prog 145 [.agg [nI 0, nI (IntKind.wrap .i64 ((IntKind.wrap .i64 (z51.1.2.2.1 - 1)) - z51.1.2.2.2.2.1))], .agg [.sl l53, nI i54]] (.agg [.sl l55, nI i56, nI i57, .sl l58]) ∧
 List.length z51.2.2.2.2.2.1 = List.length z51.2.2.2.2.2.1 ∧
 appOk td58 (List.length (z51.2.2.2.2.2.1 ++ [.agg [.sl l55, nI i56, nI i57, .sl l58]])) [] [.agg [.sl l55, nI i56, nI i57, .sl l58]] ∧
 List.length (z51.2.2.2.2.2.1 ++ [.agg [.sl l55, nI i56, nI i57, .sl l58]]) = List.length (z51.2.2.2.2.2.1 ++ [.agg [.sl l55, nI i56, nI i57, .sl l58]]) ∧
 ag52 (((), (), z51.1.2.2.1, (), IntKind.wrap .i64 (z51.1.2.2.2.2.1 + 1), ()), ((z51.2.1.1, z51.2.1.2.1, ()), (z51.2.2.1.1, z51.2.2.1.2.1, ()), ((), z51.2.2.2.1.2.1, z51.2.2.2.1.2.2.1, (), ()), (z51.2.2.2.2.1.1, z51.2.2.2.2.1.2.1, z51.2.2.2.2.1.2.2.1, (), ()), z51.2.2.2.2.2.1 ++ [.agg [.sl l55, nI i56, nI i57, .sl l58]], ())))
 (List.length z51.2.2.2.2.2.1 = List.length z51.2.2.2.2.2.1 ∧
 R (.agg [.sl z51.2.2.2.2.1.1, nI z51.2.2.2.2.1.2.1, nI z51.2.2.2.2.1.2.2.1, .sl z51.2.2.2.2.2.1]))
def vc145 (a0_0 a0_1 : Int) (a1_0 : List AV) (a1_1 : Int) (R : AV → Prop) : Prop :=
 ITE (a0_0 == 0)
 (0 = List.length ([] : List AV) ∧
 vc145_L6 (((), (), ((List.length a1_0 : Nat) : Int), (), 0, ()), ((a0_0, a0_1, ()), (a1_0, a1_1, ()), ((), 0, 0, (), ()), (a1_0, a0_0, IntKind.wrap .i64 (a0_1 + ((List.length a1_0 : Nat) : Int)), (), ()), [], ())) R)
 (0 = List.length ([] : List AV) ∧
 vc145_L6 (((), (), ((List.length a1_0 : Nat) : Int), (), 0, ()), ((a0_0, a0_1, ()), (a1_0, a1_1, ()), ((), 0, 0, (), ()), (a1_0, a0_0, a0_1, (), ()), [], ())) R)
theorem vc145_ok {a0_0 a0_1 : Int} {a1_0 : List AV} {a1_1 : Int} {R : AV → Prop} (h : vc145 a0_0 a0_1 a1_0 a1_1 R) : Pure Tryz.prog 145 [.agg [nI a0_0, nI a0_1], .agg [.sl a1_0, nI a1_1]] R :=
 pure_of_code (C := cfg (Func.ntmps Tryz.f145)) (cfg_tab _ _ _ _ _) (cfg_ord _ _ _ _ _) (L := [{ key := 6, live := [(3, none), (4, none), (5, none), (6, none), (7, none)], brows := [(3, 3, 58)] }]) (fn := Tryz.f145) Tryz.func145 (by exact rfl) (by kernel_rfl) (by kernel_rfl) (by rfl) (of_eq (by kernel_rfl) h)
def vc111 (a0_0 a0_1 : Int) (a1_0 : List AV) (a1_1 : Int) (R : AV → Prop) : Prop :=
 ITE (a0_0 == 0)
 (ITE (decide (a0_1 < 0))
 (R (.agg [.sl [], nI 0, nI 0, .sl []]))
 (ITE (decide (a0_1 > 1000))
 (R (.agg [.sl [], nI 0, nI 0, .sl []]))
 (∃ (l1 : List AV) (i2 i3 : Int) (l4 : List AV),
 PureIs Tryz.prog 145 [.agg [nI a0_0, nI a0_1], .agg [.sl a1_0, nI a1_1]] (.agg [.sl l1, nI i2, nI i3, .sl l4]) ∧
 R (.agg [.sl l1, nI i2, nI i3, .sl l4]))))
 (∃ (l5 : List AV) (i6 i7 : Int) (l8 : List AV),
 PureIs Tryz.prog 145 [.agg [nI a0_0, nI a0_1], .agg [.sl a1_0, nI a1_1]] (.agg [.sl l5, nI i6, nI i7, .sl l8]) ∧
 R (.agg [.sl l5, nI i6, nI i7, .sl l8]))
theorem vc111_ok {a0_0 a0_1 : Int} {a1_0 : List AV} {a1_1 : Int} {R : AV → Prop} (h : vc111 a0_0 a0_1 a1_0 a1_1 R) : Pure Tryz.prog 111 [.agg [nI a0_0, nI a0_1], .agg [.sl a1_0, nI a1_1]] R :=
 pure_of_code (C := cfg (Func.ntmps Tryz.f111)) (cfg_tab _ _ _ _ _) (cfg_ord _ _ _ _ _) (L := []) (fn := Tryz.f111) Tryz.func111 (by exact rfl) (by kernel_rfl) (by kernel_rfl) (by rfl) (of_eq (by kernel_rfl) h)
def vc47 (a0 : Int) (a1 : List AV) (R : AV → Prop) : Prop :=
 ∃ (l1 : List AV) (i2 : Int),
 PureIs Tryz.prog 99 [.agg [.sl a1, nI a0]] (.agg [.sl l1, nI i2]) ∧
 R (.agg [.sl l1, nI i2])
theorem vc47_ok {a0 : Int} {a1 : List AV} {R : AV → Prop} (h : vc47 a0 a1 R) : Pure Tryz.prog 47 [nI a0, .sl a1] R :=
 pure_of_code (C := cfg (Func.ntmps Tryz.f47)) (cfg_tab _ _ _ _ _) (cfg_ord _ _ _ _ _) (L := []) (fn := Tryz.f47) Tryz.func47 (by exact rfl) (by kernel_rfl) (by kernel_rfl) (by rfl) (of_eq (by kernel_rfl) h)
end Go.Proofs.YtghlgbhldnkdmaaGreat
