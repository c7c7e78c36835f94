/- Texts of ours laid together for a claim: Vc4. -/
import Derived.Test.YtghnkppcncbddaaGreatDoorQ37
namespace Go.Proofs.YtghnkppcncbddaaGreatDoor
open Go
set_option linter.unusedSimpArgs false
set_option linter.unusedVariables false
set_option maxRecDepth 100000
def vc75_L7 (p0 : (Unit × Unit × Unit × Int × Unit) × ((List AV × Int × Unit) × (Unit × Int × Unit) × (Unit × Int × Unit) × List AV × Unit)) (R : AV → Prop) : Prop :=
 LoopP _ p0 fun z51 ag52 =>
 ITE (decide (z51.1.2.2.2.1 < ((List.length z51.2.1.1 : Nat) : Int)))
 (0 ≤ z51.1.2.2.2.1 ∧
 z51.1.2.2.2.1 < List.length z51.2.1.1 ∧
 ∃ (l53 : List AV) (i54 : Int),
 List.getD z51.2.1.1 (Int.toNat z51.1.2.2.2.1) .top = .agg [.sl l53, nI i54] ∧
 List.length z51.2.2.2.2.1 = List.length z51.2.2.2.2.1 ∧
 appOk td32 (List.length (z51.2.2.2.2.1 ++ [.agg [.sl l53, nI i54]])) [] [.agg [.sl l53, nI i54]] ∧
 List.length (z51.2.2.2.2.1 ++ [.agg [.sl l53, nI i54]]) = List.length (z51.2.2.2.2.1 ++ [.agg [.sl l53, nI i54]]) ∧
 ag52 (((), (), (), IntKind.wrap .i64 (z51.1.2.2.2.1 + 1), ()), ((z51.2.1.1, z51.2.1.2.1, ()), ((), z51.2.2.1.2.1, ()), ((), z51.2.2.2.1.2.1, ()), z51.2.2.2.2.1 ++ [.agg [.sl l53, nI i54]], ())))
 (List.length z51.2.2.2.2.1 = List.length z51.2.2.2.2.1 ∧
 R (.agg [.sl z51.2.2.2.2.1, nI z51.2.2.2.1.2.1]))
def vc75_L3 (p0 : (List AV × Unit × Unit × Unit × Int × Unit) × ((List AV × Int × Unit) × (Unit × Int × Unit) × (Unit × Int × Unit) × List AV × Unit)) (R : AV → Prop) : Prop :=
 LoopP _ p0 fun z51 ag52 =>
 ITE (decide (z51.1.2.2.2.2.1 < ((List.length z51.1.1 : Nat) : Int)))
 (0 ≤ z51.1.2.2.2.2.1 ∧
 z51.1.2.2.2.2.1 < List.length z51.1.1 ∧
 ∃ (l53 : List AV) (i54 : Int),
 List.getD z51.1.1 (Int.toNat z51.1.2.2.2.2.1) .top = .agg [.sl l53, nI i54] ∧
 List.length z51.2.2.2.2.1 = List.length z51.2.2.2.2.1 ∧
 appOk td32 (List.length (z51.2.2.2.2.1 ++ [.agg [.sl l53, nI i54]])) [] [.agg [.sl l53, nI i54]] ∧
 List.length (z51.2.2.2.2.1 ++ [.agg [.sl l53, nI i54]]) = List.length (z51.2.2.2.2.1 ++ [.agg [.sl l53, nI i54]]) ∧
 ag52 ((z51.1.1, (), (), (), IntKind.wrap .i64 (z51.1.2.2.2.2.1 + 1), ()), ((z51.2.1.1, z51.2.1.2.1, ()), ((), z51.2.2.1.2.1, ()), ((), z51.2.2.2.1.2.1, ()), z51.2.2.2.2.1 ++ [.agg [.sl l53, nI i54]], ())))
 (List.length z51.2.2.2.2.1 = List.length z51.2.2.2.2.1 ∧
 vc75_L7 (((), (), (), 0, ()), ((z51.2.1.1, z51.2.1.2.1, ()), ((), z51.2.2.1.2.1, ()), ((), z51.2.2.2.1.2.1, ()), z51.2.2.2.2.1, ())) R)
def vc75 (a0_0 : List AV) (a0_1 : Int) (a1 : List AV) (R : AV → Prop) : Prop :=
 0 = List.length ([] : List AV) ∧
 vc75_L3 ((a1, (), (), (), 0, ()), ((a0_0, a0_1, ()), ((), 0, ()), ((), a0_1, ()), [], ())) R
theorem vc75_ok {a0_0 : List AV} {a0_1 : Int} {a1 : List AV} {R : AV → Prop} (h : vc75 a0_0 a0_1 a1 R) : Pure Tryz.prog 75 [.agg [.sl a0_0, nI a0_1], .sl a1] R :=
 pure_of_code (C := cfg (Func.ntmps Tryz.f75)) (cfg_tab _ _ _ _ _) (cfg_ord _ _ _ _ _) (L := [{ key := 3, live := [(1, none), (2, none), (4, none), (5, none), (6, none)], brows := [(2, 0, 32)] }, { key := 7, live := [(2, none), (4, none), (5, none), (7, none)] }]) (fn := Tryz.f75) Tryz.func75 (by exact rfl) (by kernel_rfl) (by kernel_rfl) (by rfl) (of_eq (by kernel_rfl) h)
def vc39 (a0_0 : List AV) (a0_1 a1 : Int) (R : AV → Prop) : Prop :=
 (0 ≤ a1 ∧ a1 ≤ ((List.length a0_0 : Nat) : Int) ∧ ((List.length a0_0 : Nat) : Int) ≤ List.length a0_0 ∧ (∀ y : AV, y ∈ a0_0 → List.length (AV.cells y) = 2)) ∧
 ∃ (l1 : List AV) (i2 : Int),
 PureIs Tryz.prog 75 [.agg [.sl [], nI a0_1], .sl (List.drop (Int.toNat a1) (List.take (Int.toNat ((List.length a0_0 : Nat) : Int)) a0_0))] (.agg [.sl l1, nI i2]) ∧
 R (.agg [.sl l1, nI i2])
theorem vc39_ok {a0_0 : List AV} {a0_1 a1 : Int} {R : AV → Prop} (h : vc39 a0_0 a0_1 a1 R) : Pure Tryz.prog 39 [.agg [.sl a0_0, nI a0_1], nI a1] R :=
 pure_of_code (C := cfg (Func.ntmps Tryz.f39)) (cfg_tab _ _ _ _ _) (cfg_ord _ _ _ _ _) (L := []) (fn := Tryz.f39) Tryz.func39 (by exact rfl) (by kernel_rfl) (by kernel_rfl) (by rfl) (of_eq (by kernel_rfl) h)
end Go.Proofs.YtghnkppcncbddaaGreatDoor
