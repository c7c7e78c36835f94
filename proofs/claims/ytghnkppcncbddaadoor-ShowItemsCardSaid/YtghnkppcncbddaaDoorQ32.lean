/- Texts of ours laid together for a claim: Vc1. -/
import Derived.Test.YtghnkppcncbddaaDoorQ31
namespace Go.Proofs.YtghnkppcncbddaaDoor
open Go
set_option linter.unusedSimpArgs false
set_option linter.unusedVariables false
set_option maxRecDepth 100000
def vc45_L3 (p0 : (Unit × Unit × List AV × Int × Int × Unit) × ((List AV × Int × Unit) × (Unit × Int × Unit) × (Unit × Int × Unit) × List AV × Unit)) (R : AV → Prop) : Prop :=
 LoopP _ p0 fun z51 ag52 =>
 ITE (decide (z51.1.2.2.2.2.1 < z51.1.2.2.2.1))
 (0 ≤ z51.1.2.2.2.2.1 ∧
 z51.1.2.2.2.2.1 < List.length z51.1.2.2.1 ∧
 ∃ (l53 : List AV) (i54 : Int),
 List.getD z51.1.2.2.1 (Int.toNat z51.1.2.2.2.2.1) .top = .agg [.sl l53, nI i54] ∧
 ∃ (l55 : List AV) (i56 : Int),
 PureIs Tryd.prog 45 [.agg [.sl l53, nI i54]] (.agg [.sl l55, nI i56]) ∧
 List.length z51.2.2.2.2.1 = List.length z51.2.2.2.2.1 ∧
 appOk td63 (List.length (z51.2.2.2.2.1 ++ [.agg [.sl l55, nI i56]])) [] [.agg [.sl l55, nI i56]] ∧
 List.length (z51.2.2.2.2.1 ++ [.agg [.sl l55, nI i56]]) = List.length (z51.2.2.2.2.1 ++ [.agg [.sl l55, nI i56]]) ∧
 ag52 (((), (), z51.1.2.2.1, z51.1.2.2.2.1, IntKind.wrap .i64 (z51.1.2.2.2.2.1 + 1), ()), ((z51.2.1.1, z51.2.1.2.1, ()), ((), z51.2.2.1.2.1, ()), ((), z51.2.2.2.1.2.1, ()), z51.2.2.2.2.1 ++ [.agg [.sl l55, nI i56]], ())))
 (List.length z51.2.2.2.2.1 = List.length z51.2.2.2.2.1 ∧
 R (.agg [.sl z51.2.2.2.2.1, nI z51.2.2.2.1.2.1]))
def vc45 (a0_0 : List AV) (a0_1 : Int) (R : AV → Prop) : Prop :=
 0 = List.length ([] : List AV) ∧
 vc45_L3 (((), (), a0_0, ((List.length a0_0 : Nat) : Int), 0, ()), ((a0_0, a0_1, ()), ((), 0, ()), ((), a0_1, ()), [], ())) R
theorem vc45_ok {a0_0 : List AV} {a0_1 : Int} {R : AV → Prop} (h : vc45 a0_0 a0_1 R) : Pure Tryd.prog 45 [.agg [.sl a0_0, nI a0_1]] R :=
 pure_of_code (C := cfg (Func.ntmps Tryd.f45)) (cfg_tab _ _ _ _ _) (cfg_ord _ _ _ _ _) (L := [{ key := 3, live := [(2, none), (3, none), (10, none), (11, none), (12, none)], brows := [(2, 0, 63)] }]) (fn := Tryd.f45) Tryd.func45 (by exact rfl) (by kernel_rfl) (by kernel_rfl) (by rfl) (of_eq (by kernel_rfl) h)
def vc44 (a0_0 : List AV) (a0_1 : Int) (a1 : List AV) (R : AV → Prop) : Prop :=
 ∃ (l1 : List AV),
 PureIs Tryd.prog 61 [.sl [.sl a1, .sl a0_0]] (.sl l1) ∧
 ∃ (l2 : List AV) (i3 : Int),
 PureIs Tryd.prog 45 [.agg [.sl l1, nI a0_1]] (.agg [.sl l2, nI i3]) ∧
 R (.agg [.sl l2, nI i3])
theorem vc44_ok {a0_0 : List AV} {a0_1 : Int} {a1 : List AV} {R : AV → Prop} (h : vc44 a0_0 a0_1 a1 R) : Pure Tryd.prog 44 [.agg [.sl a0_0, nI a0_1], .sl a1] R :=
 pure_of_code (C := cfg (Func.ntmps Tryd.f44)) (cfg_tab _ _ _ _ _) (cfg_ord _ _ _ _ _) (L := []) (fn := Tryd.f44) Tryd.func44 (by exact rfl) (by kernel_rfl) (by kernel_rfl) (by rfl) (of_eq (by kernel_rfl) h)
def vc24_L8 (p0 : (Unit × Int × Unit × List AV × Int × Int × Unit) × ((Int × Int × Unit) × (List AV × Int × Unit) × (Unit × Int × Int × Unit × Unit) × (List AV × Int × Int × Unit × Unit) × List AV × Unit)) (R : AV → Prop) : Prop :=
 LoopP _ p0 fun z51 ag52 =>
 ITE (decide (z51.1.2.2.2.2.2.1 < z51.1.2.2.2.2.1))
 (0 ≤ z51.1.2.2.2.2.2.1 ∧
 z51.1.2.2.2.2.2.1 < List.length z51.1.2.2.2.1 ∧
 ∃ (l53 : List AV) (i54 : Int),
 List.getD z51.1.2.2.2.1 (Int.toNat z51.1.2.2.2.2.2.1) .top = .agg [.sl l53, nI i54] ∧
 ∃ (l55 : List AV) (i56 i57 : Int) (l58 : List AV),
 PureIs Tryd.prog 24 [.agg [nI 0, nI (IntKind.wrap .i64 ((IntKind.wrap .i64 (z51.1.2.1 - 1)) - z51.1.2.2.2.2.2.1))], .agg [.sl l53, nI i54]] (.agg [.sl l55, nI i56, nI i57, .sl l58]) ∧
 List.length z51.2.2.2.2.2.1 = List.length z51.2.2.2.2.2.1 ∧
 appOk td60 (List.length (z51.2.2.2.2.2.1 ++ [.agg [.sl l55, nI i56, nI i57, .sl l58]])) [] [.agg [.sl l55, nI i56, nI i57, .sl l58]] ∧
 List.length (z51.2.2.2.2.2.1 ++ [.agg [.sl l55, nI i56, nI i57, .sl l58]]) = List.length (z51.2.2.2.2.2.1 ++ [.agg [.sl l55, nI i56, nI i57, .sl l58]]) ∧
 ag52 (((), z51.1.2.1, (), z51.1.2.2.2.1, z51.1.2.2.2.2.1, IntKind.wrap .i64 (z51.1.2.2.2.2.2.1 + 1), ()), ((z51.2.1.1, z51.2.1.2.1, ()), (z51.2.2.1.1, z51.2.2.1.2.1, ()), ((), z51.2.2.2.1.2.1, z51.2.2.2.1.2.2.1, (), ()), (z51.2.2.2.2.1.1, z51.2.2.2.2.1.2.1, z51.2.2.2.2.1.2.2.1, (), ()), z51.2.2.2.2.2.1 ++ [.agg [.sl l55, nI i56, nI i57, .sl l58]], ())))
 (List.length z51.2.2.2.2.2.1 = List.length z51.2.2.2.2.2.1 ∧
 R (.agg [.sl z51.2.2.2.2.1.1, nI z51.2.2.2.2.1.2.1, nI z51.2.2.2.2.1.2.2.1, .sl z51.2.2.2.2.2.1]))
def vc24 (a0_0 a0_1 : Int) (a1_0 : List AV) (a1_1 : Int) (R : AV → Prop) : Prop :=
 ITE (a0_0 == 0)
 (ITE (decide (a0_1 < 0))
 (R (.agg [.sl [], nI 0, nI 0, .sl []]))
 (ITE (decide (a0_1 > 1000))
 (R (.agg [.sl [], nI 0, nI 0, .sl []]))
 (∃ (l1 : List AV) (i2 : Int),
 PureIs Tryd.prog 44 [.agg [.sl a1_0, nI a1_1], .sl []] (.agg [.sl l1, nI i2]) ∧
 ITE (a0_0 == 0)
 (0 = List.length ([] : List AV) ∧
 vc24_L8 (((), ((List.length a1_0 : Nat) : Int), (), a1_0, ((List.length a1_0 : Nat) : Int), 0, ()), ((a0_0, a0_1, ()), (a1_0, a1_1, ()), ((), 0, 0, (), ()), (l1, a0_0, IntKind.wrap .i64 (a0_1 + ((List.length a1_0 : Nat) : Int)), (), ()), [], ())) R)
 (0 = List.length ([] : List AV) ∧
 vc24_L8 (((), ((List.length a1_0 : Nat) : Int), (), a1_0, ((List.length a1_0 : Nat) : Int), 0, ()), ((a0_0, a0_1, ()), (a1_0, a1_1, ()), ((), 0, 0, (), ()), (l1, a0_0, a0_1, (), ()), [], ())) R))))
 (∃ (l19 : List AV) (i20 : Int),
 PureIs Tryd.prog 44 [.agg [.sl a1_0, nI a1_1], .sl []] (.agg [.sl l19, nI i20]) ∧
 ITE (a0_0 == 0)
 (0 = List.length ([] : List AV) ∧
 vc24_L8 (((), ((List.length a1_0 : Nat) : Int), (), a1_0, ((List.length a1_0 : Nat) : Int), 0, ()), ((a0_0, a0_1, ()), (a1_0, a1_1, ()), ((), 0, 0, (), ()), (l19, a0_0, IntKind.wrap .i64 (a0_1 + ((List.length a1_0 : Nat) : Int)), (), ()), [], ())) R)
 (0 = List.length ([] : List AV) ∧
 vc24_L8 (((), ((List.length a1_0 : Nat) : Int), (), a1_0, ((List.length a1_0 : Nat) : Int), 0, ()), ((a0_0, a0_1, ()), (a1_0, a1_1, ()), ((), 0, 0, (), ()), (l19, a0_0, a0_1, (), ()), [], ())) R))
theorem vc24_ok {a0_0 a0_1 : Int} {a1_0 : List AV} {a1_1 : Int} {R : AV → Prop} (h : vc24 a0_0 a0_1 a1_0 a1_1 R) : Pure Tryd.prog 24 [.agg [nI a0_0, nI a0_1], .agg [.sl a1_0, nI a1_1]] R :=
 pure_of_code (C := cfg (Func.ntmps Tryd.f24) [(4, [none, none, none, none, none, some [], none], [some [], some [], none, some [], none, none, none])]) (cfg_tab _ _ _ _ _) (cfg_ord _ _ _ _ _) (L := [{ key := 8, live := [(4, none), (5, none), (6, none), (42, none), (43, none), (44, none)], brows := [(3, 3, 60)] }]) (fn := Tryd.f24) Tryd.func24 (by exact rfl) (by kernel_rfl) (by kernel_rfl) (by rfl) (of_eq (by kernel_rfl) h)
end Go.Proofs.YtghnkppcncbddaaDoor
