/- What the contracts of functions ask, as the kernel reckons it out of the code; laid by a program of ours. -/
import Derived.Test.YtfbncddnakaaiaaMSig
namespace Go.Proofs.Ytfbncddnakaaiaa
open Go
set_option linter.unusedSimpArgs false
set_option linter.unusedVariables false
set_option maxRecDepth 100000

/-- filigreeref11.Has -/
def vc82_L2 (p0 : (List AV × Int × Int × Unit) × (Unit)) (R : AV → Prop) : Prop :=
 LoopP ((List AV × Int × Int × Unit) × (Unit)) p0 fun z51 ag52 =>
 ITE (decide (z51.1.2.2.1 < ((List.length z51.1.1 : Nat) : Int)))
 (0 ≤ z51.1.2.2.1 ∧
 z51.1.2.2.1 < List.length z51.1.1 ∧
 ∃ (i53 : Int),
 List.getD z51.1.1 (Int.toNat z51.1.2.2.1) .top = nI i53 ∧
 ITE (i53 == z51.1.2.1)
 (R (nB true))
 (ag52 ((z51.1.1, z51.1.2.1, IntKind.wrap .i64 (z51.1.2.2.1 + 1), ()), ())))
 (R (nB false))
def vc82 (a0 : List AV) (a1 : Int) (R : AV → Prop) : Prop :=
 vc82_L2 ((a0, a1, 0, ()), ()) R
theorem vc82_ok {a0 : List AV} {a1 : Int} {R : AV → Prop} (h : vc82 a0 a1 R) : Pure Try.prog 82 [.sl a0, nI a1] R :=
  pure_of_code (C := cfg (Func.ntmps Try.f82)) (cfg_tab _ _ _ _ _) (cfg_ord _ _ _ _ _) (L := [{ key := 2, live := [(0, none), (1, none), (5, none)] }]) (fn := Try.f82) Try.func82 rfl (by kernel_rfl) (by kernel_rfl) (by rfl) (of_eq (by kernel_rfl) h)

/-- filigreeref11.May -/
def vc74_L2 (p0 : (Int × List AV × Int × Unit) × (Unit)) (R : AV → Prop) : Prop :=
 LoopP ((Int × List AV × Int × Unit) × (Unit)) p0 fun z51 ag52 =>
 ITE (decide (z51.1.2.2.1 < ((List.length z51.1.2.1 : Nat) : Int)))
 (0 ≤ z51.1.2.2.1 ∧
 z51.1.2.2.1 < List.length z51.1.2.1 ∧
 ∃ (i53 : Int),
 List.getD z51.1.2.1 (Int.toNat z51.1.2.2.1) .top = nI i53 ∧
 ITE (decide (i53 < 0))
 (R (nB false))
 (0 ≤ z51.1.2.2.1 ∧
 z51.1.2.2.1 < List.length z51.1.2.1 ∧
 ∃ (i54 : Int),
 List.getD z51.1.2.1 (Int.toNat z51.1.2.2.1) .top = nI i54 ∧
 ITE (decide (i54 ≥ z51.1.1))
 (R (nB false))
 ((0 ≤ (0 : Int) ∧ (0 : Int) ≤ z51.1.2.2.1 ∧ z51.1.2.2.1 ≤ List.length z51.1.2.1 ∧ (∀ y : AV, y ∈ z51.1.2.1 → List.length (AV.cells y) = 1)) ∧
 0 ≤ z51.1.2.2.1 ∧
 z51.1.2.2.1 < List.length z51.1.2.1 ∧
 ∃ (i55 : Int),
 List.getD z51.1.2.1 (Int.toNat z51.1.2.2.1) .top = nI i55 ∧
 ∃ (b56 : Bool),
 PureIs Try.prog 82 [.sl (List.drop (Int.toNat 0) (List.take (Int.toNat z51.1.2.2.1) z51.1.2.1)), nI i55] (nB b56) ∧
 ITE b56
 (R (nB false))
 (ag52 ((z51.1.1, z51.1.2.1, IntKind.wrap .i64 (z51.1.2.2.1 + 1), ()), ())))))
 (R (nB true))
def vc74 (a0 : Int) (a1 : List AV) (R : AV → Prop) : Prop :=
 vc74_L2 ((a0, a1, 0, ()), ()) R
theorem vc74_ok {a0 : Int} {a1 : List AV} {R : AV → Prop} (h : vc74 a0 a1 R) : Pure Try.prog 74 [nI a0, .sl a1] R :=
  pure_of_code (C := cfg (Func.ntmps Try.f74)) (cfg_tab _ _ _ _ _) (cfg_ord _ _ _ _ _) (L := [{ key := 2, live := [(0, none), (1, none), (5, none)] }]) (fn := Try.f74) Try.func74 rfl (by kernel_rfl) (by kernel_rfl) (by rfl) (of_eq (by kernel_rfl) h)

/-- filigreeref06.Behind -/
def vc63 (a0 : List AV) (a1 : List AV) (R : AV → Prop) : Prop :=
 appOk td72 (List.length a0) [] a0 ∧
 List.length a0 = List.length a0 ∧
 appOk td72 (List.length (a0 ++ a1)) [] a1 ∧
 List.length (a0 ++ a1) = List.length (a0 ++ a1) ∧
 R (.sl (a0 ++ a1))
theorem vc63_ok {a0 : List AV} {a1 : List AV} {R : AV → Prop} (h : vc63 a0 a1 R) : Pure Try.prog 63 [.sl a0, .sl a1] R :=
  pure_of_code (C := cfg (Func.ntmps Try.f63)) (cfg_tab _ _ _ _ _) (cfg_ord _ _ _ _ _) (L := []) (fn := Try.f63) Try.func63 rfl (by kernel_rfl) (by kernel_rfl) (by rfl) (of_eq (by kernel_rfl) h)

/-- filigreeref11.Types -/
def vc76_L3 (p0 : (List AV × List AV × Unit × Int × Unit) × (List AV × Unit)) (R : AV → Prop) : Prop :=
 LoopP ((List AV × List AV × Unit × Int × Unit) × (List AV × Unit)) p0 fun z51 ag52 =>
 ITE (decide (z51.1.2.2.2.1 < ((List.length z51.1.2.1 : Nat) : Int)))
 (0 ≤ z51.1.2.2.2.1 ∧
 z51.1.2.2.2.1 < List.length z51.1.2.1 ∧
 ∃ (i53 : Int),
 List.getD z51.1.2.1 (Int.toNat z51.1.2.2.2.1) .top = nI i53 ∧
 0 ≤ (IntKind.wrap .i64 ((IntKind.wrap .i64 (((List.length z51.1.1 : Nat) : Int) - 1)) - i53)) ∧
 (IntKind.wrap .i64 ((IntKind.wrap .i64 (((List.length z51.1.1 : Nat) : Int) - 1)) - i53)) < List.length z51.1.1 ∧
 ∃ (l54 : List AV) (i55 : Int),
 List.getD z51.1.1 (Int.toNat (IntKind.wrap .i64 ((IntKind.wrap .i64 (((List.length z51.1.1 : Nat) : Int) - 1)) - i53))) .top = .agg [.sl l54, nI i55] ∧
 List.length z51.2.1 = List.length z51.2.1 ∧
 appOk td72 (List.length (z51.2.1 ++ [.agg [.sl l54, nI i55]])) [] [.agg [.sl l54, nI i55]] ∧
 List.length (z51.2.1 ++ [.agg [.sl l54, nI i55]]) = List.length (z51.2.1 ++ [.agg [.sl l54, nI i55]]) ∧
 ag52 ((z51.1.1, z51.1.2.1, (), IntKind.wrap .i64 (z51.1.2.2.2.1 + 1), ()), (z51.2.1 ++ [.agg [.sl l54, nI i55]], ())))
 (List.length z51.2.1 = List.length z51.2.1 ∧
 R (.sl z51.2.1))
def vc76 (a0 : List AV) (a1 : List AV) (R : AV → Prop) : Prop :=
 0 = List.length ([] : List AV) ∧
 vc76_L3 ((a0, a1, (), 0, ()), ([], ())) R
theorem vc76_ok {a0 : List AV} {a1 : List AV} {R : AV → Prop} (h : vc76 a0 a1 R) : Pure Try.prog 76 [.sl a0, .sl a1] R :=
  pure_of_code (C := cfg (Func.ntmps Try.f76)) (cfg_tab _ _ _ _ _) (cfg_ord _ _ _ _ _) (L := [{ key := 3, live := [(0, none), (1, none), (5, none), (6, none)], rows := [(5, 72)] }]) (fn := Try.f76) Try.func76 rfl (by kernel_rfl) (by kernel_rfl) (by rfl) (of_eq (by kernel_rfl) h)

/-- filigreelaw04.To -/
def vc73_L3 (p0 : (Unit × Unit × Unit × Int × Unit) × ((List AV × Int × Unit) × (Unit × Int × Unit) × (Unit × Int × Unit) × List AV × Unit)) (R : AV → Prop) : Prop :=
 LoopP ((Unit × Unit × Unit × Int × Unit) × ((List AV × Int × Unit) × (Unit × Int × Unit) × (Unit × Int × Unit) × List AV × Unit)) p0 fun z51 ag52 =>
 ITE (decide (z51.1.2.2.2.1 < ((List.length z51.2.1.1 : Nat) : Int)))
 (0 ≤ z51.1.2.2.2.1 ∧
 z51.1.2.2.2.1 < List.length z51.2.1.1 ∧
 ∃ (l53 : List AV) (i54 : Int),
 List.getD z51.2.1.1 (Int.toNat z51.1.2.2.2.1) .top = .agg [.sl l53, nI i54] ∧
 ∃ (l55 : List AV) (i56 : Int),
 PureIs Try.prog 73 [.agg [.sl l53, nI i54]] (.agg [.sl l55, nI i56]) ∧
 List.length z51.2.2.2.2.1 = List.length z51.2.2.2.2.1 ∧
 appOk td79 (List.length (z51.2.2.2.2.1 ++ [.agg [.sl l55, nI i56]])) [] [.agg [.sl l55, nI i56]] ∧
 List.length (z51.2.2.2.2.1 ++ [.agg [.sl l55, nI i56]]) = List.length (z51.2.2.2.2.1 ++ [.agg [.sl l55, nI i56]]) ∧
 ag52 (((), (), (), IntKind.wrap .i64 (z51.1.2.2.2.1 + 1), ()), ((z51.2.1.1, z51.2.1.2.1, ()), ((), z51.2.2.1.2.1, ()), ((), z51.2.2.2.1.2.1, ()), z51.2.2.2.2.1 ++ [.agg [.sl l55, nI i56]], ())))
 (List.length z51.2.2.2.2.1 = List.length z51.2.2.2.2.1 ∧
 R (.agg [.sl z51.2.2.2.2.1, nI z51.2.2.2.1.2.1]))
def vc73 (a0_0 : List AV) (a0_1 : Int) (R : AV → Prop) : Prop :=
 0 = List.length ([] : List AV) ∧
 vc73_L3 (((), (), (), 0, ()), ((a0_0, a0_1, ()), ((), 0, ()), ((), a0_1, ()), [], ())) R
theorem vc73_ok {a0_0 : List AV} {a0_1 : Int} {R : AV → Prop} (h : vc73 a0_0 a0_1 R) : Pure Try.prog 73 [.agg [.sl a0_0, nI a0_1]] R :=
  pure_of_code (C := cfg (Func.ntmps Try.f73)) (cfg_tab _ _ _ _ _) (cfg_ord _ _ _ _ _) (L := [{ key := 3, live := [(1, none), (2, none), (3, none), (4, none)], brows := [(2, 0, 79)] }]) (fn := Try.f73) Try.func73 rfl (by kernel_rfl) (by kernel_rfl) (by rfl) (of_eq (by kernel_rfl) h)

/-- filigreelaw06.Types -/
def vc18_L3 (p0 : (List AV × Unit × Int × Unit) × (List AV × Unit)) (R : AV → Prop) : Prop :=
 LoopP ((List AV × Unit × Int × Unit) × (List AV × Unit)) p0 fun z51 ag52 =>
 ITE (decide (z51.1.2.2.1 < ((List.length z51.1.1 : Nat) : Int)))
 (0 ≤ z51.1.2.2.1 ∧
 z51.1.2.2.1 < List.length z51.1.1 ∧
 ∃ (l53 : List AV) (i54 : Int),
 List.getD z51.1.1 (Int.toNat z51.1.2.2.1) .top = .agg [.sl l53, nI i54] ∧
 ∃ (l55 : List AV) (i56 : Int),
 PureIs Try.prog 73 [.agg [.sl l53, nI i54]] (.agg [.sl l55, nI i56]) ∧
 List.length z51.2.1 = List.length z51.2.1 ∧
 appOk td79 (List.length (z51.2.1 ++ [.agg [.sl l55, nI i56]])) [] [.agg [.sl l55, nI i56]] ∧
 List.length (z51.2.1 ++ [.agg [.sl l55, nI i56]]) = List.length (z51.2.1 ++ [.agg [.sl l55, nI i56]]) ∧
 ag52 ((z51.1.1, (), IntKind.wrap .i64 (z51.1.2.2.1 + 1), ()), (z51.2.1 ++ [.agg [.sl l55, nI i56]], ())))
 (List.length z51.2.1 = List.length z51.2.1 ∧
 R (.sl z51.2.1))
def vc18 (a0 : List AV) (R : AV → Prop) : Prop :=
 0 = List.length ([] : List AV) ∧
 vc18_L3 ((a0, (), 0, ()), ([], ())) R
theorem vc18_ok {a0 : List AV} {R : AV → Prop} (h : vc18 a0 R) : Pure Try.prog 18 [.sl a0] R :=
  pure_of_code (C := cfg (Func.ntmps Try.f18)) (cfg_tab _ _ _ _ _) (cfg_ord _ _ _ _ _) (L := [{ key := 3, live := [(0, none), (3, none), (4, none)], rows := [(3, 79)] }]) (fn := Try.f18) Try.func18 rfl (by kernel_rfl) (by kernel_rfl) (by rfl) (of_eq (by kernel_rfl) h)

/-- filigreelaw06.To -/
def vc17_L3 (p0 : (Unit × Unit × Unit × Int × Unit) × ((List AV × Int × Int × List AV × Unit) × (Unit × Int × Int × Unit × Unit) × (List AV × Int × Int × Unit × Unit) × List AV × Unit)) (R : AV → Prop) : Prop :=
 LoopP ((Unit × Unit × Unit × Int × Unit) × ((List AV × Int × Int × List AV × Unit) × (Unit × Int × Int × Unit × Unit) × (List AV × Int × Int × Unit × Unit) × List AV × Unit)) p0 fun z51 ag52 =>
 ITE (decide (z51.1.2.2.2.1 < ((List.length z51.2.1.2.2.2.1 : Nat) : Int)))
 (0 ≤ z51.1.2.2.2.1 ∧
 z51.1.2.2.2.1 < List.length z51.2.1.2.2.2.1 ∧
 ∃ (l53 : List AV) (i54 i55 : Int) (l56 : List AV),
 List.getD z51.2.1.2.2.2.1 (Int.toNat z51.1.2.2.2.1) .top = .agg [.sl l53, nI i54, nI i55, .sl l56] ∧
 ∃ (l57 : List AV) (i58 i59 : Int) (l60 : List AV),
 PureIs Try.prog 17 [.agg [.sl l53, nI i54, nI i55, .sl l56]] (.agg [.sl l57, nI i58, nI i59, .sl l60]) ∧
 List.length z51.2.2.2.2.1 = List.length z51.2.2.2.2.1 ∧
 appOk td38 (List.length (z51.2.2.2.2.1 ++ [.agg [.sl l57, nI i58, nI i59, .sl l60]])) [] [.agg [.sl l57, nI i58, nI i59, .sl l60]] ∧
 List.length (z51.2.2.2.2.1 ++ [.agg [.sl l57, nI i58, nI i59, .sl l60]]) = List.length (z51.2.2.2.2.1 ++ [.agg [.sl l57, nI i58, nI i59, .sl l60]]) ∧
 ag52 (((), (), (), IntKind.wrap .i64 (z51.1.2.2.2.1 + 1), ()), ((z51.2.1.1, z51.2.1.2.1, z51.2.1.2.2.1, z51.2.1.2.2.2.1, ()), ((), z51.2.2.1.2.1, z51.2.2.1.2.2.1, (), ()), (z51.2.2.2.1.1, z51.2.2.2.1.2.1, z51.2.2.2.1.2.2.1, (), ()), z51.2.2.2.2.1 ++ [.agg [.sl l57, nI i58, nI i59, .sl l60]], ())))
 (List.length z51.2.2.2.2.1 = List.length z51.2.2.2.2.1 ∧
 R (.agg [.sl z51.2.2.2.1.1, nI z51.2.2.2.1.2.1, nI z51.2.2.2.1.2.2.1, .sl z51.2.2.2.2.1]))
def vc17 (a0_0 : List AV) (a0_1 : Int) (a0_2 : Int) (a0_3 : List AV) (R : AV → Prop) : Prop :=
 ∃ (l1 : List AV),
 PureIs Try.prog 18 [.sl a0_0] (.sl l1) ∧
 0 = List.length ([] : List AV) ∧
 vc17_L3 (((), (), (), 0, ()), ((a0_0, a0_1, a0_2, a0_3, ()), ((), 0, 0, (), ()), (l1, a0_1, a0_2, (), ()), [], ())) R
theorem vc17_ok {a0_0 : List AV} {a0_1 : Int} {a0_2 : Int} {a0_3 : List AV} {R : AV → Prop} (h : vc17 a0_0 a0_1 a0_2 a0_3 R) : Pure Try.prog 17 [.agg [.sl a0_0, nI a0_1, nI a0_2, .sl a0_3]] R :=
  pure_of_code (C := cfg (Func.ntmps Try.f17) [(1, [none, none, none, none, none, none, none, none, none, none, none, some [], none], [none, some [], some [], none, none, some [], none, none, some [], none, none, none, none])]) (cfg_tab _ _ _ _ _) (cfg_ord _ _ _ _ _) (L := [{ key := 3, live := [(1, none), (2, none), (3, none), (4, none)], brows := [(2, 3, 38)] }]) (fn := Try.f17) Try.func17 rfl (by kernel_rfl) (by kernel_rfl) (by rfl) (of_eq (by kernel_rfl) h)

/-- filigreelaw04.Of -/
def vc47_L3 (p0 : (Unit × Unit × Unit × Int × Unit) × ((List AV × Int × Unit) × (Unit × Int × Unit) × (Unit × Int × Unit) × List AV × Unit)) (R : AV → Prop) : Prop :=
 LoopP ((Unit × Unit × Unit × Int × Unit) × ((List AV × Int × Unit) × (Unit × Int × Unit) × (Unit × Int × Unit) × List AV × Unit)) p0 fun z51 ag52 =>
 ITE (decide (z51.1.2.2.2.1 < ((List.length z51.2.1.1 : Nat) : Int)))
 (0 ≤ z51.1.2.2.2.1 ∧
 z51.1.2.2.2.1 < List.length z51.2.1.1 ∧
 ∃ (l53 : List AV) (i54 : Int),
 List.getD z51.2.1.1 (Int.toNat z51.1.2.2.2.1) .top = .agg [.sl l53, nI i54] ∧
 ∃ (l55 : List AV) (i56 : Int),
 PureIs Try.prog 47 [.agg [.sl l53, nI i54]] (.agg [.sl l55, nI i56]) ∧
 List.length z51.2.2.2.2.1 = List.length z51.2.2.2.2.1 ∧
 appOk td72 (List.length (z51.2.2.2.2.1 ++ [.agg [.sl l55, nI i56]])) [] [.agg [.sl l55, nI i56]] ∧
 List.length (z51.2.2.2.2.1 ++ [.agg [.sl l55, nI i56]]) = List.length (z51.2.2.2.2.1 ++ [.agg [.sl l55, nI i56]]) ∧
 ag52 (((), (), (), IntKind.wrap .i64 (z51.1.2.2.2.1 + 1), ()), ((z51.2.1.1, z51.2.1.2.1, ()), ((), z51.2.2.1.2.1, ()), ((), z51.2.2.2.1.2.1, ()), z51.2.2.2.2.1 ++ [.agg [.sl l55, nI i56]], ())))
 (List.length z51.2.2.2.2.1 = List.length z51.2.2.2.2.1 ∧
 R (.agg [.sl z51.2.2.2.2.1, nI z51.2.2.2.1.2.1]))
def vc47 (a0_0 : List AV) (a0_1 : Int) (R : AV → Prop) : Prop :=
 0 = List.length ([] : List AV) ∧
 vc47_L3 (((), (), (), 0, ()), ((a0_0, a0_1, ()), ((), 0, ()), ((), a0_1, ()), [], ())) R
theorem vc47_ok {a0_0 : List AV} {a0_1 : Int} {R : AV → Prop} (h : vc47 a0_0 a0_1 R) : Pure Try.prog 47 [.agg [.sl a0_0, nI a0_1]] R :=
  pure_of_code (C := cfg (Func.ntmps Try.f47)) (cfg_tab _ _ _ _ _) (cfg_ord _ _ _ _ _) (L := [{ key := 3, live := [(1, none), (2, none), (3, none), (4, none)], brows := [(2, 0, 72)] }]) (fn := Try.f47) Try.func47 rfl (by kernel_rfl) (by kernel_rfl) (by rfl) (of_eq (by kernel_rfl) h)

/-- filigreelaw06.OfTypes -/
def vc78_L3 (p0 : (List AV × Unit × Int × Unit) × (List AV × Unit)) (R : AV → Prop) : Prop :=
 LoopP ((List AV × Unit × Int × Unit) × (List AV × Unit)) p0 fun z51 ag52 =>
 ITE (decide (z51.1.2.2.1 < ((List.length z51.1.1 : Nat) : Int)))
 (0 ≤ z51.1.2.2.1 ∧
 z51.1.2.2.1 < List.length z51.1.1 ∧
 ∃ (l53 : List AV) (i54 : Int),
 List.getD z51.1.1 (Int.toNat z51.1.2.2.1) .top = .agg [.sl l53, nI i54] ∧
 ∃ (l55 : List AV) (i56 : Int),
 PureIs Try.prog 47 [.agg [.sl l53, nI i54]] (.agg [.sl l55, nI i56]) ∧
 List.length z51.2.1 = List.length z51.2.1 ∧
 appOk td72 (List.length (z51.2.1 ++ [.agg [.sl l55, nI i56]])) [] [.agg [.sl l55, nI i56]] ∧
 List.length (z51.2.1 ++ [.agg [.sl l55, nI i56]]) = List.length (z51.2.1 ++ [.agg [.sl l55, nI i56]]) ∧
 ag52 ((z51.1.1, (), IntKind.wrap .i64 (z51.1.2.2.1 + 1), ()), (z51.2.1 ++ [.agg [.sl l55, nI i56]], ())))
 (List.length z51.2.1 = List.length z51.2.1 ∧
 R (.sl z51.2.1))
def vc78 (a0 : List AV) (R : AV → Prop) : Prop :=
 0 = List.length ([] : List AV) ∧
 vc78_L3 ((a0, (), 0, ()), ([], ())) R
theorem vc78_ok {a0 : List AV} {R : AV → Prop} (h : vc78 a0 R) : Pure Try.prog 78 [.sl a0] R :=
  pure_of_code (C := cfg (Func.ntmps Try.f78)) (cfg_tab _ _ _ _ _) (cfg_ord _ _ _ _ _) (L := [{ key := 3, live := [(0, none), (3, none), (4, none)], rows := [(3, 72)] }]) (fn := Try.f78) Try.func78 rfl (by kernel_rfl) (by kernel_rfl) (by rfl) (of_eq (by kernel_rfl) h)

/-- filigreelaw06.Of -/
def vc21_L3 (p0 : (Unit × Unit × Unit × Int × Unit) × ((List AV × Int × Int × List AV × Unit) × (Unit × Int × Int × Unit × Unit) × (List AV × Int × Int × Unit × Unit) × List AV × Unit)) (R : AV → Prop) : Prop :=
 LoopP ((Unit × Unit × Unit × Int × Unit) × ((List AV × Int × Int × List AV × Unit) × (Unit × Int × Int × Unit × Unit) × (List AV × Int × Int × Unit × Unit) × List AV × Unit)) p0 fun z51 ag52 =>
 ITE (decide (z51.1.2.2.2.1 < ((List.length z51.2.1.2.2.2.1 : Nat) : Int)))
 (0 ≤ z51.1.2.2.2.1 ∧
 z51.1.2.2.2.1 < List.length z51.2.1.2.2.2.1 ∧
 ∃ (l53 : List AV) (i54 i55 : Int) (l56 : List AV),
 List.getD z51.2.1.2.2.2.1 (Int.toNat z51.1.2.2.2.1) .top = .agg [.sl l53, nI i54, nI i55, .sl l56] ∧
 ∃ (l57 : List AV) (i58 i59 : Int) (l60 : List AV),
 PureIs Try.prog 21 [.agg [.sl l53, nI i54, nI i55, .sl l56]] (.agg [.sl l57, nI i58, nI i59, .sl l60]) ∧
 List.length z51.2.2.2.2.1 = List.length z51.2.2.2.2.1 ∧
 appOk td27 (List.length (z51.2.2.2.2.1 ++ [.agg [.sl l57, nI i58, nI i59, .sl l60]])) [] [.agg [.sl l57, nI i58, nI i59, .sl l60]] ∧
 List.length (z51.2.2.2.2.1 ++ [.agg [.sl l57, nI i58, nI i59, .sl l60]]) = List.length (z51.2.2.2.2.1 ++ [.agg [.sl l57, nI i58, nI i59, .sl l60]]) ∧
 ag52 (((), (), (), IntKind.wrap .i64 (z51.1.2.2.2.1 + 1), ()), ((z51.2.1.1, z51.2.1.2.1, z51.2.1.2.2.1, z51.2.1.2.2.2.1, ()), ((), z51.2.2.1.2.1, z51.2.2.1.2.2.1, (), ()), (z51.2.2.2.1.1, z51.2.2.2.1.2.1, z51.2.2.2.1.2.2.1, (), ()), z51.2.2.2.2.1 ++ [.agg [.sl l57, nI i58, nI i59, .sl l60]], ())))
 (List.length z51.2.2.2.2.1 = List.length z51.2.2.2.2.1 ∧
 R (.agg [.sl z51.2.2.2.1.1, nI z51.2.2.2.1.2.1, nI z51.2.2.2.1.2.2.1, .sl z51.2.2.2.2.1]))
def vc21 (a0_0 : List AV) (a0_1 : Int) (a0_2 : Int) (a0_3 : List AV) (R : AV → Prop) : Prop :=
 ∃ (l1 : List AV),
 PureIs Try.prog 78 [.sl a0_0] (.sl l1) ∧
 0 = List.length ([] : List AV) ∧
 vc21_L3 (((), (), (), 0, ()), ((a0_0, a0_1, a0_2, a0_3, ()), ((), 0, 0, (), ()), (l1, a0_1, a0_2, (), ()), [], ())) R
theorem vc21_ok {a0_0 : List AV} {a0_1 : Int} {a0_2 : Int} {a0_3 : List AV} {R : AV → Prop} (h : vc21 a0_0 a0_1 a0_2 a0_3 R) : Pure Try.prog 21 [.agg [.sl a0_0, nI a0_1, nI a0_2, .sl a0_3]] R :=
  pure_of_code (C := cfg (Func.ntmps Try.f21) [(1, [none, none, none, none, none, none, none, none, none, none, none, some [], none], [none, some [], some [], none, none, some [], none, none, some [], none, none, none, none])]) (cfg_tab _ _ _ _ _) (cfg_ord _ _ _ _ _) (L := [{ key := 3, live := [(1, none), (2, none), (3, none), (4, none)], brows := [(2, 3, 27)] }]) (fn := Try.f21) Try.func21 rfl (by kernel_rfl) (by kernel_rfl) (by rfl) (of_eq (by kernel_rfl) h)

/-- filigreeref04.Same -/
def vc46_L4 (p0 : (Unit × Unit × Int × Unit) × ((List AV × Int × Unit) × (List AV × Int × Unit) × Unit)) (R : AV → Prop) : Prop :=
 LoopP ((Unit × Unit × Int × Unit) × ((List AV × Int × Unit) × (List AV × Int × Unit) × Unit)) p0 fun z51 ag52 =>
 ITE (decide (z51.1.2.2.1 < ((List.length z51.2.1.1 : Nat) : Int)))
 (0 ≤ z51.1.2.2.1 ∧
 z51.1.2.2.1 < List.length z51.2.1.1 ∧
 ∃ (l53 : List AV) (i54 : Int),
 List.getD z51.2.1.1 (Int.toNat z51.1.2.2.1) .top = .agg [.sl l53, nI i54] ∧
 0 ≤ z51.1.2.2.1 ∧
 z51.1.2.2.1 < List.length z51.2.2.1.1 ∧
 ∃ (l55 : List AV) (i56 : Int),
 List.getD z51.2.2.1.1 (Int.toNat z51.1.2.2.1) .top = .agg [.sl l55, nI i56] ∧
 ∃ (b57 : Bool),
 PureIs Try.prog 46 [.agg [.sl l53, nI i54], .agg [.sl l55, nI i56]] (nB b57) ∧
 ITE (!b57)
 (R (nB false))
 (ag52 (((), (), IntKind.wrap .i64 (z51.1.2.2.1 + 1), ()), ((z51.2.1.1, z51.2.1.2.1, ()), (z51.2.2.1.1, z51.2.2.1.2.1, ()), ()))))
 (R (nB true))
def vc46 (a0_0 : List AV) (a0_1 : Int) (a1_0 : List AV) (a1_1 : Int) (R : AV → Prop) : Prop :=
 ITE (a0_1 != a1_1)
 (R (nB false))
 (ITE (((List.length a0_0 : Nat) : Int) != ((List.length a1_0 : Nat) : Int))
 (R (nB false))
 (vc46_L4 (((), (), 0, ()), ((a0_0, a0_1, ()), (a1_0, a1_1, ()), ())) R))
theorem vc46_ok {a0_0 : List AV} {a0_1 : Int} {a1_0 : List AV} {a1_1 : Int} {R : AV → Prop} (h : vc46 a0_0 a0_1 a1_0 a1_1 R) : Pure Try.prog 46 [.agg [.sl a0_0, nI a0_1], .agg [.sl a1_0, nI a1_1]] R :=
  pure_of_code (C := cfg (Func.ntmps Try.f46)) (cfg_tab _ _ _ _ _) (cfg_ord _ _ _ _ _) (L := [{ key := 4, live := [(2, none), (3, none), (5, none)] }]) (fn := Try.f46) Try.func46 rfl (by kernel_rfl) (by kernel_rfl) (by rfl) (of_eq (by kernel_rfl) h)

/-- filigreeref06.types -/
def vc77_L4 (p0 : (List AV × List AV × Int × Unit) × (Unit)) (R : AV → Prop) : Prop :=
 LoopP ((List AV × List AV × Int × Unit) × (Unit)) p0 fun z51 ag52 =>
 ITE (decide (z51.1.2.2.1 < ((List.length z51.1.1 : Nat) : Int)))
 (0 ≤ z51.1.2.2.1 ∧
 z51.1.2.2.1 < List.length z51.1.1 ∧
 ∃ (l53 : List AV) (i54 : Int),
 List.getD z51.1.1 (Int.toNat z51.1.2.2.1) .top = .agg [.sl l53, nI i54] ∧
 0 ≤ z51.1.2.2.1 ∧
 z51.1.2.2.1 < List.length z51.1.2.1 ∧
 ∃ (l55 : List AV) (i56 : Int),
 List.getD z51.1.2.1 (Int.toNat z51.1.2.2.1) .top = .agg [.sl l55, nI i56] ∧
 ∃ (b57 : Bool),
 PureIs Try.prog 46 [.agg [.sl l53, nI i54], .agg [.sl l55, nI i56]] (nB b57) ∧
 ITE (!b57)
 (R (nB false))
 (ag52 ((z51.1.1, z51.1.2.1, IntKind.wrap .i64 (z51.1.2.2.1 + 1), ()), ())))
 (R (nB true))
def vc77 (a0 : List AV) (a1 : List AV) (R : AV → Prop) : Prop :=
 ITE (((List.length a0 : Nat) : Int) != ((List.length a1 : Nat) : Int))
 (R (nB false))
 (vc77_L4 ((a0, a1, 0, ()), ()) R)
theorem vc77_ok {a0 : List AV} {a1 : List AV} {R : AV → Prop} (h : vc77 a0 a1 R) : Pure Try.prog 77 [.sl a0, .sl a1] R :=
  pure_of_code (C := cfg (Func.ntmps Try.f77)) (cfg_tab _ _ _ _ _) (cfg_ord _ _ _ _ _) (L := [{ key := 4, live := [(0, none), (1, none), (5, none)] }]) (fn := Try.f77) Try.func77 rfl (by kernel_rfl) (by kernel_rfl) (by rfl) (of_eq (by kernel_rfl) h)

/-- filigreeref06.Same -/
def vc20_L4 (p0 : (Unit × Unit × Int × Unit) × ((List AV × Int × Int × List AV × Unit) × (List AV × Int × Int × List AV × Unit) × Unit)) (R : AV → Prop) : Prop :=
 LoopP ((Unit × Unit × Int × Unit) × ((List AV × Int × Int × List AV × Unit) × (List AV × Int × Int × List AV × Unit) × Unit)) p0 fun z51 ag52 =>
 ITE (decide (z51.1.2.2.1 < ((List.length z51.2.1.2.2.2.1 : Nat) : Int)))
 (0 ≤ z51.1.2.2.1 ∧
 z51.1.2.2.1 < List.length z51.2.1.2.2.2.1 ∧
 ∃ (l53 : List AV) (i54 i55 : Int) (l56 : List AV),
 List.getD z51.2.1.2.2.2.1 (Int.toNat z51.1.2.2.1) .top = .agg [.sl l53, nI i54, nI i55, .sl l56] ∧
 0 ≤ z51.1.2.2.1 ∧
 z51.1.2.2.1 < List.length z51.2.2.1.2.2.2.1 ∧
 ∃ (l57 : List AV) (i58 i59 : Int) (l60 : List AV),
 List.getD z51.2.2.1.2.2.2.1 (Int.toNat z51.1.2.2.1) .top = .agg [.sl l57, nI i58, nI i59, .sl l60] ∧
 ∃ (b61 : Bool),
 PureIs Try.prog 20 [.agg [.sl l53, nI i54, nI i55, .sl l56], .agg [.sl l57, nI i58, nI i59, .sl l60]] (nB b61) ∧
 ITE (!b61)
 (R (nB false))
 (ag52 (((), (), IntKind.wrap .i64 (z51.1.2.2.1 + 1), ()), ((z51.2.1.1, z51.2.1.2.1, z51.2.1.2.2.1, z51.2.1.2.2.2.1, ()), (z51.2.2.1.1, z51.2.2.1.2.1, z51.2.2.1.2.2.1, z51.2.2.1.2.2.2.1, ()), ()))))
 (R (nB true))
def vc20 (a0_0 : List AV) (a0_1 : Int) (a0_2 : Int) (a0_3 : List AV) (a1_0 : List AV) (a1_1 : Int) (a1_2 : Int) (a1_3 : List AV) (R : AV → Prop) : Prop :=
 ITE (!(a0_1 == a1_1 && a0_2 == a1_2))
 (R (nB false))
 (ITE (((List.length a0_3 : Nat) : Int) != ((List.length a1_3 : Nat) : Int))
 (R (nB false))
 (∃ (b1 : Bool),
 PureIs Try.prog 77 [.sl a0_0, .sl a1_0] (nB b1) ∧
 ITE (!b1)
 (R (nB false))
 (vc20_L4 (((), (), 0, ()), ((a0_0, a0_1, a0_2, a0_3, ()), (a1_0, a1_1, a1_2, a1_3, ()), ())) R)))
theorem vc20_ok {a0_0 : List AV} {a0_1 : Int} {a0_2 : Int} {a0_3 : List AV} {a1_0 : List AV} {a1_1 : Int} {a1_2 : Int} {a1_3 : List AV} {R : AV → Prop} (h : vc20 a0_0 a0_1 a0_2 a0_3 a1_0 a1_1 a1_2 a1_3 R) : Pure Try.prog 20 [.agg [.sl a0_0, nI a0_1, nI a0_2, .sl a0_3], .agg [.sl a1_0, nI a1_1, nI a1_2, .sl a1_3]] R :=
  pure_of_code (C := cfg (Func.ntmps Try.f20)) (cfg_tab _ _ _ _ _) (cfg_ord _ _ _ _ _) (L := [{ key := 4, live := [(2, none), (3, none), (5, none)] }]) (fn := Try.f20) Try.func20 rfl (by kernel_rfl) (by kernel_rfl) (by rfl) (of_eq (by kernel_rfl) h)

/-- filigreeref04.Size -/
def vc127_L3 (p0 : (Unit × Int × Int × Unit) × ((List AV × Int × Unit) × Unit)) (R : AV → Prop) : Prop :=
 LoopP ((Unit × Int × Int × Unit) × ((List AV × Int × Unit) × Unit)) p0 fun z51 ag52 =>
 ITE (decide (z51.1.2.2.1 < ((List.length z51.2.1.1 : Nat) : Int)))
 (0 ≤ z51.1.2.2.1 ∧
 z51.1.2.2.1 < List.length z51.2.1.1 ∧
 ∃ (l53 : List AV) (i54 : Int),
 List.getD z51.2.1.1 (Int.toNat z51.1.2.2.1) .top = .agg [.sl l53, nI i54] ∧
 ∃ (i55 : Int),
 PureIs Try.prog 127 [.agg [.sl l53, nI i54]] (nI i55) ∧
 ag52 (((), IntKind.wrap .i64 (z51.1.2.1 + i55), IntKind.wrap .i64 (z51.1.2.2.1 + 1), ()), ((z51.2.1.1, z51.2.1.2.1, ()), ())))
 (R (nI z51.1.2.1))
def vc127 (a0_0 : List AV) (a0_1 : Int) (R : AV → Prop) : Prop :=
 vc127_L3 (((), 1, 0, ()), ((a0_0, a0_1, ()), ())) R
theorem vc127_ok {a0_0 : List AV} {a0_1 : Int} {R : AV → Prop} (h : vc127 a0_0 a0_1 R) : Pure Try.prog 127 [.agg [.sl a0_0, nI a0_1]] R :=
  pure_of_code (C := cfg (Func.ntmps Try.f127)) (cfg_tab _ _ _ _ _) (cfg_ord _ _ _ _ _) (L := [{ key := 3, live := [(1, none), (3, none), (4, none)] }]) (fn := Try.f127) Try.func127 rfl (by kernel_rfl) (by kernel_rfl) (by rfl) (of_eq (by kernel_rfl) h)

/-- filigreeref04.few -/
def vc112_L5 (p0 : (Int × Int × Unit × Int × Int × Unit) × ((List AV × Int × Unit) × Unit)) (R : AV → Prop) : Prop :=
 LoopP ((Int × Int × Unit × Int × Int × Unit) × ((List AV × Int × Unit) × Unit)) p0 fun z51 ag52 =>
 ITE (decide (z51.1.2.2.2.2.1 < ((List.length z51.2.1.1 : Nat) : Int)))
 (ITE (decide (z51.1.2.2.2.1 ≤ z51.1.1))
 (0 ≤ z51.1.2.2.2.2.1 ∧
 z51.1.2.2.2.2.1 < List.length z51.2.1.1 ∧
 ∃ (l53 : List AV) (i54 : Int),
 List.getD z51.2.1.1 (Int.toNat z51.1.2.2.2.2.1) .top = .agg [.sl l53, nI i54] ∧
 ∃ (i55 : Int),
 PureIs Try.prog 112 [.agg [.sl l53, nI i54], nI z51.1.1, nI (IntKind.wrap .i64 (z51.1.2.1 - 1))] (nI i55) ∧
 ag52 ((z51.1.1, z51.1.2.1, (), IntKind.wrap .i64 (z51.1.2.2.2.1 + i55), IntKind.wrap .i64 (z51.1.2.2.2.2.1 + 1), ()), ((z51.2.1.1, z51.2.1.2.1, ()), ())))
 (R (nI z51.1.2.2.2.1)))
 (R (nI z51.1.2.2.2.1))
def vc112 (a0_0 : List AV) (a0_1 : Int) (a1 : Int) (a2 : Int) (R : AV → Prop) : Prop :=
 ITE (decide (a2 ≤ 0))
 (R (nI (IntKind.wrap .i64 (a1 + 1))))
 (vc112_L5 ((a1, a2, (), 1, 0, ()), ((a0_0, a0_1, ()), ())) R)
theorem vc112_ok {a0_0 : List AV} {a0_1 : Int} {a1 : Int} {a2 : Int} {R : AV → Prop} (h : vc112 a0_0 a0_1 a1 a2 R) : Pure Try.prog 112 [.agg [.sl a0_0, nI a0_1], nI a1, nI a2] R :=
  pure_of_code (C := cfg (Func.ntmps Try.f112)) (cfg_tab _ _ _ _ _) (cfg_ord _ _ _ _ _) (L := [{ key := 5, live := [(1, none), (2, none), (3, none), (7, none), (8, none)] }]) (fn := Try.f112) Try.func112 rfl (by kernel_rfl) (by kernel_rfl) (by rfl) (of_eq (by kernel_rfl) h)

/-- filigreeref04.Few -/
def vc64 (a0_0 : List AV) (a0_1 : Int) (a1 : Int) (a2 : Int) (R : AV → Prop) : Prop :=
 ∃ (i1 : Int),
 PureIs Try.prog 112 [.agg [.sl a0_0, nI a0_1], nI a1, nI a2] (nI i1) ∧
 R (nB (decide (i1 ≤ a1)))
theorem vc64_ok {a0_0 : List AV} {a0_1 : Int} {a1 : Int} {a2 : Int} {R : AV → Prop} (h : vc64 a0_0 a0_1 a1 a2 R) : Pure Try.prog 64 [.agg [.sl a0_0, nI a0_1], nI a1, nI a2] R :=
  pure_of_code (C := cfg (Func.ntmps Try.f64)) (cfg_tab _ _ _ _ _) (cfg_ord _ _ _ _ _) (L := []) (fn := Try.f64) Try.func64 rfl (by kernel_rfl) (by kernel_rfl) (by rfl) (of_eq (by kernel_rfl) h)

/-- filigreeref06.few -/
def vc111_L11 (p0 : (Int × Int × Unit × Int × Int × Unit) × ((List AV × Int × Int × List AV × Unit) × Unit)) (R : AV → Prop) : Prop :=
 LoopP ((Int × Int × Unit × Int × Int × Unit) × ((List AV × Int × Int × List AV × Unit) × Unit)) p0 fun z51 ag52 =>
 ITE (decide (z51.1.2.2.2.2.1 < ((List.length z51.2.1.2.2.2.1 : Nat) : Int)))
 (ITE (decide (z51.1.2.2.2.1 ≤ z51.1.1))
 (0 ≤ z51.1.2.2.2.2.1 ∧
 z51.1.2.2.2.2.1 < List.length z51.2.1.2.2.2.1 ∧
 ∃ (l53 : List AV) (i54 i55 : Int) (l56 : List AV),
 List.getD z51.2.1.2.2.2.1 (Int.toNat z51.1.2.2.2.2.1) .top = .agg [.sl l53, nI i54, nI i55, .sl l56] ∧
 ∃ (i57 : Int),
 PureIs Try.prog 111 [.agg [.sl l53, nI i54, nI i55, .sl l56], nI z51.1.1, nI (IntKind.wrap .i64 (z51.1.2.1 - 1))] (nI i57) ∧
 ag52 ((z51.1.1, z51.1.2.1, (), IntKind.wrap .i64 (z51.1.2.2.2.1 + i57), IntKind.wrap .i64 (z51.1.2.2.2.2.1 + 1), ()), ((z51.2.1.1, z51.2.1.2.1, z51.2.1.2.2.1, z51.2.1.2.2.2.1, ()), ())))
 (R (nI z51.1.2.2.2.1)))
 (R (nI z51.1.2.2.2.1))
def vc111_L5 (p0 : (Int × Int × Unit × Int × Int × Unit) × ((List AV × Int × Int × List AV × Unit) × Unit)) (R : AV → Prop) : Prop :=
 LoopP ((Int × Int × Unit × Int × Int × Unit) × ((List AV × Int × Int × List AV × Unit) × Unit)) p0 fun z51 ag52 =>
 ITE (decide (z51.1.2.2.2.2.1 < ((List.length z51.2.1.1 : Nat) : Int)))
 (ITE (decide (z51.1.2.2.2.1 ≤ z51.1.1))
 (0 ≤ z51.1.2.2.2.2.1 ∧
 z51.1.2.2.2.2.1 < List.length z51.2.1.1 ∧
 ∃ (l53 : List AV) (i54 : Int),
 List.getD z51.2.1.1 (Int.toNat z51.1.2.2.2.2.1) .top = .agg [.sl l53, nI i54] ∧
 ∃ (b55 : Bool),
 PureIs Try.prog 64 [.agg [.sl l53, nI i54], nI z51.1.1, nI z51.1.2.1] (nB b55) ∧
 ITE (!b55)
 (R (nI (IntKind.wrap .i64 (z51.1.1 + 1))))
 (0 ≤ z51.1.2.2.2.2.1 ∧
 z51.1.2.2.2.2.1 < List.length z51.2.1.1 ∧
 ∃ (l56 : List AV) (i57 : Int),
 List.getD z51.2.1.1 (Int.toNat z51.1.2.2.2.2.1) .top = .agg [.sl l56, nI i57] ∧
 ∃ (i58 : Int),
 PureIs Try.prog 127 [.agg [.sl l56, nI i57]] (nI i58) ∧
 ag52 ((z51.1.1, z51.1.2.1, (), IntKind.wrap .i64 (z51.1.2.2.2.1 + i58), IntKind.wrap .i64 (z51.1.2.2.2.2.1 + 1), ()), ((z51.2.1.1, z51.2.1.2.1, z51.2.1.2.2.1, z51.2.1.2.2.2.1, ()), ()))))
 (vc111_L11 ((z51.1.1, z51.1.2.1, (), z51.1.2.2.2.1, 0, ()), ((z51.2.1.1, z51.2.1.2.1, z51.2.1.2.2.1, z51.2.1.2.2.2.1, ()), ())) R))
 (vc111_L11 ((z51.1.1, z51.1.2.1, (), z51.1.2.2.2.1, 0, ()), ((z51.2.1.1, z51.2.1.2.1, z51.2.1.2.2.1, z51.2.1.2.2.2.1, ()), ())) R)
def vc111 (a0_0 : List AV) (a0_1 : Int) (a0_2 : Int) (a0_3 : List AV) (a1 : Int) (a2 : Int) (R : AV → Prop) : Prop :=
 ITE (decide (a2 ≤ 0))
 (R (nI (IntKind.wrap .i64 (a1 + 1))))
 (vc111_L5 ((a1, a2, (), 1, 0, ()), ((a0_0, a0_1, a0_2, a0_3, ()), ())) R)
theorem vc111_ok {a0_0 : List AV} {a0_1 : Int} {a0_2 : Int} {a0_3 : List AV} {a1 : Int} {a2 : Int} {R : AV → Prop} (h : vc111 a0_0 a0_1 a0_2 a0_3 a1 a2 R) : Pure Try.prog 111 [.agg [.sl a0_0, nI a0_1, nI a0_2, .sl a0_3], nI a1, nI a2] R :=
  pure_of_code (C := cfg (Func.ntmps Try.f111)) (cfg_tab _ _ _ _ _) (cfg_ord _ _ _ _ _) (L := [{ key := 5, live := [(1, none), (2, none), (3, none), (7, none), (8, none)] }, { key := 11, live := [(1, none), (2, none), (3, none), (7, none), (9, none)] }]) (fn := Try.f111) Try.func111 rfl (by kernel_rfl) (by kernel_rfl) (by rfl) (of_eq (by kernel_rfl) h)

/-- filigreeref06.Few -/
def vc62 (a0_0 : List AV) (a0_1 : Int) (a0_2 : Int) (a0_3 : List AV) (a1 : Int) (a2 : Int) (R : AV → Prop) : Prop :=
 ∃ (i1 : Int),
 PureIs Try.prog 111 [.agg [.sl a0_0, nI a0_1, nI a0_2, .sl a0_3], nI a1, nI a2] (nI i1) ∧
 R (nB (decide (i1 ≤ a1)))
theorem vc62_ok {a0_0 : List AV} {a0_1 : Int} {a0_2 : Int} {a0_3 : List AV} {a1 : Int} {a2 : Int} {R : AV → Prop} (h : vc62 a0_0 a0_1 a0_2 a0_3 a1 a2 R) : Pure Try.prog 62 [.agg [.sl a0_0, nI a0_1, nI a0_2, .sl a0_3], nI a1, nI a2] R :=
  pure_of_code (C := cfg (Func.ntmps Try.f62)) (cfg_tab _ _ _ _ _) (cfg_ord _ _ _ _ _) (L := []) (fn := Try.f62) Try.func62 rfl (by kernel_rfl) (by kernel_rfl) (by rfl) (of_eq (by kernel_rfl) h)

/-- filigreelaw06.Few -/
def vc12_L2 (p0 : (List AV × Int × Unit) × (Unit)) (R : AV → Prop) : Prop :=
 LoopP ((List AV × Int × Unit) × (Unit)) p0 fun z51 ag52 =>
 ITE (decide (z51.1.2.1 < ((List.length z51.1.1 : Nat) : Int)))
 (0 ≤ z51.1.2.1 ∧
 z51.1.2.1 < List.length z51.1.1 ∧
 ∃ (l53 : List AV) (i54 i55 : Int) (l56 : List AV),
 List.getD z51.1.1 (Int.toNat z51.1.2.1) .top = .agg [.sl l53, nI i54, nI i55, .sl l56] ∧
 ∃ (b57 : Bool),
 PureIs Try.prog 62 [.agg [.sl l53, nI i54, nI i55, .sl l56], nI 150, nI 70] (nB b57) ∧
 ITE (!b57)
 (R (nB false))
 (ag52 ((z51.1.1, IntKind.wrap .i64 (z51.1.2.1 + 1), ()), ())))
 (R (nB true))
def vc12 (a0 : List AV) (R : AV → Prop) : Prop :=
 vc12_L2 ((a0, 0, ()), ()) R
theorem vc12_ok {a0 : List AV} {R : AV → Prop} (h : vc12 a0 R) : Pure Try.prog 12 [.sl a0] R :=
  pure_of_code (C := cfg (Func.ntmps Try.f12)) (cfg_tab _ _ _ _ _) (cfg_ord _ _ _ _ _) (L := [{ key := 2, live := [(0, none), (3, none)] }]) (fn := Try.f12) Try.func12 rfl (by kernel_rfl) (by kernel_rfl) (by rfl) (of_eq (by kernel_rfl) h)

/-- filigreelaw08.Low -/
def vc13_L2 (p0 : (List AV × Int × Unit) × (Unit)) (R : AV → Prop) : Prop :=
 LoopP ((List AV × Int × Unit) × (Unit)) p0 fun z51 ag52 =>
 ITE (decide (z51.1.2.1 < ((List.length z51.1.1 : Nat) : Int)))
 (0 ≤ z51.1.2.1 ∧
 z51.1.2.1 < List.length z51.1.1 ∧
 ∃ (l53 : List AV) (i54 i55 : Int) (l56 : List AV),
 List.getD z51.1.1 (Int.toNat z51.1.2.1) .top = .agg [.sl l53, nI i54, nI i55, .sl l56] ∧
 ITE (i54 == 0)
 (0 ≤ z51.1.2.1 ∧
 z51.1.2.1 < List.length z51.1.1 ∧
 ∃ (l57 : List AV) (i58 i59 : Int) (l60 : List AV),
 List.getD z51.1.1 (Int.toNat z51.1.2.1) .top = .agg [.sl l57, nI i58, nI i59, .sl l60] ∧
 ITE (decide (i59 > 900000))
 (R (nB false))
 (0 ≤ z51.1.2.1 ∧
 z51.1.2.1 < List.length z51.1.1 ∧
 ∃ (l61 : List AV) (i62 i63 : Int) (l64 : List AV),
 List.getD z51.1.1 (Int.toNat z51.1.2.1) .top = .agg [.sl l61, nI i62, nI i63, .sl l64] ∧
 ∃ (b65 : Bool),
 PureIs Try.prog 13 [.sl l64] (nB b65) ∧
 ITE (!b65)
 (R (nB false))
 (ag52 ((z51.1.1, IntKind.wrap .i64 (z51.1.2.1 + 1), ()), ()))))
 (0 ≤ z51.1.2.1 ∧
 z51.1.2.1 < List.length z51.1.1 ∧
 ∃ (l66 : List AV) (i67 i68 : Int) (l69 : List AV),
 List.getD z51.1.1 (Int.toNat z51.1.2.1) .top = .agg [.sl l66, nI i67, nI i68, .sl l69] ∧
 ∃ (b70 : Bool),
 PureIs Try.prog 13 [.sl l69] (nB b70) ∧
 ITE (!b70)
 (R (nB false))
 (ag52 ((z51.1.1, IntKind.wrap .i64 (z51.1.2.1 + 1), ()), ()))))
 (R (nB true))
def vc13 (a0 : List AV) (R : AV → Prop) : Prop :=
 vc13_L2 ((a0, 0, ()), ()) R
theorem vc13_ok {a0 : List AV} {R : AV → Prop} (h : vc13 a0 R) : Pure Try.prog 13 [.sl a0] R :=
  pure_of_code (C := cfg (Func.ntmps Try.f13)) (cfg_tab _ _ _ _ _) (cfg_ord _ _ _ _ _) (L := [{ key := 2, live := [(0, none), (3, none)] }]) (fn := Try.f13) Try.func13 rfl (by kernel_rfl) (by kernel_rfl) (by rfl) (of_eq (by kernel_rfl) h)

/-- filigreelaw06.Small -/
def vc14_L5 (p0 : (List AV × Int × Unit) × ((Int × List AV × List AV × Unit) × Unit)) (R : AV → Prop) : Prop :=
 LoopP ((List AV × Int × Unit) × ((Int × List AV × List AV × Unit) × Unit)) p0 fun z51 ag52 =>
 ITE (decide (z51.1.2.1 < ((List.length z51.1.1 : Nat) : Int)))
 (0 ≤ z51.1.2.1 ∧
 z51.1.2.1 < List.length z51.1.1 ∧
 ∃ (l53 : List AV) (i54 : Int),
 List.getD z51.1.1 (Int.toNat z51.1.2.1) .top = .agg [.sl l53, nI i54] ∧
 ∃ (b55 : Bool),
 PureIs Try.prog 64 [.agg [.sl l53, nI i54], nI 60, nI 60] (nB b55) ∧
 ITE (!b55)
 (R (nB false))
 (ag52 ((z51.1.1, IntKind.wrap .i64 (z51.1.2.1 + 1), ()), ((z51.2.1.1, z51.2.1.2.1, z51.2.1.2.2.1, ()), ()))))
 (R (nB true))
def vc14 (a0_0 : Int) (a0_1 : List AV) (a0_2 : List AV) (a1 : List AV) (R : AV → Prop) : Prop :=
 ITE (decide (((List.length a0_1 : Nat) : Int) > 20))
 (R (nB false))
 (ITE (decide (((List.length a0_2 : Nat) : Int) > 20))
 (R (nB false))
 (ITE (decide (((List.length a1 : Nat) : Int) > 20))
 (R (nB false))
 (∃ (l1 : List AV),
 PureIs Try.prog 63 [.sl a0_1, .sl a0_2] (.sl l1) ∧
 ∃ (l2 : List AV),
 PureIs Try.prog 63 [.sl l1, .sl a1] (.sl l2) ∧
 vc14_L5 ((l2, 0, ()), ((a0_0, a0_1, a0_2, ()), ())) R)))
theorem vc14_ok {a0_0 : Int} {a0_1 : List AV} {a0_2 : List AV} {a1 : List AV} {R : AV → Prop} (h : vc14 a0_0 a0_1 a0_2 a1 R) : Pure Try.prog 14 [.agg [nI a0_0, .sl a0_1, .sl a0_2], .sl a1] R :=
  pure_of_code (C := cfg (Func.ntmps Try.f14)) (cfg_tab _ _ _ _ _) (cfg_ord _ _ _ _ _) (L := [{ key := 5, live := [(5, none), (6, none)] }]) (fn := Try.f14) Try.func14 rfl (by kernel_rfl) (by kernel_rfl) (by rfl) (of_eq (by kernel_rfl) h)

/-- kind.Of -/
def vc89 (a0 : Int) (a1 : List AV) (R : AV → Prop) : Prop :=
 ∃ (l1 : List AV) (i2 : Int),
 PureIs Try.prog 120 [.agg [.sl a1, nI a0]] (.agg [.sl l1, nI i2]) ∧
 R (.agg [.sl l1, nI i2])
theorem vc89_ok {a0 : Int} {a1 : List AV} {R : AV → Prop} (h : vc89 a0 a1 R) : Pure Try.prog 89 [nI a0, .sl a1] R :=
  pure_of_code (C := cfg (Func.ntmps Try.f89)) (cfg_tab _ _ _ _ _) (cfg_ord _ _ _ _ _) (L := []) (fn := Try.f89) Try.func89 rfl (by kernel_rfl) (by kernel_rfl) (by rfl) (of_eq (by kernel_rfl) h)

end Go.Proofs.Ytfbncddnakaaiaa
