/- What the contracts of functions ask, as the kernel reckons it out of the code; laid by a program of ours. -/
import Derived.Test.YtfbncddnakaaiaaMSig
namespace Go.Proofs.Ytfbncddnakaaiaa
open Go
set_option linter.unusedSimpArgs false
set_option linter.unusedVariables false
set_option maxRecDepth 100000

/-- filigreeref11.Has -/
def vc82_L2 (p0 : (List AV × Int × Int × Unit) × (Unit)) (R : AV → Prop) : Prop :=
 LoopP ((List AV × Int × Int × Unit) × (Unit)) p0 fun z51 ag52 =>
 ITE (decide (z51.1.2.2.1 < ((List.length z51.1.1 : Nat) : Int)))
 (0 ≤ z51.1.2.2.1 ∧
 z51.1.2.2.1 < List.length z51.1.1 ∧
 ∃ (i53 : Int),
 List.getD z51.1.1 (Int.toNat z51.1.2.2.1) .top = nI i53 ∧
 ITE (i53 == z51.1.2.1)
 (R (nB true))
 (ag52 ((z51.1.1, z51.1.2.1, IntKind.wrap .i64 (z51.1.2.2.1 + 1), ()), ())))
 (R (nB false))
def vc82 (a0 : List AV) (a1 : Int) (R : AV → Prop) : Prop :=
 vc82_L2 ((a0, a1, 0, ()), ()) R
theorem vc82_ok {a0 : List AV} {a1 : Int} {R : AV → Prop} (h : vc82 a0 a1 R) : Pure Try.prog 82 [.sl a0, nI a1] R :=
  pure_of_code (C := cfg (Func.ntmps Try.f82)) (cfg_tab _ _ _ _ _) (cfg_ord _ _ _ _ _) (L := [{ key := 2, live := [(0, none), (1, none), (5, none)] }]) (fn := Try.f82) Try.func82 rfl (by kernel_rfl) (by kernel_rfl) (by rfl) (of_eq (by kernel_rfl) h)

/-- filigreeref11.May -/
def vc74_L2 (p0 : (Int × List AV × Int × Unit) × (Unit)) (R : AV → Prop) : Prop :=
 LoopP ((Int × List AV × Int × Unit) × (Unit)) p0 fun z51 ag52 =>
 ITE (decide (z51.1.2.2.1 < ((List.length z51.1.2.1 : Nat) : Int)))
 (0 ≤ z51.1.2.2.1 ∧
 z51.1.2.2.1 < List.length z51.1.2.1 ∧
 ∃ (i53 : Int),
 List.getD z51.1.2.1 (Int.toNat z51.1.2.2.1) .top = nI i53 ∧
 ITE (decide (i53 < 0))
 (R (nB false))
 (0 ≤ z51.1.2.2.1 ∧
 z51.1.2.2.1 < List.length z51.1.2.1 ∧
 ∃ (i54 : Int),
 List.getD z51.1.2.1 (Int.toNat z51.1.2.2.1) .top = nI i54 ∧
 ITE (decide (i54 ≥ z51.1.1))
 (R (nB false))
 ((0 ≤ (0 : Int) ∧ (0 : Int) ≤ z51.1.2.2.1 ∧ z51.1.2.2.1 ≤ List.length z51.1.2.1 ∧ (∀ y : AV, y ∈ z51.1.2.1 → List.length (AV.cells y) = 1)) ∧
 0 ≤ z51.1.2.2.1 ∧
 z51.1.2.2.1 < List.length z51.1.2.1 ∧
 ∃ (i55 : Int),
 List.getD z51.1.2.1 (Int.toNat z51.1.2.2.1) .top = nI i55 ∧
 ∃ (b56 : Bool),
 PureIs Try.prog 82 [.sl (List.drop (Int.toNat 0) (List.take (Int.toNat z51.1.2.2.1) z51.1.2.1)), nI i55] (nB b56) ∧
 ITE b56
 (R (nB false))
 (ag52 ((z51.1.1, z51.1.2.1, IntKind.wrap .i64 (z51.1.2.2.1 + 1), ()), ())))))
 (R (nB true))
def vc74 (a0 : Int) (a1 : List AV) (R : AV → Prop) : Prop :=
 vc74_L2 ((a0, a1, 0, ()), ()) R
theorem vc74_ok {a0 : Int} {a1 : List AV} {R : AV → Prop} (h : vc74 a0 a1 R) : Pure Try.prog 74 [nI a0, .sl a1] R :=
  pure_of_code (C := cfg (Func.ntmps Try.f74)) (cfg_tab _ _ _ _ _) (cfg_ord _ _ _ _ _) (L := [{ key := 2, live := [(0, none), (1, none), (5, none)] }]) (fn := Try.f74) Try.func74 rfl (by kernel_rfl) (by kernel_rfl) (by rfl) (of_eq (by kernel_rfl) h)

/-- filigreeref06.Behind -/
def vc63 (a0 : List AV) (a1 : List AV) (R : AV → Prop) : Prop :=
 appOk td72 (List.length a0) [] a0 ∧
 List.length a0 = List.length a0 ∧
 appOk td72 (List.length (a0 ++ a1)) [] a1 ∧
 List.length (a0 ++ a1) = List.length (a0 ++ a1) ∧
 R (.sl (a0 ++ a1))
theorem vc63_ok {a0 : List AV} {a1 : List AV} {R : AV → Prop} (h : vc63 a0 a1 R) : Pure Try.prog 63 [.sl a0, .sl a1] R :=
  pure_of_code (C := cfg (Func.ntmps Try.f63)) (cfg_tab _ _ _ _ _) (cfg_ord _ _ _ _ _) (L := []) (fn := Try.f63) Try.func63 rfl (by kernel_rfl) (by kernel_rfl) (by rfl) (of_eq (by kernel_rfl) h)

/-- filigreeref11.Types -/
def vc76_L3 (p0 : (List AV × List AV × Unit × Int × Unit) × (List AV × Unit)) (R : AV → Prop) : Prop :=
 LoopP ((List AV × List AV × Unit × Int × Unit) × (List AV × Unit)) p0 fun z51 ag52 =>
 ITE (decide (z51.1.2.2.2.1 < ((List.length z51.1.2.1 : Nat) : Int)))
 (0 ≤ z51.1.2.2.2.1 ∧
 z51.1.2.2.2.1 < List.length z51.1.2.1 ∧
 ∃ (i53 : Int),
 List.getD z51.1.2.1 (Int.toNat z51.1.2.2.2.1) .top = nI i53 ∧
 0 ≤ (IntKind.wrap .i64 ((IntKind.wrap .i64 (((List.length z51.1.1 : Nat) : Int) - 1)) - i53)) ∧
 (IntKind.wrap .i64 ((IntKind.wrap .i64 (((List.length z51.1.1 : Nat) : Int) - 1)) - i53)) < List.length z51.1.1 ∧
 ∃ (l54 : List AV) (i55 : Int),
 List.getD z51.1.1 (Int.toNat (IntKind.wrap .i64 ((IntKind.wrap .i64 (((List.length z51.1.1 : Nat) : Int) - 1)) - i53))) .top = .agg [.sl l54, nI i55] ∧
 List.length z51.2.1 = List.length z51.2.1 ∧
 appOk td72 (List.length (z51.2.1 ++ [.agg [.sl l54, nI i55]])) [] [.agg [.sl l54, nI i55]] ∧
 List.length (z51.2.1 ++ [.agg [.sl l54, nI i55]]) = List.length (z51.2.1 ++ [.agg [.sl l54, nI i55]]) ∧
 ag52 ((z51.1.1, z51.1.2.1, (), IntKind.wrap .i64 (z51.1.2.2.2.1 + 1), ()), (z51.2.1 ++ [.agg [.sl l54, nI i55]], ())))
 (List.length z51.2.1 = List.length z51.2.1 ∧
 R (.sl z51.2.1))
def vc76 (a0 : List AV) (a1 : List AV) (R : AV → Prop) : Prop :=
 0 = List.length ([] : List AV) ∧
 vc76_L3 ((a0, a1, (), 0, ()), ([], ())) R
theorem vc76_ok {a0 : List AV} {a1 : List AV} {R : AV → Prop} (h : vc76 a0 a1 R) : Pure Try.prog 76 [.sl a0, .sl a1] R :=
  pure_of_code (C := cfg (Func.ntmps Try.f76)) (cfg_tab _ _ _ _ _) (cfg_ord _ _ _ _ _) (L := [{ key := 3, live := [(0, none), (1, none), (5, none), (6, none)], rows := [(5, 72)] }]) (fn := Try.f76) Try.func76 rfl (by kernel_rfl) (by kernel_rfl) (by rfl) (of_eq (by kernel_rfl) h)

/-- filigreelaw04.To -/
def vc73_L3 (p0 : (Unit × Unit × Unit × Int × Unit) × ((List AV × Int × Unit) × (Unit × Int × Unit) × (Unit × Int × Unit) × List AV × Unit)) (R : AV → Prop) : Prop :=
 LoopP ((Unit × Unit × Unit × Int × Unit) × ((List AV × Int × Unit) × (Unit × Int × Unit) × (Unit × Int × Unit) × List AV × Unit)) p0 fun z51 ag52 =>
 ITE (decide (z51.1.2.2.2.1 < ((List.length z51.2.1.1 : Nat) : Int)))
 (0 ≤ z51.1.2.2.2.1 ∧
 z51.1.2.2.2.1 < List.length z51.2.1.1 ∧
 ∃ (l53 : List AV) (i54 : Int),
 List.getD z51.2.1.1 (Int.toNat z51.1.2.2.2.1) .top = .agg [.sl l53, nI i54] ∧
 ∃ (l55 : List AV) (i56 : Int),
 PureIs Try.prog 73 [.agg [.sl l53, nI i54]] (.agg [.sl l55, nI i56]) ∧
 List.length z51.2.2.2.2.1 = List.length z51.2.2.2.2.1 ∧
 appOk td79 (List.length (z51.2.2.2.2.1 ++ [.agg [.sl l55, nI i56]])) [] [.agg [.sl l55, nI i56]] ∧
 List.length (z51.2.2.2.2.1 ++ [.agg [.sl l55, nI i56]]) = List.length (z51.2.2.2.2.1 ++ [.agg [.sl l55, nI i56]]) ∧
 ag52 (((), (), (), IntKind.wrap .i64 (z51.1.2.2.2.1 + 1), ()), ((z51.2.1.1, z51.2.1.2.1, ()), ((), z51.2.2.1.2.1, ()), ((), z51.2.2.2.1.2.1, ()), z51.2.2.2.2.1 ++ [.agg [.sl l55, nI i56]], ())))
 (List.length z51.2.2.2.2.1 = List.length z51.2.2.2.2.1 ∧
 R (.agg [.sl z51.2.2.2.2.1, nI z51.2.2.2.1.2.1]))
def vc73 (a0_0 : List AV) (a0_1 : Int) (R : AV → Prop) : Prop :=
 0 = List.length ([] : List AV) ∧
 vc73_L3 (((), (), (), 0, ()), ((a0_0, a0_1, ()), ((), 0, ()), ((), a0_1, ()), [], ())) R
theorem vc73_ok {a0_0 : List AV} {a0_1 : Int} {R : AV → Prop} (h : vc73 a0_0 a0_1 R) : Pure Try.prog 73 [.agg [.sl a0_0, nI a0_1]] R :=
  pure_of_code (C := cfg (Func.ntmps Try.f73)) (cfg_tab _ _ _ _ _) (cfg_ord _ _ _ _ _) (L := [{ key := 3, live := [(1, none), (2, none), (3, none), (4, none)], brows := [(2, 0, 79)] }]) (fn := Try.f73) Try.func73 rfl (by kernel_rfl) (by kernel_rfl) (by rfl) (of_eq (by kernel_rfl) h)

/-- filigreelaw06.Types -/
def vc18_L3 (p0 : (List AV × Unit × Int × Unit) × (List AV × Unit)) (R : AV → Prop) : Prop :=
 LoopP ((List AV × Unit × Int × Unit) × (List AV × Unit)) p0 fun z51 ag52 =>
 ITE (decide (z51.1.2.2.1 < ((List.length z51.1.1 : Nat) : Int)))
 (0 ≤ z51.1.2.2.1 ∧
 z51.1.2.2.1 < List.length z51.1.1 ∧
 ∃ (l53 : List AV) (i54 : Int),
 List.getD z51.1.1 (Int.toNat z51.1.2.2.1) .top = .agg [.sl l53, nI i54] ∧
 ∃ (l55 : List AV) (i56 : Int),
 PureIs Try.prog 73 [.agg [.sl l53, nI i54]] (.agg [.sl l55, nI i56]) ∧
 List.length z51.2.1 = List.length z51.2.1 ∧
 appOk td79 (List.length (z51.2.1 ++ [.agg [.sl l55, nI i56]])) [] [.agg [.sl l55, nI i56]] ∧
 List.length (z51.2.1 ++ [.agg [.sl l55, nI i56]]) = List.length (z51.2.1 ++ [.agg [.sl l55, nI i56]]) ∧
 ag52 ((z51.1.1, (), IntKind.wrap .i64 (z51.1.2.2.1 + 1), ()), (z51.2.1 ++ [.agg [.sl l55, nI i56]], ())))
 (List.length z51.2.1 = List.length z51.2.1 ∧
 R (.sl z51.2.1))
def vc18 (a0 : List AV) (R : AV → Prop) : Prop :=
 0 = List.length ([] : List AV) ∧
 vc18_L3 ((a0, (), 0, ()), ([], ())) R
theorem vc18_ok {a0 : List AV} {R : AV → Prop} (h : vc18 a0 R) : Pure Try.prog 18 [.sl a0] R :=
  pure_of_code (C := cfg (Func.ntmps Try.f18)) (cfg_tab _ _ _ _ _) (cfg_ord _ _ _ _ _) (L := [{ key := 3, live := [(0, none), (3, none), (4, none)], rows := [(3, 79)] }]) (fn := Try.f18) Try.func18 rfl (by kernel_rfl) (by kernel_rfl) (by rfl) (of_eq (by kernel_rfl) h)

/-- filigreelaw06.To -/
def vc17_L3 (p0 : (Unit × Unit × Unit × Int × Unit) × ((List AV × Int × Int × List AV × Unit) × (Unit × Int × Int × Unit × Unit) × (List AV × Int × Int × Unit × Unit) × List AV × Unit)) (R : AV → Prop) : Prop :=
 LoopP ((Unit × Unit × Unit × Int × Unit) × ((List AV × Int × Int × List AV × Unit) × (Unit × Int × Int × Unit × Unit) × (List AV × Int × Int × Unit × Unit) × List AV × Unit)) p0 fun z51 ag52 =>
 ITE (decide (z51.1.2.2.2.1 < ((List.length z51.2.1.2.2.2.1 : Nat) : Int)))
 (0 ≤ z51.1.2.2.2.1 ∧
 z51.1.2.2.2.1 < List.length z51.2.1.2.2.2.1 ∧
 ∃ (l53 : List AV) (i54 i55 : Int) (l56 : List AV),
 List.getD z51.2.1.2.2.2.1 (Int.toNat z51.1.2.2.2.1) .top = .agg [.sl l53, nI i54, nI i55, .sl l56] ∧
 ∃ (l57 : List AV) (i58 i59 : Int) (l60 : List AV),
 PureIs Try.prog 17 [.agg [.sl l53, nI i54, nI i55, .sl l56]] (.agg [.sl l57, nI i58, nI i59, .sl l60]) ∧
 List.length z51.2.2.2.2.1 = List.length z51.2.2.2.2.1 ∧
 appOk td38 (List.length (z51.2.2.2.2.1 ++ [.agg [.sl l57, nI i58, nI i59, .sl l60]])) [] [.agg [.sl l57, nI i58, nI i59, .sl l60]] ∧
 List.length (z51.2.2.2.2.1 ++ [.agg [.sl l57, nI i58, nI i59, .sl l60]]) = List.length (z51.2.2.2.2.1 ++ [.agg [.sl l57, nI i58, nI i59, .sl l60]]) ∧
 ag52 (((), (), (), IntKind.wrap .i64 (z51.1.2.2.2.1 + 1), ()), ((z51.2.1.1, z51.2.1.2.1, z51.2.1.2.2.1, z51.2.1.2.2.2.1, ()), ((), z51.2.2.1.2.1, z51.2.2.1.2.2.1, (), ()), (z51.2.2.2.1.1, z51.2.2.2.1.2.1, z51.2.2.2.1.2.2.1, (), ()), z51.2.2.2.2.1 ++ [.agg [.sl l57, nI i58, nI i59, .sl l60]], ())))
 (List.length z51.2.2.2.2.1 = List.length z51.2.2.2.2.1 ∧
 R (.agg [.sl z51.2.2.2.1.1, nI z51.2.2.2.1.2.1, nI z51.2.2.2.1.2.2.1, .sl z51.2.2.2.2.1]))
def vc17 (a0_0 : List AV) (a0_1 : Int) (a0_2 : Int) (a0_3 : List AV) (R : AV → Prop) : Prop :=
 ∃ (l1 : List AV),
 PureIs Try.prog 18 [.sl a0_0] (.sl l1) ∧
 0 = List.length ([] : List AV) ∧
 vc17_L3 (((), (), (), 0, ()), ((a0_0, a0_1, a0_2, a0_3, ()), ((), 0, 0, (), ()), (l1, a0_1, a0_2, (), ()), [], ())) R
theorem vc17_ok {a0_0 : List AV} {a0_1 : Int} {a0_2 : Int} {a0_3 : List AV} {R : AV → Prop} (h : vc17 a0_0 a0_1 a0_2 a0_3 R) : Pure Try.prog 17 [.agg [.sl a0_0, nI a0_1, nI a0_2, .sl a0_3]] R :=
  pure_of_code (C := cfg (Func.ntmps Try.f17) [(1, [none, none, none, none, none, none, none, none, none, none, none, some [], none], [none, some [], some [], none, none, some [], none, none, some [], none, none, none, none])]) (cfg_tab _ _ _ _ _) (cfg_ord _ _ _ _ _) (L := [{ key := 3, live := [(1, none), (2, none), (3, none), (4, none)], brows := [(2, 3, 38)] }]) (fn := Try.f17) Try.func17 rfl (by kernel_rfl) (by kernel_rfl) (by rfl) (of_eq (by kernel_rfl) h)

/-- filigreelaw04.Of -/
def vc47_L3 (p0 : (Unit × Unit × Unit × Int × Unit) × ((List AV × Int × Unit) × (Unit × Int × Unit) × (Unit × Int × Unit) × List AV × Unit)) (R : AV → Prop) : Prop :=
 LoopP ((Unit × Unit × Unit × Int × Unit) × ((List AV × Int × Unit) × (Unit × Int × Unit) × (Unit × Int × Unit) × List AV × Unit)) p0 fun z51 ag52 =>
 ITE (decide (z51.1.2.2.2.1 < ((List.length z51.2.1.1 : Nat) : Int)))
 (0 ≤ z51.1.2.2.2.1 ∧
 z51.1.2.2.2.1 < List.length z51.2.1.1 ∧
 ∃ (l53 : List AV) (i54 : Int),
 List.getD z51.2.1.1 (Int.toNat z51.1.2.2.2.1) .top = .agg [.sl l53, nI i54] ∧
 ∃ (l55 : List AV) (i56 : Int),
 PureIs Try.prog 47 [.agg [.sl l53, nI i54]] (.agg [.sl l55, nI i56]) ∧
 List.length z51.2.2.2.2.1 = List.length z51.2.2.2.2.1 ∧
 appOk td72 (List.length (z51.2.2.2.2.1 ++ [.agg [.sl l55, nI i56]])) [] [.agg [.sl l55, nI i56]] ∧
 List.length (z51.2.2.2.2.1 ++ [.agg [.sl l55, nI i56]]) = List.length (z51.2.2.2.2.1 ++ [.agg [.sl l55, nI i56]]) ∧
 ag52 (((), (), (), IntKind.wrap .i64 (z51.1.2.2.2.1 + 1), ()), ((z51.2.1.1, z51.2.1.2.1, ()), ((), z51.2.2.1.2.1, ()), ((), z51.2.2.2.1.2.1, ()), z51.2.2.2.2.1 ++ [.agg [.sl l55, nI i56]], ())))
 (List.length z51.2.2.2.2.1 = List.length z51.2.2.2.2.1 ∧
 R (.agg [.sl z51.2.2.2.2.1, nI z51.2.2.2.1.2.1]))
def vc47 (a0_0 : List AV) (a0_1 : Int) (R : AV → Prop) : Prop :=
 0 = List.length ([] : List AV) ∧
 vc47_L3 (((), (), (), 0, ()), ((a0_0, a0_1, ()), ((), 0, ()), ((), a0_1, ()), [], ())) R
theorem vc47_ok {a0_0 : List AV} {a0_1 : Int} {R : AV → Prop} (h : vc47 a0_0 a0_1 R) : Pure Try.prog 47 [.agg [.sl a0_0, nI a0_1]] R :=
  pure_of_code (C := cfg (Func.ntmps Try.f47)) (cfg_tab _ _ _ _ _) (cfg_ord _ _ _ _ _) (L := [{ key := 3, live := [(1, none), (2, none), (3, none), (4, none)], brows := [(2, 0, 72)] }]) (fn := Try.f47) Try.func47 rfl (by kernel_rfl) (by kernel_rfl) (by rfl) (of_eq (by kernel_rfl) h)

/-- filigreelaw06.OfTypes -/
def vc78_L3 (p0 : (List AV × Unit × Int × Unit) × (List AV × Unit)) (R : AV → Prop) : Prop :=
 LoopP ((List AV × Unit × Int × Unit) × (List AV × Unit)) p0 fun z51 ag52 =>
 ITE (decide (z51.1.2.2.1 < ((List.length z51.1.1 : Nat) : Int)))
 (0 ≤ z51.1.2.2.1 ∧
 z51.1.2.2.1 < List.length z51.1.1 ∧
 ∃ (l53 : List AV) (i54 : Int),
 List.getD z51.1.1 (Int.toNat z51.1.2.2.1) .top = .agg [.sl l53, nI i54] ∧
 ∃ (l55 : List AV) (i56 : Int),
 PureIs Try.prog 47 [.agg [.sl l53, nI i54]] (.agg [.sl l55, nI i56]) ∧
 List.length z51.2.1 = List.length z51.2.1 ∧
 appOk td72 (List.length (z51.2.1 ++ [.agg [.sl l55, nI i56]])) [] [.agg [.sl l55, nI i56]] ∧
 List.length (z51.2.1 ++ [.agg [.sl l55, nI i56]]) = List.length (z51.2.1 ++ [.agg [.sl l55, nI i56]]) ∧
 ag52 ((z51.1.1, (), IntKind.wrap .i64 (z51.1.2.2.1 + 1), ()), (z51.2.1 ++ [.agg [.sl l55, nI i56]], ())))
 (List.length z51.2.1 = List.length z51.2.1 ∧
 R (.sl z51.2.1))
def vc78 (a0 : List AV) (R : AV → Prop) : Prop :=
 0 = List.length ([] : List AV) ∧
 vc78_L3 ((a0, (), 0, ()), ([], ())) R
theorem vc78_ok {a0 : List AV} {R : AV → Prop} (h : vc78 a0 R) : Pure Try.prog 78 [.sl a0] R :=
  pure_of_code (C := cfg (Func.ntmps Try.f78)) (cfg_tab _ _ _ _ _) (cfg_ord _ _ _ _ _) (L := [{ key := 3, live := [(0, none), (3, none), (4, none)], rows := [(3, 72)] }]) (fn := Try.f78) Try.func78 rfl (by kernel_rfl) (by kernel_rfl) (by rfl) (of_eq (by kernel_rfl) h)

/-- filigreelaw06.Of -/
def vc21_L3 (p0 : (Unit × Unit × Unit × Int × Unit) × ((List AV × Int × Int × List AV × Unit) × (Unit × Int × Int × Unit × Unit) × (List AV × Int × Int × Unit × Unit) × List AV × Unit)) (R : AV → Prop) : Prop :=
 LoopP ((Unit × Unit × Unit × Int × Unit) × ((List AV × Int × Int × List AV × Unit) × (Unit × Int × Int × Unit × Unit) × (List AV × Int × Int × Unit × Unit) × List AV × Unit)) p0 fun z51 ag52 =>
 ITE (decide (z51.1.2.2.2.1 < ((List.length z51.2.1.2.2.2.1 : Nat) : Int)))
 (0 ≤ z51.1.2.2.2.1 ∧
 z51.1.2.2.2.1 < List.length z51.2.1.2.2.2.1 ∧
 ∃ (l53 : List AV) (i54 i55 : Int) (l56 : List AV),
 List.getD z51.2.1.2.2.2.1 (Int.toNat z51.1.2.2.2.1) .top = .agg [.sl l53, nI i54, nI i55, .sl l56] ∧
 ∃ (l57 : List AV) (i58 i59 : Int) (l60 : List AV),
 PureIs Try.prog 21 [.agg [.sl l53, nI i54, nI i55, .sl l56]] (.agg [.sl l57, nI i58, nI i59, .sl l60]) ∧
 List.length z51.2.2.2.2.1 = List.length z51.2.2.2.2.1 ∧
 appOk td27 (List.length (z51.2.2.2.2.1 ++ [.agg [.sl l57, nI i58, nI i59, .sl l60]])) [] [.agg [.sl l57, nI i58, nI i59, .sl l60]] ∧
 List.length (z51.2.2.2.2.1 ++ [.agg [.sl l57, nI i58, nI i59, .sl l60]]) = List.length (z51.2.2.2.2.1 ++ [.agg [.sl l57, nI i58, nI i59, .sl l60]]) ∧
 ag52 (((), (), (), IntKind.wrap .i64 (z51.1.2.2.2.1 + 1), ()), ((z51.2.1.1, z51.2.1.2.1, z51.2.1.2.2.1, z51.2.1.2.2.2.1, ()), ((), z51.2.2.1.2.1, z51.2.2.1.2.2.1, (), ()), (z51.2.2.2.1.1, z51.2.2.2.1.2.1, z51.2.2.2.1.2.2.1, (), ()), z51.2.2.2.2.1 ++ [.agg [.sl l57, nI i58, nI i59, .sl l60]], ())))
 (List.length z51.2.2.2.2.1 = List.length z51.2.2.2.2.1 ∧
 R (.agg [.sl z51.2.2.2.1.1, nI z51.2.2.2.1.2.1, nI z51.2.2.2.1.2.2.1, .sl z51.2.2.2.2.1]))
def vc21 (a0_0 : List AV) (a0_1 : Int) (a0_2 : Int) (a0_3 : List AV) (R : AV → Prop) : Prop :=
 ∃ (l1 : List AV),
 PureIs Try.prog 78 [.sl a0_0] (.sl l1) ∧
 0 = List.length ([] : List AV) ∧
 vc21_L3 (((), (), (), 0, ()), ((a0_0, a0_1, a0_2, a0_3, ()), ((), 0, 0, (), ()), (l1, a0_1, a0_2, (), ()), [], ())) R
theorem vc21_ok {a0_0 : List AV} {a0_1 : Int} {a0_2 : Int} {a0_3 : List AV} {R : AV → Prop} (h : vc21 a0_0 a0_1 a0_2 a0_3 R) : Pure Try.prog 21 [.agg [.sl a0_0, nI a0_1, nI a0_2, .sl a0_3]] R :=
  pure_of_code (C := cfg (Func.ntmps Try.f21) [(1, [none, none, none, none, none, none, none, none, none, none, none, some [], none], [none, some [], some [], none, none, some [], none, none, some [], none, none, none, none])]) (cfg_tab _ _ _ _ _) (cfg_ord _ _ _ _ _) (L := [{ key := 3, live := [(1, none), (2, none), (3, none), (4, none)], brows := [(2, 3, 27)] }]) (fn := Try.f21) Try.func21 rfl (by kernel_rfl) (by kernel_rfl) (by rfl) (of_eq (by kernel_rfl) h)

/-- filigreeref04.Same -/
def vc46_L4 (p0 : (Unit × Unit × Int × Unit) × ((List AV × Int × Unit) × (List AV × Int × Unit) × Unit)) (R : AV → Prop) : Prop :=
 LoopP ((Unit × Unit × Int × Unit) × ((List AV × Int × Unit) × (List AV × Int × Unit) × Unit)) p0 fun z51 ag52 =>
 ITE (decide (z51.1.2.2.1 < ((List.length z51.2.1.1 : Nat) : Int)))
 (0 ≤ z51.1.2.2.1 ∧
 z51.1.2.2.1 < List.length z51.2.1.1 ∧
 ∃ (l53 : List AV) (i54 : Int),
 List.getD z51.2.1.1 (Int.toNat z51.1.2.2.1) .top = .agg [.sl l53, nI i54] ∧
 0 ≤ z51.1.2.2.1 ∧
 z51.1.2.2.1 < List.length z51.2.2.1.1 ∧
 ∃ (l55 : List AV) (i56 : Int),
 List.getD z51.2.2.1.1 (Int.toNat z51.1.2.2.1) .top = .agg [.sl l55, nI i56] ∧
 ∃ (b57 : Bool),
 PureIs Try.prog 46 [.agg [.sl l53, nI i54], .agg [.sl l55, nI i56]] (nB b57) ∧
 ITE (!b57)
 (R (nB false))
 (ag52 (((), (), IntKind.wrap .i64 (z51.1.2.2.1 + 1), ()), ((z51.2.1.1, z51.2.1.2.1, ()), (z51.2.2.1.1, z51.2.2.1.2.1, ()), ()))))
 (R (nB true))
def vc46 (a0_0 : List AV) (a0_1 : Int) (a1_0 : List AV) (a1_1 : Int) (R : AV → Prop) : Prop :=
 ITE (a0_1 != a1_1)
 (R (nB false))
 (ITE (((List.length a0_0 : Nat) : Int) != ((List.length a1_0 : Nat) : Int))
 (R (nB false))
 (vc46_L4 (((), (), 0, ()), ((a0_0, a0_1, ()), (a1_0, a1_1, ()), ())) R))
theorem vc46_ok {a0_0 : List AV} {a0_1 : Int} {a1_0 : List AV} {a1_1 : Int} {R : AV → Prop} (h : vc46 a0_0 a0_1 a1_0 a1_1 R) : Pure Try.prog 46 [.agg [.sl a0_0, nI a0_1], .agg [.sl a1_0, nI a1_1]] R :=
  pure_of_code (C := cfg (Func.ntmps Try.f46)) (cfg_tab _ _ _ _ _) (cfg_ord _ _ _ _ _) (L := [{ key := 4, live := [(2, none), (3, none), (5, none)] }]) (fn := Try.f46) Try.func46 rfl (by kernel_rfl) (by kernel_rfl) (by rfl) (of_eq (by kernel_rfl) h)

/-- filigreeref06.types -/
def vc77_L4 (p0 : (List AV × List AV × Int × Unit) × (Unit)) (R : AV → Prop) : Prop :=
 LoopP ((List AV × List AV × Int × Unit) × (Unit)) p0 fun z51 ag52 =>
 ITE (decide (z51.1.2.2.1 < ((List.length z51.1.1 : Nat) : Int)))
 (0 ≤ z51.1.2.2.1 ∧
 z51.1.2.2.1 < List.length z51.1.1 ∧
 ∃ (l53 : List AV) (i54 : Int),
 List.getD z51.1.1 (Int.toNat z51.1.2.2.1) .top = .agg [.sl l53, nI i54] ∧
 0 ≤ z51.1.2.2.1 ∧
 z51.1.2.2.1 < List.length z51.1.2.1 ∧
 ∃ (l55 : List AV) (i56 : Int),
 List.getD z51.1.2.1 (Int.toNat z51.1.2.2.1) .top = .agg [.sl l55, nI i56] ∧
 ∃ (b57 : Bool),
 PureIs Try.prog 46 [.agg [.sl l53, nI i54], .agg [.sl l55, nI i56]] (nB b57) ∧
 ITE (!b57)
 (R (nB false))
 (ag52 ((z51.1.1, z51.1.2.1, IntKind.wrap .i64 (z51.1.2.2.1 + 1), ()), ())))
 (R (nB true))
def vc77 (a0 : List AV) (a1 : List AV) (R : AV → Prop) : Prop :=
 ITE (((List.length a0 : Nat) : Int) != ((List.length a1 : Nat) : Int))
 (R (nB false))
 (vc77_L4 ((a0, a1, 0, ()), ()) R)
theorem vc77_ok {a0 : List AV} {a1 : List AV} {R : AV → Prop} (h : vc77 a0 a1 R) : Pure Try.prog 77 [.sl a0, .sl a1] R :=
  pure_of_code (C := cfg (Func.ntmps Try.f77)) (cfg_tab _ _ _ _ _) (cfg_ord _ _ _ _ _) (L := [{ key := 4, live := [(0, none), (1, none), (5, none)] }]) (fn := Try.f77) Try.func77 rfl (by kernel_rfl) (by kernel_rfl) (by rfl) (of_eq (by kernel_rfl) h)

/-- filigreeref06.Same -/
def vc20_L4 (p0 : (Unit × Unit × Int × Unit) × ((List AV × Int × Int × List AV × Unit) × (List AV × Int × Int × List AV × Unit) × Unit)) (R : AV → Prop) : Prop :=
 LoopP ((Unit × Unit × Int × Unit) × ((List AV × Int × Int × List AV × Unit) × (List AV × Int × Int × List AV × Unit) × Unit)) p0 fun z51 ag52 =>
 ITE (decide (z51.1.2.2.1 < ((List.length z51.2.1.2.2.2.1 : Nat) : Int)))
 (0 ≤ z51.1.2.2.1 ∧
 z51.1.2.2.1 < List.length z51.2.1.2.2.2.1 ∧
 ∃ (l53 : List AV) (i54 i55 : Int) (l56 : List AV),
 List.getD z51.2.1.2.2.2.1 (Int.toNat z51.1.2.2.1) .top = .agg [.sl l53, nI i54, nI i55, .sl l56] ∧
 0 ≤ z51.1.2.2.1 ∧
 z51.1.2.2.1 < List.length z51.2.2.1.2.2.2.1 ∧
 ∃ (l57 : List AV) (i58 i59 : Int) (l60 : List AV),
 List.getD z51.2.2.1.2.2.2.1 (Int.toNat z51.1.2.2.1) .top = .agg [.sl l57, nI i58, nI i59, .sl l60] ∧
 ∃ (b61 : Bool),
 PureIs Try.prog 20 [.agg [.sl l53, nI i54, nI i55, .sl l56], .agg [.sl l57, nI i58, nI i59, .sl l60]] (nB b61) ∧
 ITE (!b61)
 (R (nB false))
 (ag52 (((), (), IntKind.wrap .i64 (z51.1.2.2.1 + 1), ()), ((z51.2.1.1, z51.2.1.2.1, z51.2.1.2.2.1, z51.2.1.2.2.2.1, ()), (z51.2.2.1.1, z51.2.2.1.2.1, z51.2.2.1.2.2.1, z51.2.2.1.2.2.2.1, ()), ()))))
 (R (nB true))
def vc20 (a0_0 : List AV) (a0_1 : Int) (a0_2 : Int) (a0_3 : List AV) (a1_0 : List AV) (a1_1 : Int) (a1_2 : Int) (a1_3 : List AV) (R : AV → Prop) : Prop :=
 ITE (!(a0_1 == a1_1 && a0_2 == a1_2))
 (R (nB false))
 (ITE (((List.length a0_3 : Nat) : Int) != ((List.length a1_3 : Nat) : Int))
 (R (nB false))
 (∃ (b1 : Bool),
 PureIs Try.prog 77 [.sl a0_0, .sl a1_0] (nB b1) ∧
 ITE (!b1)
 (R (nB false))
 (vc20_L4 (((), (), 0, ()), ((a0_0, a0_1, a0_2, a0_3, ()), (a1_0, a1_1, a1_2, a1_3, ()), ())) R)))
theorem vc20_ok {a0_0 : List AV} {a0_1 : Int} {a0_2 : Int} {a0_3 : List AV} {a1_0 : List AV} {a1_1 : Int} {a1_2 : Int} {a1_3 : List AV} {R : AV → Prop} (h : vc20 a0_0 a0_1 a0_2 a0_3 a1_0 a1_1 a1_2 a1_3 R) : Pure Try.prog 20 [.agg [.sl a0_0, nI a0_1, nI a0_2, .sl a0_3], .agg [.sl a1_0, nI a1_1, nI a1_2, .sl a1_3]] R :=
  pure_of_code (C := cfg (Func.ntmps Try.f20)) (cfg_tab _ _ _ _ _) (cfg_ord _ _ _ _ _) (L := [{ key := 4, live := [(2, none), (3, none), (5, none)] }]) (fn := Try.f20) Try.func20 rfl (by kernel_rfl) (by kernel_rfl) (by rfl) (of_eq (by kernel_rfl) h)

/-- filigreeref04.Size -/
def vc127_L3 (p0 : (Unit × Int × Int × Unit) × ((List AV × Int × Unit) × Unit)) (R : AV → Prop) : Prop :=
 LoopP ((Unit × Int × Int × Unit) × ((List AV × Int × Unit) × Unit)) p0 fun z51 ag52 =>
 ITE (decide (z51.1.2.2.1 < ((List.length z51.2.1.1 : Nat) : Int)))
 (0 ≤ z51.1.2.2.1 ∧
 z51.1.2.2.1 < List.length z51.2.1.1 ∧
 ∃ (l53 : List AV) (i54 : Int),
 List.getD z51.2.1.1 (Int.toNat z51.1.2.2.1) .top = .agg [.sl l53, nI i54] ∧
 ∃ (i55 : Int),
 PureIs Try.prog 127 [.agg [.sl l53, nI i54]] (nI i55) ∧
 ag52 (((), IntKind.wrap .i64 (z51.1.2.1 + i55), IntKind.wrap .i64 (z51.1.2.2.1 + 1), ()), ((z51.2.1.1, z51.2.1.2.1, ()), ())))
 (R (nI z51.1.2.1))
def vc127 (a0_0 : List AV) (a0_1 : Int) (R : AV → Prop) : Prop :=
 vc127_L3 (((), 1, 0, ()), ((a0_0, a0_1, ()), ())) R
theorem vc127_ok {a0_0 : List AV} {a0_1 : Int} {R : AV → Prop} (h : vc127 a0_0 a0_1 R) : Pure Try.prog 127 [.agg [.sl a0_0, nI a0_1]] R :=
  pure_of_code (C := cfg (Func.ntmps Try.f127)) (cfg_tab _ _ _ _ _) (cfg_ord _ _ _ _ _) (L := [{ key := 3, live := [(1, none), (3, none), (4, none)] }]) (fn := Try.f127) Try.func127 rfl (by kernel_rfl) (by kernel_rfl) (by rfl) (of_eq (by kernel_rfl) h)

/-- filigreeref04.few -/
def vc112_L5 (p0 : (Int × Int × Unit × Int × Int × Unit) × ((List AV × Int × Unit) × Unit)) (R : AV → Prop) : Prop :=
 LoopP ((Int × Int × Unit × Int × Int × Unit) × ((List AV × Int × Unit) × Unit)) p0 fun z51 ag52 =>
 ITE (decide (z51.1.2.2.2.2.1 < ((List.length z51.2.1.1 : Nat) : Int)))
 (ITE (decide (z51.1.2.2.2.1 ≤ z51.1.1))
 (0 ≤ z51.1.2.2.2.2.1 ∧
 z51.1.2.2.2.2.1 < List.length z51.2.1.1 ∧
 ∃ (l53 : List AV) (i54 : Int),
 List.getD z51.2.1.1 (Int.toNat z51.1.2.2.2.2.1) .top = .agg [.sl l53, nI i54] ∧
 ∃ (i55 : Int),
 PureIs Try.prog 112 [.agg [.sl l53, nI i54], nI z51.1.1, nI (IntKind.wrap .i64 (z51.1.2.1 - 1))] (nI i55) ∧
 ag52 ((z51.1.1, z51.1.2.1, (), IntKind.wrap .i64 (z51.1.2.2.2.1 + i55), IntKind.wrap .i64 (z51.1.2.2.2.2.1 + 1), ()), ((z51.2.1.1, z51.2.1.2.1, ()), ())))
 (R (nI z51.1.2.2.2.1)))
 (R (nI z51.1.2.2.2.1))
def vc112 (a0_0 : List AV) (a0_1 : Int) (a1 : Int) (a2 : Int) (R : AV → Prop) : Prop :=
 ITE (decide (a2 ≤ 0))
 (R (nI (IntKind.wrap .i64 (a1 + 1))))
 (vc112_L5 ((a1, a2, (), 1, 0, ()), ((a0_0, a0_1, ()), ())) R)
theorem vc112_ok {a0_0 : List AV} {a0_1 : Int} {a1 : Int} {a2 : Int} {R : AV → Prop} (h : vc112 a0_0 a0_1 a1 a2 R) : Pure Try.prog 112 [.agg [.sl a0_0, nI a0_1], nI a1, nI a2] R :=
  pure_of_code (C := cfg (Func.ntmps Try.f112)) (cfg_tab _ _ _ _ _) (cfg_ord _ _ _ _ _) (L := [{ key := 5, live := [(1, none), (2, none), (3, none), (7, none), (8, none)] }]) (fn := Try.f112) Try.func112 rfl (by kernel_rfl) (by kernel_rfl) (by rfl) (of_eq (by kernel_rfl) h)

/-- filigreeref04.Few -/
def vc64 (a0_0 : List AV) (a0_1 : Int) (a1 : Int) (a2 : Int) (R : AV → Prop) : Prop :=
 ∃ (i1 : Int),
 PureIs Try.prog 112 [.agg [.sl a0_0, nI a0_1], nI a1, nI a2] (nI i1) ∧
 R (nB (decide (i1 ≤ a1)))
theorem vc64_ok {a0_0 : List AV} {a0_1 : Int} {a1 : Int} {a2 : Int} {R : AV → Prop} (h : vc64 a0_0 a0_1 a1 a2 R) : Pure Try.prog 64 [.agg [.sl a0_0, nI a0_1], nI a1, nI a2] R :=
  pure_of_code (C := cfg (Func.ntmps Try.f64)) (cfg_tab _ _ _ _ _) (cfg_ord _ _ _ _ _) (L := []) (fn := Try.f64) Try.func64 rfl (by kernel_rfl) (by kernel_rfl) (by rfl) (of_eq (by kernel_rfl) h)

/-- filigreeref06.few -/
def vc111_L11 (p0 : (Int × Int × Unit × Int × Int × Unit) × ((List AV × Int × Int × List AV × Unit) × Unit)) (R : AV → Prop) : Prop :=
 LoopP ((Int × Int × Unit × Int × Int × Unit) × ((List AV × Int × Int × List AV × Unit) × Unit)) p0 fun z51 ag52 =>
 ITE (decide (z51.1.2.2.2.2.1 < ((List.length z51.2.1.2.2.2.1 : Nat) : Int)))
 (ITE (decide (z51.1.2.2.2.1 ≤ z51.1.1))
 (0 ≤ z51.1.2.2.2.2.1 ∧
 z51.1.2.2.2.2.1 < List.length z51.2.1.2.2.2.1 ∧
 ∃ (l53 : List AV) (i54 i55 : Int) (l56 : List AV),
 List.getD z51.2.1.2.2.2.1 (Int.toNat z51.1.2.2.2.2.1) .top = .agg [.sl l53, nI i54, nI i55, .sl l56] ∧
 ∃ (i57 : Int),
 PureIs Try.prog 111 [.agg [.sl l53, nI i54, nI i55, .sl l56], nI z51.1.1, nI (IntKind.wrap .i64 (z51.1.2.1 - 1))] (nI i57) ∧
 ag52 ((z51.1.1, z51.1.2.1, (), IntKind.wrap .i64 (z51.1.2.2.2.1 + i57), IntKind.wrap .i64 (z51.1.2.2.2.2.1 + 1), ()), ((z51.2.1.1, z51.2.1.2.1, z51.2.1.2.2.1, z51.2.1.2.2.2.1, ()), ())))
 (R (nI z51.1.2.2.2.1)))
 (R (nI z51.1.2.2.2.1))
def vc111_L5 (p0 : (Int × Int × Unit × Int × Int × Unit) × ((List AV × Int × Int × List AV × Unit) × Unit)) (R : AV → Prop) : Prop :=
 LoopP ((Int × Int × Unit × Int × Int × Unit) × ((List AV × Int × Int × List AV × Unit) × Unit)) p0 fun z51 ag52 =>
 ITE (decide (z51.1.2.2.2.2.1 < ((List.length z51.2.1.1 : Nat) : Int)))
 (ITE (decide (z51.1.2.2.2.1 ≤ z51.1.1))
 (0 ≤ z51.1.2.2.2.2.1 ∧
 z51.1.2.2.2.2.1 < List.length z51.2.1.1 ∧
 ∃ (l53 : List AV) (i54 : Int),
 List.getD z51.2.1.1 (Int.toNat z51.1.2.2.2.2.1) .top = .agg [.sl l53, nI i54] ∧
 ∃ (b55 : Bool),
 PureIs Try.prog 64 [.agg [.sl l53, nI i54], nI z51.1.1, nI z51.1.2.1] (nB b55) ∧
 ITE (!b55)
 (R (nI (IntKind.wrap .i64 (z51.1.1 + 1))))
 (0 ≤ z51.1.2.2.2.2.1 ∧
 z51.1.2.2.2.2.1 < List.length z51.2.1.1 ∧
 ∃ (l56 : List AV) (i57 : Int),
 List.getD z51.2.1.1 (Int.toNat z51.1.2.2.2.2.1) .top = .agg [.sl l56, nI i57] ∧
 ∃ (i58 : Int),
 PureIs Try.prog 127 [.agg [.sl l56, nI i57]] (nI i58) ∧
 ag52 ((z51.1.1, z51.1.2.1, (), IntKind.wrap .i64 (z51.1.2.2.2.1 + i58), IntKind.wrap .i64 (z51.1.2.2.2.2.1 + 1), ()), ((z51.2.1.1, z51.2.1.2.1, z51.2.1.2.2.1, z51.2.1.2.2.2.1, ()), ()))))
 (vc111_L11 ((z51.1.1, z51.1.2.1, (), z51.1.2.2.2.1, 0, ()), ((z51.2.1.1, z51.2.1.2.1, z51.2.1.2.2.1, z51.2.1.2.2.2.1, ()), ())) R))
 (vc111_L11 ((z51.1.1, z51.1.2.1, (), z51.1.2.2.2.1, 0, ()), ((z51.2.1.1, z51.2.1.2.1, z51.2.1.2.2.1, z51.2.1.2.2.2.1, ()), ())) R)
def vc111 (a0_0 : List AV) (a0_1 : Int) (a0_2 : Int) (a0_3 : List AV) (a1 : Int) (a2 : Int) (R : AV → Prop) : Prop :=
 ITE (decide (a2 ≤ 0))
 (R (nI (IntKind.wrap .i64 (a1 + 1))))
 (vc111_L5 ((a1, a2, (), 1, 0, ()), ((a0_0, a0_1, a0_2, a0_3, ()), ())) R)
theorem vc111_ok {a0_0 : List AV} {a0_1 : Int} {a0_2 : Int} {a0_3 : List AV} {a1 : Int} {a2 : Int} {R : AV → Prop} (h : vc111 a0_0 a0_1 a0_2 a0_3 a1 a2 R) : Pure Try.prog 111 [.agg [.sl a0_0, nI a0_1, nI a0_2, .sl a0_3], nI a1, nI a2] R :=
  pure_of_code (C := cfg (Func.ntmps Try.f111)) (cfg_tab _ _ _ _ _) (cfg_ord _ _ _ _ _) (L := [{ key := 5, live := [(1, none), (2, none), (3, none), (7, none), (8, none)] }, { key := 11, live := [(1, none), (2, none), (3, none), (7, none), (9, none)] }]) (fn := Try.f111) Try.func111 rfl (by kernel_rfl) (by kernel_rfl) (by rfl) (of_eq (by kernel_rfl) h)

/-- filigreeref06.Few -/
def vc62 (a0_0 : List AV) (a0_1 : Int) (a0_2 : Int) (a0_3 : List AV) (a1 : Int) (a2 : Int) (R : AV → Prop) : Prop :=
 ∃ (i1 : Int),
 PureIs Try.prog 111 [.agg [.sl a0_0, nI a0_1, nI a0_2, .sl a0_3], nI a1, nI a2] (nI i1) ∧
 R (nB (decide (i1 ≤ a1)))
theorem vc62_ok {a0_0 : List AV} {a0_1 : Int} {a0_2 : Int} {a0_3 : List AV} {a1 : Int} {a2 : Int} {R : AV → Prop} (h : vc62 a0_0 a0_1 a0_2 a0_3 a1 a2 R) : Pure Try.prog 62 [.agg [.sl a0_0, nI a0_1, nI a0_2, .sl a0_3], nI a1, nI a2] R :=
  pure_of_code (C := cfg (Func.ntmps Try.f62)) (cfg_tab _ _ _ _ _) (cfg_ord _ _ _ _ _) (L := []) (fn := Try.f62) Try.func62 rfl (by kernel_rfl) (by kernel_rfl) (by rfl) (of_eq (by kernel_rfl) h)

/-- filigreelaw06.Few -/
def vc12_L2 (p0 : (List AV × Int × Unit) × (Unit)) (R : AV → Prop) : Prop :=
 LoopP ((List AV × Int × Unit) × (Unit)) p0 fun z51 ag52 =>
 ITE (decide (z51.1.2.1 < ((List.length z51.1.1 : Nat) : Int)))
 (0 ≤ z51.1.2.1 ∧
 z51.1.2.1 < List.length z51.1.1 ∧
 ∃ (l53 : List AV) (i54 i55 : Int) (l56 : List AV),
 List.getD z51.1.1 (Int.toNat z51.1.2.1) .top = .agg [.sl l53, nI i54, nI i55, .sl l56] ∧
 ∃ (b57 : Bool),
 PureIs Try.prog 62 [.agg [.sl l53, nI i54, nI i55, .sl l56], nI 150, nI 70] (nB b57) ∧
 ITE (!b57)
 (R (nB false))
 (ag52 ((z51.1.1, IntKind.wrap .i64 (z51.1.2.1 + 1), ()), ())))
 (R (nB true))
def vc12 (a0 : List AV) (R : AV → Prop) : Prop :=
 vc12_L2 ((a0, 0, ()), ()) R
theorem vc12_ok {a0 : List AV} {R : AV → Prop} (h : vc12 a0 R) : Pure Try.prog 12 [.sl a0] R :=
  pure_of_code (C := cfg (Func.ntmps Try.f12)) (cfg_tab _ _ _ _ _) (cfg_ord _ _ _ _ _) (L := [{ key := 2, live := [(0, none), (3, none)] }]) (fn := Try.f12) Try.func12 rfl (by kernel_rfl) (by kernel_rfl) (by rfl) (of_eq (by kernel_rfl) h)

/-- filigreelaw08.Low -/
def vc13_L2 (p0 : (List AV × Int × Unit) × (Unit)) (R : AV → Prop) : Prop :=
 LoopP ((List AV × Int × Unit) × (Unit)) p0 fun z51 ag52 =>
 ITE (decide (z51.1.2.1 < ((List.length z51.1.1 : Nat) : Int)))
 (0 ≤ z51.1.2.1 ∧
 z51.1.2.1 < List.length z51.1.1 ∧
 ∃ (l53 : List AV) (i54 i55 : Int) (l56 : List AV),
 List.getD z51.1.1 (Int.toNat z51.1.2.1) .top = .agg [.sl l53, nI i54, nI i55, .sl l56] ∧
 ITE (i54 == 0)
 (0 ≤ z51.1.2.1 ∧
 z51.1.2.1 < List.length z51.1.1 ∧
 ∃ (l57 : List AV) (i58 i59 : Int) (l60 : List AV),
 List.getD z51.1.1 (Int.toNat z51.1.2.1) .top = .agg [.sl l57, nI i58, nI i59, .sl l60] ∧
 ITE (decide (i59 > 900000))
 (R (nB false))
 (0 ≤ z51.1.2.1 ∧
 z51.1.2.1 < List.length z51.1.1 ∧
 ∃ (l61 : List AV) (i62 i63 : Int) (l64 : List AV),
 List.getD z51.1.1 (Int.toNat z51.1.2.1) .top = .agg [.sl l61, nI i62, nI i63, .sl l64] ∧
 ∃ (b65 : Bool),
 PureIs Try.prog 13 [.sl l64] (nB b65) ∧
 ITE (!b65)
 (R (nB false))
 (ag52 ((z51.1.1, IntKind.wrap .i64 (z51.1.2.1 + 1), ()), ()))))
 (0 ≤ z51.1.2.1 ∧
 z51.1.2.1 < List.length z51.1.1 ∧
 ∃ (l66 : List AV) (i67 i68 : Int) (l69 : List AV),
 List.getD z51.1.1 (Int.toNat z51.1.2.1) .top = .agg [.sl l66, nI i67, nI i68, .sl l69] ∧
 ∃ (b70 : Bool),
 PureIs Try.prog 13 [.sl l69] (nB b70) ∧
 ITE (!b70)
 (R (nB false))
 (ag52 ((z51.1.1, IntKind.wrap .i64 (z51.1.2.1 + 1), ()), ()))))
 (R (nB true))
def vc13 (a0 : List AV) (R : AV → Prop) : Prop :=
 vc13_L2 ((a0, 0, ()), ()) R
theorem vc13_ok {a0 : List AV} {R : AV → Prop} (h : vc13 a0 R) : Pure Try.prog 13 [.sl a0] R :=
  pure_of_code (C := cfg (Func.ntmps Try.f13)) (cfg_tab _ _ _ _ _) (cfg_ord _ _ _ _ _) (L := [{ key := 2, live := [(0, none), (3, none)] }]) (fn := Try.f13) Try.func13 rfl (by kernel_rfl) (by kernel_rfl) (by rfl) (of_eq (by kernel_rfl) h)

/-- filigreelaw06.Small -/
def vc14_L5 (p0 : (List AV × Int × Unit) × ((Int × List AV × List AV × Unit) × Unit)) (R : AV → Prop) : Prop :=
 LoopP ((List AV × Int × Unit) × ((Int × List AV × List AV × Unit) × Unit)) p0 fun z51 ag52 =>
 ITE (decide (z51.1.2.1 < ((List.length z51.1.1 : Nat) : Int)))
 (0 ≤ z51.1.2.1 ∧
 z51.1.2.1 < List.length z51.1.1 ∧
 ∃ (l53 : List AV) (i54 : Int),
 List.getD z51.1.1 (Int.toNat z51.1.2.1) .top = .agg [.sl l53, nI i54] ∧
 ∃ (b55 : Bool),
 PureIs Try.prog 64 [.agg [.sl l53, nI i54], nI 60, nI 60] (nB b55) ∧
 ITE (!b55)
 (R (nB false))
 (ag52 ((z51.1.1, IntKind.wrap .i64 (z51.1.2.1 + 1), ()), ((z51.2.1.1, z51.2.1.2.1, z51.2.1.2.2.1, ()), ()))))
 (R (nB true))
def vc14 (a0_0 : Int) (a0_1 : List AV) (a0_2 : List AV) (a1 : List AV) (R : AV → Prop) : Prop :=
 ITE (decide (((List.length a0_1 : Nat) : Int) > 20))
 (R (nB false))
 (ITE (decide (((List.length a0_2 : Nat) : Int) > 20))
 (R (nB false))
 (ITE (decide (((List.length a1 : Nat) : Int) > 20))
 (R (nB false))
 (∃ (l1 : List AV),
 PureIs Try.prog 63 [.sl a0_1, .sl a0_2] (.sl l1) ∧
 ∃ (l2 : List AV),
 PureIs Try.prog 63 [.sl l1, .sl a1] (.sl l2) ∧
 vc14_L5 ((l2, 0, ()), ((a0_0, a0_1, a0_2, ()), ())) R)))
theorem vc14_ok {a0_0 : Int} {a0_1 : List AV} {a0_2 : List AV} {a1 : List AV} {R : AV → Prop} (h : vc14 a0_0 a0_1 a0_2 a1 R) : Pure Try.prog 14 [.agg [nI a0_0, .sl a0_1, .sl a0_2], .sl a1] R :=
  pure_of_code (C := cfg (Func.ntmps Try.f14)) (cfg_tab _ _ _ _ _) (cfg_ord _ _ _ _ _) (L := [{ key := 5, live := [(5, none), (6, none)] }]) (fn := Try.f14) Try.func14 rfl (by kernel_rfl) (by kernel_rfl) (by rfl) (of_eq (by kernel_rfl) h)

/-- filigreeref11.taken -/
def vc75_L15 (p0 : (Int × List AV × Unit × Unit × Int × Unit × Int × Unit) × ((List AV × Int × Int × List AV × Unit) × (Unit × Int × Int × Unit × Unit) × (List AV × Int × Int × Unit × Unit) × List AV × Unit)) (R : AV → Prop) : Prop :=
 LoopP ((Int × List AV × Unit × Unit × Int × Unit × Int × Unit) × ((List AV × Int × Int × List AV × Unit) × (Unit × Int × Int × Unit × Unit) × (List AV × Int × Int × Unit × Unit) × List AV × Unit)) p0 fun z51 ag52 =>
 ITE (decide (z51.1.2.2.2.2.2.2.1 < ((List.length z51.2.1.2.2.2.1 : Nat) : Int)))
 (0 ≤ z51.1.2.2.2.2.2.2.1 ∧
 z51.1.2.2.2.2.2.2.1 < List.length z51.2.1.2.2.2.1 ∧
 ∃ (l53 : List AV) (i54 i55 : Int) (l56 : List AV),
 List.getD z51.2.1.2.2.2.1 (Int.toNat z51.1.2.2.2.2.2.2.1) .top = .agg [.sl l53, nI i54, nI i55, .sl l56] ∧
 ∃ (l57 : List AV) (i58 i59 : Int) (l60 : List AV) (b61 : Bool),
 PureIs Try.prog 75 [.agg [.sl l53, nI i54, nI i55, .sl l56], nI z51.1.2.2.2.2.1, nI z51.1.1, .sl z51.1.2.1] (.tup [.agg [.sl l57, nI i58, nI i59, .sl l60], nB b61]) ∧
 ITE (!b61)
 (R (.tup [.agg [.sl [], nI 0, nI 0, .sl []], nB false]))
 (List.length z51.2.2.2.2.1 = List.length z51.2.2.2.2.1 ∧
 appOk td27 (List.length (z51.2.2.2.2.1 ++ [.agg [.sl l57, nI i58, nI i59, .sl l60]])) [] [.agg [.sl l57, nI i58, nI i59, .sl l60]] ∧
 List.length (z51.2.2.2.2.1 ++ [.agg [.sl l57, nI i58, nI i59, .sl l60]]) = List.length (z51.2.2.2.2.1 ++ [.agg [.sl l57, nI i58, nI i59, .sl l60]]) ∧
 ag52 ((z51.1.1, z51.1.2.1, (), (), z51.1.2.2.2.2.1, (), IntKind.wrap .i64 (z51.1.2.2.2.2.2.2.1 + 1), ()), ((z51.2.1.1, z51.2.1.2.1, z51.2.1.2.2.1, z51.2.1.2.2.2.1, ()), ((), z51.2.2.1.2.1, z51.2.2.1.2.2.1, (), ()), (z51.2.2.2.1.1, z51.2.2.2.1.2.1, z51.2.2.2.1.2.2.1, (), ()), z51.2.2.2.2.1 ++ [.agg [.sl l57, nI i58, nI i59, .sl l60]], ()))))
 (List.length z51.2.2.2.2.1 = List.length z51.2.2.2.2.1 ∧
 R (.tup [.agg [.sl z51.2.2.2.1.1, nI z51.2.2.2.1.2.1, nI z51.2.2.2.1.2.2.1, .sl z51.2.2.2.2.1], nB true]))
def vc75_L10 (p0 : (Int × List AV × Unit × Unit × Int × Unit × Int × Int × Unit) × ((List AV × Int × Int × List AV × Unit) × (Unit × Int × Int × Unit × Unit) × (List AV × Int × Int × Unit × Unit) × Unit)) (R : AV → Prop) : Prop :=
 LoopP ((Int × List AV × Unit × Unit × Int × Unit × Int × Int × Unit) × ((List AV × Int × Int × List AV × Unit) × (Unit × Int × Int × Unit × Unit) × (List AV × Int × Int × Unit × Unit) × Unit)) p0 fun z51 ag52 =>
 ITE (decide (z51.1.2.2.2.2.2.2.2.1 < ((List.length z51.1.2.1 : Nat) : Int)))
 (0 ≤ z51.1.2.2.2.2.2.2.2.1 ∧
 z51.1.2.2.2.2.2.2.2.1 < List.length z51.1.2.1 ∧
 ∃ (i53 : Int),
 List.getD z51.1.2.1 (Int.toNat z51.1.2.2.2.2.2.2.2.1) .top = nI i53 ∧
 ITE (i53 == z51.1.2.2.2.2.2.2.1)
 (ag52 ((z51.1.1, z51.1.2.1, (), (), z51.1.2.2.2.2.1, (), z51.1.2.2.2.2.2.2.1, IntKind.wrap .i64 (z51.1.2.2.2.2.2.2.2.1 + 1), ()), ((z51.2.1.1, z51.2.1.2.1, z51.2.1.2.2.1, z51.2.1.2.2.2.1, ()), ((), z51.2.2.1.2.1, z51.2.2.1.2.2.1, (), ()), (z51.2.2.2.1.1, z51.2.2.2.1.2.1, IntKind.wrap .i64 ((IntKind.wrap .i64 ((IntKind.wrap .i64 (z51.1.2.2.2.2.1 + ((List.length z51.1.2.1 : Nat) : Int))) - 1)) - z51.1.2.2.2.2.2.2.2.1), (), ()), ())))
 (ag52 ((z51.1.1, z51.1.2.1, (), (), z51.1.2.2.2.2.1, (), z51.1.2.2.2.2.2.2.1, IntKind.wrap .i64 (z51.1.2.2.2.2.2.2.2.1 + 1), ()), ((z51.2.1.1, z51.2.1.2.1, z51.2.1.2.2.1, z51.2.1.2.2.2.1, ()), ((), z51.2.2.1.2.1, z51.2.2.1.2.2.1, (), ()), (z51.2.2.2.1.1, z51.2.2.2.1.2.1, z51.2.2.2.1.2.2.1, (), ()), ()))))
 (0 = List.length ([] : List AV) ∧
 vc75_L15 ((z51.1.1, z51.1.2.1, (), (), z51.1.2.2.2.2.1, (), 0, ()), ((z51.2.1.1, z51.2.1.2.1, z51.2.1.2.2.1, z51.2.1.2.2.2.1, ()), ((), z51.2.2.1.2.1, z51.2.2.1.2.2.1, (), ()), (z51.2.2.2.1.1, z51.2.2.2.1.2.1, z51.2.2.2.1.2.2.1, (), ()), [], ())) R)
def vc75 (a0_0 : List AV) (a0_1 : Int) (a0_2 : Int) (a0_3 : List AV) (a1 : Int) (a2 : Int) (a3 : List AV) (R : AV → Prop) : Prop :=
 ITE (a0_1 == 0)
 (ITE (decide (a0_2 ≥ (IntKind.wrap .i64 (a1 + ((List.length a0_0 : Nat) : Int)))))
 (ITE (decide ((IntKind.wrap .i64 (a0_2 - (IntKind.wrap .i64 (a1 + ((List.length a0_0 : Nat) : Int))))) ≥ a2))
 (0 = List.length ([] : List AV) ∧
 vc75_L15 ((a2, a3, (), (), IntKind.wrap .i64 (a1 + ((List.length a0_0 : Nat) : Int)), (), 0, ()), ((a0_0, a0_1, a0_2, a0_3, ()), ((), 0, 0, (), ()), (a0_0, a0_1, IntKind.wrap .i64 ((IntKind.wrap .i64 (a0_2 - a2)) + ((List.length a3 : Nat) : Int)), (), ()), [], ())) R)
 (∃ (b12 : Bool),
 PureIs Try.prog 82 [.sl a3, nI (IntKind.wrap .i64 (a0_2 - (IntKind.wrap .i64 (a1 + ((List.length a0_0 : Nat) : Int)))))] (nB b12) ∧
 ITE (!b12)
 (R (.tup [.agg [.sl [], nI 0, nI 0, .sl []], nB false]))
 (vc75_L10 ((a2, a3, (), (), IntKind.wrap .i64 (a1 + ((List.length a0_0 : Nat) : Int)), (), IntKind.wrap .i64 (a0_2 - (IntKind.wrap .i64 (a1 + ((List.length a0_0 : Nat) : Int)))), 0, ()), ((a0_0, a0_1, a0_2, a0_3, ()), ((), 0, 0, (), ()), (a0_0, a0_1, a0_2, (), ()), ())) R)))
 (0 = List.length ([] : List AV) ∧
 vc75_L15 ((a2, a3, (), (), IntKind.wrap .i64 (a1 + ((List.length a0_0 : Nat) : Int)), (), 0, ()), ((a0_0, a0_1, a0_2, a0_3, ()), ((), 0, 0, (), ()), (a0_0, a0_1, a0_2, (), ()), [], ())) R))
 (0 = List.length ([] : List AV) ∧
 vc75_L15 ((a2, a3, (), (), IntKind.wrap .i64 (a1 + ((List.length a0_0 : Nat) : Int)), (), 0, ()), ((a0_0, a0_1, a0_2, a0_3, ()), ((), 0, 0, (), ()), (a0_0, a0_1, a0_2, (), ()), [], ())) R)
theorem vc75_ok {a0_0 : List AV} {a0_1 : Int} {a0_2 : Int} {a0_3 : List AV} {a1 : Int} {a2 : Int} {a3 : List AV} {R : AV → Prop} (h : vc75 a0_0 a0_1 a0_2 a0_3 a1 a2 a3 R) : Pure Try.prog 75 [.agg [.sl a0_0, nI a0_1, nI a0_2, .sl a0_3], nI a1, nI a2, .sl a3] R :=
  pure_of_code (C := cfg (Func.ntmps Try.f75)) (cfg_tab _ _ _ _ _) (cfg_ord _ _ _ _ _) (L := [{ key := 10, live := [(2, none), (3, none), (4, none), (8, none), (10, none), (11, none), (12, none), (13, none)] }, { key := 15, live := [(2, none), (3, none), (4, none), (8, none), (10, none), (11, none), (14, none)], brows := [(2, 3, 27)] }]) (fn := Try.f75) Try.func75 rfl (by kernel_rfl) (by kernel_rfl) (by rfl) (of_eq (by kernel_rfl) h)

/-- filigreeref11.Take -/
def vc19 (a0_0 : List AV) (a0_1 : Int) (a0_2 : Int) (a0_3 : List AV) (a1 : List AV) (a2 : List AV) (R : AV → Prop) : Prop :=
 ∃ (b1 : Bool),
 PureIs Try.prog 74 [nI ((List.length a1 : Nat) : Int), .sl a2] (nB b1) ∧
 ITE (!b1)
 (R (.tup [.agg [.sl [], nI 0, nI 0, .sl []], nI 1]))
 (∃ (l2 : List AV) (i3 i4 : Int) (l5 : List AV) (b6 : Bool),
 PureIs Try.prog 75 [.agg [.sl a0_0, nI a0_1, nI a0_2, .sl a0_3], nI 0, nI ((List.length a1 : Nat) : Int), .sl a2] (.tup [.agg [.sl l2, nI i3, nI i4, .sl l5], nB b6]) ∧
 ITE (!b6)
 (R (.tup [.agg [.sl [], nI 0, nI 0, .sl []], nI 9]))
 (∃ (l7 : List AV),
 PureIs Try.prog 76 [.sl a1, .sl a2] (.sl l7) ∧
 ∃ (l8 : List AV),
 PureIs Try.prog 63 [.sl l7, .sl a0_0] (.sl l8) ∧
 R (.tup [.agg [.sl l8, nI i3, nI i4, .sl l5], nI 0])))
theorem vc19_ok {a0_0 : List AV} {a0_1 : Int} {a0_2 : Int} {a0_3 : List AV} {a1 : List AV} {a2 : List AV} {R : AV → Prop} (h : vc19 a0_0 a0_1 a0_2 a0_3 a1 a2 R) : Pure Try.prog 19 [.agg [.sl a0_0, nI a0_1, nI a0_2, .sl a0_3], .sl a1, .sl a2] R :=
  pure_of_code (C := cfg (Func.ntmps Try.f19)) (cfg_tab _ _ _ _ _) (cfg_ord _ _ _ _ _) (L := []) (fn := Try.f19) Try.func19 rfl (by kernel_rfl) (by kernel_rfl) (by rfl) (of_eq (by kernel_rfl) h)

/-- filigreelaw11.PatternTakes -/
def vc3 (a0_0 : List AV) (a0_1 : Int) (a0_2 : Int) (a0_3 : List AV) (a1 : List AV) (a2 : List AV) (R : AV → Prop) : Prop :=
 (0 ≤ (0 : Int) ∧ (0 : Int) ≤ (if 20 < ((List.length a2 : Nat) : Int) then 20 else ((List.length a2 : Nat) : Int)) ∧ (if 20 < ((List.length a2 : Nat) : Int) then 20 else ((List.length a2 : Nat) : Int)) ≤ List.length a2 ∧ (∀ y : AV, y ∈ a2 → List.length (AV.cells y) = 1)) ∧
 ∃ (b1 : Bool),
 PureIs Try.prog 12 [.sl [.agg [.sl a0_0, nI a0_1, nI a0_2, .sl a0_3]]] (nB b1) ∧
 ITE (!b1)
 (∃ (b2 : Bool),
 PureIs Try.prog 15 [] (nB b2) ∧
 R (nB b2))
 (∃ (b3 : Bool),
 PureIs Try.prog 13 [.sl [.agg [.sl a0_0, nI a0_1, nI a0_2, .sl a0_3]]] (nB b3) ∧
 ITE (!b3)
 (∃ (b4 : Bool),
 PureIs Try.prog 15 [] (nB b4) ∧
 R (nB b4))
 (∃ (b5 : Bool),
 PureIs Try.prog 14 [.agg [nI 0, .sl [], .sl []], .sl a1] (nB b5) ∧
 ITE (!b5)
 (∃ (b6 : Bool),
 PureIs Try.prog 15 [] (nB b6) ∧
 R (nB b6))
 (∃ (l7 : List AV) (i8 i9 : Int) (l10 : List AV),
 PureIs Try.prog 17 [.agg [.sl a0_0, nI a0_1, nI a0_2, .sl a0_3]] (.agg [.sl l7, nI i8, nI i9, .sl l10]) ∧
 ∃ (l11 : List AV),
 PureIs Try.prog 18 [.sl a1] (.sl l11) ∧
 ∃ (l12 : List AV) (i13 i14 : Int) (l15 : List AV) (i16 : Int),
 PureIs Try.prog 16 [.agg [.sl l7, nI i8, nI i9, .sl l10], .sl l11, .sl (List.drop (Int.toNat 0) (List.take (Int.toNat (if 20 < ((List.length a2 : Nat) : Int) then 20 else ((List.length a2 : Nat) : Int))) a2))] (.tup [.agg [.sl l12, nI i13, nI i14, .sl l15], nI i16]) ∧
 ∃ (l17 : List AV) (i18 i19 : Int) (l20 : List AV) (i21 : Int),
 PureIs Try.prog 19 [.agg [.sl a0_0, nI a0_1, nI a0_2, .sl a0_3], .sl a1, .sl (List.drop (Int.toNat 0) (List.take (Int.toNat (if 20 < ((List.length a2 : Nat) : Int) then 20 else ((List.length a2 : Nat) : Int))) a2))] (.tup [.agg [.sl l17, nI i18, nI i19, .sl l20], nI i21]) ∧
 ∃ (b22 : Bool),
 PureIs Try.prog 15 [] (nB b22) ∧
 ITE b22
 (ITE (i16 == i21)
 (∃ (l23 : List AV) (i24 i25 : Int) (l26 : List AV),
 PureIs Try.prog 21 [.agg [.sl l12, nI i13, nI i14, .sl l15]] (.agg [.sl l23, nI i24, nI i25, .sl l26]) ∧
 ∃ (b27 : Bool),
 PureIs Try.prog 20 [.agg [.sl l23, nI i24, nI i25, .sl l26], .agg [.sl l17, nI i18, nI i19, .sl l20]] (nB b27) ∧
 R (nB b27))
 (R (nB false)))
 (R (nB false)))))
theorem vc3_ok {a0_0 : List AV} {a0_1 : Int} {a0_2 : Int} {a0_3 : List AV} {a1 : List AV} {a2 : List AV} {R : AV → Prop} (h : vc3 a0_0 a0_1 a0_2 a0_3 a1 a2 R) : Pure Try.prog 3 [.agg [.sl a0_0, nI a0_1, nI a0_2, .sl a0_3], .sl a1, .sl a2] R :=
  pure_of_code (C := cfg (Func.ntmps Try.f3)) (cfg_tab _ _ _ _ _) (cfg_ord _ _ _ _ _) (L := []) (fn := Try.f3) Try.func3 rfl (by kernel_rfl) (by kernel_rfl) (by rfl) (of_eq (by kernel_rfl) h)

/-- filigreeref06.eta -/
def vc116_L6 (p0 : (Unit × Unit × Int × Unit × Int × Unit) × ((Int × Int × Unit) × (List AV × Int × Unit) × (Unit × Int × Int × Unit × Unit) × (List AV × Int × Int × Unit × Unit) × List AV × Unit)) (R : AV → Prop) : Prop :=
 LoopP ((Unit × Unit × Int × Unit × Int × Unit) × ((Int × Int × Unit) × (List AV × Int × Unit) × (Unit × Int × Int × Unit × Unit) × (List AV × Int × Int × Unit × Unit) × List AV × Unit)) p0 fun z51 ag52 =>
 ITE (decide (z51.1.2.2.2.2.1 < z51.1.2.2.1))
 (0 ≤ z51.1.2.2.2.2.1 ∧
 z51.1.2.2.2.2.1 < List.length z51.2.2.1.1 ∧
 ∃ (l53 : List AV) (i54 : Int),
 List.getD z51.2.2.1.1 (Int.toNat z51.1.2.2.2.2.1) .top = .agg [.sl l53, nI i54] ∧
 ∃ (l55 : List AV) (i56 i57 : Int) (l58 : List AV),
 PureIs Try.prog 116 [.agg [nI 0, nI (IntKind.wrap .i64 ((IntKind.wrap .i64 (z51.1.2.2.1 - 1)) - z51.1.2.2.2.2.1))], .agg [.sl l53, nI i54]] (.agg [.sl l55, nI i56, nI i57, .sl l58]) ∧
 List.length z51.2.2.2.2.2.1 = List.length z51.2.2.2.2.2.1 ∧
 appOk td27 (List.length (z51.2.2.2.2.2.1 ++ [.agg [.sl l55, nI i56, nI i57, .sl l58]])) [] [.agg [.sl l55, nI i56, nI i57, .sl l58]] ∧
 List.length (z51.2.2.2.2.2.1 ++ [.agg [.sl l55, nI i56, nI i57, .sl l58]]) = List.length (z51.2.2.2.2.2.1 ++ [.agg [.sl l55, nI i56, nI i57, .sl l58]]) ∧
 ag52 (((), (), z51.1.2.2.1, (), IntKind.wrap .i64 (z51.1.2.2.2.2.1 + 1), ()), ((z51.2.1.1, z51.2.1.2.1, ()), (z51.2.2.1.1, z51.2.2.1.2.1, ()), ((), z51.2.2.2.1.2.1, z51.2.2.2.1.2.2.1, (), ()), (z51.2.2.2.2.1.1, z51.2.2.2.2.1.2.1, z51.2.2.2.2.1.2.2.1, (), ()), z51.2.2.2.2.2.1 ++ [.agg [.sl l55, nI i56, nI i57, .sl l58]], ())))
 (List.length z51.2.2.2.2.2.1 = List.length z51.2.2.2.2.2.1 ∧
 R (.agg [.sl z51.2.2.2.2.1.1, nI z51.2.2.2.2.1.2.1, nI z51.2.2.2.2.1.2.2.1, .sl z51.2.2.2.2.2.1]))
def vc116 (a0_0 : Int) (a0_1 : Int) (a1_0 : List AV) (a1_1 : Int) (R : AV → Prop) : Prop :=
 ITE (a0_0 == 0)
 (0 = List.length ([] : List AV) ∧
 vc116_L6 (((), (), ((List.length a1_0 : Nat) : Int), (), 0, ()), ((a0_0, a0_1, ()), (a1_0, a1_1, ()), ((), 0, 0, (), ()), (a1_0, a0_0, IntKind.wrap .i64 (a0_1 + ((List.length a1_0 : Nat) : Int)), (), ()), [], ())) R)
 (0 = List.length ([] : List AV) ∧
 vc116_L6 (((), (), ((List.length a1_0 : Nat) : Int), (), 0, ()), ((a0_0, a0_1, ()), (a1_0, a1_1, ()), ((), 0, 0, (), ()), (a1_0, a0_0, a0_1, (), ()), [], ())) R)
theorem vc116_ok {a0_0 : Int} {a0_1 : Int} {a1_0 : List AV} {a1_1 : Int} {R : AV → Prop} (h : vc116 a0_0 a0_1 a1_0 a1_1 R) : Pure Try.prog 116 [.agg [nI a0_0, nI a0_1], .agg [.sl a1_0, nI a1_1]] R :=
  pure_of_code (C := cfg (Func.ntmps Try.f116)) (cfg_tab _ _ _ _ _) (cfg_ord _ _ _ _ _) (L := [{ key := 6, live := [(3, none), (4, none), (5, none), (6, none), (7, none)], brows := [(3, 3, 27)] }]) (fn := Try.f116) Try.func116 rfl (by kernel_rfl) (by kernel_rfl) (by rfl) (of_eq (by kernel_rfl) h)

/-- filigreeref06.Eta -/
def vc87 (a0_0 : Int) (a0_1 : Int) (a1_0 : List AV) (a1_1 : Int) (R : AV → Prop) : Prop :=
 ITE (a0_0 == 0)
 (ITE (decide (a0_1 < 0))
 (R (.agg [.sl [], nI 0, nI 0, .sl []]))
 (ITE (decide (a0_1 > 1000))
 (R (.agg [.sl [], nI 0, nI 0, .sl []]))
 (∃ (l1 : List AV) (i2 i3 : Int) (l4 : List AV),
 PureIs Try.prog 116 [.agg [nI a0_0, nI a0_1], .agg [.sl a1_0, nI a1_1]] (.agg [.sl l1, nI i2, nI i3, .sl l4]) ∧
 R (.agg [.sl l1, nI i2, nI i3, .sl l4]))))
 (∃ (l5 : List AV) (i6 i7 : Int) (l8 : List AV),
 PureIs Try.prog 116 [.agg [nI a0_0, nI a0_1], .agg [.sl a1_0, nI a1_1]] (.agg [.sl l5, nI i6, nI i7, .sl l8]) ∧
 R (.agg [.sl l5, nI i6, nI i7, .sl l8]))
theorem vc87_ok {a0_0 : Int} {a0_1 : Int} {a1_0 : List AV} {a1_1 : Int} {R : AV → Prop} (h : vc87 a0_0 a0_1 a1_0 a1_1 R) : Pure Try.prog 87 [.agg [nI a0_0, nI a0_1], .agg [.sl a1_0, nI a1_1]] R :=
  pure_of_code (C := cfg (Func.ntmps Try.f87)) (cfg_tab _ _ _ _ _) (cfg_ord _ _ _ _ _) (L := []) (fn := Try.f87) Try.func87 rfl (by kernel_rfl) (by kernel_rfl) (by rfl) (of_eq (by kernel_rfl) h)

/-- filigreeref06.Var -/
def vc81 (a0_0 : List AV) (a0_1 : Int) (a0_2 : Int) (a0_3 : List AV) (R : AV → Prop) : Prop :=
 ITE (a0_1 == 0)
 (ITE (decide (a0_2 < ((List.length a0_0 : Nat) : Int)))
 (R (.tup [.agg [nI 0, nI 0], nB false]))
 (∃ (l1 : List AV) (i2 i3 : Int) (l4 : List AV),
 PureIs Try.prog 116 [.agg [nI a0_1, nI (IntKind.wrap .i64 (a0_2 - ((List.length a0_0 : Nat) : Int)))], .agg [.sl a0_0, nI 0]] (.agg [.sl l1, nI i2, nI i3, .sl l4]) ∧
 ITE (a0_1 == 0)
 (ITE (decide ((IntKind.wrap .i64 (a0_2 - ((List.length a0_0 : Nat) : Int))) > 1000))
 (∃ (b5 : Bool),
 PureIs Try.prog 20 [.agg [.sl l1, nI a0_1, nI a0_2, .sl l4], .agg [.sl a0_0, nI a0_1, nI a0_2, .sl a0_3]] (nB b5) ∧
 ITE (!b5)
 (R (.tup [.agg [nI 0, nI 0], nB false]))
 (R (.tup [.agg [nI a0_1, nI (IntKind.wrap .i64 (a0_2 - ((List.length a0_0 : Nat) : Int)))], nB true])))
 (∃ (b6 : Bool),
 PureIs Try.prog 20 [.agg [.sl l1, nI i2, nI i3, .sl l4], .agg [.sl a0_0, nI a0_1, nI a0_2, .sl a0_3]] (nB b6) ∧
 ITE (!b6)
 (R (.tup [.agg [nI 0, nI 0], nB false]))
 (R (.tup [.agg [nI a0_1, nI (IntKind.wrap .i64 (a0_2 - ((List.length a0_0 : Nat) : Int)))], nB true]))))
 (∃ (b7 : Bool),
 PureIs Try.prog 20 [.agg [.sl l1, nI i2, nI i3, .sl l4], .agg [.sl a0_0, nI a0_1, nI a0_2, .sl a0_3]] (nB b7) ∧
 ITE (!b7)
 (R (.tup [.agg [nI 0, nI 0], nB false]))
 (R (.tup [.agg [nI a0_1, nI (IntKind.wrap .i64 (a0_2 - ((List.length a0_0 : Nat) : Int)))], nB true])))))
 (∃ (l8 : List AV) (i9 i10 : Int) (l11 : List AV),
 PureIs Try.prog 116 [.agg [nI a0_1, nI a0_2], .agg [.sl a0_0, nI 0]] (.agg [.sl l8, nI i9, nI i10, .sl l11]) ∧
 ITE (a0_1 == 0)
 (ITE (decide (a0_2 > 1000))
 (∃ (b12 : Bool),
 PureIs Try.prog 20 [.agg [.sl l8, nI a0_1, nI a0_2, .sl l11], .agg [.sl a0_0, nI a0_1, nI a0_2, .sl a0_3]] (nB b12) ∧
 ITE (!b12)
 (R (.tup [.agg [nI 0, nI 0], nB false]))
 (R (.tup [.agg [nI a0_1, nI a0_2], nB true])))
 (∃ (b13 : Bool),
 PureIs Try.prog 20 [.agg [.sl l8, nI i9, nI i10, .sl l11], .agg [.sl a0_0, nI a0_1, nI a0_2, .sl a0_3]] (nB b13) ∧
 ITE (!b13)
 (R (.tup [.agg [nI 0, nI 0], nB false]))
 (R (.tup [.agg [nI a0_1, nI a0_2], nB true]))))
 (∃ (b14 : Bool),
 PureIs Try.prog 20 [.agg [.sl l8, nI i9, nI i10, .sl l11], .agg [.sl a0_0, nI a0_1, nI a0_2, .sl a0_3]] (nB b14) ∧
 ITE (!b14)
 (R (.tup [.agg [nI 0, nI 0], nB false]))
 (R (.tup [.agg [nI a0_1, nI a0_2], nB true]))))
theorem vc81_ok {a0_0 : List AV} {a0_1 : Int} {a0_2 : Int} {a0_3 : List AV} {R : AV → Prop} (h : vc81 a0_0 a0_1 a0_2 a0_3 R) : Pure Try.prog 81 [.agg [.sl a0_0, nI a0_1, nI a0_2, .sl a0_3]] R :=
  pure_of_code (C := cfg (Func.ntmps Try.f81)) (cfg_tab _ _ _ _ _) (cfg_ord _ _ _ _ _) (L := []) (fn := Try.f81) Try.func81 rfl (by kernel_rfl) (by kernel_rfl) (by rfl) (of_eq (by kernel_rfl) h)

/-- filigreeref11.Vars -/
def vc25_L5 (p0 : (Int × Unit × Unit × Int × Unit) × ((List AV × Int × Int × List AV × Unit) × List AV × Unit)) (R : AV → Prop) : Prop :=
 LoopP ((Int × Unit × Unit × Int × Unit) × ((List AV × Int × Int × List AV × Unit) × List AV × Unit)) p0 fun z51 ag52 =>
 ITE (decide (z51.1.2.2.2.1 < ((List.length z51.2.1.2.2.2.1 : Nat) : Int)))
 (0 ≤ z51.1.2.2.2.1 ∧
 z51.1.2.2.2.1 < List.length z51.2.1.2.2.2.1 ∧
 ∃ (l53 : List AV) (i54 i55 : Int) (l56 : List AV),
 List.getD z51.2.1.2.2.2.1 (Int.toNat z51.1.2.2.2.1) .top = .agg [.sl l53, nI i54, nI i55, .sl l56] ∧
 ∃ (i57 i58 : Int) (b59 : Bool),
 PureIs Try.prog 81 [.agg [.sl l53, nI i54, nI i55, .sl l56]] (.tup [.agg [nI i57, nI i58], nB b59]) ∧
 ITE (!b59)
 (R (.tup [.sl [], nI 6]))
 (ITE (i57 != 0)
 (R (.tup [.sl [], nI 6]))
 (ITE (decide (i58 ≥ z51.1.1))
 (R (.tup [.sl [], nI 6]))
 (List.length z51.2.2.1 = List.length z51.2.2.1 ∧
 ∃ (b60 : Bool),
 PureIs Try.prog 82 [.sl z51.2.2.1, nI i58] (nB b60) ∧
 ITE b60
 (R (.tup [.sl [], nI 6]))
 (List.length z51.2.2.1 = List.length z51.2.2.1 ∧
 appOk td3 (List.length (z51.2.2.1 ++ [nI i58])) [] [nI i58] ∧
 List.length (z51.2.2.1 ++ [nI i58]) = List.length (z51.2.2.1 ++ [nI i58]) ∧
 ag52 ((z51.1.1, (), (), IntKind.wrap .i64 (z51.1.2.2.2.1 + 1), ()), ((z51.2.1.1, z51.2.1.2.1, z51.2.1.2.2.1, z51.2.1.2.2.2.1, ()), z51.2.2.1 ++ [nI i58], ())))))))
 (List.length z51.2.2.1 = List.length z51.2.2.1 ∧
 R (.tup [.sl z51.2.2.1, nI 0]))
def vc25 (a0_0 : List AV) (a0_1 : Int) (a0_2 : Int) (a0_3 : List AV) (a1 : Int) (R : AV → Prop) : Prop :=
 ITE (a0_1 != 2)
 (R (.tup [.sl [], nI 1]))
 (ITE (decide (a1 < 0))
 (R (.tup [.sl [], nI 1]))
 (0 = List.length ([] : List AV) ∧
 vc25_L5 ((a1, (), (), 0, ()), ((a0_0, a0_1, a0_2, a0_3, ()), [], ())) R))
theorem vc25_ok {a0_0 : List AV} {a0_1 : Int} {a0_2 : Int} {a0_3 : List AV} {a1 : Int} {R : AV → Prop} (h : vc25 a0_0 a0_1 a0_2 a0_3 a1 R) : Pure Try.prog 25 [.agg [.sl a0_0, nI a0_1, nI a0_2, .sl a0_3], nI a1] R :=
  pure_of_code (C := cfg (Func.ntmps Try.f25)) (cfg_tab _ _ _ _ _) (cfg_ord _ _ _ _ _) (L := [{ key := 5, live := [(1, none), (2, none), (6, none), (7, none)], rows := [(6, 3)] }]) (fn := Try.f25) Try.func25 rfl (by kernel_rfl) (by kernel_rfl) (by rfl) (of_eq (by kernel_rfl) h)

/-- filigreeref10.All -/
def vc84_L3 (p0 : (List AV × Unit × Unit × Int × Unit) × ((List AV × Int × Int × List AV × Unit) × List AV × List AV × Unit)) (R : AV → Prop) : Prop :=
 LoopP ((List AV × Unit × Unit × Int × Unit) × ((List AV × Int × Int × List AV × Unit) × List AV × List AV × Unit)) p0 fun z51 ag52 =>
 ITE (decide (z51.1.2.2.2.1 < ((List.length z51.2.1.2.2.2.1 : Nat) : Int)))
 (appOk td3 (List.length z51.1.1) [] z51.1.1 ∧
 List.length z51.1.1 = List.length z51.1.1 ∧
 appOk td3 (List.length (z51.1.1 ++ [nI z51.1.2.2.2.1])) [] [nI z51.1.2.2.2.1] ∧
 0 ≤ z51.1.2.2.2.1 ∧
 z51.1.2.2.2.1 < List.length z51.2.1.2.2.2.1 ∧
 ∃ (l53 : List AV) (i54 i55 : Int) (l56 : List AV),
 List.getD z51.2.1.2.2.2.1 (Int.toNat z51.1.2.2.2.1) .top = .agg [.sl l53, nI i54, nI i55, .sl l56] ∧
 List.length (z51.1.1 ++ [nI z51.1.2.2.2.1]) = List.length (z51.1.1 ++ [nI z51.1.2.2.2.1]) ∧
 ∃ (l57 : List AV),
 PureIs Try.prog 84 [.agg [.sl l53, nI i54, nI i55, .sl l56], .sl (z51.1.1 ++ [nI z51.1.2.2.2.1])] (.sl l57) ∧
 List.length z51.2.2.2.1 = List.length z51.2.2.2.1 ∧
 appOk td28 (List.length (z51.2.2.2.1 ++ l57)) [] l57 ∧
 List.length (z51.2.2.2.1 ++ l57) = List.length (z51.2.2.2.1 ++ l57) ∧
 ag52 ((z51.1.1, (), (), IntKind.wrap .i64 (z51.1.2.2.2.1 + 1), ()), ((z51.2.1.1, z51.2.1.2.1, z51.2.1.2.2.1, z51.2.1.2.2.2.1, ()), z51.2.2.1, z51.2.2.2.1 ++ l57, ())))
 (List.length z51.2.2.2.1 = List.length z51.2.2.2.1 ∧
 R (.sl z51.2.2.2.1))
def vc84 (a0_0 : List AV) (a0_1 : Int) (a0_2 : Int) (a0_3 : List AV) (a1 : List AV) (R : AV → Prop) : Prop :=
 ITE (decide (0 < ((List.length a0_3 : Nat) : Int)))
 (appOk td3 (List.length a1) [] a1 ∧
 List.length a1 = List.length a1 ∧
 appOk td3 (List.length (a1 ++ [nI 0])) [] [nI 0] ∧
 0 ≤ (0 : Int) ∧
 (0 : Int) < List.length a0_3 ∧
 ∃ (l1 : List AV) (i2 i3 : Int) (l4 : List AV),
 List.getD a0_3 (Int.toNat 0) .top = .agg [.sl l1, nI i2, nI i3, .sl l4] ∧
 List.length (a1 ++ [nI 0]) = List.length (a1 ++ [nI 0]) ∧
 ∃ (l5 : List AV),
 PureIs Try.prog 84 [.agg [.sl l1, nI i2, nI i3, .sl l4], .sl (a1 ++ [nI 0])] (.sl l5) ∧
 ((l5 : List AV) = [] → ([.sl a1] : List AV) = []) ∧
 appOk td28 (List.length ([.sl a1] ++ l5)) [.sl a1] l5 ∧
 List.length ([.sl a1] ++ l5) = List.length ([.sl a1] ++ l5) ∧
 vc84_L3 ((a1, (), (), IntKind.wrap .i64 (0 + 1), ()), ((a0_0, a0_1, a0_2, a0_3, ()), a1 ++ [nI 0], [.sl a1] ++ l5, ())) R)
 (R (.sl [.sl a1]))
theorem vc84_ok {a0_0 : List AV} {a0_1 : Int} {a0_2 : Int} {a0_3 : List AV} {a1 : List AV} {R : AV → Prop} (h : vc84 a0_0 a0_1 a0_2 a0_3 a1 R) : Pure Try.prog 84 [.agg [.sl a0_0, nI a0_1, nI a0_2, .sl a0_3], .sl a1] R :=
  pure_of_code (C := cfg (Func.ntmps Try.f84)) (cfg_tab _ _ _ _ _) (cfg_ord _ _ _ _ _) (L := [{ key := 3, live := [(1, none), (2, none), (5, none), (6, none)], peel := true }]) (fn := Try.f84) Try.func84 rfl (by kernel_rfl) (by kernel_rfl) (by rfl) (of_eq (by kernel_rfl) h)

/-- filigreeref10.At -/
def vc85 (a0_0 : List AV) (a0_1 : Int) (a0_2 : Int) (a0_3 : List AV) (a1 : List AV) (R : AV → Prop) : Prop :=
 ITE (((List.length a1 : Nat) : Int) == 0)
 (R (.tup [.agg [.sl a0_0, nI a0_1, nI a0_2, .sl a0_3], .sl a0_0, nB true]))
 (0 ≤ (0 : Int) ∧
 (0 : Int) < List.length a1 ∧
 ∃ (i1 : Int),
 List.getD a1 (Int.toNat 0) .top = nI i1 ∧
 ITE (decide (i1 < 0))
 (R (.tup [.agg [.sl [], nI 0, nI 0, .sl []], .sl [], nB false]))
 (ITE (decide (i1 ≥ ((List.length a0_3 : Nat) : Int)))
 (R (.tup [.agg [.sl [], nI 0, nI 0, .sl []], .sl [], nB false]))
 (0 ≤ i1 ∧
 i1 < List.length a0_3 ∧
 ∃ (l2 : List AV) (i3 i4 : Int) (l5 : List AV),
 List.getD a0_3 (Int.toNat i1) .top = .agg [.sl l2, nI i3, nI i4, .sl l5] ∧
 (0 ≤ (1 : Int) ∧ (1 : Int) ≤ ((List.length a1 : Nat) : Int) ∧ ((List.length a1 : Nat) : Int) ≤ List.length a1 ∧ (∀ y : AV, y ∈ a1 → List.length (AV.cells y) = 1)) ∧
 ∃ (l6 : List AV) (i7 i8 : Int) (l9 l10 : List AV) (b11 : Bool),
 PureIs Try.prog 85 [.agg [.sl l2, nI i3, nI i4, .sl l5], .sl (List.drop (Int.toNat 1) (List.take (Int.toNat ((List.length a1 : Nat) : Int)) a1))] (.tup [.agg [.sl l6, nI i7, nI i8, .sl l9], .sl l10, nB b11]) ∧
 ITE (!b11)
 (R (.tup [.agg [.sl [], nI 0, nI 0, .sl []], .sl [], nB false]))
 (∃ (l12 : List AV),
 PureIs Try.prog 63 [.sl a0_0, .sl l10] (.sl l12) ∧
 R (.tup [.agg [.sl l6, nI i7, nI i8, .sl l9], .sl l12, nB true])))))
theorem vc85_ok {a0_0 : List AV} {a0_1 : Int} {a0_2 : Int} {a0_3 : List AV} {a1 : List AV} {R : AV → Prop} (h : vc85 a0_0 a0_1 a0_2 a0_3 a1 R) : Pure Try.prog 85 [.agg [.sl a0_0, nI a0_1, nI a0_2, .sl a0_3], .sl a1] R :=
  pure_of_code (C := cfg (Func.ntmps Try.f85) [(2, [none, none, none, some [1], none, none], [none, none, some [1], none, none, none]), (6, [none, none, none, none, none, none, none, none, none, none, none, none, some [], none, none, none], [none, some [], none, some [], some [], none, some [], some [], none, none, none, none, none, none, none, none])]) (cfg_tab _ _ _ _ _) (cfg_ord _ _ _ _ _) (L := []) (fn := Try.f85) Try.func85 rfl (by kernel_rfl) (by kernel_rfl) (by rfl) (of_eq (by kernel_rfl) h)

/-- filigreeref11.Uses -/
def vc27_L4 (p0 : (Unit × Unit × List AV × Int × Unit) × ((List AV × Int × Int × List AV × Unit) × List AV × Unit)) (R : AV → Prop) : Prop :=
 LoopP ((Unit × Unit × List AV × Int × Unit) × ((List AV × Int × Int × List AV × Unit) × List AV × Unit)) p0 fun z51 ag52 =>
 ITE (decide (z51.1.2.2.2.1 < ((List.length z51.1.2.2.1 : Nat) : Int)))
 (0 ≤ z51.1.2.2.2.1 ∧
 z51.1.2.2.2.1 < List.length z51.1.2.2.1 ∧
 ∃ (l53 : List AV),
 List.getD z51.1.2.2.1 (Int.toNat z51.1.2.2.2.1) .top = .sl l53 ∧
 ∃ (l54 : List AV) (i55 i56 : Int) (l57 l58 : List AV) (b59 : Bool),
 PureIs Try.prog 85 [.agg [.sl z51.2.1.1, nI z51.2.1.2.1, nI z51.2.1.2.2.1, .sl z51.2.1.2.2.2.1], .sl l53] (.tup [.agg [.sl l54, nI i55, nI i56, .sl l57], .sl l58, nB b59]) ∧
 ITE (i55 != 2)
 (List.length z51.2.2.1 = List.length z51.2.2.1 ∧
 ag52 (((), (), z51.1.2.2.1, IntKind.wrap .i64 (z51.1.2.2.2.1 + 1), ()), ((z51.2.1.1, z51.2.1.2.1, z51.2.1.2.2.1, z51.2.1.2.2.2.1, ()), z51.2.2.1, ())))
 (∃ (l60 : List AV) (i61 : Int),
 PureIs Try.prog 25 [.agg [.sl l54, nI i55, nI i56, .sl l57], nI ((List.length l58 : Nat) : Int)] (.tup [.sl l60, nI i61]) ∧
 ITE (i61 != 0)
 (R (.tup [.sl [], nB false]))
 (0 ≤ z51.1.2.2.2.1 ∧
 z51.1.2.2.2.1 < List.length z51.1.2.2.1 ∧
 ∃ (l62 : List AV),
 List.getD z51.1.2.2.1 (Int.toNat z51.1.2.2.2.1) .top = .sl l62 ∧
 List.length z51.2.2.1 = List.length z51.2.2.1 ∧
 appOk td65 (List.length (z51.2.2.1 ++ [.agg [nI i56, .sl l60, .sl l58, .sl l62]])) [] [.agg [nI i56, .sl l60, .sl l58, .sl l62]] ∧
 List.length (z51.2.2.1 ++ [.agg [nI i56, .sl l60, .sl l58, .sl l62]]) = List.length (z51.2.2.1 ++ [.agg [nI i56, .sl l60, .sl l58, .sl l62]]) ∧
 ag52 (((), (), z51.1.2.2.1, IntKind.wrap .i64 (z51.1.2.2.2.1 + 1), ()), ((z51.2.1.1, z51.2.1.2.1, z51.2.1.2.2.1, z51.2.1.2.2.2.1, ()), z51.2.2.1 ++ [.agg [nI i56, .sl l60, .sl l58, .sl l62]], ())))))
 (List.length z51.2.2.1 = List.length z51.2.2.1 ∧
 R (.tup [.sl z51.2.2.1, nB true]))
def vc27 (a0_0 : List AV) (a0_1 : Int) (a0_2 : Int) (a0_3 : List AV) (R : AV → Prop) : Prop :=
 ∃ (l1 : List AV),
 PureIs Try.prog 84 [.agg [.sl a0_0, nI a0_1, nI a0_2, .sl a0_3], .sl []] (.sl l1) ∧
 0 = List.length ([] : List AV) ∧
 vc27_L4 (((), (), l1, 0, ()), ((a0_0, a0_1, a0_2, a0_3, ()), [], ())) R
theorem vc27_ok {a0_0 : List AV} {a0_1 : Int} {a0_2 : Int} {a0_3 : List AV} {R : AV → Prop} (h : vc27 a0_0 a0_1 a0_2 a0_3 R) : Pure Try.prog 27 [.agg [.sl a0_0, nI a0_1, nI a0_2, .sl a0_3]] R :=
  pure_of_code (C := cfg (Func.ntmps Try.f27) [(6, [none, none, none, none, none, none, none, none, none, none, some [], none, none, none], [some [], none, none, some [], some [], some [], none, none, none, none, none, none, none, none])]) (cfg_tab _ _ _ _ _) (cfg_ord _ _ _ _ _) (L := [{ key := 4, live := [(1, none), (4, none), (5, none), (6, none)], rows := [(4, 65)] }]) (fn := Try.f27) Try.func27 rfl (by kernel_rfl) (by kernel_rfl) (by rfl) (of_eq (by kernel_rfl) h)

/-- filigreeref11.Linear -/
def vc30_L6 (p0 : (List AV × Bool × Int × Int × Unit) × ((List AV × Int × Int × List AV × Unit) × Unit)) (p1 : ((List AV × Bool × Int × Unit) × ((List AV × Int × Int × List AV × Unit) × Unit)) → Prop) : Prop :=
 LoopP ((List AV × Bool × Int × Int × Unit) × ((List AV × Int × Int × List AV × Unit) × Unit)) p0 fun z51 ag52 =>
 ITE (decide (z51.1.2.2.2.1 < z51.1.2.2.1))
 (ITE z51.1.2.1
 (0 ≤ z51.1.2.2.1 ∧
 z51.1.2.2.1 < List.length z51.1.1 ∧
 ∃ (i53 : Int) (l54 l55 l56 : List AV),
 List.getD z51.1.1 (Int.toNat z51.1.2.2.1) .top = .agg [nI i53, .sl l54, .sl l55, .sl l56] ∧
 0 ≤ z51.1.2.2.2.1 ∧
 z51.1.2.2.2.1 < List.length z51.1.1 ∧
 ∃ (i57 : Int) (l58 l59 l60 : List AV),
 List.getD z51.1.1 (Int.toNat z51.1.2.2.2.1) .top = .agg [nI i57, .sl l58, .sl l59, .sl l60] ∧
 ag52 ((z51.1.1, i53 != i57, z51.1.2.2.1, IntKind.wrap .i64 (z51.1.2.2.2.1 + 1), ()), ((z51.2.1.1, z51.2.1.2.1, z51.2.1.2.2.1, z51.2.1.2.2.2.1, ()), ())))
 (ag52 ((z51.1.1, false, z51.1.2.2.1, IntKind.wrap .i64 (z51.1.2.2.2.1 + 1), ()), ((z51.2.1.1, z51.2.1.2.1, z51.2.1.2.2.1, z51.2.1.2.2.2.1, ()), ()))))
 (p1 ((z51.1.1, z51.1.2.1, IntKind.wrap .i64 (z51.1.2.2.1 + 1), ()), ((z51.2.1.1, z51.2.1.2.1, z51.2.1.2.2.1, z51.2.1.2.2.2.1, ()), ())))
def vc30_L3 (p0 : (List AV × Bool × Int × Unit) × ((List AV × Int × Int × List AV × Unit) × Unit)) (R : AV → Prop) : Prop :=
 LoopP ((List AV × Bool × Int × Unit) × ((List AV × Int × Int × List AV × Unit) × Unit)) p0 fun z51 ag52 =>
 ITE (decide (z51.1.2.2.1 < ((List.length z51.1.1 : Nat) : Int)))
 (vc30_L6 ((z51.1.1, z51.1.2.1, z51.1.2.2.1, 0, ()), ((z51.2.1.1, z51.2.1.2.1, z51.2.1.2.2.1, z51.2.1.2.2.2.1, ()), ())) ag52)
 (R (nB z51.1.2.1))
def vc30 (a0_0 : List AV) (a0_1 : Int) (a0_2 : Int) (a0_3 : List AV) (R : AV → Prop) : Prop :=
 ∃ (l1 : List AV) (b2 : Bool),
 PureIs Try.prog 27 [.agg [.sl a0_0, nI a0_1, nI a0_2, .sl a0_3]] (.tup [.sl l1, nB b2]) ∧
 vc30_L3 ((l1, b2, 0, ()), ((a0_0, a0_1, a0_2, a0_3, ()), ())) R
theorem vc30_ok {a0_0 : List AV} {a0_1 : Int} {a0_2 : Int} {a0_3 : List AV} {R : AV → Prop} (h : vc30 a0_0 a0_1 a0_2 a0_3 R) : Pure Try.prog 30 [.agg [.sl a0_0, nI a0_1, nI a0_2, .sl a0_3]] R :=
  pure_of_code (C := cfg (Func.ntmps Try.f30)) (cfg_tab _ _ _ _ _) (cfg_ord _ _ _ _ _) (L := [{ key := 3, live := [(3, none), (4, none), (5, none)] }, { key := 6, live := [(3, none), (4, none), (5, none), (6, none)] }]) (fn := Try.f30) Try.func30 rfl (by kernel_rfl) (by kernel_rfl) (by rfl) (of_eq (by kernel_rfl) h)

/-- filigreelaw11.same -/
def vc32_L5 (p0 : (List AV × List AV × Int × Unit) × (Unit)) (R : AV → Prop) : Prop :=
 LoopP ((List AV × List AV × Int × Unit) × (Unit)) p0 fun z51 ag52 =>
 ITE (decide (z51.1.2.2.1 < ((List.length z51.1.2.1 : Nat) : Int)))
 (0 ≤ z51.1.2.2.1 ∧
 z51.1.2.2.1 < List.length z51.1.2.1 ∧
 ∃ (l53 : List AV) (i54 : Int),
 List.getD z51.1.2.1 (Int.toNat z51.1.2.2.1) .top = .agg [.sl l53, nI i54] ∧
 0 ≤ z51.1.2.2.1 ∧
 z51.1.2.2.1 < List.length z51.1.1 ∧
 ∃ (l55 : List AV) (i56 : Int),
 List.getD z51.1.1 (Int.toNat z51.1.2.2.1) .top = .agg [.sl l55, nI i56] ∧
 ∃ (b57 : Bool),
 PureIs Try.prog 46 [.agg [.sl l53, nI i54], .agg [.sl l55, nI i56]] (nB b57) ∧
 ITE (!b57)
 (R (nB false))
 (ag52 ((z51.1.1, z51.1.2.1, IntKind.wrap .i64 (z51.1.2.2.1 + 1), ()), ())))
 (R (nB true))
def vc32 (a0 : List AV) (a1 : List AV) (R : AV → Prop) : Prop :=
 ∃ (l1 : List AV),
 PureIs Try.prog 78 [.sl a0] (.sl l1) ∧
 ITE (((List.length l1 : Nat) : Int) != ((List.length a1 : Nat) : Int))
 (R (nB false))
 (vc32_L5 ((a1, l1, 0, ()), ()) R)
theorem vc32_ok {a0 : List AV} {a1 : List AV} {R : AV → Prop} (h : vc32 a0 a1 R) : Pure Try.prog 32 [.sl a0, .sl a1] R :=
  pure_of_code (C := cfg (Func.ntmps Try.f32)) (cfg_tab _ _ _ _ _) (cfg_ord _ _ _ _ _) (L := [{ key := 5, live := [(1, none), (5, none), (6, none)] }]) (fn := Try.f32) Try.func32 rfl (by kernel_rfl) (by kernel_rfl) (by rfl) (of_eq (by kernel_rfl) h)

/-- filigreelaw11.PatternUses -/
def vc5_L11 (p0 : (Unit × Unit × List AV × List AV × Int × Unit) × ((List AV × Int × Int × List AV × Unit) × (List AV × Int × Int × List AV × Unit) × Unit)) (R : AV → Prop) : Prop :=
 LoopP ((Unit × Unit × List AV × List AV × Int × Unit) × ((List AV × Int × Int × List AV × Unit) × (List AV × Int × Int × List AV × Unit) × Unit)) p0 fun z51 ag52 =>
 ITE (decide (z51.1.2.2.2.2.1 < ((List.length z51.1.2.2.1 : Nat) : Int)))
 (0 ≤ z51.1.2.2.2.2.1 ∧
 z51.1.2.2.2.2.1 < List.length z51.1.2.2.1 ∧
 ∃ (i53 : Int) (l54 l55 l56 : List AV),
 List.getD z51.1.2.2.1 (Int.toNat z51.1.2.2.2.2.1) .top = .agg [nI i53, .sl l54, .sl l55, .sl l56] ∧
 0 ≤ z51.1.2.2.2.2.1 ∧
 z51.1.2.2.2.2.1 < List.length z51.1.2.2.2.1 ∧
 ∃ (i57 : Int) (l58 l59 l60 : List AV),
 List.getD z51.1.2.2.2.1 (Int.toNat z51.1.2.2.2.2.1) .top = .agg [nI i57, .sl l58, .sl l59, .sl l60] ∧
 ITE (i53 != i57)
 (R (nB false))
 (0 ≤ z51.1.2.2.2.2.1 ∧
 z51.1.2.2.2.2.1 < List.length z51.1.2.2.1 ∧
 ∃ (i61 : Int) (l62 l63 l64 : List AV),
 List.getD z51.1.2.2.1 (Int.toNat z51.1.2.2.2.2.1) .top = .agg [nI i61, .sl l62, .sl l63, .sl l64] ∧
 0 ≤ z51.1.2.2.2.2.1 ∧
 z51.1.2.2.2.2.1 < List.length z51.1.2.2.2.1 ∧
 ∃ (i65 : Int) (l66 l67 l68 : List AV),
 List.getD z51.1.2.2.2.1 (Int.toNat z51.1.2.2.2.2.1) .top = .agg [nI i65, .sl l66, .sl l67, .sl l68] ∧
 ∃ (b69 : Bool),
 PureIs Try.prog 23 [.sl l62, .sl l66] (nB b69) ∧
 ITE (!b69)
 (R (nB false))
 (0 ≤ z51.1.2.2.2.2.1 ∧
 z51.1.2.2.2.2.1 < List.length z51.1.2.2.1 ∧
 ∃ (i70 : Int) (l71 l72 l73 : List AV),
 List.getD z51.1.2.2.1 (Int.toNat z51.1.2.2.2.2.1) .top = .agg [nI i70, .sl l71, .sl l72, .sl l73] ∧
 0 ≤ z51.1.2.2.2.2.1 ∧
 z51.1.2.2.2.2.1 < List.length z51.1.2.2.2.1 ∧
 ∃ (i74 : Int) (l75 l76 l77 : List AV),
 List.getD z51.1.2.2.2.1 (Int.toNat z51.1.2.2.2.2.1) .top = .agg [nI i74, .sl l75, .sl l76, .sl l77] ∧
 ∃ (b78 : Bool),
 PureIs Try.prog 23 [.sl l73, .sl l77] (nB b78) ∧
 ITE (!b78)
 (R (nB false))
 (0 ≤ z51.1.2.2.2.2.1 ∧
 z51.1.2.2.2.2.1 < List.length z51.1.2.2.1 ∧
 ∃ (i79 : Int) (l80 l81 l82 : List AV),
 List.getD z51.1.2.2.1 (Int.toNat z51.1.2.2.2.2.1) .top = .agg [nI i79, .sl l80, .sl l81, .sl l82] ∧
 0 ≤ z51.1.2.2.2.2.1 ∧
 z51.1.2.2.2.2.1 < List.length z51.1.2.2.2.1 ∧
 ∃ (i83 : Int) (l84 l85 l86 : List AV),
 List.getD z51.1.2.2.2.1 (Int.toNat z51.1.2.2.2.2.1) .top = .agg [nI i83, .sl l84, .sl l85, .sl l86] ∧
 ∃ (b87 : Bool),
 PureIs Try.prog 32 [.sl l81, .sl l85] (nB b87) ∧
 ITE (!b87)
 (R (nB false))
 (ag52 (((), (), z51.1.2.2.1, z51.1.2.2.2.1, IntKind.wrap .i64 (z51.1.2.2.2.2.1 + 1), ()), ((z51.2.1.1, z51.2.1.2.1, z51.2.1.2.2.1, z51.2.1.2.2.2.1, ()), (z51.2.2.1.1, z51.2.2.1.2.1, z51.2.2.1.2.2.1, z51.2.2.1.2.2.2.1, ()), ())))))))
 (∃ (l88 : List AV) (i89 i90 : Int) (l91 : List AV),
 PureIs Try.prog 21 [.agg [.sl z51.2.2.1.1, nI z51.2.2.1.2.1, nI z51.2.2.1.2.2.1, .sl z51.2.2.1.2.2.2.1]] (.agg [.sl l88, nI i89, nI i90, .sl l91]) ∧
 ∃ (b92 : Bool),
 PureIs Try.prog 20 [.agg [.sl l88, nI i89, nI i90, .sl l91], .agg [.sl z51.2.1.1, nI z51.2.1.2.1, nI z51.2.1.2.2.1, .sl z51.2.1.2.2.2.1]] (nB b92) ∧
 R (nB b92))
def vc5 (a0_0 : List AV) (a0_1 : Int) (a0_2 : Int) (a0_3 : List AV) (a1 : Int) (R : AV → Prop) : Prop :=
 ∃ (b1 : Bool),
 PureIs Try.prog 12 [.sl [.agg [.sl a0_0, nI a0_1, nI a0_2, .sl a0_3]]] (nB b1) ∧
 ITE (!b1)
 (∃ (b2 : Bool),
 PureIs Try.prog 15 [] (nB b2) ∧
 R (nB b2))
 (∃ (l3 : List AV) (i4 i5 : Int) (l6 : List AV),
 PureIs Try.prog 17 [.agg [.sl a0_0, nI a0_1, nI a0_2, .sl a0_3]] (.agg [.sl l3, nI i4, nI i5, .sl l6]) ∧
 ∃ (l7 : List AV) (i8 : Int),
 PureIs Try.prog 24 [.agg [.sl l3, nI i4, nI i5, .sl l6], nI a1] (.tup [.sl l7, nI i8]) ∧
 ∃ (l9 : List AV) (i10 : Int),
 PureIs Try.prog 25 [.agg [.sl a0_0, nI a0_1, nI a0_2, .sl a0_3], nI a1] (.tup [.sl l9, nI i10]) ∧
 ∃ (l11 : List AV) (i12 : Int),
 PureIs Try.prog 26 [.agg [.sl l3, nI i4, nI i5, .sl l6]] (.tup [.sl l11, nI i12]) ∧
 ∃ (l13 : List AV) (b14 : Bool),
 PureIs Try.prog 27 [.agg [.sl a0_0, nI a0_1, nI a0_2, .sl a0_3]] (.tup [.sl l13, nB b14]) ∧
 ∃ (b15 : Bool),
 PureIs Try.prog 15 [] (nB b15) ∧
 ITE (!b15)
 (R (nB false))
 (ITE (i8 != i10)
 (R (nB false))
 (∃ (b16 : Bool),
 PureIs Try.prog 22 [.sl l7, .sl l9] (nB b16) ∧
 ITE (!b16)
 (R (nB false))
 (ITE (!((i12 == 0) == b14))
 (R (nB false))
 (ITE (!b14)
 (ITE (i12 != 6)
 (R (nB false))
 (∃ (b17 : Bool),
 PureIs Try.prog 28 [.agg [.sl l3, nI i4, nI i5, .sl l6]] (nB b17) ∧
 ITE (!(b17 == b14))
 (R (nB false))
 (∃ (b18 : Bool),
 PureIs Try.prog 29 [.agg [.sl l3, nI i4, nI i5, .sl l6]] (nB b18) ∧
 ∃ (b19 : Bool),
 PureIs Try.prog 30 [.agg [.sl a0_0, nI a0_1, nI a0_2, .sl a0_3]] (nB b19) ∧
 ITE (!(b18 == b19))
 (R (nB false))
 (∃ (b20 : Bool),
 PureIs Try.prog 31 [.agg [.sl l3, nI i4, nI i5, .sl l6]] (nB b20) ∧
 ITE (!(b20 == (a0_1 == 2)))
 (R (nB false))
 (ITE (((List.length l11 : Nat) : Int) != ((List.length l13 : Nat) : Int))
 (R (nB false))
 (vc5_L11 (((), (), l11, l13, 0, ()), ((a0_0, a0_1, a0_2, a0_3, ()), (l3, i4, i5, l6, ()), ())) R))))))
 (∃ (b63 : Bool),
 PureIs Try.prog 28 [.agg [.sl l3, nI i4, nI i5, .sl l6]] (nB b63) ∧
 ITE (!(b63 == b14))
 (R (nB false))
 (∃ (b64 : Bool),
 PureIs Try.prog 29 [.agg [.sl l3, nI i4, nI i5, .sl l6]] (nB b64) ∧
 ∃ (b65 : Bool),
 PureIs Try.prog 30 [.agg [.sl a0_0, nI a0_1, nI a0_2, .sl a0_3]] (nB b65) ∧
 ITE (!(b64 == b65))
 (R (nB false))
 (∃ (b66 : Bool),
 PureIs Try.prog 31 [.agg [.sl l3, nI i4, nI i5, .sl l6]] (nB b66) ∧
 ITE (!(b66 == (a0_1 == 2)))
 (R (nB false))
 (ITE (((List.length l11 : Nat) : Int) != ((List.length l13 : Nat) : Int))
 (R (nB false))
 (vc5_L11 (((), (), l11, l13, 0, ()), ((a0_0, a0_1, a0_2, a0_3, ()), (l3, i4, i5, l6, ()), ())) R))))))))))
theorem vc5_ok {a0_0 : List AV} {a0_1 : Int} {a0_2 : Int} {a0_3 : List AV} {a1 : Int} {R : AV → Prop} (h : vc5 a0_0 a0_1 a0_2 a0_3 a1 R) : Pure Try.prog 5 [.agg [.sl a0_0, nI a0_1, nI a0_2, .sl a0_3], nI a1] R :=
  pure_of_code (C := cfg (Func.ntmps Try.f5)) (cfg_tab _ _ _ _ _) (cfg_ord _ _ _ _ _) (L := [{ key := 11, live := [(2, none), (5, none), (10, none), (12, none), (14, none)] }]) (fn := Try.f5) Try.func5 rfl (by kernel_rfl) (by kernel_rfl) (by rfl) (of_eq (by kernel_rfl) h)

/-- kind.Of -/
def vc89 (a0 : Int) (a1 : List AV) (R : AV → Prop) : Prop :=
 ∃ (l1 : List AV) (i2 : Int),
 PureIs Try.prog 120 [.agg [.sl a1, nI a0]] (.agg [.sl l1, nI i2]) ∧
 R (.agg [.sl l1, nI i2])
theorem vc89_ok {a0 : Int} {a1 : List AV} {R : AV → Prop} (h : vc89 a0 a1 R) : Pure Try.prog 89 [nI a0, .sl a1] R :=
  pure_of_code (C := cfg (Func.ntmps Try.f89)) (cfg_tab _ _ _ _ _) (cfg_ord _ _ _ _ _) (L := []) (fn := Try.f89) Try.func89 rfl (by kernel_rfl) (by kernel_rfl) (by rfl) (of_eq (by kernel_rfl) h)

/-- filigreeref11.Make -/
def vc34_L6 (p0 : (List AV × Unit × Unit × List AV × Int × Unit) × ((Unit × Int × Int × Unit × Unit) × (Unit × Int × Int × Unit × Unit) × List AV × Unit)) (R : AV → Prop) : Prop :=
 LoopP ((List AV × Unit × Unit × List AV × Int × Unit) × ((Unit × Int × Int × Unit × Unit) × (Unit × Int × Int × Unit × Unit) × List AV × Unit)) p0 fun z51 ag52 =>
 ITE (decide (z51.1.2.2.2.2.1 < ((List.length z51.1.1 : Nat) : Int)))
 (0 ≤ z51.1.2.2.2.2.1 ∧
 z51.1.2.2.2.2.1 < List.length z51.1.1 ∧
 ∃ (i53 : Int),
 List.getD z51.1.1 (Int.toNat z51.1.2.2.2.2.1) .top = nI i53 ∧
 0 ≤ z51.1.2.2.2.2.1 ∧
 z51.1.2.2.2.2.1 < List.length z51.1.2.2.2.1 ∧
 ∃ (l54 : List AV) (i55 : Int),
 List.getD z51.1.2.2.2.1 (Int.toNat z51.1.2.2.2.2.1) .top = .agg [.sl l54, nI i55] ∧
 ∃ (l56 : List AV) (i57 i58 : Int) (l59 : List AV),
 PureIs Try.prog 87 [.agg [nI 0, nI i53], .agg [.sl l54, nI i55]] (.agg [.sl l56, nI i57, nI i58, .sl l59]) ∧
 List.length z51.2.2.2.1 = List.length z51.2.2.2.1 ∧
 appOk td27 (List.length (z51.2.2.2.1 ++ [.agg [.sl l56, nI i57, nI i58, .sl l59]])) [] [.agg [.sl l56, nI i57, nI i58, .sl l59]] ∧
 List.length (z51.2.2.2.1 ++ [.agg [.sl l56, nI i57, nI i58, .sl l59]]) = List.length (z51.2.2.2.1 ++ [.agg [.sl l56, nI i57, nI i58, .sl l59]]) ∧
 ag52 ((z51.1.1, (), (), z51.1.2.2.2.1, IntKind.wrap .i64 (z51.1.2.2.2.2.1 + 1), ()), (((), z51.2.1.2.1, z51.2.1.2.2.1, (), ()), ((), z51.2.2.1.2.1, z51.2.2.1.2.2.1, (), ()), z51.2.2.2.1 ++ [.agg [.sl l56, nI i57, nI i58, .sl l59]], ())))
 (List.length z51.2.2.2.1 = List.length z51.2.2.2.1 ∧
 R (.tup [.agg [.sl [], nI z51.2.2.1.2.1, nI z51.2.2.1.2.2.1, .sl z51.2.2.2.1], nI 0]))
def vc34 (a0 : Int) (a1 : List AV) (a2 : List AV) (R : AV → Prop) : Prop :=
 ∃ (b1 : Bool),
 PureIs Try.prog 74 [nI ((List.length a1 : Nat) : Int), .sl a2] (nB b1) ∧
 ITE (!b1)
 (R (.tup [.agg [.sl [], nI 0, nI 0, .sl []], nI 1]))
 (ITE (decide (a0 < 0))
 (R (.tup [.agg [.sl [], nI 0, nI 0, .sl []], nI 1]))
 (∃ (l2 : List AV),
 PureIs Try.prog 76 [.sl a1, .sl a2] (.sl l2) ∧
 0 = List.length ([] : List AV) ∧
 vc34_L6 ((a2, (), (), l2, 0, ()), (((), 0, 0, (), ()), ((), 2, a0, (), ()), [], ())) R))
theorem vc34_ok {a0 : Int} {a1 : List AV} {a2 : List AV} {R : AV → Prop} (h : vc34 a0 a1 a2 R) : Pure Try.prog 34 [nI a0, .sl a1, .sl a2] R :=
  pure_of_code (C := cfg (Func.ntmps Try.f34)) (cfg_tab _ _ _ _ _) (cfg_ord _ _ _ _ _) (L := [{ key := 6, live := [(2, none), (6, none), (8, none), (9, none), (10, none)], brows := [(1, 3, 27)] }]) (fn := Try.f34) Try.func34 rfl (by kernel_rfl) (by kernel_rfl) (by rfl) (of_eq (by kernel_rfl) h)

/-- filigreelaw11.PatternMakes -/
def vc6 (a0 : Int) (a1 : List AV) (a2 : List AV) (R : AV → Prop) : Prop :=
 (0 ≤ (0 : Int) ∧ (0 : Int) ≤ (if 20 < ((List.length a2 : Nat) : Int) then 20 else ((List.length a2 : Nat) : Int)) ∧ (if 20 < ((List.length a2 : Nat) : Int) then 20 else ((List.length a2 : Nat) : Int)) ≤ List.length a2 ∧ (∀ y : AV, y ∈ a2 → List.length (AV.cells y) = 1)) ∧
 ∃ (b1 : Bool),
 PureIs Try.prog 14 [.agg [nI 0, .sl [], .sl []], .sl a1] (nB b1) ∧
 ITE (!b1)
 (∃ (b2 : Bool),
 PureIs Try.prog 15 [] (nB b2) ∧
 R (nB b2))
 (∃ (l3 : List AV),
 PureIs Try.prog 18 [.sl a1] (.sl l3) ∧
 ∃ (l4 : List AV) (i5 i6 : Int) (l7 : List AV) (i8 : Int),
 PureIs Try.prog 33 [nI a0, .sl l3, .sl (List.drop (Int.toNat 0) (List.take (Int.toNat (if 20 < ((List.length a2 : Nat) : Int) then 20 else ((List.length a2 : Nat) : Int))) a2))] (.tup [.agg [.sl l4, nI i5, nI i6, .sl l7], nI i8]) ∧
 ∃ (l9 : List AV) (i10 i11 : Int) (l12 : List AV) (i13 : Int),
 PureIs Try.prog 34 [nI a0, .sl a1, .sl (List.drop (Int.toNat 0) (List.take (Int.toNat (if 20 < ((List.length a2 : Nat) : Int) then 20 else ((List.length a2 : Nat) : Int))) a2))] (.tup [.agg [.sl l9, nI i10, nI i11, .sl l12], nI i13]) ∧
 ∃ (b14 : Bool),
 PureIs Try.prog 15 [] (nB b14) ∧
 ITE (!b14)
 (R (nB false))
 (ITE (i8 != i13)
 (R (nB false))
 (∃ (l15 : List AV) (i16 i17 : Int) (l18 : List AV),
 PureIs Try.prog 21 [.agg [.sl l4, nI i5, nI i6, .sl l7]] (.agg [.sl l15, nI i16, nI i17, .sl l18]) ∧
 ∃ (b19 : Bool),
 PureIs Try.prog 20 [.agg [.sl l15, nI i16, nI i17, .sl l18], .agg [.sl l9, nI i10, nI i11, .sl l12]] (nB b19) ∧
 ITE (!b19)
 (R (nB false))
 (ITE (i13 != 0)
 (R (nB true))
 (∃ (l20 : List AV) (i21 : Int),
 PureIs Try.prog 24 [.agg [.sl l4, nI i5, nI i6, .sl l7], nI ((List.length a1 : Nat) : Int)] (.tup [.sl l20, nI i21]) ∧
 ∃ (l22 : List AV),
 PureIs Try.prog 18 [.sl a1] (.sl l22) ∧
 ITE (i21 == 0)
 (∃ (b23 : Bool),
 PureIs Try.prog 22 [.sl l20, .sl (List.drop (Int.toNat 0) (List.take (Int.toNat (if 20 < ((List.length a2 : Nat) : Int) then 20 else ((List.length a2 : Nat) : Int))) a2))] (nB b23) ∧
 ITE b23
 (∃ (b24 : Bool),
 PureIs Try.prog 28 [.agg [.sl l22, nI i5, nI i6, .sl l7]] (nB b24) ∧
 ITE b24
 (∃ (b25 : Bool),
 PureIs Try.prog 29 [.agg [.sl l22, nI i5, nI i6, .sl l7]] (nB b25) ∧
 ITE b25
 (∃ (b26 : Bool),
 PureIs Try.prog 31 [.agg [.sl l22, nI i5, nI i6, .sl l7]] (nB b26) ∧
 R (nB b26))
 (R (nB false)))
 (R (nB false)))
 (R (nB false)))
 (R (nB false)))))))
theorem vc6_ok {a0 : Int} {a1 : List AV} {a2 : List AV} {R : AV → Prop} (h : vc6 a0 a1 a2 R) : Pure Try.prog 6 [nI a0, .sl a1, .sl a2] R :=
  pure_of_code (C := cfg (Func.ntmps Try.f6)) (cfg_tab _ _ _ _ _) (cfg_ord _ _ _ _ _) (L := []) (fn := Try.f6) Try.func6 rfl (by kernel_rfl) (by kernel_rfl) (by rfl) (of_eq (by kernel_rfl) h)

end Go.Proofs.Ytfbncddnakaaiaa
