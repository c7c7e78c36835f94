/- Texts of ours laid together for a claim: Vd2. -/
import Derived.Test.YtghnkppcncbddaaGreatDoorQ41
namespace Go.Proofs.YtghnkppcncbddaaGreatDoor
open Go
set_option linter.unusedSimpArgs false
set_option linter.unusedVariables false
set_option maxRecDepth 100000
def vc13 (a0_0 a0_1 a0_2 a1_0 : List AV) (a1_1 : Int) (R : AV → Prop) : Prop :=
 ITE (decide (a1_1 < 0))
 (R (.tup [.agg [nI 0, nS ⟨#[]⟩, nI 0, .sl []], nB false]))
 (ITE (decide (a1_1 ≥ ((List.length a0_0 : Nat) : Int)))
 (R (.tup [.agg [nI 0, nS ⟨#[]⟩, nI 0, .sl []], nB false]))
 (ITE (((List.length a1_0 : Nat) : Int) == 0)
 (0 ≤ a1_1 ∧
 a1_1 < List.length a0_0 ∧
 ∃ (s1 : ByteArray),
 List.getD a0_0 (Int.toNat a1_1) .top = nS s1 ∧
 R (.tup [.agg [nI 1, nS s1, nI 0, .sl []], nB true]))
 (0 ≤ (0 : Int) ∧
 (0 : Int) < List.length a1_0 ∧
 ∃ (l2 : List AV) (i3 : Int),
 List.getD a1_0 (Int.toNat 0) .top = .agg [.sl l2, nI i3] ∧
 ∃ (i4 : Int) (s5 : ByteArray) (i6 : Int) (l7 : List AV) (b8 : Bool),
 PureIs Tryz.prog 13 [.agg [.sl a0_0, .sl a0_1, .sl a0_2], .agg [.sl l2, nI i3]] (.tup [.agg [nI i4, nS s5, nI i6, .sl l7], nB b8]) ∧
 ∃ (l9 : List AV) (i10 : Int),
 PureIs Tryz.prog 39 [.agg [.sl a1_0, nI a1_1], nI 1] (.agg [.sl l9, nI i10]) ∧
 ∃ (i11 : Int) (s12 : ByteArray) (i13 : Int) (l14 : List AV) (b15 : Bool),
 PureIs Tryz.prog 13 [.agg [.sl a0_0, .sl a0_1, .sl a0_2], .agg [.sl l9, nI i10]] (.tup [.agg [nI i11, nS s12, nI i13, .sl l14], nB b15]) ∧
 ITE (!b8)
 (R (.tup [.agg [nI 0, nS ⟨#[]⟩, nI 0, .sl []], nB false]))
 (ITE (!b15)
 (R (.tup [.agg [nI 0, nS ⟨#[]⟩, nI 0, .sl []], nB false]))
 (R (.tup [.agg [nI 2, nS ⟨#[]⟩, nI 0, .sl [.agg [nI i4, nS s5, nI i6, .sl l7], .agg [nI i11, nS s12, nI i13, .sl l14]]], nB true]))))))
theorem vc13_ok {a0_0 a0_1 a0_2 a1_0 : List AV} {a1_1 : Int} {R : AV → Prop} (h : vc13 a0_0 a0_1 a0_2 a1_0 a1_1 R) : Pure Tryz.prog 13 [.agg [.sl a0_0, .sl a0_1, .sl a0_2], .agg [.sl a1_0, nI a1_1]] R :=
 pure_of_code (C := cfg (Func.ntmps Tryz.f13) [(5, [none, none, none, none, none, none, none, none, none, some [], none, none], [some [], none, some [], some [], some [], some [], none, none, none, none, none, none]), (6, [none, none, none, none, none, none, none, some [], none, none], [some [], some [], some [], some [], none, none, none, none, none, none])]) (cfg_tab _ _ _ _ _) (cfg_ord _ _ _ _ _) (L := []) (fn := Tryz.f13) Tryz.func13 (by exact rfl) (by kernel_rfl) (by kernel_rfl) (by rfl) (of_eq (by kernel_rfl) h)
def vc85_L2 (p0 : (Unit × ByteArray × Unit) × ((List AV × List AV × List AV × Unit) × Unit)) (R : AV → Prop) : Prop :=
 LoopP _ p0 fun z51 ag52 =>
 ∃ (b53 : Bool),
 PureIs Tryz.prog 120 [.sl z51.2.1.2.1, nS z51.1.2.1] (nB b53) ∧
 ITE b53
 (ByteArray.size z51.1.2.1 + ByteArray.size (⟨#[39]⟩ : ByteArray) ≤ 9223372036854775807 ∧
 ag52 (((), z51.1.2.1 ++ (⟨#[39]⟩ : ByteArray), ()), ((z51.2.1.1, z51.2.1.2.1, z51.2.1.2.2.1, ()), ())))
 (∃ (b54 : Bool),
 PureIs Tryz.prog 120 [.sl z51.2.1.2.2.1, nS z51.1.2.1] (nB b54) ∧
 ITE b54
 (ByteArray.size z51.1.2.1 + ByteArray.size (⟨#[39]⟩ : ByteArray) ≤ 9223372036854775807 ∧
 ag52 (((), z51.1.2.1 ++ (⟨#[39]⟩ : ByteArray), ()), ((z51.2.1.1, z51.2.1.2.1, z51.2.1.2.2.1, ()), ())))
 (R (nS z51.1.2.1)))
def vc85 (a0_0 a0_1 a0_2 : List AV) (a1 : Int) (R : AV → Prop) : Prop :=
 ∃ (s1 : ByteArray),
 PureIs Tryz.prog 119 [nI a1] (nS s1) ∧
 ByteArray.size (⟨#[118]⟩ : ByteArray) + ByteArray.size s1 ≤ 9223372036854775807 ∧
 vc85_L2 (((), (⟨#[118]⟩ : ByteArray) ++ s1, ()), ((a0_0, a0_1, a0_2, ()), ())) R
theorem vc85_ok {a0_0 a0_1 a0_2 : List AV} {a1 : Int} {R : AV → Prop} (h : vc85 a0_0 a0_1 a0_2 a1 R) : Pure Tryz.prog 85 [.agg [.sl a0_0, .sl a0_1, .sl a0_2], nI a1] R :=
 pure_of_code (C := cfg (Func.ntmps Tryz.f85)) (cfg_tab _ _ _ _ _) (cfg_ord _ _ _ _ _) (L := [{ key := 2, live := [(2, none), (5, none)] }]) (fn := Tryz.f85) Tryz.func85 (by exact rfl) (by kernel_rfl) (by kernel_rfl) (by rfl) (of_eq (by kernel_rfl) h)
def vc120_L2 (p0 : (List AV × ByteArray × Int × Unit) × (Unit)) (R : AV → Prop) : Prop :=
 LoopP _ p0 fun z51 ag52 =>
 ITE (decide (z51.1.2.2.1 < ((List.length z51.1.1 : Nat) : Int)))
 (0 ≤ z51.1.2.2.1 ∧
 z51.1.2.2.1 < List.length z51.1.1 ∧
 ∃ (s53 : ByteArray),
 List.getD z51.1.1 (Int.toNat z51.1.2.2.1) .top = nS s53 ∧
 ITE (strEq s53 z51.1.2.1)
 (R (nB true))
 (ag52 ((z51.1.1, z51.1.2.1, IntKind.wrap .i64 (z51.1.2.2.1 + 1), ()), ())))
 (R (nB false))
def vc120 (a0 : List AV) (a1 : ByteArray) (R : AV → Prop) : Prop :=
 vc120_L2 ((a0, a1, 0, ()), ()) R
theorem vc120_ok {a0 : List AV} {a1 : ByteArray} {R : AV → Prop} (h : vc120 a0 a1 R) : Pure Tryz.prog 120 [.sl a0, nS a1] R :=
 pure_of_code (C := cfg (Func.ntmps Tryz.f120)) (cfg_tab _ _ _ _ _) (cfg_ord _ _ _ _ _) (L := [{ key := 2, live := [(0, none), (1, none), (5, none)] }]) (fn := Tryz.f120) Tryz.func120 (by exact rfl) (by kernel_rfl) (by kernel_rfl) (by rfl) (of_eq (by kernel_rfl) h)
def vc48_L20 (p0 : (Int × Unit × Unit × Unit × Unit × Int × Unit) × ((List AV × List AV × List AV × Unit) × (List AV × Int × Int × List AV × Unit) × (Int × ByteArray × Int × Unit × Unit) × (Int × ByteArray × Int × List AV × Unit) × Unit)) (R : AV → Prop) : Prop :=
 LoopP _ p0 fun z51 ag52 =>
 ITE (decide (z51.1.2.2.2.2.2.1 < ((List.length z51.2.2.1.2.2.2.1 : Nat) : Int)))
 (0 ≤ z51.1.2.2.2.2.2.1 ∧
 z51.1.2.2.2.2.2.1 < List.length z51.2.2.1.2.2.2.1 ∧
 ∃ (l53 : List AV) (i54 i55 : Int) (l56 : List AV),
 List.getD z51.2.2.1.2.2.2.1 (Int.toNat z51.1.2.2.2.2.2.1) .top = .agg [.sl l53, nI i54, nI i55, .sl l56] ∧
 ∃ (i57 : Int) (s58 : ByteArray) (i59 : Int) (l60 : List AV) (b61 : Bool),
 PureIs Tryz.prog 48 [.agg [.sl z51.2.1.1, .sl z51.2.1.2.1, .sl z51.2.1.2.2.1], .agg [.sl l53, nI i54, nI i55, .sl l56], nI z51.1.1] (.tup [.agg [nI i57, nS s58, nI i59, .sl l60], nB b61]) ∧
 ITE (!b61)
 (R (.tup [.agg [nI 0, nS ⟨#[]⟩, nI 0, .sl []], nB false]))
 (ag52 ((z51.1.1, (), (), (), (), IntKind.wrap .i64 (z51.1.2.2.2.2.2.1 + 1), ()), ((z51.2.1.1, z51.2.1.2.1, z51.2.1.2.2.1, ()), (z51.2.2.1.1, z51.2.2.1.2.1, z51.2.2.1.2.2.1, z51.2.2.1.2.2.2.1, ()), (z51.2.2.2.1.1, z51.2.2.2.1.2.1, z51.2.2.2.1.2.2.1, (), ()), (4, ⟨#[]⟩, 0, [.agg [nI z51.2.2.2.2.1.1, nS z51.2.2.2.2.1.2.1, nI z51.2.2.2.2.1.2.2.1, .sl z51.2.2.2.2.1.2.2.2.1], .agg [nI i57, nS s58, nI i59, .sl l60]], ()), ()))))
 (R (.tup [.agg [nI z51.2.2.2.2.1.1, nS z51.2.2.2.2.1.2.1, nI z51.2.2.2.2.1.2.2.1, .sl z51.2.2.2.2.1.2.2.2.1], nB true]))
def vc48 (a0_0 a0_1 a0_2 a1_0 : List AV) (a1_1 a1_2 : Int) (a1_3 : List AV) (a2 : Int) (R : AV → Prop) : Prop :=
 ITE (decide (((List.length a1_0 : Nat) : Int) > 0))
 (0 ≤ (0 : Int) ∧
 (0 : Int) < List.length a1_0 ∧
 ∃ (l1 : List AV) (i2 : Int),
 List.getD a1_0 (Int.toNat 0) .top = .agg [.sl l1, nI i2] ∧
 ∃ (i3 : Int) (s4 : ByteArray) (i5 : Int) (l6 : List AV) (b7 : Bool),
 PureIs Tryz.prog 13 [.agg [.sl a0_0, .sl a0_1, .sl a0_2], .agg [.sl l1, nI i2]] (.tup [.agg [nI i3, nS s4, nI i5, .sl l6], nB b7]) ∧
 (0 ≤ (1 : Int) ∧ (1 : Int) ≤ ((List.length a1_0 : Nat) : Int) ∧ ((List.length a1_0 : Nat) : Int) ≤ List.length a1_0 ∧ (∀ y : AV, y ∈ a1_0 → List.length (AV.cells y) = 2)) ∧
 ∃ (i8 : Int) (s9 : ByteArray) (i10 : Int) (l11 : List AV) (b12 : Bool),
 PureIs Tryz.prog 48 [.agg [.sl a0_0, .sl a0_1, .sl a0_2], .agg [.sl (List.drop (Int.toNat 1) (List.take (Int.toNat ((List.length a1_0 : Nat) : Int)) a1_0)), nI a1_1, nI a1_2, .sl a1_3], nI (IntKind.wrap .i64 (a2 + 1))] (.tup [.agg [nI i8, nS s9, nI i10, .sl l11], nB b12]) ∧
 ITE (!b7)
 (R (.tup [.agg [nI 0, nS ⟨#[]⟩, nI 0, .sl []], nB false]))
 (ITE (!b12)
 (R (.tup [.agg [nI 0, nS ⟨#[]⟩, nI 0, .sl []], nB false]))
 (∃ (s13 : ByteArray),
 PureIs Tryz.prog 85 [.agg [.sl a0_0, .sl a0_1, .sl a0_2], nI a2] (nS s13) ∧
 R (.tup [.agg [nI 3, nS s13, nI 0, .sl [.agg [nI i3, nS s4, nI i5, .sl l6], .agg [nI i8, nS s9, nI i10, .sl l11]]], nB true]))))
 (ITE (decide (a1_2 < 0))
 (R (.tup [.agg [nI 0, nS ⟨#[]⟩, nI 0, .sl []], nB false]))
 (ITE (a1_1 == 0)
 (∃ (s14 : ByteArray),
 PureIs Tryz.prog 85 [.agg [.sl a0_0, .sl a0_1, .sl a0_2], nI (IntKind.wrap .i64 ((IntKind.wrap .i64 (a2 - 1)) - a1_2))] (nS s14) ∧
 vc48_L20 ((a2, (), (), (), (), 0, ()), ((a0_0, a0_1, a0_2, ()), (a1_0, a1_1, a1_2, a1_3, ()), (0, ⟨#[]⟩, 0, (), ()), (1, s14, 0, [], ()), ())) R)
 (ITE (a1_1 == 1)
 (ITE (decide (a1_2 < ((List.length a0_1 : Nat) : Int)))
 (0 ≤ a1_2 ∧
 a1_2 < List.length a0_1 ∧
 ∃ (s26 : ByteArray),
 List.getD a0_1 (Int.toNat a1_2) .top = nS s26 ∧
 vc48_L20 ((a2, (), (), (), (), 0, ()), ((a0_0, a0_1, a0_2, ()), (a1_0, a1_1, a1_2, a1_3, ()), (0, ⟨#[]⟩, 0, (), ()), (1, s26, 0, [], ()), ())) R)
 (ITE (a1_1 == 2)
 (ITE (decide (a1_2 < ((List.length a0_2 : Nat) : Int)))
 (0 ≤ a1_2 ∧
 a1_2 < List.length a0_2 ∧
 ∃ (s38 : ByteArray),
 List.getD a0_2 (Int.toNat a1_2) .top = nS s38 ∧
 vc48_L20 ((a2, (), (), (), (), 0, ()), ((a0_0, a0_1, a0_2, ()), (a1_0, a1_1, a1_2, a1_3, ()), (0, ⟨#[]⟩, 0, (), ()), (1, s38, 0, [], ()), ())) R)
 (R (.tup [.agg [nI 0, nS ⟨#[]⟩, nI 0, .sl []], nB false])))
 (R (.tup [.agg [nI 0, nS ⟨#[]⟩, nI 0, .sl []], nB false]))))
 (ITE (a1_1 == 2)
 (ITE (decide (a1_2 < ((List.length a0_2 : Nat) : Int)))
 (0 ≤ a1_2 ∧
 a1_2 < List.length a0_2 ∧
 ∃ (s50 : ByteArray),
 List.getD a0_2 (Int.toNat a1_2) .top = nS s50 ∧
 vc48_L20 ((a2, (), (), (), (), 0, ()), ((a0_0, a0_1, a0_2, ()), (a1_0, a1_1, a1_2, a1_3, ()), (0, ⟨#[]⟩, 0, (), ()), (1, s50, 0, [], ()), ())) R)
 (R (.tup [.agg [nI 0, nS ⟨#[]⟩, nI 0, .sl []], nB false])))
 (R (.tup [.agg [nI 0, nS ⟨#[]⟩, nI 0, .sl []], nB false]))))))
theorem vc48_ok {a0_0 a0_1 a0_2 a1_0 : List AV} {a1_1 a1_2 : Int} {a1_3 : List AV} {a2 : Int} {R : AV → Prop} (h : vc48 a0_0 a0_1 a0_2 a1_0 a1_1 a1_2 a1_3 a2 R) : Pure Tryz.prog 48 [.agg [.sl a0_0, .sl a0_1, .sl a0_2], .agg [.sl a1_0, nI a1_1, nI a1_2, .sl a1_3], nI a2] R :=
 pure_of_code (C := cfg (Func.ntmps Tryz.f48) [(2, [none, none, none, none, none, none, none, none, none, some [], none, none], [some [], none, some [], some [], some [], some [], none, none, none, none, none, none]), (22, [none, none, none, none, none, none, none, none, none, none, none, some [], none, none], [some [], none, some [], none, some [], some [], none, some [], none, none, none, none, none, none])]) (cfg_tab _ _ _ _ _) (cfg_ord _ _ _ _ _) (L := [{ key := 20, live := [(2, none), (3, none), (4, none), (6, none), (12, none), (14, none)], osh := [(3, .box [.i .i64, .s, .i .i64, .l])] }]) (fn := Tryz.f48) Tryz.func48 (by exact rfl) (by kernel_rfl) (by kernel_rfl) (by rfl) (of_eq (by kernel_rfl) h)
def vc16 (a0_0 a0_1 a0_2 a1_0 : List AV) (a1_1 a1_2 : Int) (a1_3 : List AV) (R : AV → Prop) : Prop :=
 ∃ (b1 : Bool),
 PureIs Tryz.prog 46 [.agg [.sl a1_0, nI a1_1, nI a1_2, .sl a1_3]] (nB b1) ∧
 ITE (!b1)
 (R (.tup [.agg [nI 0, nS ⟨#[]⟩, nI 0, .sl []], nI 1]))
 (∃ (l2 : List AV),
 PureIs Tryz.prog 47 [.agg [.sl a1_0, nI a1_1, nI a1_2, .sl a1_3]] (.sl l2) ∧
 ITE (decide (((List.length l2 : Nat) : Int) > 0))
 (R (.tup [.agg [nI 0, nS ⟨#[]⟩, nI 0, .sl []], nI 1]))
 (∃ (i3 : Int) (s4 : ByteArray) (i5 : Int) (l6 : List AV) (b7 : Bool),
 PureIs Tryz.prog 48 [.agg [.sl a0_0, .sl a0_1, .sl a0_2], .agg [.sl a1_0, nI a1_1, nI a1_2, .sl a1_3], nI 0] (.tup [.agg [nI i3, nS s4, nI i5, .sl l6], nB b7]) ∧
 ITE (!b7)
 (R (.tup [.agg [nI 0, nS ⟨#[]⟩, nI 0, .sl []], nI 10]))
 (R (.tup [.agg [nI i3, nS s4, nI i5, .sl l6], nI 0]))))
theorem vc16_ok {a0_0 a0_1 a0_2 a1_0 : List AV} {a1_1 a1_2 : Int} {a1_3 : List AV} {R : AV → Prop} (h : vc16 a0_0 a0_1 a0_2 a1_0 a1_1 a1_2 a1_3 R) : Pure Tryz.prog 16 [.agg [.sl a0_0, .sl a0_1, .sl a0_2], .agg [.sl a1_0, nI a1_1, nI a1_2, .sl a1_3]] R :=
 pure_of_code (C := cfg (Func.ntmps Tryz.f16)) (cfg_tab _ _ _ _ _) (cfg_ord _ _ _ _ _) (L := []) (fn := Tryz.f16) Tryz.func16 (by exact rfl) (by kernel_rfl) (by kernel_rfl) (by rfl) (of_eq (by kernel_rfl) h)
def vc47 (a0_0 : List AV) (a0_1 a0_2 : Int) (a0_3 : List AV) (R : AV → Prop) : Prop :=
 ∃ (l1 : List AV),
 PureIs Tryz.prog 84 [.agg [.sl a0_0, nI a0_1, nI a0_2, .sl a0_3], nI 0] (.sl l1) ∧
 R (.sl l1)
theorem vc47_ok {a0_0 : List AV} {a0_1 a0_2 : Int} {a0_3 : List AV} {R : AV → Prop} (h : vc47 a0_0 a0_1 a0_2 a0_3 R) : Pure Tryz.prog 47 [.agg [.sl a0_0, nI a0_1, nI a0_2, .sl a0_3]] R :=
 pure_of_code (C := cfg (Func.ntmps Tryz.f47)) (cfg_tab _ _ _ _ _) (cfg_ord _ _ _ _ _) (L := []) (fn := Tryz.f47) Tryz.func47 (by exact rfl) (by kernel_rfl) (by kernel_rfl) (by rfl) (of_eq (by kernel_rfl) h)
def vc84_L6 (p0 : (Unit × Unit × Int × Int × Unit) × ((List AV × Int × Int × List AV × Unit) × List AV × Unit)) (R : AV → Prop) : Prop :=
 LoopP _ p0 fun z51 ag52 =>
 ITE (decide (z51.1.2.2.2.1 < ((List.length z51.2.1.2.2.2.1 : Nat) : Int)))
 (0 ≤ z51.1.2.2.2.1 ∧
 z51.1.2.2.2.1 < List.length z51.2.1.2.2.2.1 ∧
 ∃ (l53 : List AV) (i54 i55 : Int) (l56 : List AV),
 List.getD z51.2.1.2.2.2.1 (Int.toNat z51.1.2.2.2.1) .top = .agg [.sl l53, nI i54, nI i55, .sl l56] ∧
 ∃ (l57 : List AV),
 PureIs Tryz.prog 84 [.agg [.sl l53, nI i54, nI i55, .sl l56], nI z51.1.2.2.1] (.sl l57) ∧
 List.length z51.2.2.1 = List.length z51.2.2.1 ∧
 appOk td3 (List.length (z51.2.2.1 ++ l57)) [] l57 ∧
 List.length (z51.2.2.1 ++ l57) = List.length (z51.2.2.1 ++ l57) ∧
 ag52 (((), (), z51.1.2.2.1, IntKind.wrap .i64 (z51.1.2.2.2.1 + 1), ()), ((z51.2.1.1, z51.2.1.2.1, z51.2.1.2.2.1, z51.2.1.2.2.2.1, ()), z51.2.2.1 ++ l57, ())))
 (List.length z51.2.2.1 = List.length z51.2.2.1 ∧
 R (.sl z51.2.2.1))
def vc84 (a0_0 : List AV) (a0_1 a0_2 : Int) (a0_3 : List AV) (a1 : Int) (R : AV → Prop) : Prop :=
 ITE (a0_1 == 0)
 (ITE (decide (a0_2 ≥ (IntKind.wrap .i64 (a1 + ((List.length a0_0 : Nat) : Int)))))
 (appOk td3 (List.length [nI (IntKind.wrap .i64 (a0_2 - (IntKind.wrap .i64 (a1 + ((List.length a0_0 : Nat) : Int)))))]) [] [nI (IntKind.wrap .i64 (a0_2 - (IntKind.wrap .i64 (a1 + ((List.length a0_0 : Nat) : Int)))))] ∧
 List.length [nI (IntKind.wrap .i64 (a0_2 - (IntKind.wrap .i64 (a1 + ((List.length a0_0 : Nat) : Int)))))] = List.length [nI (IntKind.wrap .i64 (a0_2 - (IntKind.wrap .i64 (a1 + ((List.length a0_0 : Nat) : Int)))))] ∧
 vc84_L6 (((), (), IntKind.wrap .i64 (a1 + ((List.length a0_0 : Nat) : Int)), 0, ()), ((a0_0, a0_1, a0_2, a0_3, ()), [nI (IntKind.wrap .i64 (a0_2 - (IntKind.wrap .i64 (a1 + ((List.length a0_0 : Nat) : Int)))))], ())) R)
 (0 = List.length ([] : List AV) ∧
 vc84_L6 (((), (), IntKind.wrap .i64 (a1 + ((List.length a0_0 : Nat) : Int)), 0, ()), ((a0_0, a0_1, a0_2, a0_3, ()), [], ())) R))
 (0 = List.length ([] : List AV) ∧
 vc84_L6 (((), (), IntKind.wrap .i64 (a1 + ((List.length a0_0 : Nat) : Int)), 0, ()), ((a0_0, a0_1, a0_2, a0_3, ()), [], ())) R)
theorem vc84_ok {a0_0 : List AV} {a0_1 a0_2 : Int} {a0_3 : List AV} {a1 : Int} {R : AV → Prop} (h : vc84 a0_0 a0_1 a0_2 a0_3 a1 R) : Pure Tryz.prog 84 [.agg [.sl a0_0, nI a0_1, nI a0_2, .sl a0_3], nI a1] R :=
 pure_of_code (C := cfg (Func.ntmps Tryz.f84)) (cfg_tab _ _ _ _ _) (cfg_ord _ _ _ _ _) (L := [{ key := 6, live := [(2, none), (5, none), (6, none), (7, none)], rows := [(5, 3)] }]) (fn := Tryz.f84) Tryz.func84 (by exact rfl) (by kernel_rfl) (by kernel_rfl) (by rfl) (of_eq (by kernel_rfl) h)
def vc119_L7 (p0 : (Int × ByteArray × Unit) × (Unit)) (R : AV → Prop) : Prop :=
 LoopP _ p0 fun z51 ag52 =>
 ITE (decide (z51.1.1 > 0))
 (¬ (10 : Int) = 0 ∧
 ByteArray.size (strOfNums [(IntKind.wrap .u8 (IntKind.wrap .i64 (48 + (Int.tmod z51.1.1 10))))]) + ByteArray.size z51.1.2.1 ≤ 9223372036854775807 ∧
 ¬ (10 : Int) = 0 ∧
 ag52 ((IntKind.wrap .i64 (Int.tdiv z51.1.1 10), (strOfNums [(IntKind.wrap .u8 (IntKind.wrap .i64 (48 + (Int.tmod z51.1.1 10))))]) ++ z51.1.2.1, ()), ()))
 (R (nS z51.1.2.1))
def vc119 (a0 : Int) (R : AV → Prop) : Prop :=
 ITE (a0 == (-9223372036854775808))
 (R (nS (⟨#[45, 57, 50, 50, 51, 51, 55, 50, 48, 51, 54, 56, 53, 52, 55, 55, 53, 56, 48, 56]⟩ : ByteArray)))
 (ITE (decide (a0 < 0))
 (∃ (s1 : ByteArray),
 PureIs Tryz.prog 119 [nI (IntKind.wrap .i64 (0 - a0))] (nS s1) ∧
 ByteArray.size (⟨#[45]⟩ : ByteArray) + ByteArray.size s1 ≤ 9223372036854775807 ∧
 R (nS ((⟨#[45]⟩ : ByteArray) ++ s1)))
 (¬ (10 : Int) = 0 ∧
 ¬ (10 : Int) = 0 ∧
 vc119_L7 ((IntKind.wrap .i64 (Int.tdiv a0 10), strOfNums [(IntKind.wrap .u8 (IntKind.wrap .i64 (48 + (Int.tmod a0 10))))], ()), ()) R))
theorem vc119_ok {a0 : Int} {R : AV → Prop} (h : vc119 a0 R) : Pure Tryz.prog 119 [nI a0] R :=
 pure_of_code (C := cfg (Func.ntmps Tryz.f119)) (cfg_tab _ _ _ _ _) (cfg_ord _ _ _ _ _) (L := [{ key := 7, live := [(0, none), (3, none)] }]) (fn := Tryz.f119) Tryz.func119 (by exact rfl) (by kernel_rfl) (by kernel_rfl) (by rfl) (of_eq (by kernel_rfl) h)
def vc18_L4 (p0 : (Bool × Unit × Unit × Int × Unit) × ((Int × ByteArray × Int × List AV × Unit) × (Int × ByteArray × Int × List AV × Unit) × Unit)) (R : AV → Prop) : Prop :=
 LoopP _ p0 fun z51 ag52 =>
 ITE (decide (z51.1.2.2.2.1 < ((List.length z51.2.1.2.2.2.1 : Nat) : Int)))
 (0 ≤ z51.1.2.2.2.1 ∧
 z51.1.2.2.2.1 < List.length z51.2.1.2.2.2.1 ∧
 ∃ (i53 : Int) (s54 : ByteArray) (i55 : Int) (l56 : List AV),
 List.getD z51.2.1.2.2.2.1 (Int.toNat z51.1.2.2.2.1) .top = .agg [nI i53, nS s54, nI i55, .sl l56] ∧
 0 ≤ z51.1.2.2.2.1 ∧
 z51.1.2.2.2.1 < List.length z51.2.2.1.2.2.2.1 ∧
 ∃ (i57 : Int) (s58 : ByteArray) (i59 : Int) (l60 : List AV),
 List.getD z51.2.2.1.2.2.2.1 (Int.toNat z51.1.2.2.2.1) .top = .agg [nI i57, nS s58, nI i59, .sl l60] ∧
 ∃ (b61 : Bool),
 PureIs Tryz.prog 18 [.agg [nI i53, nS s54, nI i55, .sl l56], .agg [nI i57, nS s58, nI i59, .sl l60], nB z51.1.1] (nB b61) ∧
 ITE (!b61)
 (R (nB false))
 (ag52 ((z51.1.1, (), (), IntKind.wrap .i64 (z51.1.2.2.2.1 + 1), ()), ((z51.2.1.1, z51.2.1.2.1, z51.2.1.2.2.1, z51.2.1.2.2.2.1, ()), (z51.2.2.1.1, z51.2.2.1.2.1, z51.2.2.1.2.2.1, z51.2.2.1.2.2.2.1, ()), ()))))
 (R (nB true))
def vc18 (a0_0 : Int) (a0_1 : ByteArray) (a0_2 : Int) (a0_3 : List AV) (a1_0 : Int) (a1_1 : ByteArray) (a1_2 : Int) (a1_3 : List AV) (a2 : Bool) (R : AV → Prop) : Prop :=
 ITE (a0_0 != a1_0)
 (R (nB false))
 (ITE (!(strEq a0_1 a1_1))
 (R (nB false))
 (ITE a2
 (ITE (a0_2 != a1_2)
 (R (nB false))
 (ITE (((List.length a0_3 : Nat) : Int) != ((List.length a1_3 : Nat) : Int))
 (R (nB false))
 (vc18_L4 ((a2, (), (), 0, ()), ((a0_0, a0_1, a0_2, a0_3, ()), (a1_0, a1_1, a1_2, a1_3, ()), ())) R)))
 (ITE (((List.length a0_3 : Nat) : Int) != ((List.length a1_3 : Nat) : Int))
 (R (nB false))
 (vc18_L4 ((a2, (), (), 0, ()), ((a0_0, a0_1, a0_2, a0_3, ()), (a1_0, a1_1, a1_2, a1_3, ()), ())) R))))
theorem vc18_ok {a0_0 : Int} {a0_1 : ByteArray} {a0_2 : Int} {a0_3 : List AV} {a1_0 : Int} {a1_1 : ByteArray} {a1_2 : Int} {a1_3 : List AV} {a2 : Bool} {R : AV → Prop} (h : vc18 a0_0 a0_1 a0_2 a0_3 a1_0 a1_1 a1_2 a1_3 a2 R) : Pure Tryz.prog 18 [.agg [nI a0_0, nS a0_1, nI a0_2, .sl a0_3], .agg [nI a1_0, nS a1_1, nI a1_2, .sl a1_3], nB a2] R :=
 pure_of_code (C := cfg (Func.ntmps Tryz.f18)) (cfg_tab _ _ _ _ _) (cfg_ord _ _ _ _ _) (L := [{ key := 4, live := [(2, none), (3, none), (4, none), (7, none)] }]) (fn := Tryz.f18) Tryz.func18 (by exact rfl) (by kernel_rfl) (by kernel_rfl) (by rfl) (of_eq (by kernel_rfl) h)
def vc19_L3 (p0 : (Unit × Unit × Unit × Int × Unit) × ((Int × ByteArray × Int × List AV × Unit) × (Int × ByteArray × Int × Unit × Unit) × (Int × ByteArray × Int × Unit × Unit) × List AV × Unit)) (R : AV → Prop) : Prop :=
 LoopP _ p0 fun z51 ag52 =>
 ITE (decide (z51.1.2.2.2.1 < ((List.length z51.2.1.2.2.2.1 : Nat) : Int)))
 (0 ≤ z51.1.2.2.2.1 ∧
 z51.1.2.2.2.1 < List.length z51.2.1.2.2.2.1 ∧
 ∃ (i53 : Int) (s54 : ByteArray) (i55 : Int) (l56 : List AV),
 List.getD z51.2.1.2.2.2.1 (Int.toNat z51.1.2.2.2.1) .top = .agg [nI i53, nS s54, nI i55, .sl l56] ∧
 ∃ (i57 : Int) (s58 : ByteArray) (i59 : Int) (l60 : List AV),
 PureIs Tryz.prog 19 [.agg [nI i53, nS s54, nI i55, .sl l56]] (.agg [nI i57, nS s58, nI i59, .sl l60]) ∧
 List.length z51.2.2.2.2.1 = List.length z51.2.2.2.2.1 ∧
 appOk td51 (List.length (z51.2.2.2.2.1 ++ [.agg [nI i57, nS s58, nI i59, .sl l60]])) [] [.agg [nI i57, nS s58, nI i59, .sl l60]] ∧
 List.length (z51.2.2.2.2.1 ++ [.agg [nI i57, nS s58, nI i59, .sl l60]]) = List.length (z51.2.2.2.2.1 ++ [.agg [nI i57, nS s58, nI i59, .sl l60]]) ∧
 ag52 (((), (), (), IntKind.wrap .i64 (z51.1.2.2.2.1 + 1), ()), ((z51.2.1.1, z51.2.1.2.1, z51.2.1.2.2.1, z51.2.1.2.2.2.1, ()), (z51.2.2.1.1, z51.2.2.1.2.1, z51.2.2.1.2.2.1, (), ()), (z51.2.2.2.1.1, z51.2.2.2.1.2.1, z51.2.2.2.1.2.2.1, (), ()), z51.2.2.2.2.1 ++ [.agg [nI i57, nS s58, nI i59, .sl l60]], ())))
 (List.length z51.2.2.2.2.1 = List.length z51.2.2.2.2.1 ∧
 R (.agg [nI z51.2.2.2.1.1, nS z51.2.2.2.1.2.1, nI z51.2.2.2.1.2.2.1, .sl z51.2.2.2.2.1]))
def vc19 (a0_0 : Int) (a0_1 : ByteArray) (a0_2 : Int) (a0_3 : List AV) (R : AV → Prop) : Prop :=
 0 = List.length ([] : List AV) ∧
 vc19_L3 (((), (), (), 0, ()), ((a0_0, a0_1, a0_2, a0_3, ()), (0, ⟨#[]⟩, 0, (), ()), (a0_0, a0_1, a0_2, (), ()), [], ())) R
theorem vc19_ok {a0_0 : Int} {a0_1 : ByteArray} {a0_2 : Int} {a0_3 : List AV} {R : AV → Prop} (h : vc19 a0_0 a0_1 a0_2 a0_3 R) : Pure Tryz.prog 19 [.agg [nI a0_0, nS a0_1, nI a0_2, .sl a0_3]] R :=
 pure_of_code (C := cfg (Func.ntmps Tryz.f19)) (cfg_tab _ _ _ _ _) (cfg_ord _ _ _ _ _) (L := [{ key := 3, live := [(1, none), (2, none), (3, none), (4, none)], brows := [(2, 3, 51)] }]) (fn := Tryz.f19) Tryz.func19 (by exact rfl) (by kernel_rfl) (by kernel_rfl) (by rfl) (of_eq (by kernel_rfl) h)
def vc9 (a0_0 a0_1 a0_2 : List AV) (R : AV → Prop) : Prop :=
 (0 ≤ (0 : Int) ∧ (0 : Int) ≤ (if 50 < ((List.length a0_0 : Nat) : Int) then 50 else ((List.length a0_0 : Nat) : Int)) ∧ (if 50 < ((List.length a0_0 : Nat) : Int) then 50 else ((List.length a0_0 : Nat) : Int)) ≤ List.length a0_0 ∧ (∀ y : AV, y ∈ a0_0 → List.length (AV.cells y) = 1)) ∧
 (0 ≤ (0 : Int) ∧ (0 : Int) ≤ (if 50 < ((List.length a0_1 : Nat) : Int) then 50 else ((List.length a0_1 : Nat) : Int)) ∧ (if 50 < ((List.length a0_1 : Nat) : Int) then 50 else ((List.length a0_1 : Nat) : Int)) ≤ List.length a0_1 ∧ (∀ y : AV, y ∈ a0_1 → List.length (AV.cells y) = 1)) ∧
 (0 ≤ (0 : Int) ∧ (0 : Int) ≤ (if 50 < ((List.length a0_2 : Nat) : Int) then 50 else ((List.length a0_2 : Nat) : Int)) ∧ (if 50 < ((List.length a0_2 : Nat) : Int) then 50 else ((List.length a0_2 : Nat) : Int)) ≤ List.length a0_2 ∧ (∀ y : AV, y ∈ a0_2 → List.length (AV.cells y) = 1)) ∧
 R (.agg [.sl (List.drop (Int.toNat 0) (List.take (Int.toNat (if 50 < ((List.length a0_0 : Nat) : Int) then 50 else ((List.length a0_0 : Nat) : Int))) a0_0)), .sl (List.drop (Int.toNat 0) (List.take (Int.toNat (if 50 < ((List.length a0_1 : Nat) : Int) then 50 else ((List.length a0_1 : Nat) : Int))) a0_1)), .sl (List.drop (Int.toNat 0) (List.take (Int.toNat (if 50 < ((List.length a0_2 : Nat) : Int) then 50 else ((List.length a0_2 : Nat) : Int))) a0_2))])
theorem vc9_ok {a0_0 a0_1 a0_2 : List AV} {R : AV → Prop} (h : vc9 a0_0 a0_1 a0_2 R) : Pure Tryz.prog 9 [.agg [.sl a0_0, .sl a0_1, .sl a0_2]] R :=
 pure_of_code (C := cfg (Func.ntmps Tryz.f9)) (cfg_tab _ _ _ _ _) (cfg_ord _ _ _ _ _) (L := []) (fn := Tryz.f9) Tryz.func9 (by exact rfl) (by kernel_rfl) (by kernel_rfl) (by rfl) (of_eq (by kernel_rfl) h)
def vc10 (a0_0 a0_1 a0_2 : List AV) (R : AV → Prop) : Prop :=
 R (.agg [.sl a0_0, .sl a0_1, .sl a0_2])
theorem vc10_ok {a0_0 a0_1 a0_2 : List AV} {R : AV → Prop} (h : vc10 a0_0 a0_1 a0_2 R) : Pure Tryz.prog 10 [.agg [.sl a0_0, .sl a0_1, .sl a0_2]] R :=
 pure_of_code (C := cfg (Func.ntmps Tryz.f10)) (cfg_tab _ _ _ _ _) (cfg_ord _ _ _ _ _) (L := []) (fn := Tryz.f10) Tryz.func10 (by exact rfl) (by kernel_rfl) (by kernel_rfl) (by rfl) (of_eq (by kernel_rfl) h)
def vc3 (a0_0 a0_1 a0_2 a1_0 : List AV) (a1_1 a1_2 : Int) (a1_3 a2_0 : List AV) (a2_1 : Int) (R : AV → Prop) : Prop :=
 ∃ (b1 : Bool),
 PureIs Tryz.prog 6 [.sl [.agg [.sl a1_0, nI a1_1, nI a1_2, .sl a1_3]]] (nB b1) ∧
 ITE (!b1)
 (∃ (b2 : Bool),
 PureIs Tryz.prog 8 [] (nB b2) ∧
 R (nB b2))
 (∃ (b3 : Bool),
 PureIs Tryz.prog 7 [.agg [.sl a2_0, nI a2_1], nI 60, nI 60] (nB b3) ∧
 ITE (!b3)
 (∃ (b4 : Bool),
 PureIs Tryz.prog 8 [] (nB b4) ∧
 R (nB b4))
 (∃ (l5 l6 l7 : List AV),
 PureIs Tryz.prog 9 [.agg [.sl a0_0, .sl a0_1, .sl a0_2]] (.agg [.sl l5, .sl l6, .sl l7]) ∧
 ∃ (l8 l9 l10 : List AV),
 PureIs Tryz.prog 10 [.agg [.sl l5, .sl l6, .sl l7]] (.agg [.sl l8, .sl l9, .sl l10]) ∧
 ∃ (l11 : List AV) (i12 : Int),
 PureIs Tryz.prog 12 [.agg [.sl a2_0, nI a2_1]] (.agg [.sl l11, nI i12]) ∧
 ∃ (i13 : Int) (s14 : ByteArray) (i15 : Int) (l16 : List AV) (i17 : Int),
 PureIs Tryz.prog 11 [.agg [.sl l5, .sl l6, .sl l7], .agg [.sl l11, nI i12]] (.tup [.agg [nI i13, nS s14, nI i15, .sl l16], nI i17]) ∧
 ∃ (i18 : Int) (s19 : ByteArray) (i20 : Int) (l21 : List AV) (b22 : Bool),
 PureIs Tryz.prog 13 [.agg [.sl l8, .sl l9, .sl l10], .agg [.sl a2_0, nI a2_1]] (.tup [.agg [nI i18, nS s19, nI i20, .sl l21], nB b22]) ∧
 ∃ (l23 : List AV) (i24 i25 : Int) (l26 : List AV),
 PureIs Tryz.prog 15 [.agg [.sl a1_0, nI a1_1, nI a1_2, .sl a1_3]] (.agg [.sl l23, nI i24, nI i25, .sl l26]) ∧
 ∃ (i27 : Int) (s28 : ByteArray) (i29 : Int) (l30 : List AV) (i31 : Int),
 PureIs Tryz.prog 14 [.agg [.sl l5, .sl l6, .sl l7], .agg [.sl l23, nI i24, nI i25, .sl l26]] (.tup [.agg [nI i27, nS s28, nI i29, .sl l30], nI i31]) ∧
 ∃ (i32 : Int) (s33 : ByteArray) (i34 : Int) (l35 : List AV) (i36 : Int),
 PureIs Tryz.prog 16 [.agg [.sl l8, .sl l9, .sl l10], .agg [.sl a1_0, nI a1_1, nI a1_2, .sl a1_3]] (.tup [.agg [nI i32, nS s33, nI i34, .sl l35], nI i36]) ∧
 ∃ (l37 : List AV) (i38 i39 : Int) (l40 : List AV),
 PureIs Tryz.prog 15 [.agg [.sl a1_0, nI a1_1, nI a1_2, .sl a1_3]] (.agg [.sl l37, nI i38, nI i39, .sl l40]) ∧
 ∃ (s41 : ByteArray) (i42 : Int),
 PureIs Tryz.prog 17 [.agg [.sl l5, .sl l6, .sl l7], .agg [.sl l37, nI i38, nI i39, .sl l40]] (.tup [nS s41, nI i42]) ∧
 ∃ (b43 : Bool),
 PureIs Tryz.prog 8 [] (nB b43) ∧
 ITE (!b43)
 (R (nB false))
 (ITE (!((i17 == 0) == b22))
 (R (nB false))
 (ITE (!b22)
 (ITE (i17 != 10)
 (R (nB false))
 (∃ (i44 : Int) (s45 : ByteArray) (i46 : Int) (l47 : List AV),
 PureIs Tryz.prog 19 [.agg [nI i13, nS s14, nI i15, .sl l16]] (.agg [nI i44, nS s45, nI i46, .sl l47]) ∧
 ∃ (b48 : Bool),
 PureIs Tryz.prog 18 [.agg [nI i44, nS s45, nI i46, .sl l47], .agg [nI i18, nS s19, nI i20, .sl l21], nB true] (nB b48) ∧
 ITE (!b48)
 (R (nB false))
 (ITE (i31 != i36)
 (R (nB false))
 (∃ (i49 : Int) (s50 : ByteArray) (i51 : Int) (l52 : List AV),
 PureIs Tryz.prog 19 [.agg [nI i27, nS s28, nI i29, .sl l30]] (.agg [nI i49, nS s50, nI i51, .sl l52]) ∧
 ∃ (b53 : Bool),
 PureIs Tryz.prog 18 [.agg [nI i49, nS s50, nI i51, .sl l52], .agg [nI i32, nS s33, nI i34, .sl l35], nB true] (nB b53) ∧
 ITE (!b53)
 (R (nB false))
 (ITE (i36 != 0)
 (ITE (i42 == i36)
 (R (nB (strEq s41 (⟨#[]⟩ : ByteArray))))
 (R (nB false)))
 (∃ (b54 : Bool),
 PureIs Tryz.prog 20 [.agg [nI i32, nS s33, nI i34, .sl l35]] (nB b54) ∧
 ITE (!b54)
 (ITE (i42 == 1)
 (R (nB (strEq s41 (⟨#[]⟩ : ByteArray))))
 (R (nB false)))
 (ITE (i42 == 0)
 (∃ (s55 : ByteArray),
 PureIs Tryz.prog 21 [.agg [nI i32, nS s33, nI i34, .sl l35]] (nS s55) ∧
 R (nB (strEq s41 s55)))
 (R (nB false)))))))))
 (∃ (i56 : Int) (s57 : ByteArray) (i58 : Int) (l59 : List AV),
 PureIs Tryz.prog 19 [.agg [nI i13, nS s14, nI i15, .sl l16]] (.agg [nI i56, nS s57, nI i58, .sl l59]) ∧
 ∃ (b60 : Bool),
 PureIs Tryz.prog 18 [.agg [nI i56, nS s57, nI i58, .sl l59], .agg [nI i18, nS s19, nI i20, .sl l21], nB true] (nB b60) ∧
 ITE (!b60)
 (R (nB false))
 (ITE (i31 != i36)
 (R (nB false))
 (∃ (i61 : Int) (s62 : ByteArray) (i63 : Int) (l64 : List AV),
 PureIs Tryz.prog 19 [.agg [nI i27, nS s28, nI i29, .sl l30]] (.agg [nI i61, nS s62, nI i63, .sl l64]) ∧
 ∃ (b65 : Bool),
 PureIs Tryz.prog 18 [.agg [nI i61, nS s62, nI i63, .sl l64], .agg [nI i32, nS s33, nI i34, .sl l35], nB true] (nB b65) ∧
 ITE (!b65)
 (R (nB false))
 (ITE (i36 != 0)
 (ITE (i42 == i36)
 (R (nB (strEq s41 (⟨#[]⟩ : ByteArray))))
 (R (nB false)))
 (∃ (b66 : Bool),
 PureIs Tryz.prog 20 [.agg [nI i32, nS s33, nI i34, .sl l35]] (nB b66) ∧
 ITE (!b66)
 (ITE (i42 == 1)
 (R (nB (strEq s41 (⟨#[]⟩ : ByteArray))))
 (R (nB false)))
 (ITE (i42 == 0)
 (∃ (s67 : ByteArray),
 PureIs Tryz.prog 21 [.agg [nI i32, nS s33, nI i34, .sl l35]] (nS s67) ∧
 R (nB (strEq s41 s67)))
 (R (nB false))))))))))))
theorem vc3_ok {a0_0 a0_1 a0_2 a1_0 : List AV} {a1_1 a1_2 : Int} {a1_3 a2_0 : List AV} {a2_1 : Int} {R : AV → Prop} (h : vc3 a0_0 a0_1 a0_2 a1_0 a1_1 a1_2 a1_3 a2_0 a2_1 R) : Pure Tryz.prog 3 [.agg [.sl a0_0, .sl a0_1, .sl a0_2], .agg [.sl a1_0, nI a1_1, nI a1_2, .sl a1_3], .agg [.sl a2_0, nI a2_1]] R :=
 pure_of_code (C := cfg (Func.ntmps Tryz.f3) [(5, [none, none, none, none, none, none, none, some [], none, none], [some [], some [], some [], some [], none, none, none, none, none, none]), (7, [none, none, none, none, none, none, none, some [], none, none], [some [], some [], some [], some [], none, none, none, none, none, none])]) (cfg_tab _ _ _ _ _) (cfg_ord _ _ _ _ _) (L := []) (fn := Tryz.f3) Tryz.func3 (by exact rfl) (by kernel_rfl) (by kernel_rfl) (by rfl) (of_eq (by kernel_rfl) h)
end Go.Proofs.YtghnkppcncbddaaGreatDoor
