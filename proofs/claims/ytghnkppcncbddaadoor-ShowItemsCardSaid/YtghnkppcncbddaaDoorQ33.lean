/- Texts of ours laid together for a claim: Vd1. -/
import Derived.Test.YtghnkppcncbddaaDoorQ32
namespace Go.Proofs.YtghnkppcncbddaaDoor
open Go
set_option linter.unusedSimpArgs false
set_option linter.unusedVariables false
set_option maxRecDepth 100000
abbrev sxVd1_0 : Nat × Sig := (62, .emb [(.t [], [.bld 1, .row 5 1])])
abbrev sxVd1_1 : Nat × Sig := (46, .emb [(.t [.c (.i .i64), .c (.k .top)], [.bld 1, .row 5 1])])
abbrev sxVd1_2 : Nat × Sig := (28, .emb [(.t [], [.bld 1, .row 5 1])])
abbrev sxVd1_3 : Nat × Sig := (30, .emb [(.t [], [.bld 1, .row 5 1])])
abbrev sxVd1_4 : Nat × Sig := (47, .emb [(.t [], [.bld 1, .row 5 1])])
abbrev sxVd1_5 : Nat × Sig := (40, .emb [(.t [], [.bld 1, .row 5 1])])
abbrev sxVd1_6 : Nat × Sig := (29, .emb [(.v (.c (.s)), [.dead, .dead])])
def vc22_L5 (p0 : (Int × Int × Unit × Int × Int × Unit) × ((Int × ByteArray × Int × List AV × Unit) × Unit)) (R : AV → Prop) : Prop :=
 LoopP _ p0 fun z51 ag52 =>
 ITE (decide (z51.1.2.2.2.2.1 < ((List.length z51.2.1.2.2.2.1 : Nat) : Int)))
 (ITE (decide (z51.1.2.2.2.1 ≤ z51.1.1))
 (0 ≤ z51.1.2.2.2.2.1 ∧
 z51.1.2.2.2.2.1 < List.length z51.2.1.2.2.2.1 ∧
 ∃ (i53 : Int) (s54 : ByteArray) (i55 : Int) (l56 : List AV),
 List.getD z51.2.1.2.2.2.1 (Int.toNat z51.1.2.2.2.2.1) .top = .agg [nI i53, nS s54, nI i55, .sl l56] ∧
 ∃ (i57 : Int),
 PureIs Tryd.prog 22 [.agg [nI i53, nS s54, nI i55, .sl l56], nI z51.1.1, nI (IntKind.wrap .i64 (z51.1.2.1 - 1))] (nI i57) ∧
 ag52 ((z51.1.1, z51.1.2.1, (), IntKind.wrap .i64 (z51.1.2.2.2.1 + i57), IntKind.wrap .i64 (z51.1.2.2.2.2.1 + 1), ()), ((z51.2.1.1, z51.2.1.2.1, z51.2.1.2.2.1, z51.2.1.2.2.2.1, ()), ())))
 (R (nI z51.1.2.2.2.1)))
 (R (nI z51.1.2.2.2.1))
def vc22 (a0_0 : Int) (a0_1 : ByteArray) (a0_2 : Int) (a0_3 : List AV) (a1 a2 : Int) (R : AV → Prop) : Prop :=
 ITE (decide (a2 ≤ 0))
 (R (nI (IntKind.wrap .i64 (a1 + 1))))
 (vc22_L5 ((a1, a2, (), 1, 0, ()), ((a0_0, a0_1, a0_2, a0_3, ()), ())) R)
theorem vc22_ok {a0_0 : Int} {a0_1 : ByteArray} {a0_2 : Int} {a0_3 : List AV} {a1 a2 : Int} {R : AV → Prop} (h : vc22 a0_0 a0_1 a0_2 a0_3 a1 a2 R) : Pure Tryd.prog 22 [.agg [nI a0_0, nS a0_1, nI a0_2, .sl a0_3], nI a1, nI a2] R :=
 pure_of_code (C := cfg (Func.ntmps Tryd.f22)) (cfg_tab _ _ _ _ _) (cfg_ord _ _ _ _ _) (L := [{ key := 5, live := [(1, none), (2, none), (3, none), (7, none), (8, none)] }]) (fn := Tryd.f22) Tryd.func22 (by exact rfl) (by kernel_rfl) (by kernel_rfl) (by rfl) (of_eq (by kernel_rfl) h)
def vc5 (a0_0 : Int) (a0_1 : ByteArray) (a0_2 : Int) (a0_3 : List AV) (a1 a2 : Int) (R : AV → Prop) : Prop :=
 ∃ (i1 : Int),
 PureIs Tryd.prog 22 [.agg [nI a0_0, nS a0_1, nI a0_2, .sl a0_3], nI a1, nI a2] (nI i1) ∧
 R (nB (decide (i1 ≤ a1)))
theorem vc5_ok {a0_0 : Int} {a0_1 : ByteArray} {a0_2 : Int} {a0_3 : List AV} {a1 a2 : Int} {R : AV → Prop} (h : vc5 a0_0 a0_1 a0_2 a0_3 a1 a2 R) : Pure Tryd.prog 5 [.agg [nI a0_0, nS a0_1, nI a0_2, .sl a0_3], nI a1, nI a2] R :=
 pure_of_code (C := cfg (Func.ntmps Tryd.f5)) (cfg_tab _ _ _ _ _) (cfg_ord _ _ _ _ _) (L := []) (fn := Tryd.f5) Tryd.func5 (by exact rfl) (by kernel_rfl) (by kernel_rfl) (by rfl) (of_eq (by kernel_rfl) h)
def vc7_L3 (p0 : (Unit × Unit × Unit × Int × Unit) × ((Int × ByteArray × Int × List AV × Unit) × (Int × ByteArray × Int × Unit × Unit) × (Int × ByteArray × Int × Unit × Unit) × List AV × Unit)) (R : AV → Prop) : Prop :=
 LoopP _ p0 fun z51 ag52 =>
 ITE (decide (z51.1.2.2.2.1 < ((List.length z51.2.1.2.2.2.1 : Nat) : Int)))
 (0 ≤ z51.1.2.2.2.1 ∧
 z51.1.2.2.2.1 < List.length z51.2.1.2.2.2.1 ∧
 ∃ (i53 : Int) (s54 : ByteArray) (i55 : Int) (l56 : List AV),
 List.getD z51.2.1.2.2.2.1 (Int.toNat z51.1.2.2.2.1) .top = .agg [nI i53, nS s54, nI i55, .sl l56] ∧
 ∃ (i57 : Int) (s58 : ByteArray) (i59 : Int) (l60 : List AV),
 PureIs Tryd.prog 7 [.agg [nI i53, nS s54, nI i55, .sl l56]] (.agg [nI i57, nS s58, nI i59, .sl l60]) ∧
 List.length z51.2.2.2.2.1 = List.length z51.2.2.2.2.1 ∧
 appOk td29 (List.length (z51.2.2.2.2.1 ++ [.agg [nI i57, nS s58, nI i59, .sl l60]])) [] [.agg [nI i57, nS s58, nI i59, .sl l60]] ∧
 List.length (z51.2.2.2.2.1 ++ [.agg [nI i57, nS s58, nI i59, .sl l60]]) = List.length (z51.2.2.2.2.1 ++ [.agg [nI i57, nS s58, nI i59, .sl l60]]) ∧
 ag52 (((), (), (), IntKind.wrap .i64 (z51.1.2.2.2.1 + 1), ()), ((z51.2.1.1, z51.2.1.2.1, z51.2.1.2.2.1, z51.2.1.2.2.2.1, ()), (z51.2.2.1.1, z51.2.2.1.2.1, z51.2.2.1.2.2.1, (), ()), (z51.2.2.2.1.1, z51.2.2.2.1.2.1, z51.2.2.2.1.2.2.1, (), ()), z51.2.2.2.2.1 ++ [.agg [nI i57, nS s58, nI i59, .sl l60]], ())))
 (List.length z51.2.2.2.2.1 = List.length z51.2.2.2.2.1 ∧
 R (.agg [nI z51.2.2.2.1.1, nS z51.2.2.2.1.2.1, nI z51.2.2.2.1.2.2.1, .sl z51.2.2.2.2.1]))
def vc7 (a0_0 : Int) (a0_1 : ByteArray) (a0_2 : Int) (a0_3 : List AV) (R : AV → Prop) : Prop :=
 0 = List.length ([] : List AV) ∧
 vc7_L3 (((), (), (), 0, ()), ((a0_0, a0_1, a0_2, a0_3, ()), (0, ⟨#[]⟩, 0, (), ()), (a0_0, a0_1, a0_2, (), ()), [], ())) R
theorem vc7_ok {a0_0 : Int} {a0_1 : ByteArray} {a0_2 : Int} {a0_3 : List AV} {R : AV → Prop} (h : vc7 a0_0 a0_1 a0_2 a0_3 R) : Pure Tryd.prog 7 [.agg [nI a0_0, nS a0_1, nI a0_2, .sl a0_3]] R :=
 pure_of_code (C := cfg (Func.ntmps Tryd.f7)) (cfg_tab _ _ _ _ _) (cfg_ord _ _ _ _ _) (L := [{ key := 3, live := [(1, none), (2, none), (3, none), (4, none)], brows := [(2, 3, 29)] }]) (fn := Tryd.f7) Tryd.func7 (by exact rfl) (by kernel_rfl) (by kernel_rfl) (by rfl) (of_eq (by kernel_rfl) h)
def vc10 (a0_0 : Int) (a0_1 : ByteArray) (a0_2 : Int) (a0_3 : List AV) (R : AV → Prop) : Prop :=
 ITE (a0_0 == 1)
 (∃ (b1 : Bool),
 PureIs Tryd.prog 31 [nS a0_1] (nB b1) ∧
 ITE b1
 (R (nB (((List.length a0_3 : Nat) : Int) == 0)))
 (R (nB false)))
 (ITE (a0_0 == 2)
 (ITE (((ByteArray.size a0_1 : Nat) : Int) == 0)
 (ITE (((List.length a0_3 : Nat) : Int) == 2)
 (0 ≤ (0 : Int) ∧
 (0 : Int) < List.length a0_3 ∧
 ∃ (i2 : Int) (s3 : ByteArray) (i4 : Int) (l5 : List AV),
 List.getD a0_3 (Int.toNat 0) .top = .agg [nI i2, nS s3, nI i4, .sl l5] ∧
 ∃ (b6 : Bool),
 PureIs Tryd.prog 10 [.agg [nI i2, nS s3, nI i4, .sl l5]] (nB b6) ∧
 ITE b6
 (0 ≤ (1 : Int) ∧
 (1 : Int) < List.length a0_3 ∧
 ∃ (i7 : Int) (s8 : ByteArray) (i9 : Int) (l10 : List AV),
 List.getD a0_3 (Int.toNat 1) .top = .agg [nI i7, nS s8, nI i9, .sl l10] ∧
 ∃ (b11 : Bool),
 PureIs Tryd.prog 10 [.agg [nI i7, nS s8, nI i9, .sl l10]] (nB b11) ∧
 R (nB b11))
 (R (nB false)))
 (R (nB false)))
 (R (nB false)))
 (R (nB false)))
theorem vc10_ok {a0_0 : Int} {a0_1 : ByteArray} {a0_2 : Int} {a0_3 : List AV} {R : AV → Prop} (h : vc10 a0_0 a0_1 a0_2 a0_3 R) : Pure Tryd.prog 10 [.agg [nI a0_0, nS a0_1, nI a0_2, .sl a0_3]] R :=
 pure_of_code (C := cfg (Func.ntmps Tryd.f10)) (cfg_tab _ _ _ _ _) (cfg_ord _ _ _ _ _) (L := []) (fn := Tryd.f10) Tryd.func10 (by exact rfl) (by kernel_rfl) (by kernel_rfl) (by rfl) (of_eq (by kernel_rfl) h)
def vc11 (a0_0 : Int) (a0_1 : ByteArray) (a0_2 : Int) (a0_3 : List AV) (R : AV → Prop) : Prop :=
 ITE (a0_0 == 1)
 (∃ (b1 : Bool),
 PureIs Tryd.prog 31 [nS a0_1] (nB b1) ∧
 ITE b1
 (R (nB (((List.length a0_3 : Nat) : Int) == 0)))
 (R (nB false)))
 (ITE (a0_0 == 3)
 (∃ (b2 : Bool),
 PureIs Tryd.prog 31 [nS a0_1] (nB b2) ∧
 ITE b2
 (ITE (((List.length a0_3 : Nat) : Int) == 2)
 (0 ≤ (0 : Int) ∧
 (0 : Int) < List.length a0_3 ∧
 ∃ (i3 : Int) (s4 : ByteArray) (i5 : Int) (l6 : List AV),
 List.getD a0_3 (Int.toNat 0) .top = .agg [nI i3, nS s4, nI i5, .sl l6] ∧
 ∃ (b7 : Bool),
 PureIs Tryd.prog 10 [.agg [nI i3, nS s4, nI i5, .sl l6]] (nB b7) ∧
 ITE b7
 (0 ≤ (1 : Int) ∧
 (1 : Int) < List.length a0_3 ∧
 ∃ (i8 : Int) (s9 : ByteArray) (i10 : Int) (l11 : List AV),
 List.getD a0_3 (Int.toNat 1) .top = .agg [nI i8, nS s9, nI i10, .sl l11] ∧
 ∃ (b12 : Bool),
 PureIs Tryd.prog 11 [.agg [nI i8, nS s9, nI i10, .sl l11]] (nB b12) ∧
 R (nB b12))
 (R (nB false)))
 (R (nB false)))
 (R (nB false)))
 (ITE (a0_0 == 4)
 (ITE (((ByteArray.size a0_1 : Nat) : Int) == 0)
 (ITE (((List.length a0_3 : Nat) : Int) == 2)
 (0 ≤ (0 : Int) ∧
 (0 : Int) < List.length a0_3 ∧
 ∃ (i13 : Int) (s14 : ByteArray) (i15 : Int) (l16 : List AV),
 List.getD a0_3 (Int.toNat 0) .top = .agg [nI i13, nS s14, nI i15, .sl l16] ∧
 ∃ (b17 : Bool),
 PureIs Tryd.prog 11 [.agg [nI i13, nS s14, nI i15, .sl l16]] (nB b17) ∧
 ITE b17
 (0 ≤ (1 : Int) ∧
 (1 : Int) < List.length a0_3 ∧
 ∃ (i18 : Int) (s19 : ByteArray) (i20 : Int) (l21 : List AV),
 List.getD a0_3 (Int.toNat 1) .top = .agg [nI i18, nS s19, nI i20, .sl l21] ∧
 ∃ (b22 : Bool),
 PureIs Tryd.prog 11 [.agg [nI i18, nS s19, nI i20, .sl l21]] (nB b22) ∧
 R (nB b22))
 (R (nB false)))
 (R (nB false)))
 (R (nB false)))
 (R (nB false))))
theorem vc11_ok {a0_0 : Int} {a0_1 : ByteArray} {a0_2 : Int} {a0_3 : List AV} {R : AV → Prop} (h : vc11 a0_0 a0_1 a0_2 a0_3 R) : Pure Tryd.prog 11 [.agg [nI a0_0, nS a0_1, nI a0_2, .sl a0_3]] R :=
 pure_of_code (C := cfg (Func.ntmps Tryd.f11)) (cfg_tab _ _ _ _ _) (cfg_ord _ _ _ _ _) (L := []) (fn := Tryd.f11) Tryd.func11 (by exact rfl) (by kernel_rfl) (by kernel_rfl) (by rfl) (of_eq (by kernel_rfl) h)
def vc12 (a0_0 : Int) (a0_1 : ByteArray) (a0_2 : Int) (a0_3 : List AV) (R : AV → Prop) : Prop :=
 ITE (a0_0 == 1)
 (R (nS a0_1))
 (0 ≤ (0 : Int) ∧
 (0 : Int) < List.length a0_3 ∧
 ∃ (i1 : Int) (s2 : ByteArray) (i3 : Int) (l4 : List AV),
 List.getD a0_3 (Int.toNat 0) .top = .agg [nI i1, nS s2, nI i3, .sl l4] ∧
 ∃ (s5 : ByteArray),
 PureIs Tryd.prog 12 [.agg [nI i1, nS s2, nI i3, .sl l4]] (nS s5) ∧
 0 ≤ (0 : Int) ∧
 (0 : Int) < List.length a0_3 ∧
 ∃ (i6 : Int) (s7 : ByteArray) (i8 : Int) (l9 : List AV),
 List.getD a0_3 (Int.toNat 0) .top = .agg [nI i6, nS s7, nI i8, .sl l9] ∧
 ITE (i6 == 2)
 (ByteArray.size (⟨#[40]⟩ : ByteArray) + ByteArray.size s5 ≤ 9223372036854775807 ∧
 ByteArray.size ((⟨#[40]⟩ : ByteArray) ++ s5) + ByteArray.size (⟨#[41]⟩ : ByteArray) ≤ 9223372036854775807 ∧
 ByteArray.size (((⟨#[40]⟩ : ByteArray) ++ s5) ++ (⟨#[41]⟩ : ByteArray)) + ByteArray.size (⟨#[32, 45, 62, 32]⟩ : ByteArray) ≤ 9223372036854775807 ∧
 0 ≤ (1 : Int) ∧
 (1 : Int) < List.length a0_3 ∧
 ∃ (i10 : Int) (s11 : ByteArray) (i12 : Int) (l13 : List AV),
 List.getD a0_3 (Int.toNat 1) .top = .agg [nI i10, nS s11, nI i12, .sl l13] ∧
 ∃ (s14 : ByteArray),
 PureIs Tryd.prog 12 [.agg [nI i10, nS s11, nI i12, .sl l13]] (nS s14) ∧
 ByteArray.size ((((⟨#[40]⟩ : ByteArray) ++ s5) ++ (⟨#[41]⟩ : ByteArray)) ++ (⟨#[32, 45, 62, 32]⟩ : ByteArray)) + ByteArray.size s14 ≤ 9223372036854775807 ∧
 R (nS (((((⟨#[40]⟩ : ByteArray) ++ s5) ++ (⟨#[41]⟩ : ByteArray)) ++ (⟨#[32, 45, 62, 32]⟩ : ByteArray)) ++ s14)))
 (ByteArray.size s5 + ByteArray.size (⟨#[32, 45, 62, 32]⟩ : ByteArray) ≤ 9223372036854775807 ∧
 0 ≤ (1 : Int) ∧
 (1 : Int) < List.length a0_3 ∧
 ∃ (i15 : Int) (s16 : ByteArray) (i17 : Int) (l18 : List AV),
 List.getD a0_3 (Int.toNat 1) .top = .agg [nI i15, nS s16, nI i17, .sl l18] ∧
 ∃ (s19 : ByteArray),
 PureIs Tryd.prog 12 [.agg [nI i15, nS s16, nI i17, .sl l18]] (nS s19) ∧
 ByteArray.size (s5 ++ (⟨#[32, 45, 62, 32]⟩ : ByteArray)) + ByteArray.size s19 ≤ 9223372036854775807 ∧
 R (nS ((s5 ++ (⟨#[32, 45, 62, 32]⟩ : ByteArray)) ++ s19))))
theorem vc12_ok {a0_0 : Int} {a0_1 : ByteArray} {a0_2 : Int} {a0_3 : List AV} {R : AV → Prop} (h : vc12 a0_0 a0_1 a0_2 a0_3 R) : Pure Tryd.prog 12 [.agg [nI a0_0, nS a0_1, nI a0_2, .sl a0_3]] R :=
 pure_of_code (C := cfg (Func.ntmps Tryd.f12)) (cfg_tab _ _ _ _ _) (cfg_ord _ _ _ _ _) (L := []) (fn := Tryd.f12) Tryd.func12 (by exact rfl) (by kernel_rfl) (by kernel_rfl) (by rfl) (of_eq (by kernel_rfl) h)
def vc13 (a0_0 : Int) (a0_1 : ByteArray) (a0_2 : Int) (a0_3 : List AV) (R : AV → Prop) : Prop :=
 ITE (a0_0 == 1)
 (R (nS a0_1))
 (ITE (a0_0 == 3)
 (ByteArray.size (⟨#[92]⟩ : ByteArray) + ByteArray.size a0_1 ≤ 9223372036854775807 ∧
 ByteArray.size ((⟨#[92]⟩ : ByteArray) ++ a0_1) + ByteArray.size (⟨#[58]⟩ : ByteArray) ≤ 9223372036854775807 ∧
 0 ≤ (0 : Int) ∧
 (0 : Int) < List.length a0_3 ∧
 ∃ (i1 : Int) (s2 : ByteArray) (i3 : Int) (l4 : List AV),
 List.getD a0_3 (Int.toNat 0) .top = .agg [nI i1, nS s2, nI i3, .sl l4] ∧
 ∃ (s5 : ByteArray),
 PureIs Tryd.prog 12 [.agg [nI i1, nS s2, nI i3, .sl l4]] (nS s5) ∧
 ByteArray.size (((⟨#[92]⟩ : ByteArray) ++ a0_1) ++ (⟨#[58]⟩ : ByteArray)) + ByteArray.size s5 ≤ 9223372036854775807 ∧
 ByteArray.size ((((⟨#[92]⟩ : ByteArray) ++ a0_1) ++ (⟨#[58]⟩ : ByteArray)) ++ s5) + ByteArray.size (⟨#[46, 32]⟩ : ByteArray) ≤ 9223372036854775807 ∧
 0 ≤ (1 : Int) ∧
 (1 : Int) < List.length a0_3 ∧
 ∃ (i6 : Int) (s7 : ByteArray) (i8 : Int) (l9 : List AV),
 List.getD a0_3 (Int.toNat 1) .top = .agg [nI i6, nS s7, nI i8, .sl l9] ∧
 ∃ (s10 : ByteArray),
 PureIs Tryd.prog 13 [.agg [nI i6, nS s7, nI i8, .sl l9]] (nS s10) ∧
 ByteArray.size (((((⟨#[92]⟩ : ByteArray) ++ a0_1) ++ (⟨#[58]⟩ : ByteArray)) ++ s5) ++ (⟨#[46, 32]⟩ : ByteArray)) + ByteArray.size s10 ≤ 9223372036854775807 ∧
 R (nS ((((((⟨#[92]⟩ : ByteArray) ++ a0_1) ++ (⟨#[58]⟩ : ByteArray)) ++ s5) ++ (⟨#[46, 32]⟩ : ByteArray)) ++ s10)))
 (0 ≤ (0 : Int) ∧
 (0 : Int) < List.length a0_3 ∧
 ∃ (i11 : Int) (s12 : ByteArray) (i13 : Int) (l14 : List AV),
 List.getD a0_3 (Int.toNat 0) .top = .agg [nI i11, nS s12, nI i13, .sl l14] ∧
 ∃ (s15 : ByteArray),
 PureIs Tryd.prog 13 [.agg [nI i11, nS s12, nI i13, .sl l14]] (nS s15) ∧
 0 ≤ (1 : Int) ∧
 (1 : Int) < List.length a0_3 ∧
 ∃ (i16 : Int) (s17 : ByteArray) (i18 : Int) (l19 : List AV),
 List.getD a0_3 (Int.toNat 1) .top = .agg [nI i16, nS s17, nI i18, .sl l19] ∧
 ∃ (s20 : ByteArray),
 PureIs Tryd.prog 13 [.agg [nI i16, nS s17, nI i18, .sl l19]] (nS s20) ∧
 0 ≤ (0 : Int) ∧
 (0 : Int) < List.length a0_3 ∧
 ∃ (i21 : Int) (s22 : ByteArray) (i23 : Int) (l24 : List AV),
 List.getD a0_3 (Int.toNat 0) .top = .agg [nI i21, nS s22, nI i23, .sl l24] ∧
 ITE (i21 == 3)
 (ByteArray.size (⟨#[40]⟩ : ByteArray) + ByteArray.size s15 ≤ 9223372036854775807 ∧
 ByteArray.size ((⟨#[40]⟩ : ByteArray) ++ s15) + ByteArray.size (⟨#[41]⟩ : ByteArray) ≤ 9223372036854775807 ∧
 0 ≤ (1 : Int) ∧
 (1 : Int) < List.length a0_3 ∧
 ∃ (i25 : Int) (s26 : ByteArray) (i27 : Int) (l28 : List AV),
 List.getD a0_3 (Int.toNat 1) .top = .agg [nI i25, nS s26, nI i27, .sl l28] ∧
 ITE (i25 != 1)
 (ByteArray.size (⟨#[40]⟩ : ByteArray) + ByteArray.size s20 ≤ 9223372036854775807 ∧
 ByteArray.size ((⟨#[40]⟩ : ByteArray) ++ s20) + ByteArray.size (⟨#[41]⟩ : ByteArray) ≤ 9223372036854775807 ∧
 ByteArray.size (((⟨#[40]⟩ : ByteArray) ++ s15) ++ (⟨#[41]⟩ : ByteArray)) + ByteArray.size (⟨#[32]⟩ : ByteArray) ≤ 9223372036854775807 ∧
 ByteArray.size ((((⟨#[40]⟩ : ByteArray) ++ s15) ++ (⟨#[41]⟩ : ByteArray)) ++ (⟨#[32]⟩ : ByteArray)) + ByteArray.size (((⟨#[40]⟩ : ByteArray) ++ s20) ++ (⟨#[41]⟩ : ByteArray)) ≤ 9223372036854775807 ∧
 R (nS (((((⟨#[40]⟩ : ByteArray) ++ s15) ++ (⟨#[41]⟩ : ByteArray)) ++ (⟨#[32]⟩ : ByteArray)) ++ (((⟨#[40]⟩ : ByteArray) ++ s20) ++ (⟨#[41]⟩ : ByteArray)))))
 (ByteArray.size (((⟨#[40]⟩ : ByteArray) ++ s15) ++ (⟨#[41]⟩ : ByteArray)) + ByteArray.size (⟨#[32]⟩ : ByteArray) ≤ 9223372036854775807 ∧
 ByteArray.size ((((⟨#[40]⟩ : ByteArray) ++ s15) ++ (⟨#[41]⟩ : ByteArray)) ++ (⟨#[32]⟩ : ByteArray)) + ByteArray.size s20 ≤ 9223372036854775807 ∧
 R (nS (((((⟨#[40]⟩ : ByteArray) ++ s15) ++ (⟨#[41]⟩ : ByteArray)) ++ (⟨#[32]⟩ : ByteArray)) ++ s20))))
 (0 ≤ (1 : Int) ∧
 (1 : Int) < List.length a0_3 ∧
 ∃ (i29 : Int) (s30 : ByteArray) (i31 : Int) (l32 : List AV),
 List.getD a0_3 (Int.toNat 1) .top = .agg [nI i29, nS s30, nI i31, .sl l32] ∧
 ITE (i29 != 1)
 (ByteArray.size (⟨#[40]⟩ : ByteArray) + ByteArray.size s20 ≤ 9223372036854775807 ∧
 ByteArray.size ((⟨#[40]⟩ : ByteArray) ++ s20) + ByteArray.size (⟨#[41]⟩ : ByteArray) ≤ 9223372036854775807 ∧
 ByteArray.size s15 + ByteArray.size (⟨#[32]⟩ : ByteArray) ≤ 9223372036854775807 ∧
 ByteArray.size (s15 ++ (⟨#[32]⟩ : ByteArray)) + ByteArray.size (((⟨#[40]⟩ : ByteArray) ++ s20) ++ (⟨#[41]⟩ : ByteArray)) ≤ 9223372036854775807 ∧
 R (nS ((s15 ++ (⟨#[32]⟩ : ByteArray)) ++ (((⟨#[40]⟩ : ByteArray) ++ s20) ++ (⟨#[41]⟩ : ByteArray)))))
 (ByteArray.size s15 + ByteArray.size (⟨#[32]⟩ : ByteArray) ≤ 9223372036854775807 ∧
 ByteArray.size (s15 ++ (⟨#[32]⟩ : ByteArray)) + ByteArray.size s20 ≤ 9223372036854775807 ∧
 R (nS ((s15 ++ (⟨#[32]⟩ : ByteArray)) ++ s20))))))
theorem vc13_ok {a0_0 : Int} {a0_1 : ByteArray} {a0_2 : Int} {a0_3 : List AV} {R : AV → Prop} (h : vc13 a0_0 a0_1 a0_2 a0_3 R) : Pure Tryd.prog 13 [.agg [nI a0_0, nS a0_1, nI a0_2, .sl a0_3]] R :=
 pure_of_code (C := cfg (Func.ntmps Tryd.f13)) (cfg_tab _ _ _ _ _) (cfg_ord _ _ _ _ _) (L := []) (fn := Tryd.f13) Tryd.func13 (by exact rfl) (by kernel_rfl) (by kernel_rfl) (by rfl) (of_eq (by kernel_rfl) h)
def vc31 (a0 : ByteArray) (R : AV → Prop) : Prop :=
 ∃ (b1 : Bool),
 PureIs Tryd.prog 48 [nS a0, nI 1] (nB b1) ∧
 R (nB b1)
theorem vc31_ok {a0 : ByteArray} {R : AV → Prop} (h : vc31 a0 R) : Pure Tryd.prog 31 [nS a0] R :=
 pure_of_code (C := cfg (Func.ntmps Tryd.f31)) (cfg_tab _ _ _ _ _) (cfg_ord _ _ _ _ _) (L := []) (fn := Tryd.f31) Tryd.func31 (by exact rfl) (by kernel_rfl) (by kernel_rfl) (by rfl) (of_eq (by kernel_rfl) h)
def vc48 (a0 : ByteArray) (a1 : Int) (R : AV → Prop) : Prop :=
 ∃ (S3 : AV → Prop),
 Pure Tryd.prog 63 [nS a0] S3 ∧
 ∀ (r1 : AV), S3 r1 →
 ∃ (l4 : List AV) (i5 i6 i7 : Int) (s8 : ByteArray),
 r1 = .tup [.sl l4, .agg [nI i5, nI i6, nI i7, nS s8]] ∧
 ITE (i5 == 0)
 (ITE (((List.length l4 : Nat) : Int) == 1)
 (0 ≤ (0 : Int) ∧
 (0 : Int) < List.length l4 ∧
 ∃ (i9 : Int) (s10 : ByteArray) (i11 : Int),
 List.getD l4 (Int.toNat 0) .top = .agg [nI i9, nS s10, nI i11] ∧
 ITE (i9 == a1)
 (0 ≤ (0 : Int) ∧
 (0 : Int) < List.length l4 ∧
 ∃ (i12 : Int) (s13 : ByteArray) (i14 : Int),
 List.getD l4 (Int.toNat 0) .top = .agg [nI i12, nS s13, nI i14] ∧
 R (nB (strEq s13 a0)))
 (R (nB false)))
 (R (nB false)))
 (R (nB false))
theorem vc48_ok {a0 : ByteArray} {a1 : Int} {R : AV → Prop} (h : vc48 a0 a1 R) : Pure Tryd.prog 48 [nS a0, nI a1] R :=
 pure_of_code (C := cfg (Func.ntmps Tryd.f48) [] [(63, .alts [.t [.c (.l), .a [.i .i64, .i .i64, .i .i64, .s]]])] []) (cfg_tab _ _ _ _ _) (cfg_ord _ _ _ _ _) (L := []) (fn := Tryd.f48) Tryd.func48 (by exact rfl) (by kernel_rfl) (by kernel_rfl) (by rfl) (of_eq (by kernel_rfl) h)
def vc63_L14 (p0 : (ByteArray × Unit × Unit × Bool × Int × Int × Int × Int × Unit) × ((Int × Int × Int × ByteArray × Unit) × List AV × Unit)) (R : AV → Prop) (p2 : ((ByteArray × Unit × Unit × Bool × Int × Unit) × ((Int × Int × Int × ByteArray × Unit) × List AV × Unit)) → Prop) : Prop :=
 LoopP _ p0 fun z51 ag52 =>
 ITE (decide ((IntKind.wrap .i64 (z51.1.2.2.2.2.1 + z51.1.2.2.2.2.2.1)) < ((ByteArray.size z51.1.1 : Nat) : Int)))
 ((0 ≤ (IntKind.wrap .i64 (z51.1.2.2.2.2.1 + z51.1.2.2.2.2.2.1)) ∧ (IntKind.wrap .i64 (z51.1.2.2.2.2.1 + z51.1.2.2.2.2.2.1)) < ByteArray.size z51.1.1) ∧
 ∃ (b53 : Bool),
 PureIs Tryd.prog 79 [.prim (.int .u8 (strAt z51.1.1 (IntKind.wrap .i64 (z51.1.2.2.2.2.1 + z51.1.2.2.2.2.2.1))))] (nB b53) ∧
 ITE b53
 (List.length z51.2.2.1 = List.length z51.2.2.1 ∧
 ag52 ((z51.1.1, (), (), z51.1.2.2.2.1, z51.1.2.2.2.2.1, IntKind.wrap .i64 (z51.1.2.2.2.2.2.1 + 1), z51.1.2.2.2.2.2.2.1, z51.1.2.2.2.2.2.2.2.1, ()), ((z51.2.1.1, z51.2.1.2.1, z51.2.1.2.2.1, z51.2.1.2.2.2.1, ()), z51.2.2.1, ())))
 (ITE (decide (z51.1.2.2.2.2.2.1 > z51.1.2.2.2.2.2.2.2.1))
 (∃ (i54 i55 : Int),
 PureIs Tryd.prog 81 [nS z51.1.1, nI z51.1.2.2.2.2.1] (.agg [nI i54, nI i55]) ∧
 (0 ≤ z51.1.2.2.2.2.1 ∧ z51.1.2.2.2.2.1 ≤ (IntKind.wrap .i64 (z51.1.2.2.2.2.1 + z51.1.2.2.2.2.2.1)) ∧ (IntKind.wrap .i64 (z51.1.2.2.2.2.1 + z51.1.2.2.2.2.2.1)) ≤ ByteArray.size z51.1.1) ∧
 ∃ (s56 : ByteArray),
 PureIs Tryd.prog 82 [nS (ByteArray.extract z51.1.1 (Int.toNat z51.1.2.2.2.2.1) (Int.toNat (IntKind.wrap .i64 (z51.1.2.2.2.2.1 + z51.1.2.2.2.2.2.1))))] (nS s56) ∧
 R (.tup [.sl [], .agg [nI 2, nI i54, nI i55, nS s56]]))
 ((0 ≤ z51.1.2.2.2.2.1 ∧ z51.1.2.2.2.2.1 ≤ (IntKind.wrap .i64 (z51.1.2.2.2.2.1 + z51.1.2.2.2.2.2.1)) ∧ (IntKind.wrap .i64 (z51.1.2.2.2.2.1 + z51.1.2.2.2.2.2.1)) ≤ ByteArray.size z51.1.1) ∧
 List.length z51.2.2.1 = List.length z51.2.2.1 ∧
 appOk td118 (List.length (z51.2.2.1 ++ [.agg [nI z51.1.2.2.2.2.2.2.1, nS (ByteArray.extract z51.1.1 (Int.toNat z51.1.2.2.2.2.1) (Int.toNat (IntKind.wrap .i64 (z51.1.2.2.2.2.1 + z51.1.2.2.2.2.2.1)))), nI z51.1.2.2.2.2.1]])) [] [.agg [nI z51.1.2.2.2.2.2.2.1, nS (ByteArray.extract z51.1.1 (Int.toNat z51.1.2.2.2.2.1) (Int.toNat (IntKind.wrap .i64 (z51.1.2.2.2.2.1 + z51.1.2.2.2.2.2.1)))), nI z51.1.2.2.2.2.1]] ∧
 List.length (z51.2.2.1 ++ [.agg [nI z51.1.2.2.2.2.2.2.1, nS (ByteArray.extract z51.1.1 (Int.toNat z51.1.2.2.2.2.1) (Int.toNat (IntKind.wrap .i64 (z51.1.2.2.2.2.1 + z51.1.2.2.2.2.2.1)))), nI z51.1.2.2.2.2.1]]) = List.length (z51.2.2.1 ++ [.agg [nI z51.1.2.2.2.2.2.2.1, nS (ByteArray.extract z51.1.1 (Int.toNat z51.1.2.2.2.2.1) (Int.toNat (IntKind.wrap .i64 (z51.1.2.2.2.2.1 + z51.1.2.2.2.2.2.1)))), nI z51.1.2.2.2.2.1]]) ∧
 p2 ((z51.1.1, (), (), z51.1.2.2.2.1, IntKind.wrap .i64 (z51.1.2.2.2.2.1 + z51.1.2.2.2.2.2.1), ()), ((z51.2.1.1, z51.2.1.2.1, z51.2.1.2.2.1, z51.2.1.2.2.2.1, ()), z51.2.2.1 ++ [.agg [nI z51.1.2.2.2.2.2.2.1, nS (ByteArray.extract z51.1.1 (Int.toNat z51.1.2.2.2.2.1) (Int.toNat (IntKind.wrap .i64 (z51.1.2.2.2.2.1 + z51.1.2.2.2.2.2.1)))), nI z51.1.2.2.2.2.1]], ())))))
 (ITE (decide (z51.1.2.2.2.2.2.1 > z51.1.2.2.2.2.2.2.2.1))
 (∃ (i58 i59 : Int),
 PureIs Tryd.prog 81 [nS z51.1.1, nI z51.1.2.2.2.2.1] (.agg [nI i58, nI i59]) ∧
 (0 ≤ z51.1.2.2.2.2.1 ∧ z51.1.2.2.2.2.1 ≤ (IntKind.wrap .i64 (z51.1.2.2.2.2.1 + z51.1.2.2.2.2.2.1)) ∧ (IntKind.wrap .i64 (z51.1.2.2.2.2.1 + z51.1.2.2.2.2.2.1)) ≤ ByteArray.size z51.1.1) ∧
 ∃ (s60 : ByteArray),
 PureIs Tryd.prog 82 [nS (ByteArray.extract z51.1.1 (Int.toNat z51.1.2.2.2.2.1) (Int.toNat (IntKind.wrap .i64 (z51.1.2.2.2.2.1 + z51.1.2.2.2.2.2.1))))] (nS s60) ∧
 R (.tup [.sl [], .agg [nI 2, nI i58, nI i59, nS s60]]))
 ((0 ≤ z51.1.2.2.2.2.1 ∧ z51.1.2.2.2.2.1 ≤ (IntKind.wrap .i64 (z51.1.2.2.2.2.1 + z51.1.2.2.2.2.2.1)) ∧ (IntKind.wrap .i64 (z51.1.2.2.2.2.1 + z51.1.2.2.2.2.2.1)) ≤ ByteArray.size z51.1.1) ∧
 List.length z51.2.2.1 = List.length z51.2.2.1 ∧
 appOk td118 (List.length (z51.2.2.1 ++ [.agg [nI z51.1.2.2.2.2.2.2.1, nS (ByteArray.extract z51.1.1 (Int.toNat z51.1.2.2.2.2.1) (Int.toNat (IntKind.wrap .i64 (z51.1.2.2.2.2.1 + z51.1.2.2.2.2.2.1)))), nI z51.1.2.2.2.2.1]])) [] [.agg [nI z51.1.2.2.2.2.2.2.1, nS (ByteArray.extract z51.1.1 (Int.toNat z51.1.2.2.2.2.1) (Int.toNat (IntKind.wrap .i64 (z51.1.2.2.2.2.1 + z51.1.2.2.2.2.2.1)))), nI z51.1.2.2.2.2.1]] ∧
 List.length (z51.2.2.1 ++ [.agg [nI z51.1.2.2.2.2.2.2.1, nS (ByteArray.extract z51.1.1 (Int.toNat z51.1.2.2.2.2.1) (Int.toNat (IntKind.wrap .i64 (z51.1.2.2.2.2.1 + z51.1.2.2.2.2.2.1)))), nI z51.1.2.2.2.2.1]]) = List.length (z51.2.2.1 ++ [.agg [nI z51.1.2.2.2.2.2.2.1, nS (ByteArray.extract z51.1.1 (Int.toNat z51.1.2.2.2.2.1) (Int.toNat (IntKind.wrap .i64 (z51.1.2.2.2.2.1 + z51.1.2.2.2.2.2.1)))), nI z51.1.2.2.2.2.1]]) ∧
 p2 ((z51.1.1, (), (), z51.1.2.2.2.1, IntKind.wrap .i64 (z51.1.2.2.2.2.1 + z51.1.2.2.2.2.2.1), ()), ((z51.2.1.1, z51.2.1.2.1, z51.2.1.2.2.1, z51.2.1.2.2.2.1, ()), z51.2.2.1 ++ [.agg [nI z51.1.2.2.2.2.2.2.1, nS (ByteArray.extract z51.1.1 (Int.toNat z51.1.2.2.2.2.1) (Int.toNat (IntKind.wrap .i64 (z51.1.2.2.2.2.1 + z51.1.2.2.2.2.2.1)))), nI z51.1.2.2.2.2.1]], ()))))
def vc63_L18 (p0 : (ByteArray × Unit × Unit × Bool × Int × Int × Int × Int × Unit) × ((Int × Int × Int × ByteArray × Unit) × List AV × Unit)) (R : AV → Prop) (p2 : ((ByteArray × Unit × Unit × Bool × Int × Unit) × ((Int × Int × Int × ByteArray × Unit) × List AV × Unit)) → Prop) : Prop :=
 LoopP _ p0 fun z51 ag52 =>
 ITE (decide ((IntKind.wrap .i64 (z51.1.2.2.2.2.1 + z51.1.2.2.2.2.2.1)) < ((ByteArray.size z51.1.1 : Nat) : Int)))
 ((0 ≤ (IntKind.wrap .i64 (z51.1.2.2.2.2.1 + z51.1.2.2.2.2.2.1)) ∧ (IntKind.wrap .i64 (z51.1.2.2.2.2.1 + z51.1.2.2.2.2.2.1)) < ByteArray.size z51.1.1) ∧
 ∃ (b53 : Bool),
 PureIs Tryd.prog 80 [.prim (.int .u8 (strAt z51.1.1 (IntKind.wrap .i64 (z51.1.2.2.2.2.1 + z51.1.2.2.2.2.2.1))))] (nB b53) ∧
 ITE b53
 (List.length z51.2.2.1 = List.length z51.2.2.1 ∧
 ag52 ((z51.1.1, (), (), z51.1.2.2.2.1, z51.1.2.2.2.2.1, IntKind.wrap .i64 (z51.1.2.2.2.2.2.1 + 1), z51.1.2.2.2.2.2.2.1, z51.1.2.2.2.2.2.2.2.1, ()), ((z51.2.1.1, z51.2.1.2.1, z51.2.1.2.2.1, z51.2.1.2.2.2.1, ()), z51.2.2.1, ())))
 (ITE (decide (z51.1.2.2.2.2.2.1 > z51.1.2.2.2.2.2.2.2.1))
 (∃ (i54 i55 : Int),
 PureIs Tryd.prog 81 [nS z51.1.1, nI z51.1.2.2.2.2.1] (.agg [nI i54, nI i55]) ∧
 (0 ≤ z51.1.2.2.2.2.1 ∧ z51.1.2.2.2.2.1 ≤ (IntKind.wrap .i64 (z51.1.2.2.2.2.1 + z51.1.2.2.2.2.2.1)) ∧ (IntKind.wrap .i64 (z51.1.2.2.2.2.1 + z51.1.2.2.2.2.2.1)) ≤ ByteArray.size z51.1.1) ∧
 ∃ (s56 : ByteArray),
 PureIs Tryd.prog 82 [nS (ByteArray.extract z51.1.1 (Int.toNat z51.1.2.2.2.2.1) (Int.toNat (IntKind.wrap .i64 (z51.1.2.2.2.2.1 + z51.1.2.2.2.2.2.1))))] (nS s56) ∧
 R (.tup [.sl [], .agg [nI 2, nI i54, nI i55, nS s56]]))
 ((0 ≤ z51.1.2.2.2.2.1 ∧ z51.1.2.2.2.2.1 ≤ (IntKind.wrap .i64 (z51.1.2.2.2.2.1 + z51.1.2.2.2.2.2.1)) ∧ (IntKind.wrap .i64 (z51.1.2.2.2.2.1 + z51.1.2.2.2.2.2.1)) ≤ ByteArray.size z51.1.1) ∧
 List.length z51.2.2.1 = List.length z51.2.2.1 ∧
 appOk td118 (List.length (z51.2.2.1 ++ [.agg [nI z51.1.2.2.2.2.2.2.1, nS (ByteArray.extract z51.1.1 (Int.toNat z51.1.2.2.2.2.1) (Int.toNat (IntKind.wrap .i64 (z51.1.2.2.2.2.1 + z51.1.2.2.2.2.2.1)))), nI z51.1.2.2.2.2.1]])) [] [.agg [nI z51.1.2.2.2.2.2.2.1, nS (ByteArray.extract z51.1.1 (Int.toNat z51.1.2.2.2.2.1) (Int.toNat (IntKind.wrap .i64 (z51.1.2.2.2.2.1 + z51.1.2.2.2.2.2.1)))), nI z51.1.2.2.2.2.1]] ∧
 List.length (z51.2.2.1 ++ [.agg [nI z51.1.2.2.2.2.2.2.1, nS (ByteArray.extract z51.1.1 (Int.toNat z51.1.2.2.2.2.1) (Int.toNat (IntKind.wrap .i64 (z51.1.2.2.2.2.1 + z51.1.2.2.2.2.2.1)))), nI z51.1.2.2.2.2.1]]) = List.length (z51.2.2.1 ++ [.agg [nI z51.1.2.2.2.2.2.2.1, nS (ByteArray.extract z51.1.1 (Int.toNat z51.1.2.2.2.2.1) (Int.toNat (IntKind.wrap .i64 (z51.1.2.2.2.2.1 + z51.1.2.2.2.2.2.1)))), nI z51.1.2.2.2.2.1]]) ∧
 p2 ((z51.1.1, (), (), z51.1.2.2.2.1, IntKind.wrap .i64 (z51.1.2.2.2.2.1 + z51.1.2.2.2.2.2.1), ()), ((z51.2.1.1, z51.2.1.2.1, z51.2.1.2.2.1, z51.2.1.2.2.2.1, ()), z51.2.2.1 ++ [.agg [nI z51.1.2.2.2.2.2.2.1, nS (ByteArray.extract z51.1.1 (Int.toNat z51.1.2.2.2.2.1) (Int.toNat (IntKind.wrap .i64 (z51.1.2.2.2.2.1 + z51.1.2.2.2.2.2.1)))), nI z51.1.2.2.2.2.1]], ())))))
 (ITE (decide (z51.1.2.2.2.2.2.1 > z51.1.2.2.2.2.2.2.2.1))
 (∃ (i58 i59 : Int),
 PureIs Tryd.prog 81 [nS z51.1.1, nI z51.1.2.2.2.2.1] (.agg [nI i58, nI i59]) ∧
 (0 ≤ z51.1.2.2.2.2.1 ∧ z51.1.2.2.2.2.1 ≤ (IntKind.wrap .i64 (z51.1.2.2.2.2.1 + z51.1.2.2.2.2.2.1)) ∧ (IntKind.wrap .i64 (z51.1.2.2.2.2.1 + z51.1.2.2.2.2.2.1)) ≤ ByteArray.size z51.1.1) ∧
 ∃ (s60 : ByteArray),
 PureIs Tryd.prog 82 [nS (ByteArray.extract z51.1.1 (Int.toNat z51.1.2.2.2.2.1) (Int.toNat (IntKind.wrap .i64 (z51.1.2.2.2.2.1 + z51.1.2.2.2.2.2.1))))] (nS s60) ∧
 R (.tup [.sl [], .agg [nI 2, nI i58, nI i59, nS s60]]))
 ((0 ≤ z51.1.2.2.2.2.1 ∧ z51.1.2.2.2.2.1 ≤ (IntKind.wrap .i64 (z51.1.2.2.2.2.1 + z51.1.2.2.2.2.2.1)) ∧ (IntKind.wrap .i64 (z51.1.2.2.2.2.1 + z51.1.2.2.2.2.2.1)) ≤ ByteArray.size z51.1.1) ∧
 List.length z51.2.2.1 = List.length z51.2.2.1 ∧
 appOk td118 (List.length (z51.2.2.1 ++ [.agg [nI z51.1.2.2.2.2.2.2.1, nS (ByteArray.extract z51.1.1 (Int.toNat z51.1.2.2.2.2.1) (Int.toNat (IntKind.wrap .i64 (z51.1.2.2.2.2.1 + z51.1.2.2.2.2.2.1)))), nI z51.1.2.2.2.2.1]])) [] [.agg [nI z51.1.2.2.2.2.2.2.1, nS (ByteArray.extract z51.1.1 (Int.toNat z51.1.2.2.2.2.1) (Int.toNat (IntKind.wrap .i64 (z51.1.2.2.2.2.1 + z51.1.2.2.2.2.2.1)))), nI z51.1.2.2.2.2.1]] ∧
 List.length (z51.2.2.1 ++ [.agg [nI z51.1.2.2.2.2.2.2.1, nS (ByteArray.extract z51.1.1 (Int.toNat z51.1.2.2.2.2.1) (Int.toNat (IntKind.wrap .i64 (z51.1.2.2.2.2.1 + z51.1.2.2.2.2.2.1)))), nI z51.1.2.2.2.2.1]]) = List.length (z51.2.2.1 ++ [.agg [nI z51.1.2.2.2.2.2.2.1, nS (ByteArray.extract z51.1.1 (Int.toNat z51.1.2.2.2.2.1) (Int.toNat (IntKind.wrap .i64 (z51.1.2.2.2.2.1 + z51.1.2.2.2.2.2.1)))), nI z51.1.2.2.2.2.1]]) ∧
 p2 ((z51.1.1, (), (), z51.1.2.2.2.1, IntKind.wrap .i64 (z51.1.2.2.2.2.1 + z51.1.2.2.2.2.2.1), ()), ((z51.2.1.1, z51.2.1.2.1, z51.2.1.2.2.1, z51.2.1.2.2.2.1, ()), z51.2.2.1 ++ [.agg [nI z51.1.2.2.2.2.2.2.1, nS (ByteArray.extract z51.1.1 (Int.toNat z51.1.2.2.2.2.1) (Int.toNat (IntKind.wrap .i64 (z51.1.2.2.2.2.1 + z51.1.2.2.2.2.2.1)))), nI z51.1.2.2.2.2.1]], ()))))
def vc63_L6 (p0 : (ByteArray × Unit × Unit × Bool × Int × Unit) × ((Int × Int × Int × ByteArray × Unit) × List AV × Unit)) (R : AV → Prop) : Prop :=
 LoopP _ p0 fun z51 ag52 =>
 ITE (decide (z51.1.2.2.2.2.1 < ((ByteArray.size z51.1.1 : Nat) : Int)))
 ((0 ≤ z51.1.2.2.2.2.1 ∧ z51.1.2.2.2.2.1 < ByteArray.size z51.1.1) ∧
 ITE z51.1.2.2.2.1
 (ITE ((strAt z51.1.1 z51.1.2.2.2.2.1) != 10)
 (ITE z51.1.2.2.2.1
 (List.length z51.2.2.1 = List.length z51.2.2.1 ∧
 ag52 ((z51.1.1, (), (), true, IntKind.wrap .i64 (z51.1.2.2.2.2.1 + 1), ()), ((z51.2.1.1, z51.2.1.2.1, z51.2.1.2.2.1, z51.2.1.2.2.2.1, ()), z51.2.2.1, ())))
 (List.length z51.2.2.1 = List.length z51.2.2.1 ∧
 ag52 ((z51.1.1, (), (), (strAt z51.1.1 z51.1.2.2.2.2.1) == 35, IntKind.wrap .i64 (z51.1.2.2.2.2.1 + 1), ()), ((z51.2.1.1, z51.2.1.2.1, z51.2.1.2.2.1, z51.2.1.2.2.2.1, ()), z51.2.2.1, ()))))
 (List.length z51.2.2.1 = List.length z51.2.2.1 ∧
 ag52 ((z51.1.1, (), (), false, IntKind.wrap .i64 (z51.1.2.2.2.2.1 + 1), ()), ((z51.2.1.1, z51.2.1.2.1, z51.2.1.2.2.1, z51.2.1.2.2.2.1, ()), z51.2.2.1, ()))))
 (∃ (b53 : Bool),
 PureIs Tryd.prog 77 [.prim (.int .u8 (strAt z51.1.1 z51.1.2.2.2.2.1)), nS (⟨#[32, 9, 10, 13, 35]⟩ : ByteArray)] (nB b53) ∧
 ITE b53
 (ITE ((strAt z51.1.1 z51.1.2.2.2.2.1) != 10)
 (ITE z51.1.2.2.2.1
 (List.length z51.2.2.1 = List.length z51.2.2.1 ∧
 ag52 ((z51.1.1, (), (), true, IntKind.wrap .i64 (z51.1.2.2.2.2.1 + 1), ()), ((z51.2.1.1, z51.2.1.2.1, z51.2.1.2.2.1, z51.2.1.2.2.2.1, ()), z51.2.2.1, ())))
 (List.length z51.2.2.1 = List.length z51.2.2.1 ∧
 ag52 ((z51.1.1, (), (), (strAt z51.1.1 z51.1.2.2.2.2.1) == 35, IntKind.wrap .i64 (z51.1.2.2.2.2.1 + 1), ()), ((z51.2.1.1, z51.2.1.2.1, z51.2.1.2.2.1, z51.2.1.2.2.2.1, ()), z51.2.2.1, ()))))
 (List.length z51.2.2.1 = List.length z51.2.2.1 ∧
 ag52 ((z51.1.1, (), (), false, IntKind.wrap .i64 (z51.1.2.2.2.2.1 + 1), ()), ((z51.2.1.1, z51.2.1.2.1, z51.2.1.2.2.1, z51.2.1.2.2.2.1, ()), z51.2.2.1, ()))))
 (∃ (b54 : Bool),
 PureIs Tryd.prog 78 [.prim (.int .u8 (strAt z51.1.1 z51.1.2.2.2.2.1))] (nB b54) ∧
 ITE b54
 (List.length z51.2.2.1 = List.length z51.2.2.1 ∧
 vc63_L14 ((z51.1.1, (), (), z51.1.2.2.2.1, z51.1.2.2.2.2.1, 1, 1, 30, ()), ((z51.2.1.1, z51.2.1.2.1, z51.2.1.2.2.1, z51.2.1.2.2.2.1, ()), z51.2.2.1, ())) R ag52)
 (∃ (b55 : Bool),
 PureIs Tryd.prog 80 [.prim (.int .u8 (strAt z51.1.1 z51.1.2.2.2.2.1))] (nB b55) ∧
 ITE b55
 (List.length z51.2.2.1 = List.length z51.2.2.1 ∧
 vc63_L18 ((z51.1.1, (), (), z51.1.2.2.2.1, z51.1.2.2.2.2.1, 1, 2, 9, ()), ((z51.2.1.1, z51.2.1.2.1, z51.2.1.2.2.1, z51.2.1.2.2.2.1, ()), z51.2.2.1, ())) R ag52)
 (ITE ((strAt z51.1.1 z51.1.2.2.2.2.1) == 45)
 (ITE (decide ((IntKind.wrap .i64 (z51.1.2.2.2.2.1 + 1)) < ((ByteArray.size z51.1.1 : Nat) : Int)))
 ((0 ≤ (IntKind.wrap .i64 (z51.1.2.2.2.2.1 + 1)) ∧ (IntKind.wrap .i64 (z51.1.2.2.2.2.1 + 1)) < ByteArray.size z51.1.1) ∧
 ITE ((strAt z51.1.1 (IntKind.wrap .i64 (z51.1.2.2.2.2.1 + 1))) == 62)
 ((0 ≤ z51.1.2.2.2.2.1 ∧ z51.1.2.2.2.2.1 ≤ (IntKind.wrap .i64 (z51.1.2.2.2.2.1 + 2)) ∧ (IntKind.wrap .i64 (z51.1.2.2.2.2.1 + 2)) ≤ ByteArray.size z51.1.1) ∧
 List.length z51.2.2.1 = List.length z51.2.2.1 ∧
 appOk td118 (List.length (z51.2.2.1 ++ [.agg [nI 3, nS (ByteArray.extract z51.1.1 (Int.toNat z51.1.2.2.2.2.1) (Int.toNat (IntKind.wrap .i64 (z51.1.2.2.2.2.1 + 2)))), nI z51.1.2.2.2.2.1]])) [] [.agg [nI 3, nS (ByteArray.extract z51.1.1 (Int.toNat z51.1.2.2.2.2.1) (Int.toNat (IntKind.wrap .i64 (z51.1.2.2.2.2.1 + 2)))), nI z51.1.2.2.2.2.1]] ∧
 List.length (z51.2.2.1 ++ [.agg [nI 3, nS (ByteArray.extract z51.1.1 (Int.toNat z51.1.2.2.2.2.1) (Int.toNat (IntKind.wrap .i64 (z51.1.2.2.2.2.1 + 2)))), nI z51.1.2.2.2.2.1]]) = List.length (z51.2.2.1 ++ [.agg [nI 3, nS (ByteArray.extract z51.1.1 (Int.toNat z51.1.2.2.2.2.1) (Int.toNat (IntKind.wrap .i64 (z51.1.2.2.2.2.1 + 2)))), nI z51.1.2.2.2.2.1]]) ∧
 ag52 ((z51.1.1, (), (), z51.1.2.2.2.1, IntKind.wrap .i64 (z51.1.2.2.2.2.1 + 2), ()), ((z51.2.1.1, z51.2.1.2.1, z51.2.1.2.2.1, z51.2.1.2.2.2.1, ()), z51.2.2.1 ++ [.agg [nI 3, nS (ByteArray.extract z51.1.1 (Int.toNat z51.1.2.2.2.2.1) (Int.toNat (IntKind.wrap .i64 (z51.1.2.2.2.2.1 + 2)))), nI z51.1.2.2.2.2.1]], ())))
 (∃ (b56 : Bool),
 PureIs Tryd.prog 77 [.prim (.int .u8 (strAt z51.1.1 z51.1.2.2.2.2.1)), nS (⟨#[40, 41, 92, 46, 44, 59, 58, 61, 62, 60, 91, 93, 123, 125, 33, 63, 64]⟩ : ByteArray)] (nB b56) ∧
 ITE (!b56)
 (ITE (decide ((strAt z51.1.1 z51.1.2.2.2.2.1) > 32))
 (ITE (decide ((strAt z51.1.1 z51.1.2.2.2.2.1) < 127))
 ((0 ≤ z51.1.2.2.2.2.1 ∧ z51.1.2.2.2.2.1 ≤ (IntKind.wrap .i64 (z51.1.2.2.2.2.1 + 1)) ∧ (IntKind.wrap .i64 (z51.1.2.2.2.2.1 + 1)) ≤ ByteArray.size z51.1.1) ∧
 ∃ (i57 i58 : Int),
 PureIs Tryd.prog 81 [nS z51.1.1, nI z51.1.2.2.2.2.1] (.agg [nI i57, nI i58]) ∧
 R (.tup [.sl [], .agg [nI 3, nI i57, nI i58, nS (ByteArray.extract z51.1.1 (Int.toNat z51.1.2.2.2.2.1) (Int.toNat (IntKind.wrap .i64 (z51.1.2.2.2.2.1 + 1))))]]))
 (∃ (i59 i60 : Int),
 PureIs Tryd.prog 81 [nS z51.1.1, nI z51.1.2.2.2.2.1] (.agg [nI i59, nI i60]) ∧
 R (.tup [.sl [], .agg [nI 3, nI i59, nI i60, nS (⟨#[]⟩ : ByteArray)]])))
 (∃ (i61 i62 : Int),
 PureIs Tryd.prog 81 [nS z51.1.1, nI z51.1.2.2.2.2.1] (.agg [nI i61, nI i62]) ∧
 R (.tup [.sl [], .agg [nI 3, nI i61, nI i62, nS (⟨#[]⟩ : ByteArray)]])))
 ((0 ≤ z51.1.2.2.2.2.1 ∧ z51.1.2.2.2.2.1 ≤ (IntKind.wrap .i64 (z51.1.2.2.2.2.1 + 1)) ∧ (IntKind.wrap .i64 (z51.1.2.2.2.2.1 + 1)) ≤ ByteArray.size z51.1.1) ∧
 List.length z51.2.2.1 = List.length z51.2.2.1 ∧
 appOk td118 (List.length (z51.2.2.1 ++ [.agg [nI 3, nS (ByteArray.extract z51.1.1 (Int.toNat z51.1.2.2.2.2.1) (Int.toNat (IntKind.wrap .i64 (z51.1.2.2.2.2.1 + 1)))), nI z51.1.2.2.2.2.1]])) [] [.agg [nI 3, nS (ByteArray.extract z51.1.1 (Int.toNat z51.1.2.2.2.2.1) (Int.toNat (IntKind.wrap .i64 (z51.1.2.2.2.2.1 + 1)))), nI z51.1.2.2.2.2.1]] ∧
 List.length (z51.2.2.1 ++ [.agg [nI 3, nS (ByteArray.extract z51.1.1 (Int.toNat z51.1.2.2.2.2.1) (Int.toNat (IntKind.wrap .i64 (z51.1.2.2.2.2.1 + 1)))), nI z51.1.2.2.2.2.1]]) = List.length (z51.2.2.1 ++ [.agg [nI 3, nS (ByteArray.extract z51.1.1 (Int.toNat z51.1.2.2.2.2.1) (Int.toNat (IntKind.wrap .i64 (z51.1.2.2.2.2.1 + 1)))), nI z51.1.2.2.2.2.1]]) ∧
 ag52 ((z51.1.1, (), (), z51.1.2.2.2.1, IntKind.wrap .i64 (z51.1.2.2.2.2.1 + 1), ()), ((z51.2.1.1, z51.2.1.2.1, z51.2.1.2.2.1, z51.2.1.2.2.2.1, ()), z51.2.2.1 ++ [.agg [nI 3, nS (ByteArray.extract z51.1.1 (Int.toNat z51.1.2.2.2.2.1) (Int.toNat (IntKind.wrap .i64 (z51.1.2.2.2.2.1 + 1)))), nI z51.1.2.2.2.2.1]], ())))))
 (∃ (b63 : Bool),
 PureIs Tryd.prog 77 [.prim (.int .u8 (strAt z51.1.1 z51.1.2.2.2.2.1)), nS (⟨#[40, 41, 92, 46, 44, 59, 58, 61, 62, 60, 91, 93, 123, 125, 33, 63, 64]⟩ : ByteArray)] (nB b63) ∧
 ITE (!b63)
 (ITE (decide ((strAt z51.1.1 z51.1.2.2.2.2.1) > 32))
 (ITE (decide ((strAt z51.1.1 z51.1.2.2.2.2.1) < 127))
 ((0 ≤ z51.1.2.2.2.2.1 ∧ z51.1.2.2.2.2.1 ≤ (IntKind.wrap .i64 (z51.1.2.2.2.2.1 + 1)) ∧ (IntKind.wrap .i64 (z51.1.2.2.2.2.1 + 1)) ≤ ByteArray.size z51.1.1) ∧
 ∃ (i64 i65 : Int),
 PureIs Tryd.prog 81 [nS z51.1.1, nI z51.1.2.2.2.2.1] (.agg [nI i64, nI i65]) ∧
 R (.tup [.sl [], .agg [nI 3, nI i64, nI i65, nS (ByteArray.extract z51.1.1 (Int.toNat z51.1.2.2.2.2.1) (Int.toNat (IntKind.wrap .i64 (z51.1.2.2.2.2.1 + 1))))]]))
 (∃ (i66 i67 : Int),
 PureIs Tryd.prog 81 [nS z51.1.1, nI z51.1.2.2.2.2.1] (.agg [nI i66, nI i67]) ∧
 R (.tup [.sl [], .agg [nI 3, nI i66, nI i67, nS (⟨#[]⟩ : ByteArray)]])))
 (∃ (i68 i69 : Int),
 PureIs Tryd.prog 81 [nS z51.1.1, nI z51.1.2.2.2.2.1] (.agg [nI i68, nI i69]) ∧
 R (.tup [.sl [], .agg [nI 3, nI i68, nI i69, nS (⟨#[]⟩ : ByteArray)]])))
 ((0 ≤ z51.1.2.2.2.2.1 ∧ z51.1.2.2.2.2.1 ≤ (IntKind.wrap .i64 (z51.1.2.2.2.2.1 + 1)) ∧ (IntKind.wrap .i64 (z51.1.2.2.2.2.1 + 1)) ≤ ByteArray.size z51.1.1) ∧
 List.length z51.2.2.1 = List.length z51.2.2.1 ∧
 appOk td118 (List.length (z51.2.2.1 ++ [.agg [nI 3, nS (ByteArray.extract z51.1.1 (Int.toNat z51.1.2.2.2.2.1) (Int.toNat (IntKind.wrap .i64 (z51.1.2.2.2.2.1 + 1)))), nI z51.1.2.2.2.2.1]])) [] [.agg [nI 3, nS (ByteArray.extract z51.1.1 (Int.toNat z51.1.2.2.2.2.1) (Int.toNat (IntKind.wrap .i64 (z51.1.2.2.2.2.1 + 1)))), nI z51.1.2.2.2.2.1]] ∧
 List.length (z51.2.2.1 ++ [.agg [nI 3, nS (ByteArray.extract z51.1.1 (Int.toNat z51.1.2.2.2.2.1) (Int.toNat (IntKind.wrap .i64 (z51.1.2.2.2.2.1 + 1)))), nI z51.1.2.2.2.2.1]]) = List.length (z51.2.2.1 ++ [.agg [nI 3, nS (ByteArray.extract z51.1.1 (Int.toNat z51.1.2.2.2.2.1) (Int.toNat (IntKind.wrap .i64 (z51.1.2.2.2.2.1 + 1)))), nI z51.1.2.2.2.2.1]]) ∧
 ag52 ((z51.1.1, (), (), z51.1.2.2.2.1, IntKind.wrap .i64 (z51.1.2.2.2.2.1 + 1), ()), ((z51.2.1.1, z51.2.1.2.1, z51.2.1.2.2.1, z51.2.1.2.2.2.1, ()), z51.2.2.1 ++ [.agg [nI 3, nS (ByteArray.extract z51.1.1 (Int.toNat z51.1.2.2.2.2.1) (Int.toNat (IntKind.wrap .i64 (z51.1.2.2.2.2.1 + 1)))), nI z51.1.2.2.2.2.1]], ())))))
 (∃ (b70 : Bool),
 PureIs Tryd.prog 77 [.prim (.int .u8 (strAt z51.1.1 z51.1.2.2.2.2.1)), nS (⟨#[40, 41, 92, 46, 44, 59, 58, 61, 62, 60, 91, 93, 123, 125, 33, 63, 64]⟩ : ByteArray)] (nB b70) ∧
 ITE (!b70)
 (ITE (decide ((strAt z51.1.1 z51.1.2.2.2.2.1) > 32))
 (ITE (decide ((strAt z51.1.1 z51.1.2.2.2.2.1) < 127))
 ((0 ≤ z51.1.2.2.2.2.1 ∧ z51.1.2.2.2.2.1 ≤ (IntKind.wrap .i64 (z51.1.2.2.2.2.1 + 1)) ∧ (IntKind.wrap .i64 (z51.1.2.2.2.2.1 + 1)) ≤ ByteArray.size z51.1.1) ∧
 ∃ (i71 i72 : Int),
 PureIs Tryd.prog 81 [nS z51.1.1, nI z51.1.2.2.2.2.1] (.agg [nI i71, nI i72]) ∧
 R (.tup [.sl [], .agg [nI 3, nI i71, nI i72, nS (ByteArray.extract z51.1.1 (Int.toNat z51.1.2.2.2.2.1) (Int.toNat (IntKind.wrap .i64 (z51.1.2.2.2.2.1 + 1))))]]))
 (∃ (i73 i74 : Int),
 PureIs Tryd.prog 81 [nS z51.1.1, nI z51.1.2.2.2.2.1] (.agg [nI i73, nI i74]) ∧
 R (.tup [.sl [], .agg [nI 3, nI i73, nI i74, nS (⟨#[]⟩ : ByteArray)]])))
 (∃ (i75 i76 : Int),
 PureIs Tryd.prog 81 [nS z51.1.1, nI z51.1.2.2.2.2.1] (.agg [nI i75, nI i76]) ∧
 R (.tup [.sl [], .agg [nI 3, nI i75, nI i76, nS (⟨#[]⟩ : ByteArray)]])))
 ((0 ≤ z51.1.2.2.2.2.1 ∧ z51.1.2.2.2.2.1 ≤ (IntKind.wrap .i64 (z51.1.2.2.2.2.1 + 1)) ∧ (IntKind.wrap .i64 (z51.1.2.2.2.2.1 + 1)) ≤ ByteArray.size z51.1.1) ∧
 List.length z51.2.2.1 = List.length z51.2.2.1 ∧
 appOk td118 (List.length (z51.2.2.1 ++ [.agg [nI 3, nS (ByteArray.extract z51.1.1 (Int.toNat z51.1.2.2.2.2.1) (Int.toNat (IntKind.wrap .i64 (z51.1.2.2.2.2.1 + 1)))), nI z51.1.2.2.2.2.1]])) [] [.agg [nI 3, nS (ByteArray.extract z51.1.1 (Int.toNat z51.1.2.2.2.2.1) (Int.toNat (IntKind.wrap .i64 (z51.1.2.2.2.2.1 + 1)))), nI z51.1.2.2.2.2.1]] ∧
 List.length (z51.2.2.1 ++ [.agg [nI 3, nS (ByteArray.extract z51.1.1 (Int.toNat z51.1.2.2.2.2.1) (Int.toNat (IntKind.wrap .i64 (z51.1.2.2.2.2.1 + 1)))), nI z51.1.2.2.2.2.1]]) = List.length (z51.2.2.1 ++ [.agg [nI 3, nS (ByteArray.extract z51.1.1 (Int.toNat z51.1.2.2.2.2.1) (Int.toNat (IntKind.wrap .i64 (z51.1.2.2.2.2.1 + 1)))), nI z51.1.2.2.2.2.1]]) ∧
 ag52 ((z51.1.1, (), (), z51.1.2.2.2.1, IntKind.wrap .i64 (z51.1.2.2.2.2.1 + 1), ()), ((z51.2.1.1, z51.2.1.2.1, z51.2.1.2.2.1, z51.2.1.2.2.2.1, ()), z51.2.2.1 ++ [.agg [nI 3, nS (ByteArray.extract z51.1.1 (Int.toNat z51.1.2.2.2.2.1) (Int.toNat (IntKind.wrap .i64 (z51.1.2.2.2.2.1 + 1)))), nI z51.1.2.2.2.2.1]], ())))))))))
 (List.length z51.2.2.1 = List.length z51.2.2.1 ∧
 R (.tup [.sl z51.2.2.1, .agg [nI 0, nI 0, nI 0, nS ⟨#[]⟩]]))
def vc63 (a0 : ByteArray) (R : AV → Prop) : Prop :=
 ITE (decide (((ByteArray.size a0 : Nat) : Int) > 20000))
 (R (.tup [.sl [], .agg [nI 2, nI 1, nI 1, nS ⟨#[]⟩]]))
 (0 = List.length ([] : List AV) ∧
 vc63_L6 ((a0, (), (), false, 0, ()), ((0, 0, 0, ⟨#[]⟩, ()), [], ())) R)
theorem vc63_ok {a0 : ByteArray} {R : AV → Prop} (h : vc63 a0 R) : Pure Tryd.prog 63 [nS a0] R :=
 pure_of_code (C := cfg (Func.ntmps Tryd.f63)) (cfg_tab _ _ _ _ _) (cfg_ord _ _ _ _ _) (L := [{ key := 6, live := [(0, none), (3, none), (4, none), (5, none), (6, none)], rows := [(4, 118)] }, { key := 14, live := [(0, none), (3, none), (4, none), (5, none), (6, none), (8, none), (9, none), (10, none)] }, { key := 18, live := [(0, none), (3, none), (4, none), (5, none), (6, none), (8, none), (9, none), (10, none)] }]) (fn := Tryd.f63) Tryd.func63 (by exact rfl) (by kernel_rfl) (by kernel_rfl) (by rfl) (of_eq (by kernel_rfl) h)
def vc77_L2 (p0 : (Int × ByteArray × Int × Unit) × (Unit)) (R : AV → Prop) : Prop :=
 LoopP _ p0 fun z51 ag52 =>
 ITE (decide (z51.1.2.2.1 < ((ByteArray.size z51.1.2.1 : Nat) : Int)))
 ((0 ≤ z51.1.2.2.1 ∧ z51.1.2.2.1 < ByteArray.size z51.1.2.1) ∧
 ITE ((strAt z51.1.2.1 z51.1.2.2.1) == z51.1.1)
 (R (nB true))
 (ag52 ((z51.1.1, z51.1.2.1, IntKind.wrap .i64 (z51.1.2.2.1 + 1), ()), ())))
 (R (nB false))
def vc77 (a0 : Int) (a1 : ByteArray) (R : AV → Prop) : Prop :=
 vc77_L2 ((a0, a1, 0, ()), ()) R
theorem vc77_ok {a0 : Int} {a1 : ByteArray} {R : AV → Prop} (h : vc77 a0 a1 R) : Pure Tryd.prog 77 [.prim (.int .u8 a0), nS a1] R :=
 pure_of_code (C := cfg (Func.ntmps Tryd.f77)) (cfg_tab _ _ _ _ _) (cfg_ord _ _ _ _ _) (L := [{ key := 2, live := [(0, none), (1, none), (5, none)] }]) (fn := Tryd.f77) Tryd.func77 (by exact rfl) (by kernel_rfl) (by kernel_rfl) (by rfl) (of_eq (by kernel_rfl) h)
def vc78 (a0 : Int) (R : AV → Prop) : Prop :=
 ∃ (b1 : Bool),
 PureIs Tryd.prog 77 [.prim (.int .u8 a0), nS (⟨#[97, 98, 99, 100, 101, 102, 103, 104, 105, 106, 107, 108, 109, 110, 111, 112, 113, 114, 115, 116, 117, 118, 119, 120, 121, 122, 65, 66, 67, 68, 69, 70, 71, 72, 73, 74, 75, 76, 77, 78, 79, 80, 81, 82, 83, 84, 85, 86, 87, 88, 89, 90]⟩ : ByteArray)] (nB b1) ∧
 R (nB b1)
theorem vc78_ok {a0 : Int} {R : AV → Prop} (h : vc78 a0 R) : Pure Tryd.prog 78 [.prim (.int .u8 a0)] R :=
 pure_of_code (C := cfg (Func.ntmps Tryd.f78)) (cfg_tab _ _ _ _ _) (cfg_ord _ _ _ _ _) (L := []) (fn := Tryd.f78) Tryd.func78 (by exact rfl) (by kernel_rfl) (by kernel_rfl) (by rfl) (of_eq (by kernel_rfl) h)
def vc79 (a0 : Int) (R : AV → Prop) : Prop :=
 ∃ (b1 : Bool),
 PureIs Tryd.prog 78 [.prim (.int .u8 a0)] (nB b1) ∧
 ITE b1
 (R (nB true))
 (∃ (b2 : Bool),
 PureIs Tryd.prog 77 [.prim (.int .u8 a0), nS (⟨#[48, 49, 50, 51, 52, 53, 54, 55, 56, 57, 95, 39]⟩ : ByteArray)] (nB b2) ∧
 R (nB b2))
theorem vc79_ok {a0 : Int} {R : AV → Prop} (h : vc79 a0 R) : Pure Tryd.prog 79 [.prim (.int .u8 a0)] R :=
 pure_of_code (C := cfg (Func.ntmps Tryd.f79)) (cfg_tab _ _ _ _ _) (cfg_ord _ _ _ _ _) (L := []) (fn := Tryd.f79) Tryd.func79 (by exact rfl) (by kernel_rfl) (by kernel_rfl) (by rfl) (of_eq (by kernel_rfl) h)
def vc80 (a0 : Int) (R : AV → Prop) : Prop :=
 ∃ (b1 : Bool),
 PureIs Tryd.prog 77 [.prim (.int .u8 a0), nS (⟨#[48, 49, 50, 51, 52, 53, 54, 55, 56, 57]⟩ : ByteArray)] (nB b1) ∧
 R (nB b1)
theorem vc80_ok {a0 : Int} {R : AV → Prop} (h : vc80 a0 R) : Pure Tryd.prog 80 [.prim (.int .u8 a0)] R :=
 pure_of_code (C := cfg (Func.ntmps Tryd.f80)) (cfg_tab _ _ _ _ _) (cfg_ord _ _ _ _ _) (L := []) (fn := Tryd.f80) Tryd.func80 (by exact rfl) (by kernel_rfl) (by kernel_rfl) (by rfl) (of_eq (by kernel_rfl) h)
def vc81_L3 (p0 : (ByteArray × Int × Unit × Unit × Int × Unit) × ((Int × Int × Unit) × (Int × Int × Unit) × Unit)) (R : AV → Prop) : Prop :=
 LoopP _ p0 fun z51 ag52 =>
 ITE (decide (z51.1.2.2.2.2.1 < z51.1.2.1))
 ((0 ≤ z51.1.2.2.2.2.1 ∧ z51.1.2.2.2.2.1 < ByteArray.size z51.1.1) ∧
 ITE ((strAt z51.1.1 z51.1.2.2.2.2.1) == 10)
 (ag52 ((z51.1.1, z51.1.2.1, (), (), IntKind.wrap .i64 (z51.1.2.2.2.2.1 + 1), ()), ((z51.2.1.1, z51.2.1.2.1, ()), (IntKind.wrap .i64 (z51.2.2.1.1 + 1), 1, ()), ())))
 (ag52 ((z51.1.1, z51.1.2.1, (), (), IntKind.wrap .i64 (z51.1.2.2.2.2.1 + 1), ()), ((z51.2.1.1, z51.2.1.2.1, ()), (z51.2.2.1.1, IntKind.wrap .i64 (z51.2.2.1.2.1 + 1), ()), ()))))
 (R (.agg [nI z51.2.2.1.1, nI z51.2.2.1.2.1]))
def vc81 (a0 : ByteArray) (a1 : Int) (R : AV → Prop) : Prop :=
 vc81_L3 ((a0, a1, (), (), 0, ()), ((0, 0, ()), (1, 1, ()), ())) R
theorem vc81_ok {a0 : ByteArray} {a1 : Int} {R : AV → Prop} (h : vc81 a0 a1 R) : Pure Tryd.prog 81 [nS a0, nI a1] R :=
 pure_of_code (C := cfg (Func.ntmps Tryd.f81)) (cfg_tab _ _ _ _ _) (cfg_ord _ _ _ _ _) (L := [{ key := 3, live := [(0, none), (1, none), (4, none), (5, none), (6, none)] }]) (fn := Tryd.f81) Tryd.func81 (by exact rfl) (by kernel_rfl) (by kernel_rfl) (by rfl) (of_eq (by kernel_rfl) h)
def vc82 (a0 : ByteArray) (R : AV → Prop) : Prop :=
 ITE (decide (((ByteArray.size a0 : Nat) : Int) > 10))
 ((0 ≤ (0 : Int) ∧ (0 : Int) ≤ (10 : Int) ∧ (10 : Int) ≤ ByteArray.size a0) ∧
 R (nS (ByteArray.extract a0 (Int.toNat 0) (Int.toNat 10))))
 (R (nS a0))
theorem vc82_ok {a0 : ByteArray} {R : AV → Prop} (h : vc82 a0 R) : Pure Tryd.prog 82 [nS a0] R :=
 pure_of_code (C := cfg (Func.ntmps Tryd.f82)) (cfg_tab _ _ _ _ _) (cfg_ord _ _ _ _ _) (L := []) (fn := Tryd.f82) Tryd.func82 (by exact rfl) (by kernel_rfl) (by kernel_rfl) (by rfl) (of_eq (by kernel_rfl) h)
def vc14 (a0_0 : Int) (a0_1 : ByteArray) (a0_2 : Int) (a0_3 : List AV) (R : AV → Prop) : Prop :=
 ∃ (b1 : Bool),
 PureIs Tryd.prog 32 [.agg [nI a0_0, nS a0_1, nI a0_2, .sl a0_3]] (nB b1) ∧
 ITE b1
 (R (nB true))
 (ITE (a0_0 == 2)
 (ITE (strEq a0_1 (⟨#[]⟩ : ByteArray))
 (ITE (((List.length a0_3 : Nat) : Int) == 2)
 (0 ≤ (0 : Int) ∧
 (0 : Int) < List.length a0_3 ∧
 ∃ (i2 : Int) (s3 : ByteArray) (i4 : Int) (l5 : List AV),
 List.getD a0_3 (Int.toNat 0) .top = .agg [nI i2, nS s3, nI i4, .sl l5] ∧
 ∃ (b6 : Bool),
 PureIs Tryd.prog 14 [.agg [nI i2, nS s3, nI i4, .sl l5]] (nB b6) ∧
 ITE b6
 (0 ≤ (1 : Int) ∧
 (1 : Int) < List.length a0_3 ∧
 ∃ (i7 : Int) (s8 : ByteArray) (i9 : Int) (l10 : List AV),
 List.getD a0_3 (Int.toNat 1) .top = .agg [nI i7, nS s8, nI i9, .sl l10] ∧
 ∃ (b11 : Bool),
 PureIs Tryd.prog 14 [.agg [nI i7, nS s8, nI i9, .sl l10]] (nB b11) ∧
 R (nB b11))
 (R (nB false)))
 (R (nB false)))
 (R (nB false)))
 (R (nB false)))
theorem vc14_ok {a0_0 : Int} {a0_1 : ByteArray} {a0_2 : Int} {a0_3 : List AV} {R : AV → Prop} (h : vc14 a0_0 a0_1 a0_2 a0_3 R) : Pure Tryd.prog 14 [.agg [nI a0_0, nS a0_1, nI a0_2, .sl a0_3]] R :=
 pure_of_code (C := cfg (Func.ntmps Tryd.f14)) (cfg_tab _ _ _ _ _) (cfg_ord _ _ _ _ _) (L := []) (fn := Tryd.f14) Tryd.func14 (by exact rfl) (by kernel_rfl) (by kernel_rfl) (by rfl) (of_eq (by kernel_rfl) h)
def vc15 (a0_0 : Int) (a0_1 : ByteArray) (a0_2 : Int) (a0_3 : List AV) (R : AV → Prop) : Prop :=
 ∃ (b1 : Bool),
 PureIs Tryd.prog 32 [.agg [nI a0_0, nS a0_1, nI a0_2, .sl a0_3]] (nB b1) ∧
 ITE b1
 (R (nB true))
 (ITE (((List.length a0_3 : Nat) : Int) != 2)
 (R (nB false))
 (0 ≤ (1 : Int) ∧
 (1 : Int) < List.length a0_3 ∧
 ∃ (i2 : Int) (s3 : ByteArray) (i4 : Int) (l5 : List AV),
 List.getD a0_3 (Int.toNat 1) .top = .agg [nI i2, nS s3, nI i4, .sl l5] ∧
 ∃ (b6 : Bool),
 PureIs Tryd.prog 15 [.agg [nI i2, nS s3, nI i4, .sl l5]] (nB b6) ∧
 ITE (!b6)
 (R (nB false))
 (ITE (a0_0 == 3)
 (∃ (b7 : Bool),
 PureIs Tryd.prog 33 [nS a0_1] (nB b7) ∧
 ITE b7
 (0 ≤ (0 : Int) ∧
 (0 : Int) < List.length a0_3 ∧
 ∃ (i8 : Int) (s9 : ByteArray) (i10 : Int) (l11 : List AV),
 List.getD a0_3 (Int.toNat 0) .top = .agg [nI i8, nS s9, nI i10, .sl l11] ∧
 ∃ (b12 : Bool),
 PureIs Tryd.prog 14 [.agg [nI i8, nS s9, nI i10, .sl l11]] (nB b12) ∧
 R (nB b12))
 (R (nB false)))
 (ITE (a0_0 == 4)
 (ITE (strEq a0_1 (⟨#[]⟩ : ByteArray))
 (0 ≤ (0 : Int) ∧
 (0 : Int) < List.length a0_3 ∧
 ∃ (i13 : Int) (s14 : ByteArray) (i15 : Int) (l16 : List AV),
 List.getD a0_3 (Int.toNat 0) .top = .agg [nI i13, nS s14, nI i15, .sl l16] ∧
 ∃ (b17 : Bool),
 PureIs Tryd.prog 15 [.agg [nI i13, nS s14, nI i15, .sl l16]] (nB b17) ∧
 R (nB b17))
 (R (nB false)))
 (R (nB false))))))
theorem vc15_ok {a0_0 : Int} {a0_1 : ByteArray} {a0_2 : Int} {a0_3 : List AV} {R : AV → Prop} (h : vc15 a0_0 a0_1 a0_2 a0_3 R) : Pure Tryd.prog 15 [.agg [nI a0_0, nS a0_1, nI a0_2, .sl a0_3]] R :=
 pure_of_code (C := cfg (Func.ntmps Tryd.f15)) (cfg_tab _ _ _ _ _) (cfg_ord _ _ _ _ _) (L := []) (fn := Tryd.f15) Tryd.func15 (by exact rfl) (by kernel_rfl) (by kernel_rfl) (by rfl) (of_eq (by kernel_rfl) h)
def vc32 (a0_0 : Int) (a0_1 : ByteArray) (a0_2 : Int) (a0_3 : List AV) (R : AV → Prop) : Prop :=
 ITE (a0_0 == 1)
 (∃ (b1 : Bool),
 PureIs Tryd.prog 33 [nS a0_1] (nB b1) ∧
 ITE b1
 (R (nB (((List.length a0_3 : Nat) : Int) == 0)))
 (R (nB false)))
 (R (nB false))
theorem vc32_ok {a0_0 : Int} {a0_1 : ByteArray} {a0_2 : Int} {a0_3 : List AV} {R : AV → Prop} (h : vc32 a0_0 a0_1 a0_2 a0_3 R) : Pure Tryd.prog 32 [.agg [nI a0_0, nS a0_1, nI a0_2, .sl a0_3]] R :=
 pure_of_code (C := cfg (Func.ntmps Tryd.f32)) (cfg_tab _ _ _ _ _) (cfg_ord _ _ _ _ _) (L := []) (fn := Tryd.f32) Tryd.func32 (by exact rfl) (by kernel_rfl) (by kernel_rfl) (by rfl) (of_eq (by kernel_rfl) h)
def vc33 (a0 : ByteArray) (R : AV → Prop) : Prop :=
 ITE (!(strEq a0 (⟨#[]⟩ : ByteArray)))
 (ITE (decide (((ByteArray.size a0 : Nat) : Int) ≤ 30))
 ((0 ≤ (0 : Int) ∧ (0 : Int) < ByteArray.size a0) ∧
 ∃ (b1 : Bool),
 PureIs Tryd.prog 49 [.prim (.int .u8 (strAt a0 (0 : Int)))] (nB b1) ∧
 ITE b1
 (∃ (i2 : Int),
 PureIs Tryd.prog 50 [nS a0, .clo 51 []] (nI i2) ∧
 R (nB (i2 == ((ByteArray.size a0 : Nat) : Int))))
 (R (nB false)))
 (R (nB false)))
 (R (nB false))
theorem vc33_ok {a0 : ByteArray} {R : AV → Prop} (h : vc33 a0 R) : Pure Tryd.prog 33 [nS a0] R :=
 pure_of_code (C := cfg (Func.ntmps Tryd.f33)) (cfg_tab _ _ _ _ _) (cfg_ord _ _ _ _ _) (L := []) (fn := Tryd.f33) Tryd.func33 (by exact rfl) (by kernel_rfl) (by kernel_rfl) (by rfl) (of_eq (by kernel_rfl) h)
def vc49 (a0 : Int) (R : AV → Prop) : Prop :=
 ITE (decide (a0 ≥ 97))
 (ITE (decide (a0 ≤ 122))
 (R (nB true))
 (ITE (decide (a0 ≥ 65))
 (R (nB (decide (a0 ≤ 90))))
 (R (nB false))))
 (ITE (decide (a0 ≥ 65))
 (R (nB (decide (a0 ≤ 90))))
 (R (nB false)))
theorem vc49_ok {a0 : Int} {R : AV → Prop} (h : vc49 a0 R) : Pure Tryd.prog 49 [.prim (.int .u8 a0)] R :=
 pure_of_code (C := cfg (Func.ntmps Tryd.f49)) (cfg_tab _ _ _ _ _) (cfg_ord _ _ _ _ _) (L := []) (fn := Tryd.f49) Tryd.func49 (by exact rfl) (by kernel_rfl) (by kernel_rfl) (by rfl) (of_eq (by kernel_rfl) h)
def vc64 (a0 : Int) (R : AV → Prop) : Prop :=
 ITE (decide (a0 ≥ 48))
 (R (nB (decide (a0 ≤ 57))))
 (R (nB false))
theorem vc64_ok {a0 : Int} {R : AV → Prop} (h : vc64 a0 R) : Pure Tryd.prog 64 [.prim (.int .u8 a0)] R :=
 pure_of_code (C := cfg (Func.ntmps Tryd.f64)) (cfg_tab _ _ _ _ _) (cfg_ord _ _ _ _ _) (L := []) (fn := Tryd.f64) Tryd.func64 (by exact rfl) (by kernel_rfl) (by kernel_rfl) (by rfl) (of_eq (by kernel_rfl) h)
def vc51 (a0 : Int) (R : AV → Prop) : Prop :=
 ∃ (b1 : Bool),
 PureIs Tryd.prog 49 [.prim (.int .u8 a0)] (nB b1) ∧
 ITE b1
 (R (nB true))
 (∃ (b2 : Bool),
 PureIs Tryd.prog 64 [.prim (.int .u8 a0)] (nB b2) ∧
 ITE b2
 (R (nB true))
 (ITE (a0 == 95)
 (R (nB true))
 (R (nB (a0 == 39)))))
theorem vc51_ok {a0 : Int} {R : AV → Prop} (h : vc51 a0 R) : Pure Tryd.prog 51 [.prim (.int .u8 a0)] R :=
 pure_of_code (C := cfg (Func.ntmps Tryd.f51)) (cfg_tab _ _ _ _ _) (cfg_ord _ _ _ _ _) (L := []) (fn := Tryd.f51) Tryd.func51 (by exact rfl) (by kernel_rfl) (by kernel_rfl) (by rfl) (of_eq (by kernel_rfl) h)
def vc50_L2 (p0 : (ByteArray × Unit × Int × Unit) × (Unit)) (R : AV → Prop) : Prop :=
 LoopP _ p0 fun z51 ag52 =>
 ITE (decide (z51.1.2.2.1 < ((ByteArray.size z51.1.1 : Nat) : Int)))
 ((0 ≤ z51.1.2.2.1 ∧ z51.1.2.2.1 < ByteArray.size z51.1.1) ∧
 ∃ (b53 : Bool),
 PureIs Tryd.prog 51 [.prim (.int .u8 (strAt z51.1.1 z51.1.2.2.1))] (nB b53) ∧
 ITE b53
 (ag52 ((z51.1.1, (), IntKind.wrap .i64 (z51.1.2.2.1 + 1), ()), ()))
 (R (nI z51.1.2.2.1)))
 (R (nI z51.1.2.2.1))
def vc50 (a0 : ByteArray) (R : AV → Prop) : Prop :=
 vc50_L2 ((a0, (), 0, ()), ()) R
theorem vc50_ok {a0 : ByteArray} {R : AV → Prop} (h : vc50 a0 R) : Pure Tryd.prog 50 [nS a0, .clo 51 []] R :=
 pure_of_code (C := cfg (Func.ntmps Tryd.f50)) (cfg_tab _ _ _ _ _) (cfg_ord _ _ _ _ _) (L := [{ key := 2, live := [(0, none), (1, none), (5, none)] }]) (fn := Tryd.f50) Tryd.func50 (by exact rfl) (by kernel_rfl) (by kernel_rfl) (by rfl) (of_eq (by kernel_rfl) h)
def vc26 (a0 : ByteArray) (R : AV → Prop) : Prop :=
 R (.agg [nI 1, nS a0, nI 0, .sl []])
theorem vc26_ok {a0 : ByteArray} {R : AV → Prop} (h : vc26 a0 R) : Pure Tryd.prog 26 [nS a0] R :=
 pure_of_code (C := cfg (Func.ntmps Tryd.f26)) (cfg_tab _ _ _ _ _) (cfg_ord _ _ _ _ _) (L := []) (fn := Tryd.f26) Tryd.func26 (by exact rfl) (by kernel_rfl) (by kernel_rfl) (by rfl) (of_eq (by kernel_rfl) h)
def vc27 (a0 a1_0 : Int) (a1_1 : ByteArray) (a1_2 : Int) (a1_3 : List AV) (a2_0 : Int) (a2_1 : ByteArray) (a2_2 : Int) (a2_3 : List AV) (R : AV → Prop) : Prop :=
 R (.agg [nI a0, nS ⟨#[]⟩, nI 0, .sl [.agg [nI a1_0, nS a1_1, nI a1_2, .sl a1_3], .agg [nI a2_0, nS a2_1, nI a2_2, .sl a2_3]]])
theorem vc27_ok {a0 a1_0 : Int} {a1_1 : ByteArray} {a1_2 : Int} {a1_3 : List AV} {a2_0 : Int} {a2_1 : ByteArray} {a2_2 : Int} {a2_3 : List AV} {R : AV → Prop} (h : vc27 a0 a1_0 a1_1 a1_2 a1_3 a2_0 a2_1 a2_2 a2_3 R) : Pure Tryd.prog 27 [nI a0, .agg [nI a1_0, nS a1_1, nI a1_2, .sl a1_3], .agg [nI a2_0, nS a2_1, nI a2_2, .sl a2_3]] R :=
 pure_of_code (C := cfg (Func.ntmps Tryd.f27)) (cfg_tab _ _ _ _ _) (cfg_ord _ _ _ _ _) (L := []) (fn := Tryd.f27) Tryd.func27 (by exact rfl) (by kernel_rfl) (by kernel_rfl) (by rfl) (of_eq (by kernel_rfl) h)
def vc6 (R : AV → Prop) : Prop :=
 ∃ (l1 : List AV) (i2 : Int),
 PureIs Tryd.prog 25 [nI 0, .sl []] (.agg [.sl l1, nI i2]) ∧
 ∃ (l3 : List AV) (i4 : Int),
 PureIs Tryd.prog 25 [nI 0, .sl [.agg [.sl l1, nI i2]]] (.agg [.sl l3, nI i4]) ∧
 ∃ (l5 : List AV) (i6 i7 : Int) (l8 : List AV),
 PureIs Tryd.prog 24 [.agg [nI 1, nI 0], .agg [.sl l3, nI i4]] (.agg [.sl l5, nI i6, nI i7, .sl l8]) ∧
 ∃ (s9 : ByteArray) (i10 : Int),
 PureIs Tryd.prog 23 [.agg [.sl [nS (⟨#[97]⟩ : ByteArray)], .sl [nS (⟨#[102]⟩ : ByteArray)], .sl []], .agg [.sl l5, nI i6, nI i7, .sl l8]] (.tup [nS s9, nI i10]) ∧
 ∃ (i11 : Int) (s12 : ByteArray) (i13 : Int) (l14 : List AV),
 PureIs Tryd.prog 26 [nS (⟨#[97]⟩ : ByteArray)] (.agg [nI i11, nS s12, nI i13, .sl l14]) ∧
 ∃ (i15 : Int) (s16 : ByteArray) (i17 : Int) (l18 : List AV),
 PureIs Tryd.prog 26 [nS (⟨#[97]⟩ : ByteArray)] (.agg [nI i15, nS s16, nI i17, .sl l18]) ∧
 ∃ (i19 : Int) (s20 : ByteArray) (i21 : Int) (l22 : List AV),
 PureIs Tryd.prog 27 [nI 2, .agg [nI i11, nS s12, nI i13, .sl l14], .agg [nI i15, nS s16, nI i17, .sl l18]] (.agg [nI i19, nS s20, nI i21, .sl l22]) ∧
 ∃ (i23 : Int) (s24 : ByteArray) (i25 : Int) (l26 : List AV),
 PureIs Tryd.prog 26 [nS (⟨#[98]⟩ : ByteArray)] (.agg [nI i23, nS s24, nI i25, .sl l26]) ∧
 ∃ (i27 : Int) (s28 : ByteArray) (i29 : Int) (l30 : List AV),
 PureIs Tryd.prog 27 [nI 2, .agg [nI i19, nS s20, nI i21, .sl l22], .agg [nI i23, nS s24, nI i25, .sl l26]] (.agg [nI i27, nS s28, nI i29, .sl l30]) ∧
 ∃ (s31 : ByteArray) (i32 : Int),
 PureIs Tryd.prog 8 [.agg [nI i27, nS s28, nI i29, .sl l30]] (.tup [nS s31, nI i32]) ∧
 ∃ (i33 : Int) (s34 : ByteArray) (i35 : Int) (l36 : List AV),
 PureIs Tryd.prog 26 [nS (⟨#[102]⟩ : ByteArray)] (.agg [nI i33, nS s34, nI i35, .sl l36]) ∧
 ∃ (i37 : Int) (s38 : ByteArray) (i39 : Int) (l40 : List AV),
 PureIs Tryd.prog 26 [nS (⟨#[120]⟩ : ByteArray)] (.agg [nI i37, nS s38, nI i39, .sl l40]) ∧
 ∃ (i41 : Int) (s42 : ByteArray) (i43 : Int) (l44 : List AV),
 PureIs Tryd.prog 27 [nI 4, .agg [nI i33, nS s34, nI i35, .sl l36], .agg [nI i37, nS s38, nI i39, .sl l40]] (.agg [nI i41, nS s42, nI i43, .sl l44]) ∧
 ∃ (i45 : Int) (s46 : ByteArray) (i47 : Int) (l48 : List AV),
 PureIs Tryd.prog 26 [nS (⟨#[103]⟩ : ByteArray)] (.agg [nI i45, nS s46, nI i47, .sl l48]) ∧
 ∃ (i49 : Int) (s50 : ByteArray) (i51 : Int) (l52 : List AV),
 PureIs Tryd.prog 26 [nS (⟨#[121]⟩ : ByteArray)] (.agg [nI i49, nS s50, nI i51, .sl l52]) ∧
 ∃ (i53 : Int) (s54 : ByteArray) (i55 : Int) (l56 : List AV),
 PureIs Tryd.prog 27 [nI 4, .agg [nI i45, nS s46, nI i47, .sl l48], .agg [nI i49, nS s50, nI i51, .sl l52]] (.agg [nI i53, nS s54, nI i55, .sl l56]) ∧
 ∃ (i57 : Int) (s58 : ByteArray) (i59 : Int) (l60 : List AV),
 PureIs Tryd.prog 27 [nI 4, .agg [nI i41, nS s42, nI i43, .sl l44], .agg [nI i53, nS s54, nI i55, .sl l56]] (.agg [nI i57, nS s58, nI i59, .sl l60]) ∧
 ∃ (s61 : ByteArray) (i62 : Int),
 PureIs Tryd.prog 9 [.agg [nI i57, nS s58, nI i59, .sl l60]] (.tup [nS s61, nI i62]) ∧
 ITE (i10 == 0)
 (ITE (strEq s9 (⟨#[92, 118, 48, 58, 97, 46, 32, 102, 32, 118, 48]⟩ : ByteArray))
 (ITE (i32 == 0)
 (ITE (strEq s31 (⟨#[40, 97, 32, 45, 62, 32, 97, 41, 32, 45, 62, 32, 98]⟩ : ByteArray))
 (ITE (i62 == 0)
 (R (nB (strEq s61 (⟨#[102, 32, 120, 32, 40, 103, 32, 121, 41]⟩ : ByteArray))))
 (R (nB false)))
 (R (nB false)))
 (R (nB false)))
 (R (nB false)))
 (R (nB false))
theorem vc6_ok {R : AV → Prop} (h : vc6 R) : Pure Tryd.prog 6 [] R :=
 pure_of_code (C := cfg (Func.ntmps Tryd.f6)) (cfg_tab _ _ _ _ _) (cfg_ord _ _ _ _ _) (L := []) (fn := Tryd.f6) Tryd.func6 (by exact rfl) (by kernel_rfl) (by kernel_rfl) (by rfl) (of_eq (by kernel_rfl) h)
def vc88 (a0 : List AV) (a1 : Int) (R : AV → Prop) : Prop :=
 ITE (decide (a1 < 0))
 (R (.tup [.agg [nI 0, nS ⟨#[]⟩, nI 0, .sl []], nB false]))
 (ITE (decide (a1 ≥ ((List.length a0 : Nat) : Int)))
 (R (.tup [.agg [nI 0, nS ⟨#[]⟩, nI 0, .sl []], nB false]))
 (0 ≤ a1 ∧
 a1 < List.length a0 ∧
 ∃ (s1 : ByteArray),
 List.getD a0 (Int.toNat a1) .top = nS s1 ∧
 R (.tup [.agg [nI 1, nS s1, nI 0, .sl []], nB true])))
theorem vc88_ok {a0 : List AV} {a1 : Int} {R : AV → Prop} (h : vc88 a0 a1 R) : Pure Tryd.prog 88 [.sl a0, nI a1] R :=
 pure_of_code (C := cfg (Func.ntmps Tryd.f88)) (cfg_tab _ _ _ _ _) (cfg_ord _ _ _ _ _) (L := []) (fn := Tryd.f88) Tryd.func88 (by exact rfl) (by kernel_rfl) (by kernel_rfl) (by rfl) (of_eq (by kernel_rfl) h)
def vc73 (a0_0 a0_1 a0_2 a1_0 : List AV) (a1_1 : Int) (R : AV → Prop) : Prop :=
 ∃ (i1 : Int) (s2 : ByteArray) (i3 : Int) (l4 : List AV) (b5 : Bool),
 PureIs Tryd.prog 88 [.sl a0_0, nI a1_1] (.tup [.agg [nI i1, nS s2, nI i3, .sl l4], nB b5]) ∧
 ITE (!b5)
 (R (.tup [.agg [nI 0, nS ⟨#[]⟩, nI 0, .sl []], nI 10]))
 (PureIs Tryd.prog 72 [.sl a1_0] (.clo 89 [.eptr (.sl a1_0) 0]) ∧
 RangeP ((List AV × List AV × List AV × Unit) × (List AV × Int × Unit) × (Int × ByteArray × Int × Unit × Unit) × (Int × Unit) × (Int × ByteArray × Int × List AV × Unit) × Unit) (Int × (List AV × Int × Unit) × Unit) ((a0_0, a0_1, a0_2, ()), (a1_0, a1_1, ()), (0, ⟨#[]⟩, 0, (), ()), (0, ()), (i1, s2, i3, l4, ()), ()) (fun Ls => SeqIs Tryd.prog 89 [.eptr (.sl a1_0) 0] [.v (.c (.i .i64)), .v (.a [.l, .i .i64])] Ls)
 (fun e7 z6 again8 =>
 ∃ (i9 : Int) (s10 : ByteArray) (i11 : Int) (l12 : List AV) (i13 : Int),
 PureIs Tryd.prog 73 [.agg [.sl z6.1.1, .sl z6.1.2.1, .sl z6.1.2.2.1], .agg [.sl e7.2.1.1, nI e7.2.1.2.1]] (.tup [.agg [nI i9, nS s10, nI i11, .sl l12], nI i13]) ∧
 ITE (i13 != 0)
 (R (.tup [.agg [nI 0, nS ⟨#[]⟩, nI 0, .sl []], nI i13]))
 (again8 ((z6.1.1, z6.1.2.1, z6.1.2.2.1, ()), (z6.2.1.1, z6.2.1.2.1, ()), (z6.2.2.1.1, z6.2.2.1.2.1, z6.2.2.1.2.2.1, (), ()), (z6.2.2.2.1.1, ()), (2, ⟨#[]⟩, 0, [.agg [nI i9, nS s10, nI i11, .sl l12], .agg [nI z6.2.2.2.2.1.1, nS z6.2.2.2.2.1.2.1, nI z6.2.2.2.2.1.2.2.1, .sl z6.2.2.2.2.1.2.2.2.1]], ()), ())))
 (fun z14 =>
 R (.tup [.agg [nI z14.2.2.2.2.1.1, nS z14.2.2.2.2.1.2.1, nI z14.2.2.2.2.1.2.2.1, .sl z14.2.2.2.2.1.2.2.2.1], nI 0])))
theorem vc73_ok {a0_0 a0_1 a0_2 a1_0 : List AV} {a1_1 : Int} {R : AV → Prop} (h : vc73 a0_0 a0_1 a0_2 a1_0 a1_1 R) : Pure Tryd.prog 73 [.agg [.sl a0_0, .sl a0_1, .sl a0_2], .agg [.sl a1_0, nI a1_1]] R :=
 pure_of_code (C := cfg (Func.ntmps Tryd.f73) [] [(72, .clo 89)] []) (cfg_tab _ _ _ _ _) (cfg_ord _ _ _ _ _) (L := [{ key := 6, live := [], prm := [.v (.c (.i .i64)), .v (.a [.l, .i .i64])] }]) (fn := Tryd.f73) Tryd.func73 (by exact rfl) (by kernel_rfl) (by kernel_rfl) (by rfl) (of_eq (by kernel_rfl) h)
def vc71 (a0_0 a0_1 a0_2 : List AV) (a0_3 : List (ByteArray × Value)) (a1_0 a1_1 a2 : Int) (R : AV → Prop) : Prop :=
 ITE (a1_0 == 0)
 (∃ (s1 : ByteArray),
 PureIs Tryd.prog 74 [.agg [.sl a0_0, .sl a0_1, .sl a0_2, .mapv (.s a0_3)], nI (IntKind.wrap .i64 ((IntKind.wrap .i64 (a2 - 1)) - a1_1))] (nS s1) ∧
 R (.tup [.agg [nI 1, nS s1, nI 0, .sl []], nB true]))
 (ITE (a1_0 == 1)
 (∃ (i2 : Int) (s3 : ByteArray) (i4 : Int) (l5 : List AV) (b6 : Bool),
 PureIs Tryd.prog 88 [.sl a0_1, nI a1_1] (.tup [.agg [nI i2, nS s3, nI i4, .sl l5], nB b6]) ∧
 R (.tup [.agg [nI i2, nS s3, nI i4, .sl l5], nB b6]))
 (ITE (a1_0 == 2)
 (∃ (i7 : Int) (s8 : ByteArray) (i9 : Int) (l10 : List AV) (b11 : Bool),
 PureIs Tryd.prog 88 [.sl a0_2, nI a1_1] (.tup [.agg [nI i7, nS s8, nI i9, .sl l10], nB b11]) ∧
 R (.tup [.agg [nI i7, nS s8, nI i9, .sl l10], nB b11]))
 (R (.tup [.agg [nI 0, nS ⟨#[]⟩, nI 0, .sl []], nB false]))))
theorem vc71_ok {a0_0 a0_1 a0_2 : List AV} {a0_3 : List (ByteArray × Value)} {a1_0 a1_1 a2 : Int} {R : AV → Prop} (h : vc71 a0_0 a0_1 a0_2 a0_3 a1_0 a1_1 a2 R) : Pure Tryd.prog 71 [.agg [.sl a0_0, .sl a0_1, .sl a0_2, .mapv (.s a0_3)], .agg [nI a1_0, nI a1_1], nI a2] R :=
 pure_of_code (C := cfg (Func.ntmps Tryd.f71)) (cfg_tab _ _ _ _ _) (cfg_ord _ _ _ _ _) (L := []) (fn := Tryd.f71) Tryd.func71 (by exact rfl) (by kernel_rfl) (by kernel_rfl) (by rfl) (of_eq (by kernel_rfl) h)
def vc74_L2 (p0 : (Unit × ByteArray × Unit) × ((List AV × List AV × List AV × (List (ByteArray × Value)) × Unit) × Unit)) (R : AV → Prop) : Prop :=
 LoopP _ p0 fun z51 ag52 =>
 Option.getD (mapGet z51.2.1.2.2.2.1 z51.1.2.1) (.bool false) = .bool (vBool (Option.getD (mapGet z51.2.1.2.2.2.1 z51.1.2.1) (.bool false))) ∧
 ITE (vBool (Option.getD (mapGet z51.2.1.2.2.2.1 z51.1.2.1) (.bool false)))
 (ByteArray.size z51.1.2.1 + ByteArray.size (⟨#[39]⟩ : ByteArray) ≤ 9223372036854775807 ∧
 ag52 (((), z51.1.2.1 ++ (⟨#[39]⟩ : ByteArray), ()), ((z51.2.1.1, z51.2.1.2.1, z51.2.1.2.2.1, z51.2.1.2.2.2.1, ()), ())))
 (R (nS z51.1.2.1))
def vc74 (a0_0 a0_1 a0_2 : List AV) (a0_3 : List (ByteArray × Value)) (a1 : Int) (R : AV → Prop) : Prop :=
 ∃ (s1 : ByteArray),
 PureIs Tryd.prog 55 [nI a1] (nS s1) ∧
 ByteArray.size (⟨#[118]⟩ : ByteArray) + ByteArray.size s1 ≤ 9223372036854775807 ∧
 vc74_L2 (((), (⟨#[118]⟩ : ByteArray) ++ s1, ()), ((a0_0, a0_1, a0_2, a0_3, ()), ())) R
theorem vc74_ok {a0_0 a0_1 a0_2 : List AV} {a0_3 : List (ByteArray × Value)} {a1 : Int} {R : AV → Prop} (h : vc74 a0_0 a0_1 a0_2 a0_3 a1 R) : Pure Tryd.prog 74 [.agg [.sl a0_0, .sl a0_1, .sl a0_2, .mapv (.s a0_3)], nI a1] R :=
 pure_of_code (C := cfg (Func.ntmps Tryd.f74)) (cfg_tab _ _ _ _ _) (cfg_ord _ _ _ _ _) (L := [{ key := 2, live := [(2, none), (5, none)] }]) (fn := Tryd.f74) Tryd.func74 (by exact rfl) (by kernel_rfl) (by kernel_rfl) (by rfl) (of_eq (by kernel_rfl) h)
def vc60_L6 (p0 : (Unit × Unit × Unit × Unit × Unit × Int × Unit × Unit × Unit × List AV × Int × Int × Unit × Unit × Unit) × ((List AV × List AV × List AV × (List (ByteArray × Value)) × Unit) × (List AV × Int × Int × List AV × Unit) × (Int × Unit) × (Int × ByteArray × Int × Unit × Unit) × (Int × Unit) × (Int × ByteArray × Int × List AV × Unit) × Unit)) (R : AV → Prop) : Prop :=
 LoopP _ p0 fun z51 ag52 =>
 ITE (decide (z51.1.2.2.2.2.2.2.2.2.2.2.2.1 < z51.1.2.2.2.2.2.2.2.2.2.2.1))
 (0 ≤ z51.1.2.2.2.2.2.2.2.2.2.2.2.1 ∧
 z51.1.2.2.2.2.2.2.2.2.2.2.2.1 < List.length z51.1.2.2.2.2.2.2.2.2.2.1 ∧
 ∃ (l53 : List AV) (i54 i55 : Int) (l56 : List AV),
 List.getD z51.1.2.2.2.2.2.2.2.2.2.1 (Int.toNat z51.1.2.2.2.2.2.2.2.2.2.2.2.1) .top = .agg [.sl l53, nI i54, nI i55, .sl l56] ∧
 ∃ (i57 : Int) (s58 : ByteArray) (i59 : Int) (l60 : List AV) (i61 : Int),
 PureIs Tryd.prog 60 [.agg [.sl z51.2.1.1, .sl z51.2.1.2.1, .sl z51.2.1.2.2.1, .mapv (.s z51.2.1.2.2.2.1)], .agg [.sl l53, nI i54, nI i55, .sl l56], nI z51.1.2.2.2.2.2.1] (.tup [.agg [nI i57, nS s58, nI i59, .sl l60], nI i61]) ∧
 ITE (i61 != 0)
 (R (.tup [.agg [nI 0, nS ⟨#[]⟩, nI 0, .sl []], nI i61]))
 (ag52 (((), (), (), (), (), z51.1.2.2.2.2.2.1, (), (), (), z51.1.2.2.2.2.2.2.2.2.2.1, z51.1.2.2.2.2.2.2.2.2.2.2.1, IntKind.wrap .i64 (z51.1.2.2.2.2.2.2.2.2.2.2.2.1 + 1), (), (), ()), ((z51.2.1.1, z51.2.1.2.1, z51.2.1.2.2.1, z51.2.1.2.2.2.1, ()), (z51.2.2.1.1, z51.2.2.1.2.1, z51.2.2.1.2.2.1, z51.2.2.1.2.2.2.1, ()), (z51.2.2.2.1.1, ()), (z51.2.2.2.2.1.1, z51.2.2.2.2.1.2.1, z51.2.2.2.2.1.2.2.1, (), ()), (z51.2.2.2.2.2.1.1, ()), (4, ⟨#[]⟩, 0, [.agg [nI z51.2.2.2.2.2.2.1.1, nS z51.2.2.2.2.2.2.1.2.1, nI z51.2.2.2.2.2.2.1.2.2.1, .sl z51.2.2.2.2.2.2.1.2.2.2.1], .agg [nI i57, nS s58, nI i59, .sl l60]], ()), ()))))
 (PureIs Tryd.prog 72 [.sl z51.2.2.1.1] (.clo 89 [.eptr (.sl z51.2.2.1.1) 0]) ∧
 RangeP ((List AV × List AV × List AV × (List (ByteArray × Value)) × Unit) × (List AV × Int × Int × List AV × Unit) × (Int × Unit) × (Int × ByteArray × Int × Unit × Unit) × (Int × Unit) × (Int × ByteArray × Int × List AV × Unit) × Unit) (Int × (List AV × Int × Unit) × Unit) ((z51.2.1.1, z51.2.1.2.1, z51.2.1.2.2.1, z51.2.1.2.2.2.1, ()), (z51.2.2.1.1, z51.2.2.1.2.1, z51.2.2.1.2.2.1, z51.2.2.1.2.2.2.1, ()), (z51.2.2.2.1.1, ()), (z51.2.2.2.2.1.1, z51.2.2.2.2.1.2.1, z51.2.2.2.2.1.2.2.1, (), ()), (z51.2.2.2.2.2.1.1, ()), (z51.2.2.2.2.2.2.1.1, z51.2.2.2.2.2.2.1.2.1, z51.2.2.2.2.2.2.1.2.2.1, z51.2.2.2.2.2.2.1.2.2.2.1, ()), ()) (fun Ls => SeqIs Tryd.prog 89 [.eptr (.sl z51.2.2.1.1) 0] [.v (.c (.i .i64)), .v (.a [.l, .i .i64])] Ls)
 (fun e62 z63 ag64 =>
 ∃ (i65 : Int) (s66 : ByteArray) (i67 : Int) (l68 : List AV) (i69 : Int),
 PureIs Tryd.prog 73 [.agg [.sl z63.1.1, .sl z63.1.2.1, .sl z63.1.2.2.1], .agg [.sl e62.2.1.1, nI e62.2.1.2.1]] (.tup [.agg [nI i65, nS s66, nI i67, .sl l68], nI i69]) ∧
 ITE (i69 != 0)
 (R (.tup [.agg [nI 0, nS ⟨#[]⟩, nI 0, .sl []], nI i69]))
 (∃ (s70 : ByteArray),
 PureIs Tryd.prog 74 [.agg [.sl z63.1.1, .sl z63.1.2.1, .sl z63.1.2.2.1, .mapv (.s z63.1.2.2.2.1)], nI (IntKind.wrap .i64 (z63.2.2.1.1 + e62.1))] (nS s70) ∧
 ag64 ((z63.1.1, z63.1.2.1, z63.1.2.2.1, z63.1.2.2.2.1, ()), (z63.2.1.1, z63.2.1.2.1, z63.2.1.2.2.1, z63.2.1.2.2.2.1, ()), (z63.2.2.1.1, ()), (z63.2.2.2.1.1, z63.2.2.2.1.2.1, z63.2.2.2.1.2.2.1, (), ()), (z63.2.2.2.2.1.1, ()), (3, s70, 0, [.agg [nI i65, nS s66, nI i67, .sl l68], .agg [nI z63.2.2.2.2.2.1.1, nS z63.2.2.2.2.2.1.2.1, nI z63.2.2.2.2.2.1.2.2.1, .sl z63.2.2.2.2.2.1.2.2.2.1]], ()), ())))
 (fun z71 =>
 R (.tup [.agg [nI z71.2.2.2.2.2.1.1, nS z71.2.2.2.2.2.1.2.1, nI z71.2.2.2.2.2.1.2.2.1, .sl z71.2.2.2.2.2.1.2.2.2.1], nI 0])))
def vc60 (a0_0 a0_1 a0_2 : List AV) (a0_3 : List (ByteArray × Value)) (a1_0 : List AV) (a1_1 a1_2 : Int) (a1_3 : List AV) (a2 : Int) (R : AV → Prop) : Prop :=
 ∃ (i1 : Int) (s2 : ByteArray) (i3 : Int) (l4 : List AV) (b5 : Bool),
 PureIs Tryd.prog 71 [.agg [.sl a0_0, .sl a0_1, .sl a0_2, .mapv (.s a0_3)], .agg [nI a1_1, nI a1_2], nI (IntKind.wrap .i64 (a2 + ((List.length a1_0 : Nat) : Int)))] (.tup [.agg [nI i1, nS s2, nI i3, .sl l4], nB b5]) ∧
 ITE (!b5)
 (R (.tup [.agg [nI 0, nS ⟨#[]⟩, nI 0, .sl []], nI 10]))
 (vc60_L6 (((), (), (), (), (), IntKind.wrap .i64 (a2 + ((List.length a1_0 : Nat) : Int)), (), (), (), a1_3, ((List.length a1_3 : Nat) : Int), 0, (), (), ()), ((a0_0, a0_1, a0_2, a0_3, ()), (a1_0, a1_1, a1_2, a1_3, ()), (a2, ()), (0, ⟨#[]⟩, 0, (), ()), (0, ()), (i1, s2, i3, l4, ()), ())) R)
theorem vc60_ok {a0_0 a0_1 a0_2 : List AV} {a0_3 : List (ByteArray × Value)} {a1_0 : List AV} {a1_1 a1_2 : Int} {a1_3 : List AV} {a2 : Int} {R : AV → Prop} (h : vc60 a0_0 a0_1 a0_2 a0_3 a1_0 a1_1 a1_2 a1_3 a2 R) : Pure Tryd.prog 60 [.agg [.sl a0_0, .sl a0_1, .sl a0_2, .mapv (.s a0_3)], .agg [.sl a1_0, nI a1_1, nI a1_2, .sl a1_3], nI a2] R :=
 pure_of_code (C := cfg (Func.ntmps Tryd.f60) [] [(72, .clo 89)] []) (cfg_tab _ _ _ _ _) (cfg_ord _ _ _ _ _) (L := [{ key := 6, live := [(3, none), (4, none), (5, none), (6, none), (7, none), (8, none), (9, none), (15, none), (16, none), (36, none), (37, none), (38, none), (61, none), (62, none)] }, { key := 16, live := [], prm := [.v (.c (.i .i64)), .v (.a [.l, .i .i64])] }]) (fn := Tryd.f60) Tryd.func60 (by exact rfl) (by kernel_rfl) (by kernel_rfl) (by rfl) (of_eq (by kernel_rfl) h)
def vc43_L5 (p0 : (Unit × Unit × Unit × Unit × List AV × Int × Int × Unit) × ((List AV × List AV × List AV × Unit) × (List AV × Int × Int × List AV × Unit) × (Int × ByteArray × Int × Unit × Unit) × (List (ByteArray × Value)) × Unit)) (R : AV → Prop) : Prop :=
 LoopP _ p0 fun z51 ag52 =>
 ITE (decide (z51.1.2.2.2.2.2.2.1 < z51.1.2.2.2.2.2.1))
 (0 ≤ z51.1.2.2.2.2.2.2.1 ∧
 z51.1.2.2.2.2.2.2.1 < List.length z51.1.2.2.2.2.1 ∧
 ∃ (s53 : ByteArray),
 List.getD z51.1.2.2.2.2.1 (Int.toNat z51.1.2.2.2.2.2.2.1) .top = nS s53 ∧
 ag52 (((), (), (), (), z51.1.2.2.2.2.1, z51.1.2.2.2.2.2.1, IntKind.wrap .i64 (z51.1.2.2.2.2.2.2.1 + 1), ()), ((z51.2.1.1, z51.2.1.2.1, z51.2.1.2.2.1, ()), (z51.2.2.1.1, z51.2.2.1.2.1, z51.2.2.1.2.2.1, z51.2.2.1.2.2.2.1, ()), (z51.2.2.2.1.1, z51.2.2.2.1.2.1, z51.2.2.2.1.2.2.1, (), ()), mapPut z51.2.2.2.2.1 s53 (.bool true), ())))
 (∃ (b54 : Bool),
 PureIs Tryd.prog 59 [.agg [.sl z51.2.1.1, .sl z51.2.1.2.1, .sl z51.2.1.2.2.1], .agg [.sl z51.2.2.1.1, nI z51.2.2.1.2.1, nI z51.2.2.1.2.2.1, .sl z51.2.2.1.2.2.2.1]] (nB b54) ∧
 ITE (!b54)
 (R (.tup [.agg [nI 0, nS ⟨#[]⟩, nI 0, .sl []], nI 10]))
 (∃ (i55 : Int) (s56 : ByteArray) (i57 : Int) (l58 : List AV) (i59 : Int),
 PureIs Tryd.prog 60 [.agg [.sl z51.2.1.1, .sl z51.2.1.2.1, .sl z51.2.1.2.2.1, .mapv (.s z51.2.2.2.2.1)], .agg [.sl z51.2.2.1.1, nI z51.2.2.1.2.1, nI z51.2.2.1.2.2.1, .sl z51.2.2.1.2.2.2.1], nI 0] (.tup [.agg [nI i55, nS s56, nI i57, .sl l58], nI i59]) ∧
 R (.tup [.agg [nI i55, nS s56, nI i57, .sl l58], nI i59])))
def vc43 (a0_0 a0_1 a0_2 a1_0 : List AV) (a1_1 a1_2 : Int) (a1_3 : List AV) (R : AV → Prop) : Prop :=
 ∃ (b1 : Bool),
 PureIs Tryd.prog 56 [.agg [.sl a1_0, nI a1_1, nI a1_2, .sl a1_3]] (nB b1) ∧
 ITE (!b1)
 (R (.tup [.agg [nI 0, nS ⟨#[]⟩, nI 0, .sl []], nI 1]))
 (∃ (i2 : Int),
 PureIs Tryd.prog 57 [.agg [.sl a1_0, nI a1_1, nI a1_2, .sl a1_3]] (nI i2) ∧
 ITE (decide (i2 > 0))
 (R (.tup [.agg [nI 0, nS ⟨#[]⟩, nI 0, .sl []], nI 1]))
 (∃ (l3 : List AV),
 PureIs Tryd.prog 58 [.sl [.sl a0_1, .sl a0_2]] (.sl l3) ∧
 vc43_L5 (((), (), (), (), l3, ((List.length l3 : Nat) : Int), 0, ()), ((a0_0, a0_1, a0_2, ()), (a1_0, a1_1, a1_2, a1_3, ()), (0, ⟨#[]⟩, 0, (), ()), [], ())) R))
theorem vc43_ok {a0_0 a0_1 a0_2 a1_0 : List AV} {a1_1 a1_2 : Int} {a1_3 : List AV} {R : AV → Prop} (h : vc43 a0_0 a0_1 a0_2 a1_0 a1_1 a1_2 a1_3 R) : Pure Tryd.prog 43 [.agg [.sl a0_0, .sl a0_1, .sl a0_2], .agg [.sl a1_0, nI a1_1, nI a1_2, .sl a1_3]] R :=
 pure_of_code (C := cfg (Func.ntmps Tryd.f43) [] [(60, .frz (.t [.a [.i .i64, .s, .i .i64, .l], .c (.i .i64)]))] []) (cfg_tab _ _ _ _ _) (cfg_ord _ _ _ _ _) (L := [{ key := 5, live := [(2, none), (3, none), (4, none), (6, none), (24, none), (25, none), (26, none)] }]) (fn := Tryd.f43) Tryd.func43 (by exact rfl) (by kernel_rfl) (by kernel_rfl) (by rfl) (of_eq (by kernel_rfl) h)
def vc70 (n0 n1 n2 a0_0 : List AV) (a0_1 a0_2 : Int) (a0_3 : List AV) (R : AV → Prop) : Prop :=
 ∃ (b1 : Bool),
 PureIs Tryd.prog 59 [.agg [.sl n0, .sl n1, .sl n2], .agg [.sl a0_0, nI a0_1, nI a0_2, .sl a0_3]] (nB b1) ∧
 R (nB (!b1))
theorem vc70_ok {n0 n1 n2 a0_0 : List AV} {a0_1 a0_2 : Int} {a0_3 : List AV} {R : AV → Prop} (h : vc70 n0 n1 n2 a0_0 a0_1 a0_2 a0_3 R) : Pure Tryd.prog 70 [.agg [.sl a0_0, nI a0_1, nI a0_2, .sl a0_3], .eptr (.agg [.sl n0, .sl n1, .sl n2]) 0] R :=
 pure_of_code (C := cfg (Func.ntmps Tryd.f70)) (cfg_tab _ _ _ _ _) (cfg_ord _ _ _ _ _) (L := []) (fn := Tryd.f70) Tryd.func70 (by exact rfl) (by kernel_rfl) (by kernel_rfl) (by rfl) (of_eq (by kernel_rfl) h)
def vc87_L2 (p0 : (List AV × (Unit × Unit) × Int × Int × Unit) × (Unit)) (p1 p2 p3 : List AV) (R : AV → Prop) : Prop :=
 LoopP _ p0 fun z51 ag52 =>
 ITE (decide (z51.1.2.2.2.1 < z51.1.2.2.1))
 (0 ≤ z51.1.2.2.2.1 ∧
 z51.1.2.2.2.1 < List.length z51.1.1 ∧
 ∃ (l53 : List AV) (i54 i55 : Int) (l56 : List AV),
 List.getD z51.1.1 (Int.toNat z51.1.2.2.2.1) .top = .agg [.sl l53, nI i54, nI i55, .sl l56] ∧
 ∃ (b57 : Bool),
 PureIs Tryd.prog 70 [.agg [.sl l53, nI i54, nI i55, .sl l56], .eptr (.agg [.sl p1, .sl p2, .sl p3]) 0] (nB b57) ∧
 ITE b57
 (R (nI z51.1.2.2.2.1))
 ((.eptr (.agg [.sl p1, .sl p2, .sl p3]) 0 : AV) = .eptr (.agg [.sl p1, .sl p2, .sl p3]) 0 ∧
 ag52 ((z51.1.1, ((), ()), z51.1.2.2.1, IntKind.wrap .i64 (z51.1.2.2.2.1 + 1), ()), ())))
 (R (nI (-1)))
def vc87 (n0 n1 n2 a0 : List AV) (R : AV → Prop) : Prop :=
 (.eptr (.agg [.sl n0, .sl n1, .sl n2]) 0 : AV) = .eptr (.agg [.sl n0, .sl n1, .sl n2]) 0 ∧
 vc87_L2 ((a0, ((), ()), ((List.length a0 : Nat) : Int), 0, ()), ()) n0 n1 n2 R
theorem vc87_ok {n0 n1 n2 a0 : List AV} {R : AV → Prop} (h : vc87 n0 n1 n2 a0 R) : Pure Tryd.prog 87 [.sl a0, .clo 70 [.eptr (.agg [.sl n0, .sl n1, .sl n2]) 0]] R :=
 pure_of_code (C := cfg (Func.ntmps Tryd.f87)) (cfg_tab _ _ _ _ _) (cfg_ord _ _ _ _ _) (L := [{ key := 2, live := [(0, none), (1, some (.f 70 [.c (.q (.eptr (.agg [.sl n0, .sl n1, .sl n2]) 0))])), (7, none), (8, none)] }]) (fn := Tryd.f87) Tryd.func87 (by exact rfl) (by kernel_rfl) (by kernel_rfl) (by rfl) (of_eq (by kernel_rfl) h)
def vc69 (n0 n1 n2 a0 : List AV) (R : AV → Prop) : Prop :=
 ∃ (i1 : Int),
 PureIs Tryd.prog 87 [.sl a0, .clo 70 [.eptr (.agg [.sl n0, .sl n1, .sl n2]) 0]] (nI i1) ∧
 R (nB (decide (i1 ≥ 0)))
theorem vc69_ok {n0 n1 n2 a0 : List AV} {R : AV → Prop} (h : vc69 n0 n1 n2 a0 R) : Pure Tryd.prog 69 [.sl a0, .clo 70 [.eptr (.agg [.sl n0, .sl n1, .sl n2]) 0]] R :=
 pure_of_code (C := cfg (Func.ntmps Tryd.f69)) (cfg_tab _ _ _ _ _) (cfg_ord _ _ _ _ _) (L := []) (fn := Tryd.f69) Tryd.func69 (by exact rfl) (by kernel_rfl) (by kernel_rfl) (by rfl) (of_eq (by kernel_rfl) h)
def vc59 (a0_0 a0_1 a0_2 a1_0 : List AV) (a1_1 a1_2 : Int) (a1_3 : List AV) (R : AV → Prop) : Prop :=
 ITE (a1_1 == 0)
 (ITE (decide (a1_2 < 0))
 (R (nB false))
 (∃ (b1 : Bool),
 PureIs Tryd.prog 69 [.sl a1_3, .clo 70 [.eptr (.agg [.sl a0_0, .sl a0_1, .sl a0_2]) 0]] (nB b1) ∧
 R (nB (!b1))))
 (∃ (b2 : Bool),
 PureIs Tryd.prog 69 [.sl a1_3, .clo 70 [.eptr (.agg [.sl a0_0, .sl a0_1, .sl a0_2]) 0]] (nB b2) ∧
 R (nB (!b2)))
theorem vc59_ok {a0_0 a0_1 a0_2 a1_0 : List AV} {a1_1 a1_2 : Int} {a1_3 : List AV} {R : AV → Prop} (h : vc59 a0_0 a0_1 a0_2 a1_0 a1_1 a1_2 a1_3 R) : Pure Tryd.prog 59 [.agg [.sl a0_0, .sl a0_1, .sl a0_2], .agg [.sl a1_0, nI a1_1, nI a1_2, .sl a1_3]] R :=
 pure_of_code (C := cfg (Func.ntmps Tryd.f59) [] [(69, .frz (.v (.c (.b))))] []) (cfg_tab _ _ _ _ _) (cfg_ord _ _ _ _ _) (L := []) (fn := Tryd.f59) Tryd.func59 (by exact rfl) (by kernel_rfl) (by kernel_rfl) (by rfl) (of_eq (by kernel_rfl) h)
def vc23 (a0_0 a0_1 a0_2 a1_0 : List AV) (a1_1 a1_2 : Int) (a1_3 : List AV) (R : AV → Prop) : Prop :=
 ∃ (i1 : Int) (s2 : ByteArray) (i3 : Int) (l4 : List AV) (i5 : Int),
 PureIs Tryd.prog 43 [.agg [.sl a0_0, .sl a0_1, .sl a0_2], .agg [.sl a1_0, nI a1_1, nI a1_2, .sl a1_3]] (.tup [.agg [nI i1, nS s2, nI i3, .sl l4], nI i5]) ∧
 ITE (i5 != 0)
 (R (.tup [nS (⟨#[]⟩ : ByteArray), nI i5]))
 (∃ (s6 : ByteArray) (i7 : Int),
 PureIs Tryd.prog 9 [.agg [nI i1, nS s2, nI i3, .sl l4]] (.tup [nS s6, nI i7]) ∧
 R (.tup [nS s6, nI i7]))
theorem vc23_ok {a0_0 a0_1 a0_2 a1_0 : List AV} {a1_1 a1_2 : Int} {a1_3 : List AV} {R : AV → Prop} (h : vc23 a0_0 a0_1 a0_2 a1_0 a1_1 a1_2 a1_3 R) : Pure Tryd.prog 23 [.agg [.sl a0_0, .sl a0_1, .sl a0_2], .agg [.sl a1_0, nI a1_1, nI a1_2, .sl a1_3]] R :=
 pure_of_code (C := cfg (Func.ntmps Tryd.f23)) (cfg_tab _ _ _ _ _) (cfg_ord _ _ _ _ _) (L := []) (fn := Tryd.f23) Tryd.func23 (by exact rfl) (by kernel_rfl) (by kernel_rfl) (by rfl) (of_eq (by kernel_rfl) h)
def vc8 (a0_0 : Int) (a0_1 : ByteArray) (a0_2 : Int) (a0_3 : List AV) (R : AV → Prop) : Prop :=
 ∃ (b1 : Bool),
 PureIs Tryd.prog 14 [.agg [nI a0_0, nS a0_1, nI a0_2, .sl a0_3]] (nB b1) ∧
 ITE (!b1)
 (R (.tup [nS (⟨#[]⟩ : ByteArray), nI 1]))
 (∃ (S4 : AV → List AObj → Prop),
 HFn Tryd.prog 28 [.agg [.ptr 0 0], .agg [nI a0_0, nS a0_1, nI a0_2, .sl a0_3]] [.bld 1 (List.length ([] : List AV)), .row 5 1 []] S4 ∧
 ∀ (r2 : AV) (q3 : List AObj), S4 r2 q3 →
 ∃ (l5 : List AV),
 (r2 = .tup [] ∧ q3 = [.bld 1 (List.length l5), .row 5 1 l5]) ∧
 ∃ (S8 : AV → List AObj → Prop),
 HFn Tryd.prog 29 [.ptr 0 0] [.bld 1 (List.length l5), .row 5 1 l5] S8 ∧
 ∀ (r6 : AV) (q7 : List AObj), S8 r6 q7 →
 ∃ (s9 : ByteArray),
 (r6 = nS s9 ∧ q7 = [.dead, .dead]) ∧
 R (.tup [nS s9, nI 0]))
theorem vc8_ok {a0_0 : Int} {a0_1 : ByteArray} {a0_2 : Int} {a0_3 : List AV} {R : AV → Prop} (h : vc8 a0_0 a0_1 a0_2 a0_3 R) : Pure Tryd.prog 8 [.agg [nI a0_0, nS a0_1, nI a0_2, .sl a0_3]] R :=
 pure_of_code (C := cfg (Func.ntmps Tryd.f8) [] [sxVd1_0, sxVd1_1, sxVd1_2, sxVd1_3, sxVd1_4, sxVd1_5, sxVd1_6] []) (cfg_tab _ _ _ _ _) (cfg_ord _ _ _ _ _) (L := []) (fn := Tryd.f8) Tryd.func8 (by exact rfl) (by kernel_rfl) (by kernel_rfl) (by rfl) (of_eq (by kernel_rfl) h)
def vc9 (a0_0 : Int) (a0_1 : ByteArray) (a0_2 : Int) (a0_3 : List AV) (R : AV → Prop) : Prop :=
 ∃ (b1 : Bool),
 PureIs Tryd.prog 15 [.agg [nI a0_0, nS a0_1, nI a0_2, .sl a0_3]] (nB b1) ∧
 ITE (!b1)
 (R (.tup [nS (⟨#[]⟩ : ByteArray), nI 1]))
 (∃ (S4 : AV → List AObj → Prop),
 HFn Tryd.prog 30 [.agg [.ptr 0 0], .agg [nI a0_0, nS a0_1, nI a0_2, .sl a0_3]] [.bld 1 (List.length ([] : List AV)), .row 5 1 []] S4 ∧
 ∀ (r2 : AV) (q3 : List AObj), S4 r2 q3 →
 ∃ (l5 : List AV),
 (r2 = .tup [] ∧ q3 = [.bld 1 (List.length l5), .row 5 1 l5]) ∧
 ∃ (S8 : AV → List AObj → Prop),
 HFn Tryd.prog 29 [.ptr 0 0] [.bld 1 (List.length l5), .row 5 1 l5] S8 ∧
 ∀ (r6 : AV) (q7 : List AObj), S8 r6 q7 →
 ∃ (s9 : ByteArray),
 (r6 = nS s9 ∧ q7 = [.dead, .dead]) ∧
 R (.tup [nS s9, nI 0]))
theorem vc9_ok {a0_0 : Int} {a0_1 : ByteArray} {a0_2 : Int} {a0_3 : List AV} {R : AV → Prop} (h : vc9 a0_0 a0_1 a0_2 a0_3 R) : Pure Tryd.prog 9 [.agg [nI a0_0, nS a0_1, nI a0_2, .sl a0_3]] R :=
 pure_of_code (C := cfg (Func.ntmps Tryd.f9) [] [sxVd1_0, sxVd1_1, sxVd1_2, sxVd1_3, sxVd1_4, sxVd1_5, sxVd1_6] []) (cfg_tab _ _ _ _ _) (cfg_ord _ _ _ _ _) (L := []) (fn := Tryd.f9) Tryd.func9 (by exact rfl) (by kernel_rfl) (by kernel_rfl) (by rfl) (of_eq (by kernel_rfl) h)
def vc28 (us : List AV) (a1_0 : Int) (a1_1 : ByteArray) (a1_2 : Int) (a1_3 : List AV) (R : AV → List AObj → Prop) : Prop :=
 ITE (a1_0 == 1)
 (∃ (S3 : AV → List AObj → Prop),
 HFn Tryd.prog 46 [.ptr 0 0, nS a1_1] [.bld 1 (List.length us), .row 5 1 us] S3 ∧
 ∀ (r1 : AV) (q2 : List AObj), S3 r1 q2 →
 ∃ (l4 : List AV) (i5 : Int),
 (r1 = .tup [nI i5, .top] ∧ q2 = [.bld 1 (List.length l4), .row 5 1 l4]) ∧
 R (.tup []) [.bld 1 (List.length l4), .row 5 1 l4])
 (0 ≤ (0 : Int) ∧
 (0 : Int) < List.length a1_3 ∧
 ∃ (i6 : Int) (s7 : ByteArray) (i8 : Int) (l9 : List AV),
 List.getD a1_3 (Int.toNat 0) .top = .agg [nI i6, nS s7, nI i8, .sl l9] ∧
 0 ≤ (0 : Int) ∧
 (0 : Int) < List.length a1_3 ∧
 ∃ (i10 : Int) (s11 : ByteArray) (i12 : Int) (l13 : List AV),
 List.getD a1_3 (Int.toNat 0) .top = .agg [nI i10, nS s11, nI i12, .sl l13] ∧
 ∃ (S16 : AV → List AObj → Prop),
 HFn Tryd.prog 47 [.agg [.ptr 0 0], nB (i6 == 2), .mclo 28 [.agg [.ptr 0 0]], .agg [nI i10, nS s11, nI i12, .sl l13]] [.bld 1 (List.length us), .row 5 1 us] S16 ∧
 ∀ (r14 : AV) (q15 : List AObj), S16 r14 q15 →
 ∃ (l17 : List AV),
 (r14 = .tup [] ∧ q15 = [.bld 1 (List.length l17), .row 5 1 l17]) ∧
 ∃ (S20 : AV → List AObj → Prop),
 HFn Tryd.prog 46 [.ptr 0 0, nS (⟨#[32, 45, 62, 32]⟩ : ByteArray)] [.bld 1 (List.length l17), .row 5 1 l17] S20 ∧
 ∀ (r18 : AV) (q19 : List AObj), S20 r18 q19 →
 ∃ (l21 : List AV) (i22 : Int),
 (r18 = .tup [nI i22, .top] ∧ q19 = [.bld 1 (List.length l21), .row 5 1 l21]) ∧
 0 ≤ (1 : Int) ∧
 (1 : Int) < List.length a1_3 ∧
 ∃ (i23 : Int) (s24 : ByteArray) (i25 : Int) (l26 : List AV),
 List.getD a1_3 (Int.toNat 1) .top = .agg [nI i23, nS s24, nI i25, .sl l26] ∧
 ∃ (S29 : AV → List AObj → Prop),
 HFn Tryd.prog 28 [.agg [.ptr 0 0], .agg [nI i23, nS s24, nI i25, .sl l26]] [.bld 1 (List.length l21), .row 5 1 l21] S29 ∧
 ∀ (r27 : AV) (q28 : List AObj), S29 r27 q28 →
 ∃ (l30 : List AV),
 (r27 = .tup [] ∧ q28 = [.bld 1 (List.length l30), .row 5 1 l30]) ∧
 R (.tup []) [.bld 1 (List.length l30), .row 5 1 l30])
theorem vc28_ok {us : List AV} {a1_0 : Int} {a1_1 : ByteArray} {a1_2 : Int} {a1_3 : List AV} {R : AV → List AObj → Prop} (h : vc28 us a1_0 a1_1 a1_2 a1_3 R) : HFn Tryd.prog 28 [.agg [.ptr 0 0], .agg [nI a1_0, nS a1_1, nI a1_2, .sl a1_3]] [.bld 1 (List.length us), .row 5 1 us] R :=
 heap_of_code (C := cfg (Func.ntmps Tryd.f28) [] [sxVd1_0, sxVd1_1, sxVd1_2, sxVd1_3, sxVd1_4, sxVd1_5, sxVd1_6] [(3, [47]), (5, [28])]) (cfg_tab _ _ _ _ _) (cfg_ord _ _ _ _ _) (L := []) (fn := Tryd.f28) Tryd.func28 (by exact rfl) (by kernel_rfl) (by kernel_rfl) (by rfl) (of_eq (by kernel_rfl) h)
def vc30 (us : List AV) (a1_0 : Int) (a1_1 : ByteArray) (a1_2 : Int) (a1_3 : List AV) (R : AV → List AObj → Prop) : Prop :=
 ITE (a1_0 == 1)
 (∃ (S3 : AV → List AObj → Prop),
 HFn Tryd.prog 46 [.ptr 0 0, nS a1_1] [.bld 1 (List.length us), .row 5 1 us] S3 ∧
 ∀ (r1 : AV) (q2 : List AObj), S3 r1 q2 →
 ∃ (l4 : List AV) (i5 : Int),
 (r1 = .tup [nI i5, .top] ∧ q2 = [.bld 1 (List.length l4), .row 5 1 l4]) ∧
 R (.tup []) [.bld 1 (List.length l4), .row 5 1 l4])
 (ITE (a1_0 == 3)
 (ByteArray.size (⟨#[92]⟩ : ByteArray) + ByteArray.size a1_1 ≤ 9223372036854775807 ∧
 ByteArray.size ((⟨#[92]⟩ : ByteArray) ++ a1_1) + ByteArray.size (⟨#[58]⟩ : ByteArray) ≤ 9223372036854775807 ∧
 ∃ (S8 : AV → List AObj → Prop),
 HFn Tryd.prog 46 [.ptr 0 0, nS (((⟨#[92]⟩ : ByteArray) ++ a1_1) ++ (⟨#[58]⟩ : ByteArray))] [.bld 1 (List.length us), .row 5 1 us] S8 ∧
 ∀ (r6 : AV) (q7 : List AObj), S8 r6 q7 →
 ∃ (l9 : List AV) (i10 : Int),
 (r6 = .tup [nI i10, .top] ∧ q7 = [.bld 1 (List.length l9), .row 5 1 l9]) ∧
 0 ≤ (0 : Int) ∧
 (0 : Int) < List.length a1_3 ∧
 ∃ (i11 : Int) (s12 : ByteArray) (i13 : Int) (l14 : List AV),
 List.getD a1_3 (Int.toNat 0) .top = .agg [nI i11, nS s12, nI i13, .sl l14] ∧
 ∃ (S17 : AV → List AObj → Prop),
 HFn Tryd.prog 28 [.agg [.ptr 0 0], .agg [nI i11, nS s12, nI i13, .sl l14]] [.bld 1 (List.length l9), .row 5 1 l9] S17 ∧
 ∀ (r15 : AV) (q16 : List AObj), S17 r15 q16 →
 ∃ (l18 : List AV),
 (r15 = .tup [] ∧ q16 = [.bld 1 (List.length l18), .row 5 1 l18]) ∧
 ∃ (S21 : AV → List AObj → Prop),
 HFn Tryd.prog 46 [.ptr 0 0, nS (⟨#[46, 32]⟩ : ByteArray)] [.bld 1 (List.length l18), .row 5 1 l18] S21 ∧
 ∀ (r19 : AV) (q20 : List AObj), S21 r19 q20 →
 ∃ (l22 : List AV) (i23 : Int),
 (r19 = .tup [nI i23, .top] ∧ q20 = [.bld 1 (List.length l22), .row 5 1 l22]) ∧
 0 ≤ (1 : Int) ∧
 (1 : Int) < List.length a1_3 ∧
 ∃ (i24 : Int) (s25 : ByteArray) (i26 : Int) (l27 : List AV),
 List.getD a1_3 (Int.toNat 1) .top = .agg [nI i24, nS s25, nI i26, .sl l27] ∧
 ∃ (S30 : AV → List AObj → Prop),
 HFn Tryd.prog 30 [.agg [.ptr 0 0], .agg [nI i24, nS s25, nI i26, .sl l27]] [.bld 1 (List.length l22), .row 5 1 l22] S30 ∧
 ∀ (r28 : AV) (q29 : List AObj), S30 r28 q29 →
 ∃ (l31 : List AV),
 (r28 = .tup [] ∧ q29 = [.bld 1 (List.length l31), .row 5 1 l31]) ∧
 R (.tup []) [.bld 1 (List.length l31), .row 5 1 l31])
 (0 ≤ (0 : Int) ∧
 (0 : Int) < List.length a1_3 ∧
 ∃ (i32 : Int) (s33 : ByteArray) (i34 : Int) (l35 : List AV),
 List.getD a1_3 (Int.toNat 0) .top = .agg [nI i32, nS s33, nI i34, .sl l35] ∧
 0 ≤ (0 : Int) ∧
 (0 : Int) < List.length a1_3 ∧
 ∃ (i36 : Int) (s37 : ByteArray) (i38 : Int) (l39 : List AV),
 List.getD a1_3 (Int.toNat 0) .top = .agg [nI i36, nS s37, nI i38, .sl l39] ∧
 ∃ (S42 : AV → List AObj → Prop),
 HFn Tryd.prog 47 [.agg [.ptr 0 0], nB (i32 == 3), .mclo 30 [.agg [.ptr 0 0]], .agg [nI i36, nS s37, nI i38, .sl l39]] [.bld 1 (List.length us), .row 5 1 us] S42 ∧
 ∀ (r40 : AV) (q41 : List AObj), S42 r40 q41 →
 ∃ (l43 : List AV),
 (r40 = .tup [] ∧ q41 = [.bld 1 (List.length l43), .row 5 1 l43]) ∧
 ∃ (S46 : AV → List AObj → Prop),
 HFn Tryd.prog 46 [.ptr 0 0, nS (⟨#[32]⟩ : ByteArray)] [.bld 1 (List.length l43), .row 5 1 l43] S46 ∧
 ∀ (r44 : AV) (q45 : List AObj), S46 r44 q45 →
 ∃ (l47 : List AV) (i48 : Int),
 (r44 = .tup [nI i48, .top] ∧ q45 = [.bld 1 (List.length l47), .row 5 1 l47]) ∧
 0 ≤ (1 : Int) ∧
 (1 : Int) < List.length a1_3 ∧
 ∃ (i49 : Int) (s50 : ByteArray) (i51 : Int) (l52 : List AV),
 List.getD a1_3 (Int.toNat 1) .top = .agg [nI i49, nS s50, nI i51, .sl l52] ∧
 0 ≤ (1 : Int) ∧
 (1 : Int) < List.length a1_3 ∧
 ∃ (i53 : Int) (s54 : ByteArray) (i55 : Int) (l56 : List AV),
 List.getD a1_3 (Int.toNat 1) .top = .agg [nI i53, nS s54, nI i55, .sl l56] ∧
 ∃ (S59 : AV → List AObj → Prop),
 HFn Tryd.prog 47 [.agg [.ptr 0 0], nB (i49 != 1), .mclo 30 [.agg [.ptr 0 0]], .agg [nI i53, nS s54, nI i55, .sl l56]] [.bld 1 (List.length l47), .row 5 1 l47] S59 ∧
 ∀ (r57 : AV) (q58 : List AObj), S59 r57 q58 →
 ∃ (l60 : List AV),
 (r57 = .tup [] ∧ q58 = [.bld 1 (List.length l60), .row 5 1 l60]) ∧
 R (.tup []) [.bld 1 (List.length l60), .row 5 1 l60]))
theorem vc30_ok {us : List AV} {a1_0 : Int} {a1_1 : ByteArray} {a1_2 : Int} {a1_3 : List AV} {R : AV → List AObj → Prop} (h : vc30 us a1_0 a1_1 a1_2 a1_3 R) : HFn Tryd.prog 30 [.agg [.ptr 0 0], .agg [nI a1_0, nS a1_1, nI a1_2, .sl a1_3]] [.bld 1 (List.length us), .row 5 1 us] R :=
 heap_of_code (C := cfg (Func.ntmps Tryd.f30) [] [sxVd1_0, sxVd1_1, sxVd1_2, sxVd1_3, sxVd1_4, sxVd1_5, sxVd1_6] [(2, [47]), (4, [47]), (9, [28]), (11, [30])]) (cfg_tab _ _ _ _ _) (cfg_ord _ _ _ _ _) (L := []) (fn := Tryd.f30) Tryd.func30 (by exact rfl) (by kernel_rfl) (by kernel_rfl) (by rfl) (of_eq (by kernel_rfl) h)
def vc_inTyp (us : List AV) (a1 : Bool) (a3_0 : Int) (a3_1 : ByteArray) (a3_2 : Int) (a3_3 : List AV) (R : AV → List AObj → Prop) : Prop :=
 ITE a1
 (∃ (S3 : AV → List AObj → Prop),
 HFn Tryd.prog 46 [.ptr 0 0, nS (⟨#[40]⟩ : ByteArray)] [.bld 1 (List.length us), .row 5 1 us] S3 ∧
 ∀ (r1 : AV) (q2 : List AObj), S3 r1 q2 →
 ∃ (l4 : List AV) (i5 : Int),
 (r1 = .tup [nI i5, .top] ∧ q2 = [.bld 1 (List.length l4), .row 5 1 l4]) ∧
 ∃ (S8 : AV → List AObj → Prop),
 HFn Tryd.prog 28 [.agg [.ptr 0 0], .agg [nI a3_0, nS a3_1, nI a3_2, .sl a3_3]] [.bld 1 (List.length l4), .row 5 1 l4] S8 ∧
 ∀ (r6 : AV) (q7 : List AObj), S8 r6 q7 →
 ∃ (l9 : List AV),
 (r6 = .tup [] ∧ q7 = [.bld 1 (List.length l9), .row 5 1 l9]) ∧
 ITE a1
 (∃ (S12 : AV → List AObj → Prop),
 HFn Tryd.prog 46 [.ptr 0 0, nS (⟨#[41]⟩ : ByteArray)] [.bld 1 (List.length l9), .row 5 1 l9] S12 ∧
 ∀ (r10 : AV) (q11 : List AObj), S12 r10 q11 →
 ∃ (l13 : List AV) (i14 : Int),
 (r10 = .tup [nI i14, .top] ∧ q11 = [.bld 1 (List.length l13), .row 5 1 l13]) ∧
 R (.tup []) [.bld 1 (List.length l13), .row 5 1 l13])
 (R (.tup []) [.bld 1 (List.length l9), .row 5 1 l9]))
 (∃ (S17 : AV → List AObj → Prop),
 HFn Tryd.prog 28 [.agg [.ptr 0 0], .agg [nI a3_0, nS a3_1, nI a3_2, .sl a3_3]] [.bld 1 (List.length us), .row 5 1 us] S17 ∧
 ∀ (r15 : AV) (q16 : List AObj), S17 r15 q16 →
 ∃ (l18 : List AV),
 (r15 = .tup [] ∧ q16 = [.bld 1 (List.length l18), .row 5 1 l18]) ∧
 ITE a1
 (∃ (S21 : AV → List AObj → Prop),
 HFn Tryd.prog 46 [.ptr 0 0, nS (⟨#[41]⟩ : ByteArray)] [.bld 1 (List.length l18), .row 5 1 l18] S21 ∧
 ∀ (r19 : AV) (q20 : List AObj), S21 r19 q20 →
 ∃ (l22 : List AV) (i23 : Int),
 (r19 = .tup [nI i23, .top] ∧ q20 = [.bld 1 (List.length l22), .row 5 1 l22]) ∧
 R (.tup []) [.bld 1 (List.length l22), .row 5 1 l22])
 (R (.tup []) [.bld 1 (List.length l18), .row 5 1 l18]))
theorem vc_inTyp_ok {us : List AV} {a1 : Bool} {a3_0 : Int} {a3_1 : ByteArray} {a3_2 : Int} {a3_3 : List AV} {R : AV → List AObj → Prop} (h : vc_inTyp us a1 a3_0 a3_1 a3_2 a3_3 R) : HFn Tryd.prog 47 [.agg [.ptr 0 0], nB a1, .mclo 28 [.agg [.ptr 0 0]], .agg [nI a3_0, nS a3_1, nI a3_2, .sl a3_3]] [.bld 1 (List.length us), .row 5 1 us] R :=
 heap_of_code (C := cfg (Func.ntmps Tryd.f47) [] [sxVd1_0, sxVd1_1, sxVd1_2, sxVd1_3, sxVd1_4, sxVd1_5, sxVd1_6] []) (cfg_tab _ _ _ _ _) (cfg_ord _ _ _ _ _) (L := []) (fn := Tryd.f47) Tryd.func47 (by exact rfl) (by kernel_rfl) (by kernel_rfl) (by rfl) (of_eq (by kernel_rfl) h)
def vc_inTerm (us : List AV) (a1 : Bool) (a3_0 : Int) (a3_1 : ByteArray) (a3_2 : Int) (a3_3 : List AV) (R : AV → List AObj → Prop) : Prop :=
 ITE a1
 (∃ (S3 : AV → List AObj → Prop),
 HFn Tryd.prog 46 [.ptr 0 0, nS (⟨#[40]⟩ : ByteArray)] [.bld 1 (List.length us), .row 5 1 us] S3 ∧
 ∀ (r1 : AV) (q2 : List AObj), S3 r1 q2 →
 ∃ (l4 : List AV) (i5 : Int),
 (r1 = .tup [nI i5, .top] ∧ q2 = [.bld 1 (List.length l4), .row 5 1 l4]) ∧
 ∃ (S8 : AV → List AObj → Prop),
 HFn Tryd.prog 30 [.agg [.ptr 0 0], .agg [nI a3_0, nS a3_1, nI a3_2, .sl a3_3]] [.bld 1 (List.length l4), .row 5 1 l4] S8 ∧
 ∀ (r6 : AV) (q7 : List AObj), S8 r6 q7 →
 ∃ (l9 : List AV),
 (r6 = .tup [] ∧ q7 = [.bld 1 (List.length l9), .row 5 1 l9]) ∧
 ITE a1
 (∃ (S12 : AV → List AObj → Prop),
 HFn Tryd.prog 46 [.ptr 0 0, nS (⟨#[41]⟩ : ByteArray)] [.bld 1 (List.length l9), .row 5 1 l9] S12 ∧
 ∀ (r10 : AV) (q11 : List AObj), S12 r10 q11 →
 ∃ (l13 : List AV) (i14 : Int),
 (r10 = .tup [nI i14, .top] ∧ q11 = [.bld 1 (List.length l13), .row 5 1 l13]) ∧
 R (.tup []) [.bld 1 (List.length l13), .row 5 1 l13])
 (R (.tup []) [.bld 1 (List.length l9), .row 5 1 l9]))
 (∃ (S17 : AV → List AObj → Prop),
 HFn Tryd.prog 30 [.agg [.ptr 0 0], .agg [nI a3_0, nS a3_1, nI a3_2, .sl a3_3]] [.bld 1 (List.length us), .row 5 1 us] S17 ∧
 ∀ (r15 : AV) (q16 : List AObj), S17 r15 q16 →
 ∃ (l18 : List AV),
 (r15 = .tup [] ∧ q16 = [.bld 1 (List.length l18), .row 5 1 l18]) ∧
 ITE a1
 (∃ (S21 : AV → List AObj → Prop),
 HFn Tryd.prog 46 [.ptr 0 0, nS (⟨#[41]⟩ : ByteArray)] [.bld 1 (List.length l18), .row 5 1 l18] S21 ∧
 ∀ (r19 : AV) (q20 : List AObj), S21 r19 q20 →
 ∃ (l22 : List AV) (i23 : Int),
 (r19 = .tup [nI i23, .top] ∧ q20 = [.bld 1 (List.length l22), .row 5 1 l22]) ∧
 R (.tup []) [.bld 1 (List.length l22), .row 5 1 l22])
 (R (.tup []) [.bld 1 (List.length l18), .row 5 1 l18]))
theorem vc_inTerm_ok {us : List AV} {a1 : Bool} {a3_0 : Int} {a3_1 : ByteArray} {a3_2 : Int} {a3_3 : List AV} {R : AV → List AObj → Prop} (h : vc_inTerm us a1 a3_0 a3_1 a3_2 a3_3 R) : HFn Tryd.prog 47 [.agg [.ptr 0 0], nB a1, .mclo 30 [.agg [.ptr 0 0]], .agg [nI a3_0, nS a3_1, nI a3_2, .sl a3_3]] [.bld 1 (List.length us), .row 5 1 us] R :=
 heap_of_code (C := cfg (Func.ntmps Tryd.f47) [] [sxVd1_0, sxVd1_1, sxVd1_2, sxVd1_3, sxVd1_4, sxVd1_5, sxVd1_6] []) (cfg_tab _ _ _ _ _) (cfg_ord _ _ _ _ _) (L := []) (fn := Tryd.f47) Tryd.func47 (by exact rfl) (by kernel_rfl) (by kernel_rfl) (by rfl) (of_eq (by kernel_rfl) h)
def vc46 (us : List AV) (a1 : ByteArray) (R : AV → List AObj → Prop) : Prop :=
 ∃ (S3 : AV → List AObj → Prop),
 HFn Tryd.prog 62 [.ptr 0 0] [.bld 1 (List.length us), .row 5 1 us] S3 ∧
 ∀ (r1 : AV) (q2 : List AObj), S3 r1 q2 →
 ∃ (l4 : List AV),
 (r1 = .tup [] ∧ q2 = [.bld 1 (List.length l4), .row 5 1 l4]) ∧
 List.length l4 = List.length l4 ∧
 List.length l4 + ByteArray.size a1 ≤ 140737488355328 ∧
 List.length (l4 ++ strAV a1) ≠ 0 ∧
 R (.tup [nI ((ByteArray.size a1 : Nat) : Int), .prim (.nilIface)]) [.bld 1 (List.length (l4 ++ strAV a1)), .row 5 1 (l4 ++ strAV a1)]
theorem vc46_ok {us : List AV} {a1 : ByteArray} {R : AV → List AObj → Prop} (h : vc46 us a1 R) : HFn Tryd.prog 46 [.ptr 0 0, nS a1] [.bld 1 (List.length us), .row 5 1 us] R :=
 heap_of_code (C := cfg (Func.ntmps Tryd.f46) [] [sxVd1_0, sxVd1_1, sxVd1_2, sxVd1_3, sxVd1_4, sxVd1_5, sxVd1_6] []) (cfg_tab _ _ _ _ _) (cfg_ord _ _ _ _ _) (L := []) (fn := Tryd.f46) Tryd.func46 (by exact rfl) (by kernel_rfl) (by kernel_rfl) (by rfl) (of_eq (by kernel_rfl) h)
end Go.Proofs.YtghnkppcncbddaaDoor
