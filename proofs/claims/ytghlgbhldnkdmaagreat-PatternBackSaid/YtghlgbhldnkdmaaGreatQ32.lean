/- Texts of ours laid together for a claim: Vc1. -/
import Derived.Test.YtghlgbhldnkdmaaGreatQ31
namespace Go.Proofs.YtghlgbhldnkdmaaGreat
open Go
set_option linter.unusedSimpArgs false
set_option linter.unusedVariables false
set_option maxRecDepth 100000
abbrev sxVc1_0 : Nat × Sig := (72, .heap 6 [(.v (.a [.l, .i .i64, .i .i64, .l]), [.box [.l, .i .i64, .i .i64, .l], .box [.k (.prim (.slice none 0 0)), .k (.prim (.int .i64 (0))), .k (.prim (.int .i64 (0))), .k (.prim (.slice none 0 0))], .box [.i .i64], .box [.i .i64], .box [.m], .box [.i .i64]])])
abbrev sxVc1_1 : Nat × Sig := (73, .heap 6 [(.v (.c (.i .i64)), [.box [.l, .i .i64, .i .i64, .l], .box [.k (.prim (.slice none 0 0)), .k (.prim (.int .i64 (0))), .k (.prim (.int .i64 (0))), .k (.prim (.slice none 0 0))], .box [.i .i64], .box [.i .i64], .box [.m], .box [.i .i64]])])
def vc146 (a0_0 : List AV) (a0_1 a0_2 : Int) (a0_3 : List AV) (R : AV → Prop) : Prop :=
 R (nB (a0_1 == 2))
theorem vc146_ok {a0_0 : List AV} {a0_1 a0_2 : Int} {a0_3 : List AV} {R : AV → Prop} (h : vc146 a0_0 a0_1 a0_2 a0_3 R) : Pure Tryz.prog 146 [.agg [.sl a0_0, nI a0_1, nI a0_2, .sl a0_3]] R :=
 pure_of_code (C := cfg (Func.ntmps Tryz.f146)) (cfg_tab _ _ _ _ _) (cfg_ord _ _ _ _ _) (L := []) (fn := Tryz.f146) Tryz.func146 (by exact rfl) (by kernel_rfl) (by kernel_rfl) (by rfl) (of_eq (by kernel_rfl) h)
def vc115_L4 (p0 : (List AV × List AV × Int × Int × Unit) × (Unit)) (R : AV → Prop) : Prop :=
 LoopP _ p0 fun z51 ag52 =>
 ITE (decide (z51.1.2.2.2.1 < z51.1.2.2.1))
 (0 ≤ z51.1.2.2.2.1 ∧
 z51.1.2.2.2.1 < List.length z51.1.1 ∧
 ∃ (i53 : Int),
 List.getD z51.1.1 (Int.toNat z51.1.2.2.2.1) .top = nI i53 ∧
 0 ≤ z51.1.2.2.2.1 ∧
 z51.1.2.2.2.1 < List.length z51.1.2.1 ∧
 ∃ (i54 : Int),
 List.getD z51.1.2.1 (Int.toNat z51.1.2.2.2.1) .top = nI i54 ∧
 ITE (i53 != i54)
 (R (nB false))
 (ag52 ((z51.1.1, z51.1.2.1, z51.1.2.2.1, IntKind.wrap .i64 (z51.1.2.2.2.1 + 1), ()), ())))
 (R (nB true))
def vc115 (a0 a1 : List AV) (R : AV → Prop) : Prop :=
 ITE (((List.length a0 : Nat) : Int) != ((List.length a1 : Nat) : Int))
 (R (nB false))
 (vc115_L4 ((a0, a1, ((List.length a0 : Nat) : Int), 0, ()), ()) R)
theorem vc115_ok {a0 a1 : List AV} {R : AV → Prop} (h : vc115 a0 a1 R) : Pure Tryz.prog 115 [.sl a0, .sl a1] R :=
 pure_of_code (C := cfg (Func.ntmps Tryz.f115)) (cfg_tab _ _ _ _ _) (cfg_ord _ _ _ _ _) (L := [{ key := 4, live := [(0, none), (1, none), (12, none), (13, none)] }]) (fn := Tryz.f115) Tryz.func115 (by exact rfl) (by kernel_rfl) (by kernel_rfl) (by rfl) (of_eq (by kernel_rfl) h)
def vc67 (a0 a1 : List AV) (R : AV → Prop) : Prop :=
 ∃ (b1 : Bool),
 PureIs Tryz.prog 115 [.sl a0, .sl a1] (nB b1) ∧
 R (nB b1)
theorem vc67_ok {a0 a1 : List AV} {R : AV → Prop} (h : vc67 a0 a1 R) : Pure Tryz.prog 67 [.sl a0, .sl a1] R :=
 pure_of_code (C := cfg (Func.ntmps Tryz.f67)) (cfg_tab _ _ _ _ _) (cfg_ord _ _ _ _ _) (L := []) (fn := Tryz.f67) Tryz.func67 (by exact rfl) (by kernel_rfl) (by kernel_rfl) (by rfl) (of_eq (by kernel_rfl) h)
def vc99_L3 (p0 : (Unit × Unit × List AV × Int × Int × Unit) × ((List AV × Int × Unit) × (Unit × Int × Unit) × (Unit × Int × Unit) × List AV × Unit)) (R : AV → Prop) : Prop :=
 LoopP _ p0 fun z51 ag52 =>
 ITE (decide (z51.1.2.2.2.2.1 < z51.1.2.2.2.1))
 (0 ≤ z51.1.2.2.2.2.1 ∧
 z51.1.2.2.2.2.1 < List.length z51.1.2.2.1 ∧
 ∃ (l53 : List AV) (i54 : Int),
 List.getD z51.1.2.2.1 (Int.toNat z51.1.2.2.2.2.1) .top = .agg [.sl l53, nI i54] ∧
 ∃ (l55 : List AV) (i56 : Int),
 PureIs Tryz.prog 99 [.agg [.sl l53, nI i54]] (.agg [.sl l55, nI i56]) ∧
 List.length z51.2.2.2.2.1 = List.length z51.2.2.2.2.1 ∧
 appOk td39 (List.length (z51.2.2.2.2.1 ++ [.agg [.sl l55, nI i56]])) [] [.agg [.sl l55, nI i56]] ∧
 List.length (z51.2.2.2.2.1 ++ [.agg [.sl l55, nI i56]]) = List.length (z51.2.2.2.2.1 ++ [.agg [.sl l55, nI i56]]) ∧
 ag52 (((), (), z51.1.2.2.1, z51.1.2.2.2.1, IntKind.wrap .i64 (z51.1.2.2.2.2.1 + 1), ()), ((z51.2.1.1, z51.2.1.2.1, ()), ((), z51.2.2.1.2.1, ()), ((), z51.2.2.2.1.2.1, ()), z51.2.2.2.2.1 ++ [.agg [.sl l55, nI i56]], ())))
 (List.length z51.2.2.2.2.1 = List.length z51.2.2.2.2.1 ∧
 R (.agg [.sl z51.2.2.2.2.1, nI z51.2.2.2.1.2.1]))
def vc99 (a0_0 : List AV) (a0_1 : Int) (R : AV → Prop) : Prop :=
 0 = List.length ([] : List AV) ∧
 vc99_L3 (((), (), a0_0, ((List.length a0_0 : Nat) : Int), 0, ()), ((a0_0, a0_1, ()), ((), 0, ()), ((), a0_1, ()), [], ())) R
theorem vc99_ok {a0_0 : List AV} {a0_1 : Int} {R : AV → Prop} (h : vc99 a0_0 a0_1 R) : Pure Tryz.prog 99 [.agg [.sl a0_0, nI a0_1]] R :=
 pure_of_code (C := cfg (Func.ntmps Tryz.f99)) (cfg_tab _ _ _ _ _) (cfg_ord _ _ _ _ _) (L := [{ key := 3, live := [(2, none), (3, none), (10, none), (11, none), (12, none)], brows := [(2, 0, 39)] }]) (fn := Tryz.f99) Tryz.func99 (by exact rfl) (by kernel_rfl) (by kernel_rfl) (by rfl) (of_eq (by kernel_rfl) h)
def vc82 (a0_0 : List AV) (a0_1 : Int) (a1 : List AV) (R : AV → Prop) : Prop :=
 ∃ (l1 : List AV),
 PureIs Tryz.prog 74 [.sl [.sl a1, .sl a0_0]] (.sl l1) ∧
 ∃ (l2 : List AV) (i3 : Int),
 PureIs Tryz.prog 99 [.agg [.sl l1, nI a0_1]] (.agg [.sl l2, nI i3]) ∧
 R (.agg [.sl l2, nI i3])
theorem vc82_ok {a0_0 : List AV} {a0_1 : Int} {a1 : List AV} {R : AV → Prop} (h : vc82 a0_0 a0_1 a1 R) : Pure Tryz.prog 82 [.agg [.sl a0_0, nI a0_1], .sl a1] R :=
 pure_of_code (C := cfg (Func.ntmps Tryz.f82)) (cfg_tab _ _ _ _ _) (cfg_ord _ _ _ _ _) (L := []) (fn := Tryz.f82) Tryz.func82 (by exact rfl) (by kernel_rfl) (by kernel_rfl) (by rfl) (of_eq (by kernel_rfl) h)
def vc148 (a0 : List AV) (R : AV → Prop) : Prop :=
 ∀ b1 : Bool, (a0 ≠ [] → b1 = !true) →
 ITE b1
 (R (.sl []))
 (((a0 : List AV) = [] → ([] : List AV) = []) ∧
 appOk td3 (List.length (([] : List AV) ++ a0)) ([] : List AV) a0 ∧
 List.length (([] : List AV) ++ a0) = List.length (([] : List AV) ++ a0) ∧
 R (.sl (([] : List AV) ++ a0)))
theorem vc148_ok {a0 : List AV} {R : AV → Prop} (h : vc148 a0 R) : Pure Tryz.prog 148 [.sl a0] R :=
 pure_of_code (C := cfg (Func.ntmps Tryz.f148)) (cfg_tab _ _ _ _ _) (cfg_ord _ _ _ _ _) (L := []) (fn := Tryz.f148) Tryz.func148 (by exact rfl) (by kernel_rfl) (by kernel_rfl) (by rfl) (of_eq (by kernel_rfl) h)
def vc149 (a0 : List AV) (R : AV → List AObj → Prop) : Prop :=
 (0 ≤ (0 : Int) ∧ (0 : Int) ≤ ((List.length a0 : Nat) : Int) ∧ ((List.length a0 : Nat) : Int) = ((List.length a0 : Nat) : Int) ∧ ((List.length a0 : Nat) : Int) ≤ List.length a0 ∧ (∀ y : AV, y ∈ a0 → List.length (AV.cells y) = 1)) ∧
 R (.clip (List.drop (Int.toNat 0) (List.take (Int.toNat ((List.length a0 : Nat) : Int)) a0))) []
theorem vc149_ok {a0 : List AV} {R : AV → List AObj → Prop} (h : vc149 a0 R) : HFn Tryz.prog 149 [.sl a0] [] R :=
 heap_of_code (C := cfg (Func.ntmps Tryz.f149)) (cfg_tab _ _ _ _ _) (cfg_ord _ _ _ _ _) (L := []) (fn := Tryz.f149) Tryz.func149 (by exact rfl) (by kernel_rfl) (by kernel_rfl) (by rfl) (of_eq (by kernel_rfl) h)
def vc89_L4 (p0 : (List AV × Unit × List AV × Int × Int × Unit) × (Unit)) (R : AV → Prop) : Prop :=
 LoopP _ p0 fun z51 ag52 =>
 ITE (decide (z51.1.2.2.2.2.1 < z51.1.2.2.2.1))
 (0 ≤ z51.1.2.2.2.2.1 ∧
 z51.1.2.2.2.2.1 < List.length z51.1.2.2.1 ∧
 ∃ (l53 : List AV) (i54 : Int),
 List.getD z51.1.2.2.1 (Int.toNat z51.1.2.2.2.2.1) .top = .agg [.sl l53, nI i54] ∧
 0 ≤ z51.1.2.2.2.2.1 ∧
 z51.1.2.2.2.2.1 < List.length z51.1.1 ∧
 ∃ (l55 : List AV) (i56 : Int),
 List.getD z51.1.1 (Int.toNat z51.1.2.2.2.2.1) .top = .agg [.sl l55, nI i56] ∧
 ∃ (b57 : Bool),
 PureIs Tryz.prog 90 [.agg [.sl l53, nI i54], .agg [.sl l55, nI i56]] (nB b57) ∧
 ITE (!b57)
 (R (nB false))
 (ag52 ((z51.1.1, (), z51.1.2.2.1, z51.1.2.2.2.1, IntKind.wrap .i64 (z51.1.2.2.2.2.1 + 1), ()), ())))
 (R (nB true))
def vc89 (a0 a1 : List AV) (R : AV → Prop) : Prop :=
 ITE (((List.length a0 : Nat) : Int) != ((List.length a1 : Nat) : Int))
 (R (nB false))
 (vc89_L4 ((a1, (), a0, ((List.length a0 : Nat) : Int), 0, ()), ()) R)
theorem vc89_ok {a0 a1 : List AV} {R : AV → Prop} (h : vc89 a0 a1 R) : Pure Tryz.prog 89 [.sl a0, .sl a1, .clo 90 []] R :=
 pure_of_code (C := cfg (Func.ntmps Tryz.f89)) (cfg_tab _ _ _ _ _) (cfg_ord _ _ _ _ _) (L := [{ key := 4, live := [(1, none), (2, none), (15, none), (16, none), (17, none)] }]) (fn := Tryz.f89) Tryz.func89 (by exact rfl) (by kernel_rfl) (by kernel_rfl) (by rfl) (of_eq (by kernel_rfl) h)
def vc90 (a0_0 : List AV) (a0_1 : Int) (a1_0 : List AV) (a1_1 : Int) (R : AV → Prop) : Prop :=
 ITE (a0_1 == a1_1)
 (∃ (b1 : Bool),
 PureIs Tryz.prog 89 [.sl a0_0, .sl a1_0, .clo 90 []] (nB b1) ∧
 R (nB b1))
 (R (nB false))
theorem vc90_ok {a0_0 : List AV} {a0_1 : Int} {a1_0 : List AV} {a1_1 : Int} {R : AV → Prop} (h : vc90 a0_0 a0_1 a1_0 a1_1 R) : Pure Tryz.prog 90 [.agg [.sl a0_0, nI a0_1], .agg [.sl a1_0, nI a1_1]] R :=
 pure_of_code (C := cfg (Func.ntmps Tryz.f90)) (cfg_tab _ _ _ _ _) (cfg_ord _ _ _ _ _) (L := []) (fn := Tryz.f90) Tryz.func90 (by exact rfl) (by kernel_rfl) (by kernel_rfl) (by rfl) (of_eq (by kernel_rfl) h)
def vc160_L6 (p0 : (Unit × Unit × Int × Unit × List AV × Int × Int × Unit) × ((List AV × Int × Int × List AV × Unit) × (Int × Int × Unit) × (Int × Int × Unit) × Unit)) (R : AV → Prop) : Prop :=
 LoopP _ p0 fun z51 ag52 =>
 ITE (decide (z51.1.2.2.2.2.2.2.1 < z51.1.2.2.2.2.2.1))
 (0 ≤ z51.1.2.2.2.2.2.2.1 ∧
 z51.1.2.2.2.2.2.2.1 < List.length z51.1.2.2.2.2.1 ∧
 ∃ (l53 : List AV) (i54 i55 : Int) (l56 : List AV),
 List.getD z51.1.2.2.2.2.1 (Int.toNat z51.1.2.2.2.2.2.2.1) .top = .agg [.sl l53, nI i54, nI i55, .sl l56] ∧
 ∃ (i57 i58 : Int) (b59 : Bool),
 PureIs Tryz.prog 160 [.agg [.sl l53, nI i54, nI i55, .sl l56]] (.tup [.agg [nI i57, nI i58], nB b59]) ∧
 ITE (!b59)
 (R (.tup [.agg [nI 0, nI 0], nB false]))
 (ITE (!(i57 == 0 && i58 == (IntKind.wrap .i64 ((IntKind.wrap .i64 (z51.1.2.2.1 - 1)) - z51.1.2.2.2.2.2.2.1))))
 (R (.tup [.agg [nI 0, nI 0], nB false]))
 (0 ≤ z51.1.2.2.2.2.2.2.1 ∧
 z51.1.2.2.2.2.2.2.1 < List.length z51.2.1.1 ∧
 ∃ (l60 : List AV) (i61 : Int),
 List.getD z51.2.1.1 (Int.toNat z51.1.2.2.2.2.2.2.1) .top = .agg [.sl l60, nI i61] ∧
 ∃ (b62 : Bool),
 PureIs Tryz.prog 89 [.sl l53, .sl l60, .clo 90 []] (nB b62) ∧
 ITE (!b62)
 (R (.tup [.agg [nI 0, nI 0], nB false]))
 (ag52 (((), (), z51.1.2.2.1, (), z51.1.2.2.2.2.1, z51.1.2.2.2.2.2.1, IntKind.wrap .i64 (z51.1.2.2.2.2.2.2.1 + 1), ()), ((z51.2.1.1, z51.2.1.2.1, z51.2.1.2.2.1, z51.2.1.2.2.2.1, ()), (z51.2.2.1.1, z51.2.2.1.2.1, ()), (z51.2.2.2.1.1, z51.2.2.2.1.2.1, ()), ()))))))
 (ITE (z51.2.2.2.1.1 == 0)
 (R (.tup [.agg [nI z51.2.2.2.1.1, nI (IntKind.wrap .i64 (z51.2.2.2.1.2.1 - z51.1.2.2.1))], nB true]))
 (R (.tup [.agg [nI z51.2.2.2.1.1, nI z51.2.2.2.1.2.1], nB true])))
def vc160 (a0_0 : List AV) (a0_1 a0_2 : Int) (a0_3 : List AV) (R : AV → Prop) : Prop :=
 ITE (((List.length a0_3 : Nat) : Int) != ((List.length a0_0 : Nat) : Int))
 (R (.tup [.agg [nI 0, nI 0], nB false]))
 (ITE (a0_1 == 0)
 (ITE (decide (a0_2 < ((List.length a0_0 : Nat) : Int)))
 (R (.tup [.agg [nI 0, nI 0], nB false]))
 (vc160_L6 (((), (), ((List.length a0_0 : Nat) : Int), (), a0_3, ((List.length a0_3 : Nat) : Int), 0, ()), ((a0_0, a0_1, a0_2, a0_3, ()), (0, 0, ()), (a0_1, a0_2, ()), ())) R))
 (vc160_L6 (((), (), ((List.length a0_0 : Nat) : Int), (), a0_3, ((List.length a0_3 : Nat) : Int), 0, ()), ((a0_0, a0_1, a0_2, a0_3, ()), (0, 0, ()), (a0_1, a0_2, ()), ())) R))
theorem vc160_ok {a0_0 : List AV} {a0_1 a0_2 : Int} {a0_3 : List AV} {R : AV → Prop} (h : vc160 a0_0 a0_1 a0_2 a0_3 R) : Pure Tryz.prog 160 [.agg [.sl a0_0, nI a0_1, nI a0_2, .sl a0_3]] R :=
 pure_of_code (C := cfg (Func.ntmps Tryz.f160)) (cfg_tab _ _ _ _ _) (cfg_ord _ _ _ _ _) (L := [{ key := 6, live := [(1, none), (2, none), (4, none), (5, none), (33, none), (34, none), (35, none)] }]) (fn := Tryz.f160) Tryz.func160 (by exact rfl) (by kernel_rfl) (by kernel_rfl) (by rfl) (of_eq (by kernel_rfl) h)
def vc147_L6 (p0 : (Int × Unit × Unit × List AV × Int × Int × Unit) × ((List AV × Int × Int × List AV × Unit) × (List (Int × Value)) × List AV × Unit)) (R : AV → Prop) : Prop :=
 LoopP _ p0 fun z51 ag52 =>
 ITE (decide (z51.1.2.2.2.2.2.1 < z51.1.2.2.2.2.1))
 (0 ≤ z51.1.2.2.2.2.2.1 ∧
 z51.1.2.2.2.2.2.1 < List.length z51.1.2.2.2.1 ∧
 ∃ (l53 : List AV) (i54 i55 : Int) (l56 : List AV),
 List.getD z51.1.2.2.2.1 (Int.toNat z51.1.2.2.2.2.2.1) .top = .agg [.sl l53, nI i54, nI i55, .sl l56] ∧
 ∃ (i57 i58 : Int) (b59 : Bool),
 PureIs Tryz.prog 160 [.agg [.sl l53, nI i54, nI i55, .sl l56]] (.tup [.agg [nI i57, nI i58], nB b59]) ∧
 ITE (!b59)
 (R (.tup [.sl [], nI 6]))
 (ITE (i57 != 0)
 (R (.tup [.sl [], nI 6]))
 (ITE (decide (i58 ≥ z51.1.1))
 (R (.tup [.sl [], nI 6]))
 (Option.getD (mapGet z51.2.2.1 i58) (.bool false) = .bool (vBool (Option.getD (mapGet z51.2.2.1 i58) (.bool false))) ∧
 ITE (vBool (Option.getD (mapGet z51.2.2.1 i58) (.bool false)))
 (R (.tup [.sl [], nI 6]))
 (List.length z51.2.2.2.1 = List.length z51.2.2.2.1 ∧
 appOk td3 (List.length (z51.2.2.2.1 ++ [nI i58])) [] [nI i58] ∧
 List.length (z51.2.2.2.1 ++ [nI i58]) = List.length (z51.2.2.2.1 ++ [nI i58]) ∧
 ag52 ((z51.1.1, (), (), z51.1.2.2.2.1, z51.1.2.2.2.2.1, IntKind.wrap .i64 (z51.1.2.2.2.2.2.1 + 1), ()), ((z51.2.1.1, z51.2.1.2.1, z51.2.1.2.2.1, z51.2.1.2.2.2.1, ()), mapPut z51.2.2.1 i58 (.bool true), z51.2.2.2.1 ++ [nI i58], ())))))))
 (List.length z51.2.2.2.1 = List.length z51.2.2.2.1 ∧
 R (.tup [.sl z51.2.2.2.1, nI 0]))
def vc147 (a0_0 : List AV) (a0_1 a0_2 : Int) (a0_3 : List AV) (a1 : Int) (R : AV → Prop) : Prop :=
 ∃ (b1 : Bool),
 PureIs Tryz.prog 146 [.agg [.sl a0_0, nI a0_1, nI a0_2, .sl a0_3]] (nB b1) ∧
 ITE (!b1)
 (R (.tup [.sl [], nI 1]))
 (ITE (decide (a1 < 0))
 (R (.tup [.sl [], nI 1]))
 (0 = List.length ([] : List AV) ∧
 vc147_L6 ((a1, (), (), a0_3, ((List.length a0_3 : Nat) : Int), 0, ()), ((a0_0, a0_1, a0_2, a0_3, ()), [], [], ())) R))
theorem vc147_ok {a0_0 : List AV} {a0_1 a0_2 : Int} {a0_3 : List AV} {a1 : Int} {R : AV → Prop} (h : vc147 a0_0 a0_1 a0_2 a0_3 a1 R) : Pure Tryz.prog 147 [.agg [.sl a0_0, nI a0_1, nI a0_2, .sl a0_3], nI a1] R :=
 pure_of_code (C := cfg (Func.ntmps Tryz.f147)) (cfg_tab _ _ _ _ _) (cfg_ord _ _ _ _ _) (L := [{ key := 6, live := [(1, none), (6, none), (7, none), (21, none), (22, none), (23, none)], rows := [(7, 3)] }]) (fn := Tryz.f147) Tryz.func147 (by exact rfl) (by kernel_rfl) (by kernel_rfl) (by rfl) (of_eq (by kernel_rfl) h)
def vc114_L8 (p0 : (Unit × List AV × List AV × List AV × Int × Int × Unit) × (List AV × (List AV × Int × Int × List AV × Unit) × Unit)) (R : AV → List AObj → Prop) : Prop :=
 LoopP _ p0 fun z51 ag52 =>
 ITE (decide (z51.1.2.2.2.2.2.1 < z51.1.2.2.2.2.1))
 (0 ≤ z51.1.2.2.2.2.2.1 ∧
 z51.1.2.2.2.2.2.1 < List.length z51.1.2.2.2.1 ∧
 ∃ (l53 : List AV) (i54 i55 : Int) (l56 : List AV),
 List.getD z51.1.2.2.2.1 (Int.toNat z51.1.2.2.2.2.2.1) .top = .agg [.sl l53, nI i54, nI i55, .sl l56] ∧
 ∃ (l57 : List AV),
 PureIs Tryz.prog 149 [.sl z51.1.2.2.1] (.clip l57) ∧
 (([nI z51.1.2.2.2.2.2.1] : List AV) = [] → (l57 : List AV) = []) ∧
 appOk td3 (List.length (l57 ++ [nI z51.1.2.2.2.2.2.1])) l57 [nI z51.1.2.2.2.2.2.1] ∧
 List.length (l57 ++ [nI z51.1.2.2.2.2.2.1]) = List.length (l57 ++ [nI z51.1.2.2.2.2.2.1]) ∧
 ∃ (S58 : AV → List AObj → Prop),
 HFn Tryz.prog 114 [.own 0 (List.length z51.2.1), .agg [.sl l53, nI i54, nI i55, .sl l56], .sl z51.1.2.1, .sl (l57 ++ [nI z51.1.2.2.2.2.2.1])] [.row 142 4 z51.2.1] S58 ∧
 ∀ (r59 : AV) (q60 : List AObj), S58 r59 q60 →
 (∃ (l61 : List AV),
 (r59 = .tup [.own 0 (List.length l61), nI 0] ∧ q60 = [.row 142 4 l61]) ∧
 List.length l61 = List.length l61 ∧
 ag52 (((), z51.1.2.1, z51.1.2.2.1, z51.1.2.2.2.1, z51.1.2.2.2.2.1, IntKind.wrap .i64 (z51.1.2.2.2.2.2.1 + 1), ()), (l61, (z51.2.2.1.1, z51.2.2.1.2.1, z51.2.2.1.2.2.1, z51.2.2.1.2.2.2.1, ()), ()))) ∨
 ∃ (l62 : List AV),
 (r59 = .tup [.prim (.slice none 0 0), nI 6] ∧ q60 = [.row 142 4 l62]) ∧
 R (.tup [.prim (.slice none 0 0), nI 6]) [.row 142 4 l62])
 (R (.tup [.own 0 (List.length z51.2.1), nI 0]) [.row 142 4 z51.2.1])
def vc114 (us a1_0 : List AV) (a1_1 a1_2 : Int) (a1_3 a2 a3 : List AV) (R : AV → List AObj → Prop) : Prop :=
 ∃ (l1 : List AV),
 PureIs Tryz.prog 74 [.sl [.sl a2, .sl a1_0]] (.sl l1) ∧
 ∃ (b2 : Bool),
 PureIs Tryz.prog 146 [.agg [.sl a1_0, nI a1_1, nI a1_2, .sl a1_3]] (nB b2) ∧
 ITE b2
 (∃ (l3 : List AV) (i4 : Int),
 PureIs Tryz.prog 147 [.agg [.sl a1_0, nI a1_1, nI a1_2, .sl a1_3], nI ((List.length l1 : Nat) : Int)] (.tup [.sl l3, nI i4]) ∧
 ITE (i4 != 0)
 (R (.tup [.prim (.slice none 0 0), nI i4]) [.row 142 4 us])
 (∃ (l5 : List AV) (i6 : Int),
 PureIs Tryz.prog 82 [.agg [.sl [], nI 0], .sl l1] (.agg [.sl l5, nI i6]) ∧
 ∃ (l7 : List AV),
 PureIs Tryz.prog 148 [.sl a3] (.sl l7) ∧
 List.length us = List.length us ∧
 appOk td142 (List.length (us ++ [.agg [nI a1_2, .sl l3, .sl l5, .sl l7]])) [] [.agg [nI a1_2, .sl l3, .sl l5, .sl l7]] ∧
 R (.tup [.own 0 (List.length (us ++ [.agg [nI a1_2, .sl l3, .sl l5, .sl l7]])), nI 0]) [.row 142 4 (us ++ [.agg [nI a1_2, .sl l3, .sl l5, .sl l7]])]))
 (List.length us = List.length us ∧
 vc114_L8 (((), l1, a3, a1_3, ((List.length a1_3 : Nat) : Int), 0, ()), (us, (a1_0, a1_1, a1_2, a1_3, ()), ())) R)
theorem vc114_ok {us a1_0 : List AV} {a1_1 a1_2 : Int} {a1_3 a2 a3 : List AV} {R : AV → List AObj → Prop} (h : vc114 us a1_0 a1_1 a1_2 a1_3 a2 a3 R) : HFn Tryz.prog 114 [.own 0 (List.length us), .agg [.sl a1_0, nI a1_1, nI a1_2, .sl a1_3], .sl a2, .sl a3] [.row 142 4 us] R :=
 heap_of_code (C := cfg (Func.ntmps Tryz.f114) [(11, [none, none, none, none, none, none, none, some [], none, none, none, none, none, none], [none, some [], none, none, none, none, none, none, none, none, none, none, none, none])] [(114, .heap 1 [(.t [.c (.o 0), .c (.k (.prim (.int .i64 (0))))], [.row 142 4]), (.t [.c (.k (.prim (.slice none 0 0))), .c (.k (.prim (.int .i64 (6))))], [.row 142 4])])] [(11, [114])]) (cfg_tab _ _ _ _ _) (cfg_ord _ _ _ _ _) (L := [{ key := 8, live := [(0, none), (2, none), (3, none), (47, none), (48, none), (49, none)] }]) (fn := Tryz.f114) Tryz.func114 (by exact rfl) (by kernel_rfl) (by kernel_rfl) (by rfl) (of_eq (by kernel_rfl) h)
def vc66 (a0_0 : List AV) (a0_1 a0_2 : Int) (a0_3 : List AV) (R : AV → Prop) : Prop :=
 ∃ (S3 : AV → Prop),
 Pure Tryz.prog 114 [.prim (.slice none 0 0), .agg [.sl a0_0, nI a0_1, nI a0_2, .sl a0_3], .prim (.slice none 0 0), .prim (.slice none 0 0)] S3 ∧
 ∀ (r1 : AV), S3 r1 →
 ∃ (l4 : List AV) (i5 : Int),
 r1 = .tup [.sl l4, nI i5] ∧
 R (.tup [.sl l4, nI i5])
theorem vc66_ok {a0_0 : List AV} {a0_1 a0_2 : Int} {a0_3 : List AV} {R : AV → Prop} (h : vc66 a0_0 a0_1 a0_2 a0_3 R) : Pure Tryz.prog 66 [.agg [.sl a0_0, nI a0_1, nI a0_2, .sl a0_3]] R :=
 pure_of_code (C := cfg (Func.ntmps Tryz.f66) [] [(114, .raw [.t [.c (.l), .c (.i .i64)]])] []) (cfg_tab _ _ _ _ _) (cfg_ord _ _ _ _ _) (L := []) (fn := Tryz.f66) Tryz.func66 (by exact rfl) (by kernel_rfl) (by kernel_rfl) (by rfl) (of_eq (by kernel_rfl) h)
def vc68 (a0_0 : List AV) (a0_1 a0_2 : Int) (a0_3 : List AV) (R : AV → Prop) : Prop :=
 ∃ (l1 : List AV) (i2 : Int),
 PureIs Tryz.prog 66 [.agg [.sl a0_0, nI a0_1, nI a0_2, .sl a0_3]] (.tup [.sl l1, nI i2]) ∧
 R (nB (i2 == 0))
theorem vc68_ok {a0_0 : List AV} {a0_1 a0_2 : Int} {a0_3 : List AV} {R : AV → Prop} (h : vc68 a0_0 a0_1 a0_2 a0_3 R) : Pure Tryz.prog 68 [.agg [.sl a0_0, nI a0_1, nI a0_2, .sl a0_3]] R :=
 pure_of_code (C := cfg (Func.ntmps Tryz.f68)) (cfg_tab _ _ _ _ _) (cfg_ord _ _ _ _ _) (L := []) (fn := Tryz.f68) Tryz.func68 (by exact rfl) (by kernel_rfl) (by kernel_rfl) (by rfl) (of_eq (by kernel_rfl) h)
def vc71_L3 (p0 : (Int × Unit × List AV × Int × Int × Unit) × ((List (Int × Value)) × Unit)) (R : AV → Prop) : Prop :=
 LoopP _ p0 fun z51 ag52 =>
 ITE (decide (z51.1.2.2.2.2.1 < z51.1.2.2.2.1))
 (0 ≤ z51.1.2.2.2.2.1 ∧
 z51.1.2.2.2.2.1 < List.length z51.1.2.2.1 ∧
 ∃ (i53 : Int),
 List.getD z51.1.2.2.1 (Int.toNat z51.1.2.2.2.2.1) .top = nI i53 ∧
 Option.getD (mapGet z51.2.1 i53) (.int .i64 0) = .int .i64 (vInt (Option.getD (mapGet z51.2.1 i53) (.int .i64 0))) ∧
 ITE (Option.isSome (mapGet z51.2.1 i53))
 (R (.tup [.prim (.map none), nB false]))
 (ITE (decide (i53 < 0))
 (R (.tup [.prim (.map none), nB false]))
 (ITE (decide (i53 ≥ z51.1.1))
 (R (.tup [.prim (.map none), nB false]))
 (ag52 ((z51.1.1, (), z51.1.2.2.1, z51.1.2.2.2.1, IntKind.wrap .i64 (z51.1.2.2.2.2.1 + 1), ()), (mapPut z51.2.1 i53 (.int .i64 z51.1.2.2.2.2.1), ()))))))
 (R (.tup [.mapv z51.2.1, nB true]))
def vc71 (a0 : Int) (a1 : List AV) (R : AV → Prop) : Prop :=
 vc71_L3 ((a0, (), a1, ((List.length a1 : Nat) : Int), 0, ()), ([], ())) R
theorem vc71_ok {a0 : Int} {a1 : List AV} {R : AV → Prop} (h : vc71 a0 a1 R) : Pure Tryz.prog 71 [nI a0, .sl a1] R :=
 pure_of_code (C := cfg (Func.ntmps Tryz.f71)) (cfg_tab _ _ _ _ _) (cfg_ord _ _ _ _ _) (L := [{ key := 3, live := [(0, none), (6, none), (12, none), (13, none), (14, none)] }]) (fn := Tryz.f71) Tryz.func71 (by exact rfl) (by kernel_rfl) (by kernel_rfl) (by rfl) (of_eq (by kernel_rfl) h)
def vc75_L3 (p0 : (List AV × Unit × List AV × Int × Int × Unit) × (List AV × Unit)) (R : AV → Prop) : Prop :=
 LoopP _ p0 fun z51 ag52 =>
 ITE (decide (z51.1.2.2.2.2.1 < z51.1.2.2.2.1))
 (0 ≤ z51.1.2.2.2.2.1 ∧
 z51.1.2.2.2.2.1 < List.length z51.1.2.2.1 ∧
 ∃ (i53 : Int),
 List.getD z51.1.2.2.1 (Int.toNat z51.1.2.2.2.2.1) .top = nI i53 ∧
 0 ≤ (IntKind.wrap .i64 ((IntKind.wrap .i64 (((List.length z51.1.1 : Nat) : Int) - 1)) - i53)) ∧
 (IntKind.wrap .i64 ((IntKind.wrap .i64 (((List.length z51.1.1 : Nat) : Int) - 1)) - i53)) < List.length z51.1.1 ∧
 ∃ (l54 : List AV) (i55 : Int),
 List.getD z51.1.1 (Int.toNat (IntKind.wrap .i64 ((IntKind.wrap .i64 (((List.length z51.1.1 : Nat) : Int) - 1)) - i53))) .top = .agg [.sl l54, nI i55] ∧
 List.length z51.2.1 = List.length z51.2.1 ∧
 appOk td39 (List.length (z51.2.1 ++ [.agg [.sl l54, nI i55]])) [] [.agg [.sl l54, nI i55]] ∧
 List.length (z51.2.1 ++ [.agg [.sl l54, nI i55]]) = List.length (z51.2.1 ++ [.agg [.sl l54, nI i55]]) ∧
 ag52 ((z51.1.1, (), z51.1.2.2.1, z51.1.2.2.2.1, IntKind.wrap .i64 (z51.1.2.2.2.2.1 + 1), ()), (z51.2.1 ++ [.agg [.sl l54, nI i55]], ())))
 (List.length z51.2.1 = List.length z51.2.1 ∧
 R (.sl z51.2.1))
def vc75 (a0 a1 : List AV) (R : AV → Prop) : Prop :=
 0 = List.length ([] : List AV) ∧
 vc75_L3 ((a0, (), a1, ((List.length a1 : Nat) : Int), 0, ()), ([], ())) R
theorem vc75_ok {a0 a1 : List AV} {R : AV → Prop} (h : vc75 a0 a1 R) : Pure Tryz.prog 75 [.sl a0, .sl a1] R :=
 pure_of_code (C := cfg (Func.ntmps Tryz.f75)) (cfg_tab _ _ _ _ _) (cfg_ord _ _ _ _ _) (L := [{ key := 3, live := [(0, none), (5, none), (8, none), (9, none), (10, none)], rows := [(5, 39)] }]) (fn := Tryz.f75) Tryz.func75 (by exact rfl) (by kernel_rfl) (by kernel_rfl) (by rfl) (of_eq (by kernel_rfl) h)
def vc73 (h0 : List AV) (h1 h2 : Int) (h3 : List AV) (hn hm : Int) (hat : List (Int × Value)) (he a0 : Int) (R : AV → List AObj → Prop) : Prop :=
 ITE (decide (a0 ≥ hn))
 (R (nI (IntKind.wrap .i64 ((IntKind.wrap .i64 (a0 - hn)) + hm))) [.box [.sl h0, nI h1, nI h2, .sl h3], .box [.prim (.slice none 0 0), nI 0, nI 0, .prim (.slice none 0 0)], .box [nI hn], .box [nI hm], .box [.mapv hat], .box [nI he]])
 (Option.getD (mapGet hat a0) (.int .i64 0) = .int .i64 (vInt (Option.getD (mapGet hat a0) (.int .i64 0))) ∧
 ITE (!(Option.isSome (mapGet hat a0)))
 (R (nI (IntKind.wrap .i64 ((IntKind.wrap .i64 (hm - 1)) - (vInt (Option.getD (mapGet hat a0) (.int .i64 0)))))) [.box [.sl h0, nI h1, nI h2, .sl h3], .box [.prim (.slice none 0 0), nI 0, nI 0, .prim (.slice none 0 0)], .box [nI hn], .box [nI hm], .box [.mapv hat], .box [nI 9]])
 (R (nI (IntKind.wrap .i64 ((IntKind.wrap .i64 (hm - 1)) - (vInt (Option.getD (mapGet hat a0) (.int .i64 0)))))) [.box [.sl h0, nI h1, nI h2, .sl h3], .box [.prim (.slice none 0 0), nI 0, nI 0, .prim (.slice none 0 0)], .box [nI hn], .box [nI hm], .box [.mapv hat], .box [nI he]]))
theorem vc73_ok {h0 : List AV} {h1 h2 : Int} {h3 : List AV} {hn hm : Int} {hat : List (Int × Value)} {he a0 : Int} {R : AV → List AObj → Prop} (h : vc73 h0 h1 h2 h3 hn hm hat he a0 R) : HFn Tryz.prog 73 [nI a0, .ptr 2 0, .ptr 3 0, .ptr 4 0, .ptr 5 0] [.box [.sl h0, nI h1, nI h2, .sl h3], .box [.prim (.slice none 0 0), nI 0, nI 0, .prim (.slice none 0 0)], .box [nI hn], .box [nI hm], .box [.mapv hat], .box [nI he]] R :=
 heap_of_code (C := cfg (Func.ntmps Tryz.f73)) (cfg_tab _ _ _ _ _) (cfg_ord _ _ _ _ _) (L := []) (fn := Tryz.f73) Tryz.func73 (by exact rfl) (by kernel_rfl) (by kernel_rfl) (by rfl) (of_eq (by kernel_rfl) h)
def vc72_L6 (p0 : (Int × (Unit × Unit × Unit × Unit × Unit) × Unit × Unit × Unit × List AV × Int × Int × Unit) × ((List AV × Int × Int × List AV × Unit) × (Unit × Int × Int × Unit × Unit) × (Int × Unit) × (Int × Unit) × ((List (Int × Value)) × Unit) × (Int × Unit) × (List AV × Int × Int × List AV × Unit) × (Unit × Int × Int × Unit × Unit) × List AV × Unit)) (R : AV → List AObj → Prop) : Prop :=
 LoopP _ p0 fun z51 ag52 =>
 ITE (decide (z51.1.2.2.2.2.2.2.2.1 < z51.1.2.2.2.2.2.2.1))
 (0 ≤ z51.1.2.2.2.2.2.2.2.1 ∧
 z51.1.2.2.2.2.2.2.2.1 < List.length z51.1.2.2.2.2.2.1 ∧
 ∃ (l53 : List AV) (i54 i55 : Int) (l56 : List AV),
 List.getD z51.1.2.2.2.2.2.1 (Int.toNat z51.1.2.2.2.2.2.2.2.1) .top = .agg [.sl l53, nI i54, nI i55, .sl l56] ∧
 ∃ (S57 : AV → List AObj → Prop),
 HFn Tryz.prog 72 [.agg [.sl l53, nI i54, nI i55, .sl l56], nI z51.1.1, .clo 73 [.ptr 2 0, .ptr 3 0, .ptr 4 0, .ptr 5 0]] [.box [.sl z51.2.1.1, nI z51.2.1.2.1, nI z51.2.1.2.2.1, .sl z51.2.1.2.2.2.1], .box [.prim (.slice none 0 0), nI z51.2.2.1.2.1, nI z51.2.2.1.2.2.1, .prim (.slice none 0 0)], .box [nI z51.2.2.2.1.1], .box [nI z51.2.2.2.2.1.1], .box [.mapv z51.2.2.2.2.2.1.1], .box [nI z51.2.2.2.2.2.2.1.1]] S57 ∧
 ∀ (r58 : AV) (q59 : List AObj), S57 r58 q59 →
 ∃ (l60 : List AV) (i61 i62 : Int) (l63 : List AV) (i64 i65 : Int) (m66 : List (Int × Value)) (i67 : Int) (l68 : List AV) (i69 i70 : Int) (l71 : List AV),
 (r58 = .agg [.sl l68, nI i69, nI i70, .sl l71] ∧ q59 = [.box [.sl l60, nI i61, nI i62, .sl l63], .box [.prim (.slice none 0 0), nI 0, nI 0, .prim (.slice none 0 0)], .box [nI i64], .box [nI i65], .box [.mapv m66], .box [nI i67]]) ∧
 List.length z51.2.2.2.2.2.2.2.2.2.1 = List.length z51.2.2.2.2.2.2.2.2.2.1 ∧
 appOk td51 (List.length (z51.2.2.2.2.2.2.2.2.2.1 ++ [.agg [.sl l68, nI i69, nI i70, .sl l71]])) [] [.agg [.sl l68, nI i69, nI i70, .sl l71]] ∧
 List.length (z51.2.2.2.2.2.2.2.2.2.1 ++ [.agg [.sl l68, nI i69, nI i70, .sl l71]]) = List.length (z51.2.2.2.2.2.2.2.2.2.1 ++ [.agg [.sl l68, nI i69, nI i70, .sl l71]]) ∧
 ag52 ((z51.1.1, ((), (), (), (), ()), (), (), (), z51.1.2.2.2.2.2.1, z51.1.2.2.2.2.2.2.1, IntKind.wrap .i64 (z51.1.2.2.2.2.2.2.2.1 + 1), ()), ((l60, i61, i62, l63, ()), ((), 0, 0, (), ()), (i64, ()), (i65, ()), (m66, ()), (i67, ()), (z51.2.2.2.2.2.2.2.1.1, z51.2.2.2.2.2.2.2.1.2.1, z51.2.2.2.2.2.2.2.1.2.2.1, z51.2.2.2.2.2.2.2.1.2.2.2.1, ()), ((), z51.2.2.2.2.2.2.2.2.1.2.1, z51.2.2.2.2.2.2.2.2.1.2.2.1, (), ()), z51.2.2.2.2.2.2.2.2.2.1 ++ [.agg [.sl l68, nI i69, nI i70, .sl l71]], ())))
 (List.length z51.2.2.2.2.2.2.2.2.2.1 = List.length z51.2.2.2.2.2.2.2.2.2.1 ∧
 R (.agg [.sl z51.2.2.2.2.2.2.2.1.1, nI z51.2.2.2.2.2.2.2.1.2.1, nI z51.2.2.2.2.2.2.2.1.2.2.1, .sl z51.2.2.2.2.2.2.2.2.2.1]) [.box [.sl z51.2.1.1, nI z51.2.1.2.1, nI z51.2.1.2.2.1, .sl z51.2.1.2.2.2.1], .box [.prim (.slice none 0 0), nI z51.2.2.1.2.1, nI z51.2.2.1.2.2.1, .prim (.slice none 0 0)], .box [nI z51.2.2.2.1.1], .box [nI z51.2.2.2.2.1.1], .box [.mapv z51.2.2.2.2.2.1.1], .box [nI z51.2.2.2.2.2.2.1.1]])
def vc72 (h0 : List AV) (h1 h2 : Int) (h3 : List AV) (hn hm : Int) (hat : List (Int × Value)) (he : Int) (a0_0 : List AV) (a0_1 a0_2 : Int) (a0_3 : List AV) (a1 : Int) (R : AV → List AObj → Prop) : Prop :=
 ITE (a0_1 == 0)
 (ITE (decide (a0_2 ≥ (IntKind.wrap .i64 (a1 + ((List.length a0_0 : Nat) : Int)))))
 (∃ (S3 : AV → List AObj → Prop),
 HFn Tryz.prog 73 [nI (IntKind.wrap .i64 (a0_2 - (IntKind.wrap .i64 (a1 + ((List.length a0_0 : Nat) : Int))))), .ptr 2 0, .ptr 3 0, .ptr 4 0, .ptr 5 0] [.box [.sl h0, nI h1, nI h2, .sl h3], .box [.prim (.slice none 0 0), nI 0, nI 0, .prim (.slice none 0 0)], .box [nI hn], .box [nI hm], .box [.mapv hat], .box [nI he]] S3 ∧
 ∀ (r1 : AV) (q2 : List AObj), S3 r1 q2 →
 ∃ (l4 : List AV) (i5 i6 : Int) (l7 : List AV) (i8 i9 : Int) (m10 : List (Int × Value)) (i11 i12 : Int),
 (r1 = nI i12 ∧ q2 = [.box [.sl l4, nI i5, nI i6, .sl l7], .box [.prim (.slice none 0 0), nI 0, nI 0, .prim (.slice none 0 0)], .box [nI i8], .box [nI i9], .box [.mapv m10], .box [nI i11]]) ∧
 (0 ≤ ((List.length a0_3 : Nat) : Int) ∧ ((List.length a0_3 : Nat) : Int) ≤ 9223372036854775807 ∧ (TD.bytes td51 : Int) * ((List.length a0_3 : Nat) : Int) ≤ 281474976710656) ∧
 List.length ([] : List AV) = List.length ([] : List AV) ∧
 vc72_L6 ((IntKind.wrap .i64 (a1 + ((List.length a0_0 : Nat) : Int)), ((), (), (), (), ()), (), (), (), a0_3, ((List.length a0_3 : Nat) : Int), 0, ()), ((l4, i5, i6, l7, ()), ((), 0, 0, (), ()), (i8, ()), (i9, ()), (m10, ()), (i11, ()), (a0_0, a0_1, IntKind.wrap .i64 ((IntKind.wrap .i64 (a1 + ((List.length a0_0 : Nat) : Int))) + i12), a0_3, ()), ((), 0, 0, (), ()), [], ())) R)
 ((0 ≤ ((List.length a0_3 : Nat) : Int) ∧ ((List.length a0_3 : Nat) : Int) ≤ 9223372036854775807 ∧ (TD.bytes td51 : Int) * ((List.length a0_3 : Nat) : Int) ≤ 281474976710656) ∧
 List.length ([] : List AV) = List.length ([] : List AV) ∧
 vc72_L6 ((IntKind.wrap .i64 (a1 + ((List.length a0_0 : Nat) : Int)), ((), (), (), (), ()), (), (), (), a0_3, ((List.length a0_3 : Nat) : Int), 0, ()), ((h0, h1, h2, h3, ()), ((), 0, 0, (), ()), (hn, ()), (hm, ()), (hat, ()), (he, ()), (a0_0, a0_1, a0_2, a0_3, ()), ((), 0, 0, (), ()), [], ())) R))
 ((0 ≤ ((List.length a0_3 : Nat) : Int) ∧ ((List.length a0_3 : Nat) : Int) ≤ 9223372036854775807 ∧ (TD.bytes td51 : Int) * ((List.length a0_3 : Nat) : Int) ≤ 281474976710656) ∧
 List.length ([] : List AV) = List.length ([] : List AV) ∧
 vc72_L6 ((IntKind.wrap .i64 (a1 + ((List.length a0_0 : Nat) : Int)), ((), (), (), (), ()), (), (), (), a0_3, ((List.length a0_3 : Nat) : Int), 0, ()), ((h0, h1, h2, h3, ()), ((), 0, 0, (), ()), (hn, ()), (hm, ()), (hat, ()), (he, ()), (a0_0, a0_1, a0_2, a0_3, ()), ((), 0, 0, (), ()), [], ())) R)
theorem vc72_ok {h0 : List AV} {h1 h2 : Int} {h3 : List AV} {hn hm : Int} {hat : List (Int × Value)} {he : Int} {a0_0 : List AV} {a0_1 a0_2 : Int} {a0_3 : List AV} {a1 : Int} {R : AV → List AObj → Prop} (h : vc72 h0 h1 h2 h3 hn hm hat he a0_0 a0_1 a0_2 a0_3 a1 R) : HFn Tryz.prog 72 [.agg [.sl a0_0, nI a0_1, nI a0_2, .sl a0_3], nI a1, .clo 73 [.ptr 2 0, .ptr 3 0, .ptr 4 0, .ptr 5 0]] [.box [.sl h0, nI h1, nI h2, .sl h3], .box [.prim (.slice none 0 0), nI 0, nI 0, .prim (.slice none 0 0)], .box [nI hn], .box [nI hm], .box [.mapv hat], .box [nI he]] R :=
 heap_of_code (C := cfg (Func.ntmps Tryz.f72) [] [sxVc1_0, sxVc1_1] []) (cfg_tab _ _ _ _ _) (cfg_ord _ _ _ _ _) (L := [{ key := 6, live := [(1, none), (2, none), (3, none), (6, none), (7, none), (42, none), (43, none), (44, none)] }]) (fn := Tryz.f72) Tryz.func72 (by exact rfl) (by kernel_rfl) (by kernel_rfl) (by rfl) (of_eq (by kernel_rfl) h)
def vc84_L6 (p0 : (Int × Unit × Unit × Unit × List AV × Int × Int × Unit) × ((List AV × Int × Int × List AV × Unit) × (Unit × Int × Int × Unit × Unit) × (List AV × Int × Int × Unit × Unit) × List AV × Unit)) (R : AV → Prop) : Prop :=
 LoopP _ p0 fun z51 ag52 =>
 ITE (decide (z51.1.2.2.2.2.2.2.1 < z51.1.2.2.2.2.2.1))
 (0 ≤ z51.1.2.2.2.2.2.2.1 ∧
 z51.1.2.2.2.2.2.2.1 < List.length z51.1.2.2.2.2.1 ∧
 ∃ (l53 : List AV) (i54 i55 : Int) (l56 : List AV),
 List.getD z51.1.2.2.2.2.1 (Int.toNat z51.1.2.2.2.2.2.2.1) .top = .agg [.sl l53, nI i54, nI i55, .sl l56] ∧
 ∃ (l57 : List AV) (i58 i59 : Int) (l60 : List AV),
 PureIs Tryz.prog 84 [.agg [.sl l53, nI i54, nI i55, .sl l56], nI z51.1.1, .clo 117 []] (.agg [.sl l57, nI i58, nI i59, .sl l60]) ∧
 List.length z51.2.2.2.2.1 = List.length z51.2.2.2.2.1 ∧
 appOk td51 (List.length (z51.2.2.2.2.1 ++ [.agg [.sl l57, nI i58, nI i59, .sl l60]])) [] [.agg [.sl l57, nI i58, nI i59, .sl l60]] ∧
 List.length (z51.2.2.2.2.1 ++ [.agg [.sl l57, nI i58, nI i59, .sl l60]]) = List.length (z51.2.2.2.2.1 ++ [.agg [.sl l57, nI i58, nI i59, .sl l60]]) ∧
 ag52 ((z51.1.1, (), (), (), z51.1.2.2.2.2.1, z51.1.2.2.2.2.2.1, IntKind.wrap .i64 (z51.1.2.2.2.2.2.2.1 + 1), ()), ((z51.2.1.1, z51.2.1.2.1, z51.2.1.2.2.1, z51.2.1.2.2.2.1, ()), ((), z51.2.2.1.2.1, z51.2.2.1.2.2.1, (), ()), (z51.2.2.2.1.1, z51.2.2.2.1.2.1, z51.2.2.2.1.2.2.1, (), ()), z51.2.2.2.2.1 ++ [.agg [.sl l57, nI i58, nI i59, .sl l60]], ())))
 (List.length z51.2.2.2.2.1 = List.length z51.2.2.2.2.1 ∧
 R (.agg [.sl z51.2.2.2.1.1, nI z51.2.2.2.1.2.1, nI z51.2.2.2.1.2.2.1, .sl z51.2.2.2.2.1]))
def vc84 (a0_0 : List AV) (a0_1 a0_2 : Int) (a0_3 : List AV) (a1 : Int) (R : AV → Prop) : Prop :=
 ∃ (l1 : List AV) (i2 : Int),
 PureIs Tryz.prog 82 [.agg [.sl [], nI 0], .sl a0_0] (.agg [.sl l1, nI i2]) ∧
 ITE (a0_1 == 0)
 (ITE (decide (a0_2 ≥ (IntKind.wrap .i64 (a1 + ((List.length a0_0 : Nat) : Int)))))
 (∃ (i3 : Int),
 PureIs Tryz.prog 117 [nI (IntKind.wrap .i64 (a0_2 - (IntKind.wrap .i64 (a1 + ((List.length a0_0 : Nat) : Int)))))] (nI i3) ∧
 0 = List.length ([] : List AV) ∧
 vc84_L6 ((IntKind.wrap .i64 (a1 + ((List.length a0_0 : Nat) : Int)), (), (), (), a0_3, ((List.length a0_3 : Nat) : Int), 0, ()), ((a0_0, a0_1, a0_2, a0_3, ()), ((), 0, 0, (), ()), (l1, a0_1, IntKind.wrap .i64 ((IntKind.wrap .i64 (a1 + ((List.length a0_0 : Nat) : Int))) + i3), (), ()), [], ())) R)
 (0 = List.length ([] : List AV) ∧
 vc84_L6 ((IntKind.wrap .i64 (a1 + ((List.length a0_0 : Nat) : Int)), (), (), (), a0_3, ((List.length a0_3 : Nat) : Int), 0, ()), ((a0_0, a0_1, a0_2, a0_3, ()), ((), 0, 0, (), ()), (l1, a0_1, a0_2, (), ()), [], ())) R))
 (0 = List.length ([] : List AV) ∧
 vc84_L6 ((IntKind.wrap .i64 (a1 + ((List.length a0_0 : Nat) : Int)), (), (), (), a0_3, ((List.length a0_3 : Nat) : Int), 0, ()), ((a0_0, a0_1, a0_2, a0_3, ()), ((), 0, 0, (), ()), (l1, a0_1, a0_2, (), ()), [], ())) R)
theorem vc84_ok {a0_0 : List AV} {a0_1 a0_2 : Int} {a0_3 : List AV} {a1 : Int} {R : AV → Prop} (h : vc84 a0_0 a0_1 a0_2 a0_3 a1 R) : Pure Tryz.prog 84 [.agg [.sl a0_0, nI a0_1, nI a0_2, .sl a0_3], nI a1, .clo 117 []] R :=
 pure_of_code (C := cfg (Func.ntmps Tryz.f84) [(2, [none, none, none, none, none, none, none, none, some [], none], [none, none, some [], some [], none, none, some [], none, none, none])]) (cfg_tab _ _ _ _ _) (cfg_ord _ _ _ _ _) (L := [{ key := 6, live := [(1, none), (2, none), (6, none), (7, none), (46, none), (47, none), (48, none)], brows := [(2, 3, 51)] }]) (fn := Tryz.f84) Tryz.func84 (by exact rfl) (by kernel_rfl) (by kernel_rfl) (by rfl) (of_eq (by kernel_rfl) h)
def vc117 (a0 : Int) (R : AV → Prop) : Prop :=
 R (nI a0)
theorem vc117_ok {a0 : Int} {R : AV → Prop} (h : vc117 a0 R) : Pure Tryz.prog 117 [nI a0] R :=
 pure_of_code (C := cfg (Func.ntmps Tryz.f117)) (cfg_tab _ _ _ _ _) (cfg_ord _ _ _ _ _) (L := []) (fn := Tryz.f117) Tryz.func117 (by exact rfl) (by kernel_rfl) (by kernel_rfl) (by rfl) (of_eq (by kernel_rfl) h)
def vc76 (a0_0 : List AV) (a0_1 a0_2 : Int) (a0_3 : List AV) (R : AV → Prop) : Prop :=
 ∃ (l1 : List AV) (i2 i3 : Int) (l4 : List AV),
 PureIs Tryz.prog 84 [.agg [.sl a0_0, nI a0_1, nI a0_2, .sl a0_3], nI 0, .clo 117 []] (.agg [.sl l1, nI i2, nI i3, .sl l4]) ∧
 R (.agg [.sl l1, nI i2, nI i3, .sl l4])
theorem vc76_ok {a0_0 : List AV} {a0_1 a0_2 : Int} {a0_3 : List AV} {R : AV → Prop} (h : vc76 a0_0 a0_1 a0_2 a0_3 R) : Pure Tryz.prog 76 [.agg [.sl a0_0, nI a0_1, nI a0_2, .sl a0_3]] R :=
 pure_of_code (C := cfg (Func.ntmps Tryz.f76)) (cfg_tab _ _ _ _ _) (cfg_ord _ _ _ _ _) (L := []) (fn := Tryz.f76) Tryz.func76 (by exact rfl) (by kernel_rfl) (by kernel_rfl) (by rfl) (of_eq (by kernel_rfl) h)
def vc30 (a0_0 : List AV) (a0_1 a0_2 : Int) (a0_3 a1 a2 : List AV) (R : AV → Prop) : Prop :=
 ∃ (S3 : AV → Prop),
 Pure Tryz.prog 71 [nI ((List.length a1 : Nat) : Int), .sl a2] S3 ∧
 ∀ (r1 : AV), S3 r1 →
 (∃ (m4 : List (Int × Value)),
 r1 = .tup [.mapv m4, nB true] ∧
 ∃ (S7 : AV → List AObj → Prop),
 HFn Tryz.prog 72 [.agg [.sl a0_0, nI a0_1, nI a0_2, .sl a0_3], nI 0, .clo 73 [.ptr 2 0, .ptr 3 0, .ptr 4 0, .ptr 5 0]] [.box [.sl a0_0, nI a0_1, nI a0_2, .sl a0_3], .box [.prim (.slice none 0 0), nI 0, nI 0, .prim (.slice none 0 0)], .box [nI ((List.length a1 : Nat) : Int)], .box [nI ((List.length a2 : Nat) : Int)], .box [.mapv m4], .box [nI 0]] S7 ∧
 ∀ (r5 : AV) (q6 : List AObj), S7 r5 q6 →
 ∃ (l8 : List AV) (i9 i10 : Int) (l11 : List AV) (i12 i13 : Int) (m14 : List (Int × Value)) (i15 : Int) (l16 : List AV) (i17 i18 : Int) (l19 : List AV),
 (r5 = .agg [.sl l16, nI i17, nI i18, .sl l19] ∧ q6 = [.box [.sl l8, nI i9, nI i10, .sl l11], .box [.prim (.slice none 0 0), nI 0, nI 0, .prim (.slice none 0 0)], .box [nI i12], .box [nI i13], .box [.mapv m14], .box [nI i15]]) ∧
 ITE (i15 != 0)
 (R (.tup [.agg [.sl [], nI 0, nI 0, .sl []], nI i15]))
 (∃ (l20 : List AV),
 PureIs Tryz.prog 75 [.sl a1, .sl a2] (.sl l20) ∧
 ∃ (l21 : List AV),
 PureIs Tryz.prog 74 [.sl [.sl l20, .sl l8]] (.sl l21) ∧
 ∃ (l22 : List AV) (i23 i24 : Int) (l25 : List AV),
 PureIs Tryz.prog 76 [.agg [.sl l21, nI i17, nI i18, .sl l19]] (.agg [.sl l22, nI i23, nI i24, .sl l25]) ∧
 R (.tup [.agg [.sl l22, nI i23, nI i24, .sl l25], nI 0]))) ∨
 r1 = .tup [.prim (.map none), nB false] ∧
 R (.tup [.agg [.sl [], nI 0, nI 0, .sl []], nI 1])
theorem vc30_ok {a0_0 : List AV} {a0_1 a0_2 : Int} {a0_3 a1 a2 : List AV} {R : AV → Prop} (h : vc30 a0_0 a0_1 a0_2 a0_3 a1 a2 R) : Pure Tryz.prog 30 [.agg [.sl a0_0, nI a0_1, nI a0_2, .sl a0_3], .sl a1, .sl a2] R :=
 pure_of_code (C := cfg (Func.ntmps Tryz.f30) [(8, [none, none, some [1], none], [none, some [1], none, none])] [sxVc1_0, sxVc1_1, (71, .alts [.t [.c (.m), .c (.k (.prim (.bool true)))], .t [.c (.k (.prim (.map none))), .c (.k (.prim (.bool false)))]])] []) (cfg_tab _ _ _ _ _) (cfg_ord _ _ _ _ _) (L := []) (fn := Tryz.f30) Tryz.func30 (by exact rfl) (by kernel_rfl) (by kernel_rfl) (by rfl) (of_eq (by kernel_rfl) h)
def vc64 (a0 : Int) (R : AV → Prop) : Prop :=
 R (.agg [.sl [], nI 0, nI a0, .sl []])
theorem vc64_ok {a0 : Int} {R : AV → Prop} (h : vc64 a0 R) : Pure Tryz.prog 64 [nI a0] R :=
 pure_of_code (C := cfg (Func.ntmps Tryz.f64)) (cfg_tab _ _ _ _ _) (cfg_ord _ _ _ _ _) (L := []) (fn := Tryz.f64) Tryz.func64 (by exact rfl) (by kernel_rfl) (by kernel_rfl) (by rfl) (of_eq (by kernel_rfl) h)
def vc65 (h0 : List AV) (h1 : Int) (a0 : List AV) (R : AV → List AObj → Prop) : Prop :=
 R (.agg [.clip [.agg [.sl h0, nI h1], .agg [.sl h0, nI h1]], nI 2, nI 0, .sl a0]) [.box [.sl h0, nI h1]]
theorem vc65_ok {h0 : List AV} {h1 : Int} {a0 : List AV} {R : AV → List AObj → Prop} (h : vc65 h0 h1 a0 R) : HFn Tryz.prog 65 [.sl a0, .ptr 0 0] [.box [.sl h0, nI h1]] R :=
 heap_of_code (C := cfg (Func.ntmps Tryz.f65)) (cfg_tab _ _ _ _ _) (cfg_ord _ _ _ _ _) (L := []) (fn := Tryz.f65) Tryz.func65 (by exact rfl) (by kernel_rfl) (by kernel_rfl) (by rfl) (of_eq (by kernel_rfl) h)
def vc27 (R : AV → Prop) : Prop :=
 ∃ (l1 : List AV) (i2 i3 : Int) (l4 : List AV),
 PureIs Tryz.prog 64 [nI 0] (.agg [.sl l1, nI i2, nI i3, .sl l4]) ∧
 ∃ (l5 : List AV) (i6 i7 : Int) (l8 : List AV),
 PureIs Tryz.prog 64 [nI 1] (.agg [.sl l5, nI i6, nI i7, .sl l8]) ∧
 ∃ (S11 : AV → List AObj → Prop),
 HFn Tryz.prog 65 [.clip [.agg [.sl l1, nI i2, nI i3, .sl l4], .agg [.sl l5, nI i6, nI i7, .sl l8]], .ptr 0 0] [.box [.prim (.slice none 0 0), nI 0]] S11 ∧
 ∀ (r9 : AV) (q10 : List AObj), S11 r9 q10 →
 ∃ (l12 : List AV) (i13 : Int) (l14 : List AV) (i15 i16 : Int) (l17 : List AV),
 (r9 = .agg [.sl l14, nI i15, nI i16, .sl l17] ∧ q10 = [.box [.sl l12, nI i13]]) ∧
 ∃ (l18 : List AV) (i19 : Int),
 PureIs Tryz.prog 66 [.agg [.sl l14, nI i15, nI i16, .sl l17]] (.tup [.sl l18, nI i19]) ∧
 ∃ (l20 : List AV) (i21 i22 : Int) (l23 : List AV),
 PureIs Tryz.prog 64 [nI 1] (.agg [.sl l20, nI i21, nI i22, .sl l23]) ∧
 ∃ (l24 : List AV) (i25 i26 : Int) (l27 : List AV) (i28 : Int),
 PureIs Tryz.prog 30 [.agg [.sl l20, nI i21, nI i22, .sl l23], .sl [.agg [.sl l12, nI i13], .agg [.sl l12, nI i13]], .sl [nI 1]] (.tup [.agg [.sl l24, nI i25, nI i26, .sl l27], nI i28]) ∧
 ITE (i19 == 0)
 (ITE (((List.length l18 : Nat) : Int) == 1)
 (0 ≤ (0 : Int) ∧
 (0 : Int) < List.length l18 ∧
 ∃ (i29 : Int) (l30 l31 l32 : List AV),
 List.getD l18 (Int.toNat 0) .top = .agg [nI i29, .sl l30, .sl l31, .sl l32] ∧
 ∃ (b33 : Bool),
 PureIs Tryz.prog 67 [.sl l30, .sl [nI 0, nI 1]] (nB b33) ∧
 ITE b33
 (∃ (l34 : List AV) (i35 i36 : Int) (l37 : List AV),
 PureIs Tryz.prog 64 [nI 0] (.agg [.sl l34, nI i35, nI i36, .sl l37]) ∧
 ∃ (l38 : List AV) (i39 i40 : Int) (l41 : List AV),
 PureIs Tryz.prog 64 [nI 0] (.agg [.sl l38, nI i39, nI i40, .sl l41]) ∧
 ∃ (S44 : AV → List AObj → Prop),
 HFn Tryz.prog 65 [.clip [.agg [.sl l34, nI i35, nI i36, .sl l37], .agg [.sl l38, nI i39, nI i40, .sl l41]], .ptr 0 0] [.box [.sl l12, nI i13]] S44 ∧
 ∀ (r42 : AV) (q43 : List AObj), S44 r42 q43 →
 ∃ (l45 : List AV) (i46 : Int) (l47 : List AV) (i48 i49 : Int) (l50 : List AV),
 (r42 = .agg [.sl l47, nI i48, nI i49, .sl l50] ∧ q43 = [.box [.sl l45, nI i46]]) ∧
 ∃ (b51 : Bool),
 PureIs Tryz.prog 68 [.agg [.sl l47, nI i48, nI i49, .sl l50]] (nB b51) ∧
 ITE (!b51)
 (∃ (S54 : AV → List AObj → Prop),
 HFn Tryz.prog 65 [.prim (.slice none 0 0), .ptr 0 0] [.box [.sl l45, nI i46]] S54 ∧
 ∀ (r52 : AV) (q53 : List AObj), S54 r52 q53 →
 ∃ (l55 : List AV) (i56 : Int) (l57 : List AV) (i58 i59 : Int) (l60 : List AV),
 (r52 = .agg [.sl l57, nI i58, nI i59, .sl l60] ∧ q53 = [.box [.sl l55, nI i56]]) ∧
 ∃ (S63 : AV → List AObj → Prop),
 HFn Tryz.prog 65 [.clip [.agg [.sl l57, nI i58, nI i59, .sl l60]], .ptr 0 0] [.box [.sl l55, nI i56]] S63 ∧
 ∀ (r61 : AV) (q62 : List AObj), S63 r61 q62 →
 ∃ (l64 : List AV) (i65 : Int) (l66 : List AV) (i67 i68 : Int) (l69 : List AV),
 (r61 = .agg [.sl l66, nI i67, nI i68, .sl l69] ∧ q62 = [.box [.sl l64, nI i65]]) ∧
 ∃ (b70 : Bool),
 PureIs Tryz.prog 68 [.agg [.sl l66, nI i67, nI i68, .sl l69]] (nB b70) ∧
 ITE (!b70)
 (ITE (i28 == 0)
 (ITE (((List.length l24 : Nat) : Int) == 1)
 (R (nB (i25 == 0 && i26 == 0)))
 (R (nB false)))
 (R (nB false)))
 (R (nB false)))
 (R (nB false)))
 (R (nB false)))
 (R (nB false)))
 (R (nB false))
theorem vc27_ok {R : AV → Prop} (h : vc27 R) : Pure Tryz.prog 27 [] R :=
 pure_of_code (C := cfg (Func.ntmps Tryz.f27) [(5, [none, none, none, none, none, none, none, none, none, none, some [], none, none], [none, some [], some [], some [], some [], some [], some [], none, none, none, none, none, none])] [(65, .heap 1 [(.v (.a [.l, .i .i64, .i .i64, .l]), [.box [.l, .i .i64]])])] []) (cfg_tab _ _ _ _ _) (cfg_ord _ _ _ _ _) (L := []) (fn := Tryz.f27) Tryz.func27 (by exact rfl) (by kernel_rfl) (by kernel_rfl) (by rfl) (of_eq (by kernel_rfl) h)
def vc33_L8 (p0 : (Unit × Int × Unit × List AV × Int × Int × Unit) × ((Int × Int × Unit) × (List AV × Int × Unit) × (Unit × Int × Int × Unit × Unit) × (List AV × Int × Int × Unit × Unit) × List AV × Unit)) (R : AV → Prop) : Prop :=
 LoopP _ p0 fun z51 ag52 =>
 ITE (decide (z51.1.2.2.2.2.2.1 < z51.1.2.2.2.2.1))
 (0 ≤ z51.1.2.2.2.2.2.1 ∧
 z51.1.2.2.2.2.2.1 < List.length z51.1.2.2.2.1 ∧
 ∃ (l53 : List AV) (i54 : Int),
 List.getD z51.1.2.2.2.1 (Int.toNat z51.1.2.2.2.2.2.1) .top = .agg [.sl l53, nI i54] ∧
 ∃ (l55 : List AV) (i56 i57 : Int) (l58 : List AV),
 PureIs Tryz.prog 33 [.agg [nI 0, nI (IntKind.wrap .i64 ((IntKind.wrap .i64 (z51.1.2.1 - 1)) - z51.1.2.2.2.2.2.1))], .agg [.sl l53, nI i54]] (.agg [.sl l55, nI i56, nI i57, .sl l58]) ∧
 List.length z51.2.2.2.2.2.1 = List.length z51.2.2.2.2.2.1 ∧
 appOk td51 (List.length (z51.2.2.2.2.2.1 ++ [.agg [.sl l55, nI i56, nI i57, .sl l58]])) [] [.agg [.sl l55, nI i56, nI i57, .sl l58]] ∧
 List.length (z51.2.2.2.2.2.1 ++ [.agg [.sl l55, nI i56, nI i57, .sl l58]]) = List.length (z51.2.2.2.2.2.1 ++ [.agg [.sl l55, nI i56, nI i57, .sl l58]]) ∧
 ag52 (((), z51.1.2.1, (), z51.1.2.2.2.1, z51.1.2.2.2.2.1, IntKind.wrap .i64 (z51.1.2.2.2.2.2.1 + 1), ()), ((z51.2.1.1, z51.2.1.2.1, ()), (z51.2.2.1.1, z51.2.2.1.2.1, ()), ((), z51.2.2.2.1.2.1, z51.2.2.2.1.2.2.1, (), ()), (z51.2.2.2.2.1.1, z51.2.2.2.2.1.2.1, z51.2.2.2.2.1.2.2.1, (), ()), z51.2.2.2.2.2.1 ++ [.agg [.sl l55, nI i56, nI i57, .sl l58]], ())))
 (List.length z51.2.2.2.2.2.1 = List.length z51.2.2.2.2.2.1 ∧
 R (.agg [.sl z51.2.2.2.2.1.1, nI z51.2.2.2.2.1.2.1, nI z51.2.2.2.2.1.2.2.1, .sl z51.2.2.2.2.2.1]))
def vc33 (a0_0 a0_1 : Int) (a1_0 : List AV) (a1_1 : Int) (R : AV → Prop) : Prop :=
 ITE (a0_0 == 0)
 (ITE (decide (a0_1 < 0))
 (R (.agg [.sl [], nI 0, nI 0, .sl []]))
 (ITE (decide (a0_1 > 1000))
 (R (.agg [.sl [], nI 0, nI 0, .sl []]))
 (∃ (l1 : List AV) (i2 : Int),
 PureIs Tryz.prog 82 [.agg [.sl a1_0, nI a1_1], .sl []] (.agg [.sl l1, nI i2]) ∧
 ITE (a0_0 == 0)
 (0 = List.length ([] : List AV) ∧
 vc33_L8 (((), ((List.length a1_0 : Nat) : Int), (), a1_0, ((List.length a1_0 : Nat) : Int), 0, ()), ((a0_0, a0_1, ()), (a1_0, a1_1, ()), ((), 0, 0, (), ()), (l1, a0_0, IntKind.wrap .i64 (a0_1 + ((List.length a1_0 : Nat) : Int)), (), ()), [], ())) R)
 (0 = List.length ([] : List AV) ∧
 vc33_L8 (((), ((List.length a1_0 : Nat) : Int), (), a1_0, ((List.length a1_0 : Nat) : Int), 0, ()), ((a0_0, a0_1, ()), (a1_0, a1_1, ()), ((), 0, 0, (), ()), (l1, a0_0, a0_1, (), ()), [], ())) R))))
 (∃ (l19 : List AV) (i20 : Int),
 PureIs Tryz.prog 82 [.agg [.sl a1_0, nI a1_1], .sl []] (.agg [.sl l19, nI i20]) ∧
 ITE (a0_0 == 0)
 (0 = List.length ([] : List AV) ∧
 vc33_L8 (((), ((List.length a1_0 : Nat) : Int), (), a1_0, ((List.length a1_0 : Nat) : Int), 0, ()), ((a0_0, a0_1, ()), (a1_0, a1_1, ()), ((), 0, 0, (), ()), (l19, a0_0, IntKind.wrap .i64 (a0_1 + ((List.length a1_0 : Nat) : Int)), (), ()), [], ())) R)
 (0 = List.length ([] : List AV) ∧
 vc33_L8 (((), ((List.length a1_0 : Nat) : Int), (), a1_0, ((List.length a1_0 : Nat) : Int), 0, ()), ((a0_0, a0_1, ()), (a1_0, a1_1, ()), ((), 0, 0, (), ()), (l19, a0_0, a0_1, (), ()), [], ())) R))
theorem vc33_ok {a0_0 a0_1 : Int} {a1_0 : List AV} {a1_1 : Int} {R : AV → Prop} (h : vc33 a0_0 a0_1 a1_0 a1_1 R) : Pure Tryz.prog 33 [.agg [nI a0_0, nI a0_1], .agg [.sl a1_0, nI a1_1]] R :=
 pure_of_code (C := cfg (Func.ntmps Tryz.f33) [(4, [none, none, none, none, none, some [], none], [some [], some [], none, some [], none, none, none])]) (cfg_tab _ _ _ _ _) (cfg_ord _ _ _ _ _) (L := [{ key := 8, live := [(4, none), (5, none), (6, none), (42, none), (43, none), (44, none)], brows := [(3, 3, 51)] }]) (fn := Tryz.f33) Tryz.func33 (by exact rfl) (by kernel_rfl) (by kernel_rfl) (by rfl) (of_eq (by kernel_rfl) h)
end Go.Proofs.YtghlgbhldnkdmaaGreat
