/- Texts of ours laid together for a claim: Vc4. -/
import Derived.Test.YtghlgbhldnkdmaaGreatQ34
namespace Go.Proofs.YtghlgbhldnkdmaaGreat
open Go
set_option linter.unusedSimpArgs false
set_option linter.unusedVariables false
set_option maxRecDepth 100000
def vc11 (a0_0 : Int) (a0_1 a0_2 : List AV) (R : AV → Prop) : Prop :=
 ∃ (l1 : List AV),
 PureIs Tryz.prog 12 [.sl a0_1] (.sl l1) ∧
 ∃ (l2 : List AV),
 PureIs Tryz.prog 12 [.sl a0_2] (.sl l2) ∧
 R (.agg [nI a0_0, .sl l1, .sl l2])
theorem vc11_ok {a0_0 : Int} {a0_1 a0_2 : List AV} {R : AV → Prop} (h : vc11 a0_0 a0_1 a0_2 R) : Pure Tryz.prog 11 [.agg [nI a0_0, .sl a0_1, .sl a0_2]] R :=
 pure_of_code (C := cfg (Func.ntmps Tryz.f11)) (cfg_tab _ _ _ _ _) (cfg_ord _ _ _ _ _) (L := []) (fn := Tryz.f11) Tryz.func11 (by exact rfl) (by kernel_rfl) (by kernel_rfl) (by rfl) (of_eq (by kernel_rfl) h)
def vc29 (a0_0 : Int) (a0_1 a0_2 a1 a2_0 : List AV) (a2_1 a2_2 : Int) (a2_3 : List AV) (R : AV → Prop) : Prop :=
 ∃ (l1 : List AV),
 PureIs Tryz.prog 70 [.sl a1, .sl a2_0] (.sl l1) ∧
 ∃ (l2 : List AV) (i3 : Int) (b4 : Bool),
 PureIs Tryz.prog 69 [.agg [nI a0_0, .sl a0_1, .sl a0_2], .sl l1, .agg [nI a2_1, nI a2_2]] (.tup [.agg [.sl l2, nI i3], nB b4]) ∧
 ITE (!b4)
 (R (.tup [.agg [.sl [], nI 0], nI 10]))
 (∃ (l5 : List AV) (i6 : Int),
 PureIs Tryz.prog 47 [nI i3, .sl a2_0] (.agg [.sl l5, nI i6]) ∧
 R (.tup [.agg [.sl l5, nI i6], nI 0]))
theorem vc29_ok {a0_0 : Int} {a0_1 a0_2 a1 a2_0 : List AV} {a2_1 a2_2 : Int} {a2_3 : List AV} {R : AV → Prop} (h : vc29 a0_0 a0_1 a0_2 a1 a2_0 a2_1 a2_2 a2_3 R) : Pure Tryz.prog 29 [.agg [nI a0_0, .sl a0_1, .sl a0_2], .sl a1, .agg [.sl a2_0, nI a2_1, nI a2_2, .sl a2_3]] R :=
 pure_of_code (C := cfg (Func.ntmps Tryz.f29) [(1, [none, none, none, none, none, none, none, none, none, none, none, some [], none, none], [some [], none, none, some [], some [], none, some [], some [], none, none, none, none, none, none])]) (cfg_tab _ _ _ _ _) (cfg_ord _ _ _ _ _) (L := []) (fn := Tryz.f29) Tryz.func29 (by exact rfl) (by kernel_rfl) (by kernel_rfl) (by rfl) (of_eq (by kernel_rfl) h)
def vc32 (a0_0 : Int) (a0_1 a0_2 a1 a2_0 : List AV) (a2_1 a2_2 : Int) (a2_3 a3_0 : List AV) (a3_1 : Int) (R : AV → Prop) : Prop :=
 ∃ (b1 : Bool),
 PureIs Tryz.prog 80 [.agg [.sl a2_0, nI a2_1, nI a2_2, .sl a2_3]] (nB b1) ∧
 ITE (!b1)
 (R (nI 2))
 (∃ (b2 : Bool),
 PureIs Tryz.prog 81 [.agg [nI a0_0, .sl a0_1, .sl a0_2], .sl a1, .agg [.sl a2_0, nI a2_1, nI a2_2, .sl a2_3], .agg [.sl a3_0, nI a3_1]] (nB b2) ∧
 ITE (!b2)
 (R (nI 5))
 (R (nI 0)))
theorem vc32_ok {a0_0 : Int} {a0_1 a0_2 a1 a2_0 : List AV} {a2_1 a2_2 : Int} {a2_3 a3_0 : List AV} {a3_1 : Int} {R : AV → Prop} (h : vc32 a0_0 a0_1 a0_2 a1 a2_0 a2_1 a2_2 a2_3 a3_0 a3_1 R) : Pure Tryz.prog 32 [.agg [nI a0_0, .sl a0_1, .sl a0_2], .sl a1, .agg [.sl a2_0, nI a2_1, nI a2_2, .sl a2_3], .agg [.sl a3_0, nI a3_1]] R :=
 pure_of_code (C := cfg (Func.ntmps Tryz.f32)) (cfg_tab _ _ _ _ _) (cfg_ord _ _ _ _ _) (L := []) (fn := Tryz.f32) Tryz.func32 (by exact rfl) (by kernel_rfl) (by kernel_rfl) (by rfl) (of_eq (by kernel_rfl) h)
def vc31 (a0_0 : Int) (a0_1 a0_2 : List AV) (R : AV → Prop) : Prop :=
 ITE (decide (((List.length a0_1 : Nat) : Int) > 1000))
 (R (nB false))
 (ITE (decide (((List.length a0_2 : Nat) : Int) > (IntKind.wrap .i64 (1000 - ((List.length a0_1 : Nat) : Int)))))
 (R (nB false))
 (∃ (l1 : List AV),
 PureIs Tryz.prog 74 [.sl [.sl a0_1, .sl a0_2]] (.sl l1) ∧
 ∃ (b2 : Bool),
 PureIs Tryz.prog 77 [.sl l1, .clo 78 [.eptr (.agg [nI a0_0, .sl a0_1, .sl a0_2]) 0]] (nB b2) ∧
 R (nB (!b2))))
theorem vc31_ok {a0_0 : Int} {a0_1 a0_2 : List AV} {R : AV → Prop} (h : vc31 a0_0 a0_1 a0_2 R) : Pure Tryz.prog 31 [.agg [nI a0_0, .sl a0_1, .sl a0_2]] R :=
 pure_of_code (C := cfg (Func.ntmps Tryz.f31) [] [(77, .frz (.v (.c (.b))))] []) (cfg_tab _ _ _ _ _) (cfg_ord _ _ _ _ _) (L := []) (fn := Tryz.f31) Tryz.func31 (by exact rfl) (by kernel_rfl) (by kernel_rfl) (by rfl) (of_eq (by kernel_rfl) h)
def vc69 (a0_0 : Int) (a0_1 a0_2 a1 : List AV) (a2_0 a2_1 : Int) (R : AV → Prop) : Prop :=
 ITE (a2_0 == 1)
 (ITE (decide (a2_1 < 0))
 (R (.tup [.agg [.sl [], nI 0], nB false]))
 (ITE (decide (a2_1 ≥ ((List.length a0_1 : Nat) : Int)))
 (R (.tup [.agg [.sl [], nI 0], nB false]))
 (0 ≤ a2_1 ∧
 a2_1 < List.length a0_1 ∧
 ∃ (l1 : List AV) (i2 : Int),
 List.getD a0_1 (Int.toNat a2_1) .top = .agg [.sl l1, nI i2] ∧
 R (.tup [.agg [.sl l1, nI i2], nB true]))))
 (ITE (a2_0 == 2)
 (ITE (decide (a2_1 < 0))
 (R (.tup [.agg [.sl [], nI 0], nB false]))
 (ITE (decide (a2_1 ≥ ((List.length a0_2 : Nat) : Int)))
 (R (.tup [.agg [.sl [], nI 0], nB false]))
 (0 ≤ a2_1 ∧
 a2_1 < List.length a0_2 ∧
 ∃ (l3 : List AV) (i4 : Int),
 List.getD a0_2 (Int.toNat a2_1) .top = .agg [.sl l3, nI i4] ∧
 R (.tup [.agg [.sl l3, nI i4], nB true]))))
 (ITE (a2_0 == 0)
 (ITE (decide (a2_1 < 0))
 (R (.tup [.agg [.sl [], nI 0], nB false]))
 (ITE (decide ((IntKind.wrap .i64 ((IntKind.wrap .i64 (((List.length a1 : Nat) : Int) - 1)) - a2_1)) < 0))
 (R (.tup [.agg [.sl [], nI 0], nB false]))
 (ITE (decide ((IntKind.wrap .i64 ((IntKind.wrap .i64 (((List.length a1 : Nat) : Int) - 1)) - a2_1)) ≥ ((List.length a1 : Nat) : Int)))
 (R (.tup [.agg [.sl [], nI 0], nB false]))
 (0 ≤ (IntKind.wrap .i64 ((IntKind.wrap .i64 (((List.length a1 : Nat) : Int) - 1)) - a2_1)) ∧
 (IntKind.wrap .i64 ((IntKind.wrap .i64 (((List.length a1 : Nat) : Int) - 1)) - a2_1)) < List.length a1 ∧
 ∃ (l5 : List AV) (i6 : Int),
 List.getD a1 (Int.toNat (IntKind.wrap .i64 ((IntKind.wrap .i64 (((List.length a1 : Nat) : Int) - 1)) - a2_1))) .top = .agg [.sl l5, nI i6] ∧
 R (.tup [.agg [.sl l5, nI i6], nB true])))))
 (R (.tup [.agg [.sl [], nI 0], nB false]))))
theorem vc69_ok {a0_0 : Int} {a0_1 a0_2 a1 : List AV} {a2_0 a2_1 : Int} {R : AV → Prop} (h : vc69 a0_0 a0_1 a0_2 a1 a2_0 a2_1 R) : Pure Tryz.prog 69 [.agg [nI a0_0, .sl a0_1, .sl a0_2], .sl a1, .agg [nI a2_0, nI a2_1]] R :=
 pure_of_code (C := cfg (Func.ntmps Tryz.f69)) (cfg_tab _ _ _ _ _) (cfg_ord _ _ _ _ _) (L := []) (fn := Tryz.f69) Tryz.func69 (by exact rfl) (by kernel_rfl) (by kernel_rfl) (by rfl) (of_eq (by kernel_rfl) h)
def vc70 (a0 a1 : List AV) (R : AV → Prop) : Prop :=
 ∃ (l1 : List AV),
 PureIs Tryz.prog 74 [.sl [.sl a0, .sl a1]] (.sl l1) ∧
 R (.sl l1)
theorem vc70_ok {a0 a1 : List AV} {R : AV → Prop} (h : vc70 a0 a1 R) : Pure Tryz.prog 70 [.sl a0, .sl a1] R :=
 pure_of_code (C := cfg (Func.ntmps Tryz.f70)) (cfg_tab _ _ _ _ _) (cfg_ord _ _ _ _ _) (L := []) (fn := Tryz.f70) Tryz.func70 (by exact rfl) (by kernel_rfl) (by kernel_rfl) (by rfl) (of_eq (by kernel_rfl) h)
def vc81_L8 (p0 : (Unit × List AV × Unit × List AV × Int × Int × Unit) × ((Int × List AV × List AV × Unit) × (List AV × Int × Int × List AV × Unit) × (List AV × Int × Unit) × (List AV × Int × Unit) × Unit)) (R : AV → Prop) : Prop :=
 LoopP _ p0 fun z51 ag52 =>
 ITE (decide (z51.1.2.2.2.2.2.1 < z51.1.2.2.2.2.1))
 (0 ≤ z51.1.2.2.2.2.2.1 ∧
 z51.1.2.2.2.2.2.1 < List.length z51.1.2.2.2.1 ∧
 ∃ (l53 : List AV) (i54 i55 : Int) (l56 : List AV),
 List.getD z51.1.2.2.2.1 (Int.toNat z51.1.2.2.2.2.2.1) .top = .agg [.sl l53, nI i54, nI i55, .sl l56] ∧
 0 ≤ z51.1.2.2.2.2.2.1 ∧
 z51.1.2.2.2.2.2.1 < List.length z51.2.2.2.2.1.1 ∧
 ∃ (l57 : List AV) (i58 : Int),
 List.getD z51.2.2.2.2.1.1 (Int.toNat z51.1.2.2.2.2.2.1) .top = .agg [.sl l57, nI i58] ∧
 ∃ (b59 : Bool),
 PureIs Tryz.prog 81 [.agg [nI z51.2.1.1, .sl z51.2.1.2.1, .sl z51.2.1.2.2.1], .sl z51.1.2.1, .agg [.sl l53, nI i54, nI i55, .sl l56], .agg [.sl l57, nI i58]] (nB b59) ∧
 ITE (!b59)
 (R (nB false))
 (ag52 (((), z51.1.2.1, (), z51.1.2.2.2.1, z51.1.2.2.2.2.1, IntKind.wrap .i64 (z51.1.2.2.2.2.2.1 + 1), ()), ((z51.2.1.1, z51.2.1.2.1, z51.2.1.2.2.1, ()), (z51.2.2.1.1, z51.2.2.1.2.1, z51.2.2.1.2.2.1, z51.2.2.1.2.2.2.1, ()), (z51.2.2.2.1.1, z51.2.2.2.1.2.1, ()), (z51.2.2.2.2.1.1, z51.2.2.2.2.1.2.1, ()), ()))))
 (R (nB true))
def vc81 (a0_0 : Int) (a0_1 a0_2 a1 a2_0 : List AV) (a2_1 a2_2 : Int) (a2_3 a3_0 : List AV) (a3_1 : Int) (R : AV → Prop) : Prop :=
 ∃ (b1 : Bool),
 PureIs Tryz.prog 89 [.sl a2_0, .sl a3_0, .clo 90 []] (nB b1) ∧
 ITE (!b1)
 (R (nB false))
 (∃ (l2 : List AV),
 PureIs Tryz.prog 70 [.sl a1, .sl a2_0] (.sl l2) ∧
 ∃ (l3 : List AV) (i4 : Int) (b5 : Bool),
 PureIs Tryz.prog 69 [.agg [nI a0_0, .sl a0_1, .sl a0_2], .sl l2, .agg [nI a2_1, nI a2_2]] (.tup [.agg [.sl l3, nI i4], nB b5]) ∧
 ITE (!b5)
 (R (nB false))
 (ITE (i4 != a3_1)
 (R (nB false))
 (ITE (((List.length l3 : Nat) : Int) != ((List.length a2_3 : Nat) : Int))
 (R (nB false))
 (vc81_L8 (((), l2, (), a2_3, ((List.length a2_3 : Nat) : Int), 0, ()), ((a0_0, a0_1, a0_2, ()), (a2_0, a2_1, a2_2, a2_3, ()), (a3_0, a3_1, ()), (l3, i4, ()), ())) R))))
theorem vc81_ok {a0_0 : Int} {a0_1 a0_2 a1 a2_0 : List AV} {a2_1 a2_2 : Int} {a2_3 a3_0 : List AV} {a3_1 : Int} {R : AV → Prop} (h : vc81 a0_0 a0_1 a0_2 a1 a2_0 a2_1 a2_2 a2_3 a3_0 a3_1 R) : Pure Tryz.prog 81 [.agg [nI a0_0, .sl a0_1, .sl a0_2], .sl a1, .agg [.sl a2_0, nI a2_1, nI a2_2, .sl a2_3], .agg [.sl a3_0, nI a3_1]] R :=
 pure_of_code (C := cfg (Func.ntmps Tryz.f81)) (cfg_tab _ _ _ _ _) (cfg_ord _ _ _ _ _) (L := [{ key := 8, live := [(4, none), (9, none), (10, none), (51, none), (52, none), (53, none)] }]) (fn := Tryz.f81) Tryz.func81 (by exact rfl) (by kernel_rfl) (by kernel_rfl) (by rfl) (of_eq (by kernel_rfl) h)
def vc77 (w0 : Int) (w1 w2 a0 : List AV) (R : AV → Prop) : Prop :=
 ∃ (i1 : Int),
 PureIs Tryz.prog 118 [.sl a0, .clo 78 [.eptr (.agg [nI w0, .sl w1, .sl w2]) 0]] (nI i1) ∧
 R (nB (decide (i1 ≥ 0)))
theorem vc77_ok {w0 : Int} {w1 w2 a0 : List AV} {R : AV → Prop} (h : vc77 w0 w1 w2 a0 R) : Pure Tryz.prog 77 [.sl a0, .clo 78 [.eptr (.agg [nI w0, .sl w1, .sl w2]) 0]] R :=
 pure_of_code (C := cfg (Func.ntmps Tryz.f77)) (cfg_tab _ _ _ _ _) (cfg_ord _ _ _ _ _) (L := []) (fn := Tryz.f77) Tryz.func77 (by exact rfl) (by kernel_rfl) (by kernel_rfl) (by rfl) (of_eq (by kernel_rfl) h)
def vc78 (w0 : Int) (w1 w2 a0_0 : List AV) (a0_1 : Int) (R : AV → Prop) : Prop :=
 ∃ (b1 : Bool),
 PureIs Tryz.prog 79 [.agg [.sl a0_0, nI a0_1], nI w0] (nB b1) ∧
 R (nB (!b1))
theorem vc78_ok {w0 : Int} {w1 w2 a0_0 : List AV} {a0_1 : Int} {R : AV → Prop} (h : vc78 w0 w1 w2 a0_0 a0_1 R) : Pure Tryz.prog 78 [.agg [.sl a0_0, nI a0_1], .eptr (.agg [nI w0, .sl w1, .sl w2]) 0] R :=
 pure_of_code (C := cfg (Func.ntmps Tryz.f78)) (cfg_tab _ _ _ _ _) (cfg_ord _ _ _ _ _) (L := []) (fn := Tryz.f78) Tryz.func78 (by exact rfl) (by kernel_rfl) (by kernel_rfl) (by rfl) (of_eq (by kernel_rfl) h)
def vc118_L2 (p0 : (List AV × (Unit × Unit) × Int × Int × Unit) × (Unit)) (p1 : Int) (p2 p3 : List AV) (R : AV → Prop) : Prop :=
 LoopP _ p0 fun z51 ag52 =>
 ITE (decide (z51.1.2.2.2.1 < z51.1.2.2.1))
 (0 ≤ z51.1.2.2.2.1 ∧
 z51.1.2.2.2.1 < List.length z51.1.1 ∧
 ∃ (l53 : List AV) (i54 : Int),
 List.getD z51.1.1 (Int.toNat z51.1.2.2.2.1) .top = .agg [.sl l53, nI i54] ∧
 ∃ (b55 : Bool),
 PureIs Tryz.prog 78 [.agg [.sl l53, nI i54], .eptr (.agg [nI p1, .sl p2, .sl p3]) 0] (nB b55) ∧
 ITE b55
 (R (nI z51.1.2.2.2.1))
 ((.eptr (.agg [nI p1, .sl p2, .sl p3]) 0 : AV) = .eptr (.agg [nI p1, .sl p2, .sl p3]) 0 ∧
 ag52 ((z51.1.1, ((), ()), z51.1.2.2.1, IntKind.wrap .i64 (z51.1.2.2.2.1 + 1), ()), ())))
 (R (nI (-1)))
def vc118 (w0 : Int) (w1 w2 a0 : List AV) (R : AV → Prop) : Prop :=
 (.eptr (.agg [nI w0, .sl w1, .sl w2]) 0 : AV) = .eptr (.agg [nI w0, .sl w1, .sl w2]) 0 ∧
 vc118_L2 ((a0, ((), ()), ((List.length a0 : Nat) : Int), 0, ()), ()) w0 w1 w2 R
theorem vc118_ok {w0 : Int} {w1 w2 a0 : List AV} {R : AV → Prop} (h : vc118 w0 w1 w2 a0 R) : Pure Tryz.prog 118 [.sl a0, .clo 78 [.eptr (.agg [nI w0, .sl w1, .sl w2]) 0]] R :=
 pure_of_code (C := cfg (Func.ntmps Tryz.f118)) (cfg_tab _ _ _ _ _) (cfg_ord _ _ _ _ _) (L := [{ key := 2, live := [(0, none), (1, some (.f 78 [.c (.q (.eptr (.agg [nI w0, .sl w1, .sl w2]) 0))])), (7, none), (8, none)] }]) (fn := Tryz.f118) Tryz.func118 (by exact rfl) (by kernel_rfl) (by kernel_rfl) (by rfl) (of_eq (by kernel_rfl) h)
end Go.Proofs.YtghlgbhldnkdmaaGreat
