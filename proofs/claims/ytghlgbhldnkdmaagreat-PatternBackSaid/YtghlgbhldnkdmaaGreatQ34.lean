/- Texts of ours laid together for a claim: Vc3. -/
import Derived.Test.YtghlgbhldnkdmaaGreatQ33
namespace Go.Proofs.YtghlgbhldnkdmaaGreat
open Go
set_option linter.unusedSimpArgs false
set_option linter.unusedVariables false
set_option maxRecDepth 100000
def vc150 (t0 : List AV) (t1 : Int) (yv : Value) (g : Gh) (R : Bool → Gh → Prop) : Prop :=
 ∃ (A : AV → List AV) (L more1 : List (List AV)), [.agg [.sl t0, nI t1], nI 1, .fn yv] = A (.fn yv) ∧ YFn Tryz.prog 151 A L true ∧ g = some (L ++ more1) ∧
 ∀ b2 : Bool,
 R true (gT b2 more1)
theorem vc150_ok {t0 : List AV} {t1 : Int} {L : List (List AV)} (h : ∀ (yv : Value) (more : List (List AV)), vc150 t0 t1 yv (some (L ++ more)) (RY false more)) : YFn Tryz.prog 150 (fun v => [v, .eptr (.agg [.sl t0, nI t1]) 0]) L false :=
 yfn_of_code (C := cfg (Func.ntmps Tryz.f150) [] [(151, .y true)] []) (cfg_tab _ _ _ _ _) (cfg_ord _ _ _ _ _) (L := []) (fn := Tryz.f150) Tryz.func150 (by exact rfl) (by kernel_rfl) (fun _ => by rfl) (by rfl) (fun yv more => of_eq (by kernel_rfl) (h yv more))
def vc151_L4 (p0 : ((Int × Value × List AV × Int × Int × Unit) × ((List AV × Int × Unit) × Unit)) × Gh) (p1 : Value) (R : Bool → Gh → Prop) : Prop :=
 LoopP _ p0 fun z51 ag52 =>
 ITE (decide (z51.1.1.2.2.2.2.1 < z51.1.1.2.2.2.1))
 (0 ≤ z51.1.1.2.2.2.2.1 ∧
 z51.1.1.2.2.2.2.1 < List.length z51.1.1.2.2.1 ∧
 ∃ (l53 : List AV) (i54 : Int),
 List.getD z51.1.1.2.2.1 (Int.toNat z51.1.1.2.2.2.2.1) .top = .agg [.sl l53, nI i54] ∧
 ∃ (A : AV → List AV) (L m55 : List (List AV)), [.agg [.sl l53, nI i54], nI (IntKind.wrap .i64 (z51.1.1.1 + 1)), .fn z51.1.1.2.1] = A (.fn p1) ∧ YFn Tryz.prog 151 A L true ∧ z51.2 = some (L ++ m55) ∧
 ∀ b57 : Bool,
 ITE (!b57)
 (R false (gT b57 m55))
 (ag52 (((z51.1.1.1, z51.1.1.2.1, z51.1.1.2.2.1, z51.1.1.2.2.2.1, IntKind.wrap .i64 (z51.1.1.2.2.2.2.1 + 1), ()), ((z51.1.2.1.1, z51.1.2.1.2.1, ()), ())), gT b57 m55)))
 (R true z51.2)
def vc151 (a0_0 : List AV) (a0_1 a1 : Int) (yv : Value) (g : Gh) (R : Bool → Gh → Prop) : Prop :=
 yv = yv ∧
 ∃ (more1 : List (List AV)), g = some ([nI a1, .agg [.sl a0_0, nI a0_1]] :: more1) ∧
 ∀ b2 : Bool,
 ITE (!b2)
 (R false (gT b2 more1))
 (vc151_L4 (((a1, yv, a0_0, ((List.length a0_0 : Nat) : Int), 0, ()), ((a0_0, a0_1, ()), ())), gT b2 more1) yv R)
theorem vc151_ok {a0_0 : List AV} {a0_1 a1 : Int} {L : List (List AV)} (h : ∀ (yv : Value) (more : List (List AV)), vc151 a0_0 a0_1 a1 yv (some (L ++ more)) (RY true more)) : YFn Tryz.prog 151 (fun v => [.agg [.sl a0_0, nI a0_1], nI a1, v]) L true :=
 yfn_of_code (C := cfg (Func.ntmps Tryz.f151) [] [(151, .y true)] []) (cfg_tab _ _ _ _ _) (cfg_ord _ _ _ _ _) (L := [{ key := 4, live := [(1, none), (2, none), (15, none), (16, none), (17, none)] }]) (fn := Tryz.f151) Tryz.func151 (by exact rfl) (by kernel_rfl) (fun _ => by rfl) (by rfl) (fun yv more => of_eq (by kernel_rfl) (h yv more))
def vc123 (t0 : List AV) (t1 t2 : Int) (t3 : List AV) (yv : Value) (g : Gh) (R : Bool → Gh → Prop) : Prop :=
 ∃ (A : AV → List AV) (L more1 : List (List AV)), [.agg [.sl t0, nI t1, nI t2, .sl t3], .agg [nI 0, nI 1], .fn yv] = A (.fn yv) ∧ YFn Tryz.prog 124 A L true ∧ g = some (L ++ more1) ∧
 ∀ b2 : Bool,
 R true (gT b2 more1)
theorem vc123_ok {t0 : List AV} {t1 t2 : Int} {t3 : List AV} {L : List (List AV)} (h : ∀ (yv : Value) (more : List (List AV)), vc123 t0 t1 t2 t3 yv (some (L ++ more)) (RY false more)) : YFn Tryz.prog 123 (fun v => [v, .eptr (.agg [.sl t0, nI t1, nI t2, .sl t3]) 0]) L false :=
 yfn_of_code (C := cfg (Func.ntmps Tryz.f123) [] [(124, .y true)] []) (cfg_tab _ _ _ _ _) (cfg_ord _ _ _ _ _) (L := []) (fn := Tryz.f123) Tryz.func123 (by exact rfl) (by kernel_rfl) (fun _ => by rfl) (by rfl) (fun yv more => of_eq (by kernel_rfl) (h yv more))
def vc124_L6 (p0 : ((Value × Unit × List AV × Int × Int × Unit) × ((List AV × Int × Int × List AV × Unit) × (Int × Int × Unit) × Unit)) × Gh) (p1 : Value) (R : Bool → Gh → Prop) : Prop :=
 LoopP _ p0 fun z51 ag52 =>
 ITE (decide (z51.1.1.2.2.2.2.1 < z51.1.1.2.2.2.1))
 (0 ≤ z51.1.1.2.2.2.2.1 ∧
 z51.1.1.2.2.2.2.1 < List.length z51.1.1.2.2.1 ∧
 ∃ (l53 : List AV) (i54 i55 : Int) (l56 : List AV),
 List.getD z51.1.1.2.2.1 (Int.toNat z51.1.1.2.2.2.2.1) .top = .agg [.sl l53, nI i54, nI i55, .sl l56] ∧
 ∃ (A : AV → List AV) (L m57 : List (List AV)), [.agg [.sl l53, nI i54, nI i55, .sl l56], .agg [nI z51.1.2.2.1.1, nI z51.1.2.2.1.2.1], .fn z51.1.1.1] = A (.fn p1) ∧ YFn Tryz.prog 124 A L true ∧ z51.2 = some (L ++ m57) ∧
 ∀ b59 : Bool,
 ITE (!b59)
 (R false (gT b59 m57))
 (ag52 (((z51.1.1.1, (), z51.1.1.2.2.1, z51.1.1.2.2.2.1, IntKind.wrap .i64 (z51.1.1.2.2.2.2.1 + 1), ()), ((z51.1.2.1.1, z51.1.2.1.2.1, z51.1.2.1.2.2.1, z51.1.2.1.2.2.2.1, ()), (z51.1.2.2.1.1, z51.1.2.2.1.2.1, ()), ())), gT b59 m57)))
 (R true z51.2)
def vc124 (a0_0 : List AV) (a0_1 a0_2 : Int) (a0_3 : List AV) (a1_0 a1_1 : Int) (yv : Value) (g : Gh) (R : Bool → Gh → Prop) : Prop :=
 yv = yv ∧
 ∃ (more1 : List (List AV)), g = some ([.agg [nI (IntKind.wrap .i64 (a1_0 + ((List.length a0_0 : Nat) : Int))), nI a1_1], .agg [.sl a0_0, nI a0_1, nI a0_2, .sl a0_3]] :: more1) ∧
 ∀ b2 : Bool,
 ITE (!b2)
 (R false (gT b2 more1))
 (vc124_L6 (((yv, (), a0_3, ((List.length a0_3 : Nat) : Int), 0, ()), ((a0_0, a0_1, a0_2, a0_3, ()), (IntKind.wrap .i64 (a1_0 + ((List.length a0_0 : Nat) : Int)), IntKind.wrap .i64 (a1_1 + 1), ()), ())), gT b2 more1) yv R)
theorem vc124_ok {a0_0 : List AV} {a0_1 a0_2 : Int} {a0_3 : List AV} {a1_0 a1_1 : Int} {L : List (List AV)} (h : ∀ (yv : Value) (more : List (List AV)), vc124 a0_0 a0_1 a0_2 a0_3 a1_0 a1_1 yv (some (L ++ more)) (RY true more)) : YFn Tryz.prog 124 (fun v => [.agg [.sl a0_0, nI a0_1, nI a0_2, .sl a0_3], .agg [nI a1_0, nI a1_1], v]) L true :=
 yfn_of_code (C := cfg (Func.ntmps Tryz.f124) [] [(124, .y true)] []) (cfg_tab _ _ _ _ _) (cfg_ord _ _ _ _ _) (L := [{ key := 6, live := [(2, none), (4, none), (26, none), (27, none), (28, none)] }]) (fn := Tryz.f124) Tryz.func124 (by exact rfl) (by kernel_rfl) (fun _ => by rfl) (by rfl) (fun yv more => of_eq (by kernel_rfl) (h yv more))
def vc119 (a0_0 : List AV) (a0_1 : Int) (R : AV → Prop) : Prop :=
 R (.clo 150 [.eptr (.agg [.sl a0_0, nI a0_1]) 0])
theorem vc119_ok {a0_0 : List AV} {a0_1 : Int} {R : AV → Prop} (h : vc119 a0_0 a0_1 R) : Pure Tryz.prog 119 [.agg [.sl a0_0, nI a0_1]] R :=
 pure_of_code (C := cfg (Func.ntmps Tryz.f119)) (cfg_tab _ _ _ _ _) (cfg_ord _ _ _ _ _) (L := []) (fn := Tryz.f119) Tryz.func119 (by exact rfl) (by kernel_rfl) (by kernel_rfl) (by rfl) (of_eq (by kernel_rfl) h)
def vc92 (a0_0 : List AV) (a0_1 a0_2 : Int) (a0_3 : List AV) (R : AV → Prop) : Prop :=
 R (.clo 123 [.eptr (.agg [.sl a0_0, nI a0_1, nI a0_2, .sl a0_3]) 0])
theorem vc92_ok {a0_0 : List AV} {a0_1 a0_2 : Int} {a0_3 : List AV} {R : AV → Prop} (h : vc92 a0_0 a0_1 a0_2 a0_3 R) : Pure Tryz.prog 92 [.agg [.sl a0_0, nI a0_1, nI a0_2, .sl a0_3]] R :=
 pure_of_code (C := cfg (Func.ntmps Tryz.f92)) (cfg_tab _ _ _ _ _) (cfg_ord _ _ _ _ _) (L := []) (fn := Tryz.f92) Tryz.func92 (by exact rfl) (by kernel_rfl) (by kernel_rfl) (by rfl) (of_eq (by kernel_rfl) h)
def vc79 (a0_0 : List AV) (a0_1 a1 : Int) (R : AV → Prop) : Prop :=
 PureIs Tryz.prog 119 [.agg [.sl a0_0, nI a0_1]] (.clo 150 [.eptr (.agg [.sl a0_0, nI a0_1]) 0]) ∧
 RangeP ((List AV × Int × Unit) × (Int × Unit) × (Bool × Unit) × (Int × Unit) × Unit) (Int × (List AV × Int × Unit) × Unit) ((a0_0, a0_1, ()), (a1, ()), (false, ()), (0, ()), ()) (fun Ls => SeqIs Tryz.prog 150 [.eptr (.agg [.sl a0_0, nI a0_1]) 0] [.v (.c (.i .i64)), .v (.a [.l, .i .i64])] Ls)
 (fun e2 z1 again3 =>
 ITE (decide (e2.1 > 60))
 (R (nB false))
 (ITE (decide ((IntKind.wrap .i64 (z1.2.2.2.1.1 + 1)) > 1000))
 (R (nB false))
 (ITE (decide (e2.2.1.2.1 < 0))
 (R (nB false))
 (ITE (decide (e2.2.1.2.1 ≥ z1.2.1.1))
 (R (nB false))
 (again3 ((z1.1.1, z1.1.2.1, ()), (z1.2.1.1, ()), (z1.2.2.1.1, ()), (IntKind.wrap .i64 (z1.2.2.2.1.1 + 1), ()), ()))))))
 (fun z4 =>
 R (nB true))
theorem vc79_ok {a0_0 : List AV} {a0_1 a1 : Int} {R : AV → Prop} (h : vc79 a0_0 a0_1 a1 R) : Pure Tryz.prog 79 [.agg [.sl a0_0, nI a0_1], nI a1] R :=
 pure_of_code (C := cfg (Func.ntmps Tryz.f79) [] [(119, .clo 150)] []) (cfg_tab _ _ _ _ _) (cfg_ord _ _ _ _ _) (L := [{ key := 5, live := [], prm := [.v (.c (.i .i64)), .v (.a [.l, .i .i64])] }]) (fn := Tryz.f79) Tryz.func79 (by exact rfl) (by kernel_rfl) (by kernel_rfl) (by rfl) (of_eq (by kernel_rfl) h)
def vc128 (a0_0 : List AV) (a0_1 : Int) (R : AV → Prop) : Prop :=
 PureIs Tryz.prog 119 [.agg [.sl a0_0, nI a0_1]] (.clo 150 [.eptr (.agg [.sl a0_0, nI a0_1]) 0]) ∧
 RangeP ((List AV × Int × Unit) × (Int × Unit) × Unit) (Int × (List AV × Int × Unit) × Unit) ((a0_0, a0_1, ()), (0, ()), ()) (fun Ls => SeqIs Tryz.prog 150 [.eptr (.agg [.sl a0_0, nI a0_1]) 0] [.v (.c (.i .i64)), .v (.a [.l, .i .i64])] Ls)
 (fun e2 z1 again3 =>
 again3 ((z1.1.1, z1.1.2.1, ()), (IntKind.wrap .i64 (z1.2.1.1 + 1), ()), ()))
 (fun z4 =>
 R (nI z4.2.1.1))
theorem vc128_ok {a0_0 : List AV} {a0_1 : Int} {R : AV → Prop} (h : vc128 a0_0 a0_1 R) : Pure Tryz.prog 128 [.agg [.sl a0_0, nI a0_1]] R :=
 pure_of_code (C := cfg (Func.ntmps Tryz.f128) [] [(119, .clo 150)] []) (cfg_tab _ _ _ _ _) (cfg_ord _ _ _ _ _) (L := [{ key := 3, live := [], prm := [.v (.c (.i .i64)), .v (.a [.l, .i .i64])] }]) (fn := Tryz.f128) Tryz.func128 (by exact rfl) (by kernel_rfl) (by kernel_rfl) (by rfl) (of_eq (by kernel_rfl) h)
def vc80 (a0_0 : List AV) (a0_1 a0_2 : Int) (a0_3 : List AV) (R : AV → Prop) : Prop :=
 PureIs Tryz.prog 92 [.agg [.sl a0_0, nI a0_1, nI a0_2, .sl a0_3]] (.clo 123 [.eptr (.agg [.sl a0_0, nI a0_1, nI a0_2, .sl a0_3]) 0]) ∧
 RangeP ((List AV × Int × Int × List AV × Unit) × (Bool × Unit) × (Int × Unit) × Unit) ((Int × Int × Unit) × (List AV × Int × Int × List AV × Unit) × Unit) ((a0_0, a0_1, a0_2, a0_3, ()), (false, ()), (0, ()), ()) (fun Ls => SeqIs Tryz.prog 123 [.eptr (.agg [.sl a0_0, nI a0_1, nI a0_2, .sl a0_3]) 0] [.v (.a [.i .i64, .i .i64]), .v (.a [.l, .i .i64, .i .i64, .l])] Ls)
 (fun e2 z1 again3 =>
 ITE (decide ((IntKind.wrap .i64 (z1.2.2.1.1 + 1)) > 5000))
 (R (nB false))
 (ITE (decide (e2.1.2.1 > 60))
 (R (nB false))
 (again3 ((z1.1.1, z1.1.2.1, z1.1.2.2.1, z1.1.2.2.2.1, ()), (z1.2.1.1, ()), (IntKind.wrap .i64 (z1.2.2.1.1 + 1), ()), ()))))
 (fun z4 =>
 R (nB true))
theorem vc80_ok {a0_0 : List AV} {a0_1 a0_2 : Int} {a0_3 : List AV} {R : AV → Prop} (h : vc80 a0_0 a0_1 a0_2 a0_3 R) : Pure Tryz.prog 80 [.agg [.sl a0_0, nI a0_1, nI a0_2, .sl a0_3]] R :=
 pure_of_code (C := cfg (Func.ntmps Tryz.f80) [] [(92, .clo 123)] []) (cfg_tab _ _ _ _ _) (cfg_ord _ _ _ _ _) (L := [{ key := 4, live := [], prm := [.v (.a [.i .i64, .i .i64]), .v (.a [.l, .i .i64, .i .i64, .l])] }]) (fn := Tryz.f80) Tryz.func80 (by exact rfl) (by kernel_rfl) (by kernel_rfl) (by rfl) (of_eq (by kernel_rfl) h)
end Go.Proofs.YtghlgbhldnkdmaaGreat
