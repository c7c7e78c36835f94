/- Texts of ours laid together for a claim: Vc3. -/
import Derived.Test.YtghnkppcncbddaaDoorQ36
namespace Go.Proofs.YtghnkppcncbddaaDoor
open Go
set_option linter.unusedSimpArgs false
set_option linter.unusedVariables false
set_option maxRecDepth 100000
def vc85 (t0 : List AV) (t1 t2 : Int) (t3 : List AV) (yv : Value) (g : Gh) (R : Bool → Gh → Prop) : Prop :=
 ∃ (A : AV → List AV) (L more1 : List (List AV)), [.agg [.sl t0, nI t1, nI t2, .sl t3], .agg [nI 0, nI 1], .fn yv] = A (.fn yv) ∧ YFn Tryd.prog 86 A L true ∧ g = some (L ++ more1) ∧
 ∀ b2 : Bool,
 R true (gT b2 more1)
theorem vc85_ok {t0 : List AV} {t1 t2 : Int} {t3 : List AV} {L : List (List AV)} (h : ∀ (yv : Value) (more : List (List AV)), vc85 t0 t1 t2 t3 yv (some (L ++ more)) (RY false more)) : YFn Tryd.prog 85 (fun v => [v, .eptr (.agg [.sl t0, nI t1, nI t2, .sl t3]) 0]) L false :=
 yfn_of_code (C := cfg (Func.ntmps Tryd.f85) [] [(86, .y true)] []) (cfg_tab _ _ _ _ _) (cfg_ord _ _ _ _ _) (L := []) (fn := Tryd.f85) Tryd.func85 (by exact rfl) (by kernel_rfl) (fun _ => by rfl) (by rfl) (fun yv more => of_eq (by kernel_rfl) (h yv more))
def vc86_L6 (p0 : ((Value × Unit × List AV × Int × Int × Unit) × ((List AV × Int × Int × List AV × Unit) × (Int × Int × Unit) × Unit)) × Gh) (p1 : Value) (R : Bool → Gh → Prop) : Prop :=
 LoopP _ p0 fun z51 ag52 =>
 ITE (decide (z51.1.1.2.2.2.2.1 < z51.1.1.2.2.2.1))
 (0 ≤ z51.1.1.2.2.2.2.1 ∧
 z51.1.1.2.2.2.2.1 < List.length z51.1.1.2.2.1 ∧
 ∃ (l53 : List AV) (i54 i55 : Int) (l56 : List AV),
 List.getD z51.1.1.2.2.1 (Int.toNat z51.1.1.2.2.2.2.1) .top = .agg [.sl l53, nI i54, nI i55, .sl l56] ∧
 ∃ (A : AV → List AV) (L m57 : List (List AV)), [.agg [.sl l53, nI i54, nI i55, .sl l56], .agg [nI z51.1.2.2.1.1, nI z51.1.2.2.1.2.1], .fn z51.1.1.1] = A (.fn p1) ∧ YFn Tryd.prog 86 A L true ∧ z51.2 = some (L ++ m57) ∧
 ∀ b59 : Bool,
 ITE (!b59)
 (R false (gT b59 m57))
 (ag52 (((z51.1.1.1, (), z51.1.1.2.2.1, z51.1.1.2.2.2.1, IntKind.wrap .i64 (z51.1.1.2.2.2.2.1 + 1), ()), ((z51.1.2.1.1, z51.1.2.1.2.1, z51.1.2.1.2.2.1, z51.1.2.1.2.2.2.1, ()), (z51.1.2.2.1.1, z51.1.2.2.1.2.1, ()), ())), gT b59 m57)))
 (R true z51.2)
def vc86 (a0_0 : List AV) (a0_1 a0_2 : Int) (a0_3 : List AV) (a1_0 a1_1 : Int) (yv : Value) (g : Gh) (R : Bool → Gh → Prop) : Prop :=
 yv = yv ∧
 ∃ (more1 : List (List AV)), g = some ([.agg [nI (IntKind.wrap .i64 (a1_0 + ((List.length a0_0 : Nat) : Int))), nI a1_1], .agg [.sl a0_0, nI a0_1, nI a0_2, .sl a0_3]] :: more1) ∧
 ∀ b2 : Bool,
 ITE (!b2)
 (R false (gT b2 more1))
 (vc86_L6 (((yv, (), a0_3, ((List.length a0_3 : Nat) : Int), 0, ()), ((a0_0, a0_1, a0_2, a0_3, ()), (IntKind.wrap .i64 (a1_0 + ((List.length a0_0 : Nat) : Int)), IntKind.wrap .i64 (a1_1 + 1), ()), ())), gT b2 more1) yv R)
theorem vc86_ok {a0_0 : List AV} {a0_1 a0_2 : Int} {a0_3 : List AV} {a1_0 a1_1 : Int} {L : List (List AV)} (h : ∀ (yv : Value) (more : List (List AV)), vc86 a0_0 a0_1 a0_2 a0_3 a1_0 a1_1 yv (some (L ++ more)) (RY true more)) : YFn Tryd.prog 86 (fun v => [.agg [.sl a0_0, nI a0_1, nI a0_2, .sl a0_3], .agg [nI a1_0, nI a1_1], v]) L true :=
 yfn_of_code (C := cfg (Func.ntmps Tryd.f86) [] [(86, .y true)] []) (cfg_tab _ _ _ _ _) (cfg_ord _ _ _ _ _) (L := [{ key := 6, live := [(2, none), (4, none), (26, none), (27, none), (28, none)] }]) (fn := Tryd.f86) Tryd.func86 (by exact rfl) (by kernel_rfl) (fun _ => by rfl) (by rfl) (fun yv more => of_eq (by kernel_rfl) (h yv more))
def vc89_L1 (p0 : ((Value × Unit × Int × Unit) × (Unit)) × Gh) (p1 : List AV) (p2 : Value) (R : Bool → Gh → Prop) : Prop :=
 LoopP _ p0 fun z51 ag52 =>
 ITE (decide (z51.1.1.2.2.1 ≥ 0))
 (0 ≤ z51.1.1.2.2.1 ∧
 z51.1.1.2.2.1 < List.length p1 ∧
 ∃ (l54 : List AV) (i55 : Int),
 List.getD p1 (Int.toNat z51.1.1.2.2.1) .top = .agg [.sl l54, nI i55] ∧
 z51.1.1.1 = p2 ∧
 ∃ (m57 : List (List AV)), z51.2 = some ([nI z51.1.1.2.2.1, .agg [.sl l54, nI i55]] :: m57) ∧
 ∀ b58 : Bool,
 ITE (!b58)
 (R true (gT b58 m57))
 ((.eptr (.sl p1) 0 : AV) = .eptr (.sl p1) 0 ∧
 ag52 (((z51.1.1.1, (), IntKind.wrap .i64 (z51.1.1.2.2.1 - 1), ()), ()), gT b58 m57)))
 (R true z51.2)
def vc89 (t0 : List AV) (yv : Value) (g : Gh) (R : Bool → Gh → Prop) : Prop :=
 (.eptr (.sl t0) 0 : AV) = .eptr (.sl t0) 0 ∧
 vc89_L1 (((yv, (), IntKind.wrap .i64 (((List.length t0 : Nat) : Int) - 1), ()), ()), g) t0 yv R
theorem vc89_ok {t0 : List AV} {L : List (List AV)} (h : ∀ (yv : Value) (more : List (List AV)), vc89 t0 yv (some (L ++ more)) (RY false more)) : YFn Tryd.prog 89 (fun v => [v, .eptr (.sl t0) 0]) L false :=
 yfn_of_code (C := cfg (Func.ntmps Tryd.f89)) (cfg_tab _ _ _ _ _) (cfg_ord _ _ _ _ _) (L := [{ key := 1, live := [(0, none), (1, some (.v (.c (.q (.eptr (.sl t0) 0))))), (3, none)] }]) (fn := Tryd.f89) Tryd.func89 (by exact rfl) (by kernel_rfl) (fun _ => by rfl) (by rfl) (fun yv more => of_eq (by kernel_rfl) (h yv more))
def vc72 (a0 : List AV) (R : AV → Prop) : Prop :=
 R (.clo 89 [.eptr (.sl a0) 0])
theorem vc72_ok {a0 : List AV} {R : AV → Prop} (h : vc72 a0 R) : Pure Tryd.prog 72 [.sl a0] R :=
 pure_of_code (C := cfg (Func.ntmps Tryd.f72)) (cfg_tab _ _ _ _ _) (cfg_ord _ _ _ _ _) (L := []) (fn := Tryd.f72) Tryd.func72 (by exact rfl) (by kernel_rfl) (by kernel_rfl) (by rfl) (of_eq (by kernel_rfl) h)
def vc67 (a0_0 : List AV) (a0_1 a0_2 : Int) (a0_3 : List AV) (R : AV → Prop) : Prop :=
 R (.clo 85 [.eptr (.agg [.sl a0_0, nI a0_1, nI a0_2, .sl a0_3]) 0])
theorem vc67_ok {a0_0 : List AV} {a0_1 a0_2 : Int} {a0_3 : List AV} {R : AV → Prop} (h : vc67 a0_0 a0_1 a0_2 a0_3 R) : Pure Tryd.prog 67 [.agg [.sl a0_0, nI a0_1, nI a0_2, .sl a0_3]] R :=
 pure_of_code (C := cfg (Func.ntmps Tryd.f67)) (cfg_tab _ _ _ _ _) (cfg_ord _ _ _ _ _) (L := []) (fn := Tryd.f67) Tryd.func67 (by exact rfl) (by kernel_rfl) (by kernel_rfl) (by rfl) (of_eq (by kernel_rfl) h)
def vc56 (a0_0 : List AV) (a0_1 a0_2 : Int) (a0_3 : List AV) (R : AV → Prop) : Prop :=
 PureIs Tryd.prog 67 [.agg [.sl a0_0, nI a0_1, nI a0_2, .sl a0_3]] (.clo 85 [.eptr (.agg [.sl a0_0, nI a0_1, nI a0_2, .sl a0_3]) 0]) ∧
 RangeP ((List AV × Int × Int × List AV × Unit) × (Bool × Unit) × (Int × Unit) × Unit) ((Int × Int × Unit) × (List AV × Int × Int × List AV × Unit) × Unit) ((a0_0, a0_1, a0_2, a0_3, ()), (false, ()), (0, ()), ()) (fun Ls => SeqIs Tryd.prog 85 [.eptr (.agg [.sl a0_0, nI a0_1, nI a0_2, .sl a0_3]) 0] [.v (.a [.i .i64, .i .i64]), .v (.a [.l, .i .i64, .i .i64, .l])] Ls)
 (fun e2 z1 again3 =>
 ITE (decide ((IntKind.wrap .i64 (z1.2.2.1.1 + 1)) > 5000))
 (R (nB false))
 (ITE (decide (e2.1.2.1 > 60))
 (R (nB false))
 (again3 ((z1.1.1, z1.1.2.1, z1.1.2.2.1, z1.1.2.2.2.1, ()), (z1.2.1.1, ()), (IntKind.wrap .i64 (z1.2.2.1.1 + 1), ()), ()))))
 (fun z4 =>
 R (nB true))
theorem vc56_ok {a0_0 : List AV} {a0_1 a0_2 : Int} {a0_3 : List AV} {R : AV → Prop} (h : vc56 a0_0 a0_1 a0_2 a0_3 R) : Pure Tryd.prog 56 [.agg [.sl a0_0, nI a0_1, nI a0_2, .sl a0_3]] R :=
 pure_of_code (C := cfg (Func.ntmps Tryd.f56) [] [(67, .clo 85)] []) (cfg_tab _ _ _ _ _) (cfg_ord _ _ _ _ _) (L := [{ key := 4, live := [], prm := [.v (.a [.i .i64, .i .i64]), .v (.a [.l, .i .i64, .i .i64, .l])] }]) (fn := Tryd.f56) Tryd.func56 (by exact rfl) (by kernel_rfl) (by kernel_rfl) (by rfl) (of_eq (by kernel_rfl) h)
end Go.Proofs.YtghnkppcncbddaaDoor
