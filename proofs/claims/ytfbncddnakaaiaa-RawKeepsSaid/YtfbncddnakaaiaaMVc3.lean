/- What the contracts of functions ask, as the kernel reckons it out of the code; laid by a program of ours. -/
import Derived.Test.YtfbncddnakaaiaaMSig
namespace Go.Proofs.Ytfbncddnakaaiaa
open Go
set_option linter.unusedSimpArgs false
set_option linter.unusedVariables false
set_option maxRecDepth 100000

/-- kind.Each$1 -/
def vc142 (t0 : List AV) (t1 : Int) (yv : Value) (g : Gh) (R : Bool → Gh → Prop) : Prop :=
 ∃ (A : AV → List AV) (L more1 : List (List AV)), [.agg [.sl t0, nI t1], nI 1, .fn yv] = A (.fn yv) ∧ YFn Try.prog 143 A L true ∧ g = some (L ++ more1) ∧
 ∀ b2 : Bool,
 R true (gT b2 more1)
theorem vc142_ok {t0 : List AV} {t1 : Int} {L : List (List AV)} (h : ∀ (yv : Value) (more : List (List AV)), vc142 t0 t1 yv (some (L ++ more)) (RY false more)) : YFn Try.prog 142 (fun v => [v, .eptr (.agg [.sl t0, nI t1]) 0]) L false :=
  yfn_of_code (C := cfg (Func.ntmps Try.f142) [] [(143, .y true)] []) (cfg_tab _ _ _ _ _) (cfg_ord _ _ _ _ _) (L := []) (fn := Try.f142) Try.func142 rfl (by kernel_rfl) (fun _ => by rfl) (by rfl) (fun yv more => of_eq (by kernel_rfl) (h yv more))

/-- kind.down -/
def vc143_L4 (p0 : ((Int × Value × List AV × Int × Int × Unit) × ((List AV × Int × Unit) × Unit)) × Gh) (p1 : Value) (R : Bool → Gh → Prop) : Prop :=
 LoopP (((Int × Value × List AV × Int × Int × Unit) × ((List AV × Int × Unit) × Unit)) × Gh) p0 fun z51 ag52 =>
 ITE (decide (z51.1.1.2.2.2.2.1 < z51.1.1.2.2.2.1))
 (0 ≤ z51.1.1.2.2.2.2.1 ∧
 z51.1.1.2.2.2.2.1 < List.length z51.1.1.2.2.1 ∧
 ∃ (l53 : List AV) (i54 : Int),
 List.getD z51.1.1.2.2.1 (Int.toNat z51.1.1.2.2.2.2.1) .top = .agg [.sl l53, nI i54] ∧
 ∃ (A : AV → List AV) (L m55 : List (List AV)), [.agg [.sl l53, nI i54], nI (IntKind.wrap .i64 (z51.1.1.1 + 1)), .fn z51.1.1.2.1] = A (.fn p1) ∧ YFn Try.prog 143 A L true ∧ z51.2 = some (L ++ m55) ∧
 ∀ b57 : Bool,
 ITE (!b57)
 (R false (gT b57 m55))
 (ag52 (((z51.1.1.1, z51.1.1.2.1, z51.1.1.2.2.1, z51.1.1.2.2.2.1, IntKind.wrap .i64 (z51.1.1.2.2.2.2.1 + 1), ()), ((z51.1.2.1.1, z51.1.2.1.2.1, ()), ())), gT b57 m55)))
 (R true z51.2)
def vc143 (a0_0 : List AV) (a0_1 : Int) (a1 : Int) (yv : Value) (g : Gh) (R : Bool → Gh → Prop) : Prop :=
 yv = yv ∧
 ∃ (more1 : List (List AV)), g = some ([nI a1, .agg [.sl a0_0, nI a0_1]] :: more1) ∧
 ∀ b2 : Bool,
 ITE (!b2)
 (R false (gT b2 more1))
 (vc143_L4 (((a1, yv, a0_0, ((List.length a0_0 : Nat) : Int), 0, ()), ((a0_0, a0_1, ()), ())), gT b2 more1) yv R)
theorem vc143_ok {a0_0 : List AV} {a0_1 : Int} {a1 : Int} {L : List (List AV)} (h : ∀ (yv : Value) (more : List (List AV)), vc143 a0_0 a0_1 a1 yv (some (L ++ more)) (RY true more)) : YFn Try.prog 143 (fun v => [.agg [.sl a0_0, nI a0_1], nI a1, v]) L true :=
  yfn_of_code (C := cfg (Func.ntmps Try.f143) [] [(143, .y true)] []) (cfg_tab _ _ _ _ _) (cfg_ord _ _ _ _ _) (L := [{ key := 4, live := [(1, none), (2, none), (15, none), (16, none), (17, none)] }]) (fn := Try.f143) Try.func143 rfl (by kernel_rfl) (fun _ => by rfl) (by rfl) (fun yv more => of_eq (by kernel_rfl) (h yv more))

/-- term.each$1 -/
def vc140 (t0 : List AV) (t1 : Int) (t2 : Int) (t3 : List AV) (yv : Value) (g : Gh) (R : Bool → Gh → Prop) : Prop :=
 ∃ (A : AV → List AV) (L more1 : List (List AV)), [.agg [.sl t0, nI t1, nI t2, .sl t3], .agg [nI 0, nI 1], .fn yv] = A (.fn yv) ∧ YFn Try.prog 141 A L true ∧ g = some (L ++ more1) ∧
 ∀ b2 : Bool,
 R true (gT b2 more1)
theorem vc140_ok {t0 : List AV} {t1 : Int} {t2 : Int} {t3 : List AV} {L : List (List AV)} (h : ∀ (yv : Value) (more : List (List AV)), vc140 t0 t1 t2 t3 yv (some (L ++ more)) (RY false more)) : YFn Try.prog 140 (fun v => [v, .eptr (.agg [.sl t0, nI t1, nI t2, .sl t3]) 0]) L false :=
  yfn_of_code (C := cfg (Func.ntmps Try.f140) [] [(141, .y true)] []) (cfg_tab _ _ _ _ _) (cfg_ord _ _ _ _ _) (L := []) (fn := Try.f140) Try.func140 rfl (by kernel_rfl) (fun _ => by rfl) (by rfl) (fun yv more => of_eq (by kernel_rfl) (h yv more))

/-- term.down -/
def vc141_L6 (p0 : ((Value × Unit × List AV × Int × Int × Unit) × ((List AV × Int × Int × List AV × Unit) × (Int × Int × Unit) × Unit)) × Gh) (p1 : Value) (R : Bool → Gh → Prop) : Prop :=
 LoopP (((Value × Unit × List AV × Int × Int × Unit) × ((List AV × Int × Int × List AV × Unit) × (Int × Int × Unit) × Unit)) × Gh) p0 fun z51 ag52 =>
 ITE (decide (z51.1.1.2.2.2.2.1 < z51.1.1.2.2.2.1))
 (0 ≤ z51.1.1.2.2.2.2.1 ∧
 z51.1.1.2.2.2.2.1 < List.length z51.1.1.2.2.1 ∧
 ∃ (l53 : List AV) (i54 i55 : Int) (l56 : List AV),
 List.getD z51.1.1.2.2.1 (Int.toNat z51.1.1.2.2.2.2.1) .top = .agg [.sl l53, nI i54, nI i55, .sl l56] ∧
 ∃ (A : AV → List AV) (L m57 : List (List AV)), [.agg [.sl l53, nI i54, nI i55, .sl l56], .agg [nI z51.1.2.2.1.1, nI z51.1.2.2.1.2.1], .fn z51.1.1.1] = A (.fn p1) ∧ YFn Try.prog 141 A L true ∧ z51.2 = some (L ++ m57) ∧
 ∀ b59 : Bool,
 ITE (!b59)
 (R false (gT b59 m57))
 (ag52 (((z51.1.1.1, (), z51.1.1.2.2.1, z51.1.1.2.2.2.1, IntKind.wrap .i64 (z51.1.1.2.2.2.2.1 + 1), ()), ((z51.1.2.1.1, z51.1.2.1.2.1, z51.1.2.1.2.2.1, z51.1.2.1.2.2.2.1, ()), (z51.1.2.2.1.1, z51.1.2.2.1.2.1, ()), ())), gT b59 m57)))
 (R true z51.2)
def vc141 (a0_0 : List AV) (a0_1 : Int) (a0_2 : Int) (a0_3 : List AV) (a1_0 : Int) (a1_1 : Int) (yv : Value) (g : Gh) (R : Bool → Gh → Prop) : Prop :=
 yv = yv ∧
 ∃ (more1 : List (List AV)), g = some ([.agg [nI (IntKind.wrap .i64 (a1_0 + ((List.length a0_0 : Nat) : Int))), nI a1_1], .agg [.sl a0_0, nI a0_1, nI a0_2, .sl a0_3]] :: more1) ∧
 ∀ b2 : Bool,
 ITE (!b2)
 (R false (gT b2 more1))
 (vc141_L6 (((yv, (), a0_3, ((List.length a0_3 : Nat) : Int), 0, ()), ((a0_0, a0_1, a0_2, a0_3, ()), (IntKind.wrap .i64 (a1_0 + ((List.length a0_0 : Nat) : Int)), IntKind.wrap .i64 (a1_1 + 1), ()), ())), gT b2 more1) yv R)
theorem vc141_ok {a0_0 : List AV} {a0_1 : Int} {a0_2 : Int} {a0_3 : List AV} {a1_0 : Int} {a1_1 : Int} {L : List (List AV)} (h : ∀ (yv : Value) (more : List (List AV)), vc141 a0_0 a0_1 a0_2 a0_3 a1_0 a1_1 yv (some (L ++ more)) (RY true more)) : YFn Try.prog 141 (fun v => [.agg [.sl a0_0, nI a0_1, nI a0_2, .sl a0_3], .agg [nI a1_0, nI a1_1], v]) L true :=
  yfn_of_code (C := cfg (Func.ntmps Try.f141) [] [(141, .y true)] []) (cfg_tab _ _ _ _ _) (cfg_ord _ _ _ _ _) (L := [{ key := 6, live := [(2, none), (4, none), (26, none), (27, none), (28, none)] }]) (fn := Try.f141) Try.func141 rfl (by kernel_rfl) (fun _ => by rfl) (by rfl) (fun yv more => of_eq (by kernel_rfl) (h yv more))

/-- slices.Backward[[]kind.Type,kind.Type]$1 -/
def vc121_L1 (p0 : ((Value × Unit × Int × Unit) × (Unit)) × Gh) (p1 : List AV) (p2 : Value) (R : Bool → Gh → Prop) : Prop :=
 LoopP (((Value × Unit × Int × Unit) × (Unit)) × Gh) p0 fun z51 ag52 =>
 ITE (decide (z51.1.1.2.2.1 ≥ 0))
 (0 ≤ z51.1.1.2.2.1 ∧
 z51.1.1.2.2.1 < List.length p1 ∧
 ∃ (l54 : List AV) (i55 : Int),
 List.getD p1 (Int.toNat z51.1.1.2.2.1) .top = .agg [.sl l54, nI i55] ∧
 z51.1.1.1 = p2 ∧
 ∃ (m57 : List (List AV)), z51.2 = some ([nI z51.1.1.2.2.1, .agg [.sl l54, nI i55]] :: m57) ∧
 ∀ b58 : Bool,
 ITE (!b58)
 (R true (gT b58 m57))
 ((.eptr (.sl p1) 0 : AV) = .eptr (.sl p1) 0 ∧
 ag52 (((z51.1.1.1, (), IntKind.wrap .i64 (z51.1.1.2.2.1 - 1), ()), ()), gT b58 m57)))
 (R true z51.2)
def vc121 (t0 : List AV) (yv : Value) (g : Gh) (R : Bool → Gh → Prop) : Prop :=
 (.eptr (.sl t0) 0 : AV) = .eptr (.sl t0) 0 ∧
 vc121_L1 (((yv, (), IntKind.wrap .i64 (((List.length t0 : Nat) : Int) - 1), ()), ()), g) t0 yv R
theorem vc121_ok {t0 : List AV} {L : List (List AV)} (h : ∀ (yv : Value) (more : List (List AV)), vc121 t0 yv (some (L ++ more)) (RY false more)) : YFn Try.prog 121 (fun v => [v, .eptr (.sl t0) 0]) L false :=
  yfn_of_code (C := cfg (Func.ntmps Try.f121)) (cfg_tab _ _ _ _ _) (cfg_ord _ _ _ _ _) (L := [{ key := 1, live := [(0, none), (1, some (.v (.c (.q (.eptr (.sl t0) 0))))), (3, none)] }]) (fn := Try.f121) Try.func121 rfl (by kernel_rfl) (fun _ => by rfl) (by rfl) (fun yv more => of_eq (by kernel_rfl) (h yv more))

/-- kind.Each -/
def vc136 (a0_0 : List AV) (a0_1 : Int) (R : AV → Prop) : Prop :=
 R (.clo 142 [.eptr (.agg [.sl a0_0, nI a0_1]) 0])
theorem vc136_ok {a0_0 : List AV} {a0_1 : Int} {R : AV → Prop} (h : vc136 a0_0 a0_1 R) : Pure Try.prog 136 [.agg [.sl a0_0, nI a0_1]] R :=
  pure_of_code (C := cfg (Func.ntmps Try.f136)) (cfg_tab _ _ _ _ _) (cfg_ord _ _ _ _ _) (L := []) (fn := Try.f136) Try.func136 rfl (by kernel_rfl) (by kernel_rfl) (by rfl) (of_eq (by kernel_rfl) h)

/-- slices.Backward[[]kind.Type,kind.Type] -/
def vc91 (a0 : List AV) (R : AV → Prop) : Prop :=
 R (.clo 121 [.eptr (.sl a0) 0])
theorem vc91_ok {a0 : List AV} {R : AV → Prop} (h : vc91 a0 R) : Pure Try.prog 91 [.sl a0] R :=
  pure_of_code (C := cfg (Func.ntmps Try.f91)) (cfg_tab _ _ _ _ _) (cfg_ord _ _ _ _ _) (L := []) (fn := Try.f91) Try.func91 rfl (by kernel_rfl) (by kernel_rfl) (by rfl) (of_eq (by kernel_rfl) h)

/-- term.each -/
def vc134 (a0_0 : List AV) (a0_1 : Int) (a0_2 : Int) (a0_3 : List AV) (R : AV → Prop) : Prop :=
 R (.clo 140 [.eptr (.agg [.sl a0_0, nI a0_1, nI a0_2, .sl a0_3]) 0])
theorem vc134_ok {a0_0 : List AV} {a0_1 : Int} {a0_2 : Int} {a0_3 : List AV} {R : AV → Prop} (h : vc134 a0_0 a0_1 a0_2 a0_3 R) : Pure Try.prog 134 [.agg [.sl a0_0, nI a0_1, nI a0_2, .sl a0_3]] R :=
  pure_of_code (C := cfg (Func.ntmps Try.f134)) (cfg_tab _ _ _ _ _) (cfg_ord _ _ _ _ _) (L := []) (fn := Try.f134) Try.func134 rfl (by kernel_rfl) (by kernel_rfl) (by rfl) (of_eq (by kernel_rfl) h)

/-- raw.Bind -/
def vc40 (a0_0 : Int) (a0_1 : List AV) (a0_2 : Int) (a0_3 : Int) (a0_4 : List AV) (a1 : List AV) (R : AV → Prop) : Prop :=
 ∃ (i1 : Int) (l2 : List AV) (i3 i4 : Int) (l5 : List AV),
 PureIs Try.prog 90 [.agg [nI a0_0, .sl a0_1, nI a0_2, nI a0_3, .sl a0_4]] (.agg [nI i1, .sl l2, nI i3, nI i4, .sl l5]) ∧
 PureIs Try.prog 91 [.sl a1] (.clo 121 [.eptr (.sl a1) 0]) ∧
 RangeP ((Int × List AV × Int × Int × List AV × Unit) × (Int × Unit × Int × Int × Unit × Unit) × (Int × List AV × Int × Int × List AV × Unit) × Unit) (Int × (List AV × Int × Unit) × Unit) ((a0_0, a0_1, a0_2, a0_3, a0_4, ()), (0, (), 0, 0, (), ()), (i1, l2, i3, i4, l5, ()), ()) (fun Ls => SeqIs Try.prog 121 [.eptr (.sl a1) 0] [.v (.c (.i .i64)), .v (.a [.l, .i .i64])] Ls)
 (fun e7 z6 again8 =>
 ∃ (l9 : List AV) (i10 : Int),
 PureIs Try.prog 92 [.agg [.sl e7.2.1.1, nI e7.2.1.2.1], .sl []] (.agg [.sl l9, nI i10]) ∧
 again8 ((z6.1.1, z6.1.2.1, z6.1.2.2.1, z6.1.2.2.2.1, z6.1.2.2.2.2.1, ()), (z6.2.1.1, (), z6.2.1.2.2.1, z6.2.1.2.2.2.1, (), ()), (3, l9, i10, 0, [.agg [nI z6.2.2.1.1, .sl z6.2.2.1.2.1, nI z6.2.2.1.2.2.1, nI z6.2.2.1.2.2.2.1, .sl z6.2.2.1.2.2.2.2.1]], ()), ()))
 (fun z11 =>
 R (.agg [nI z11.2.2.1.1, .sl z11.2.2.1.2.1, nI z11.2.2.1.2.2.1, nI z11.2.2.1.2.2.2.1, .sl z11.2.2.1.2.2.2.2.1]))
theorem vc40_ok {a0_0 : Int} {a0_1 : List AV} {a0_2 : Int} {a0_3 : Int} {a0_4 : List AV} {a1 : List AV} {R : AV → Prop} (h : vc40 a0_0 a0_1 a0_2 a0_3 a0_4 a1 R) : Pure Try.prog 40 [.agg [nI a0_0, .sl a0_1, nI a0_2, nI a0_3, .sl a0_4], .sl a1] R :=
  pure_of_code (C := cfg (Func.ntmps Try.f40) [] [(91, .clo 121)] []) (cfg_tab _ _ _ _ _) (cfg_ord _ _ _ _ _) (L := [{ key := 4, live := [], prm := [.v (.c (.i .i64)), .v (.a [.l, .i .i64])] }]) (fn := Try.f40) Try.func40 rfl (by kernel_rfl) (by kernel_rfl) (by rfl) (of_eq (by kernel_rfl) h)

/-- kind.Right -/
def vc110 (a0_0 : List AV) (a0_1 : Int) (a1 : Int) (R : AV → Prop) : Prop :=
 PureIs Try.prog 136 [.agg [.sl a0_0, nI a0_1]] (.clo 142 [.eptr (.agg [.sl a0_0, nI a0_1]) 0]) ∧
 RangeP ((List AV × Int × Unit) × (Int × Unit) × (Bool × Unit) × (Int × Unit) × Unit) (Int × (List AV × Int × Unit) × Unit) ((a0_0, a0_1, ()), (a1, ()), (false, ()), (0, ()), ()) (fun Ls => SeqIs Try.prog 142 [.eptr (.agg [.sl a0_0, nI a0_1]) 0] [.v (.c (.i .i64)), .v (.a [.l, .i .i64])] Ls)
 (fun e2 z1 again3 =>
 ITE (decide (e2.1 > 60))
 (R (nB false))
 (ITE (decide ((IntKind.wrap .i64 (z1.2.2.2.1.1 + 1)) > 1000))
 (R (nB false))
 (ITE (decide (e2.2.1.2.1 < 0))
 (R (nB false))
 (ITE (decide (e2.2.1.2.1 ≥ z1.2.1.1))
 (R (nB false))
 (again3 ((z1.1.1, z1.1.2.1, ()), (z1.2.1.1, ()), (z1.2.2.1.1, ()), (IntKind.wrap .i64 (z1.2.2.2.1.1 + 1), ()), ()))))))
 (fun z4 =>
 R (nB true))
theorem vc110_ok {a0_0 : List AV} {a0_1 : Int} {a1 : Int} {R : AV → Prop} (h : vc110 a0_0 a0_1 a1 R) : Pure Try.prog 110 [.agg [.sl a0_0, nI a0_1], nI a1] R :=
  pure_of_code (C := cfg (Func.ntmps Try.f110) [] [(136, .clo 142)] []) (cfg_tab _ _ _ _ _) (cfg_ord _ _ _ _ _) (L := [{ key := 5, live := [], prm := [.v (.c (.i .i64)), .v (.a [.l, .i .i64])] }]) (fn := Try.f110) Try.func110 rfl (by kernel_rfl) (by kernel_rfl) (by rfl) (of_eq (by kernel_rfl) h)

/-- kind.Size -/
def vc123 (a0_0 : List AV) (a0_1 : Int) (R : AV → Prop) : Prop :=
 PureIs Try.prog 136 [.agg [.sl a0_0, nI a0_1]] (.clo 142 [.eptr (.agg [.sl a0_0, nI a0_1]) 0]) ∧
 RangeP ((List AV × Int × Unit) × (Int × Unit) × Unit) (Int × (List AV × Int × Unit) × Unit) ((a0_0, a0_1, ()), (0, ()), ()) (fun Ls => SeqIs Try.prog 142 [.eptr (.agg [.sl a0_0, nI a0_1]) 0] [.v (.c (.i .i64)), .v (.a [.l, .i .i64])] Ls)
 (fun e2 z1 again3 =>
 again3 ((z1.1.1, z1.1.2.1, ()), (IntKind.wrap .i64 (z1.2.1.1 + 1), ()), ()))
 (fun z4 =>
 R (nI z4.2.1.1))
theorem vc123_ok {a0_0 : List AV} {a0_1 : Int} {R : AV → Prop} (h : vc123 a0_0 a0_1 R) : Pure Try.prog 123 [.agg [.sl a0_0, nI a0_1]] R :=
  pure_of_code (C := cfg (Func.ntmps Try.f123) [] [(136, .clo 142)] []) (cfg_tab _ _ _ _ _) (cfg_ord _ _ _ _ _) (L := [{ key := 3, live := [], prm := [.v (.c (.i .i64)), .v (.a [.l, .i .i64])] }]) (fn := Try.f123) Try.func123 rfl (by kernel_rfl) (by kernel_rfl) (by rfl) (of_eq (by kernel_rfl) h)

/-- term.Right -/
def vc106 (a0_0 : List AV) (a0_1 : Int) (a0_2 : Int) (a0_3 : List AV) (R : AV → Prop) : Prop :=
 PureIs Try.prog 134 [.agg [.sl a0_0, nI a0_1, nI a0_2, .sl a0_3]] (.clo 140 [.eptr (.agg [.sl a0_0, nI a0_1, nI a0_2, .sl a0_3]) 0]) ∧
 RangeP ((List AV × Int × Int × List AV × Unit) × (Bool × Unit) × (Int × Unit) × Unit) ((Int × Int × Unit) × (List AV × Int × Int × List AV × Unit) × Unit) ((a0_0, a0_1, a0_2, a0_3, ()), (false, ()), (0, ()), ()) (fun Ls => SeqIs Try.prog 140 [.eptr (.agg [.sl a0_0, nI a0_1, nI a0_2, .sl a0_3]) 0] [.v (.a [.i .i64, .i .i64]), .v (.a [.l, .i .i64, .i .i64, .l])] Ls)
 (fun e2 z1 again3 =>
 ITE (decide ((IntKind.wrap .i64 (z1.2.2.1.1 + 1)) > 5000))
 (R (nB false))
 (ITE (decide (e2.1.2.1 > 60))
 (R (nB false))
 (again3 ((z1.1.1, z1.1.2.1, z1.1.2.2.1, z1.1.2.2.2.1, ()), (z1.2.1.1, ()), (IntKind.wrap .i64 (z1.2.2.1.1 + 1), ()), ()))))
 (fun z4 =>
 R (nB true))
theorem vc106_ok {a0_0 : List AV} {a0_1 : Int} {a0_2 : Int} {a0_3 : List AV} {R : AV → Prop} (h : vc106 a0_0 a0_1 a0_2 a0_3 R) : Pure Try.prog 106 [.agg [.sl a0_0, nI a0_1, nI a0_2, .sl a0_3]] R :=
  pure_of_code (C := cfg (Func.ntmps Try.f106) [] [(134, .clo 140)] []) (cfg_tab _ _ _ _ _) (cfg_ord _ _ _ _ _) (L := [{ key := 4, live := [], prm := [.v (.a [.i .i64, .i .i64]), .v (.a [.l, .i .i64, .i .i64, .l])] }]) (fn := Try.f106) Try.func106 rfl (by kernel_rfl) (by kernel_rfl) (by rfl) (of_eq (by kernel_rfl) h)

end Go.Proofs.Ytfbncddnakaaiaa
