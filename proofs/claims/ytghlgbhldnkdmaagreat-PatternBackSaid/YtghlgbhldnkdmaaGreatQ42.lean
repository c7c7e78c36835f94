/- Texts of ours laid together for a claim: Vc91. -/
import Derived.Test.YtghlgbhldnkdmaaGreatQ41
namespace Go.Proofs.YtghlgbhldnkdmaaGreat
open Go
set_option linter.unusedSimpArgs false
set_option linter.unusedVariables false
set_option maxRecDepth 100000
def vc38 (a0_0 : List AV) (a0_1 a0_2 : Int) (a0_3 : List AV) (R : AV → Prop) : Prop :=
 PureIs Tryz.prog 92 [.agg [.sl a0_0, nI a0_1, nI a0_2, .sl a0_3]] (.clo 123 [.eptr (.agg [.sl a0_0, nI a0_1, nI a0_2, .sl a0_3]) 0]) ∧
 RangeP ((List AV × Int × Int × List AV × Unit) × (Int × Unit) × Unit) ((Int × Int × Unit) × (List AV × Int × Int × List AV × Unit) × Unit) ((a0_0, a0_1, a0_2, a0_3, ()), (0, ()), ()) (fun Ls => SeqIs Tryz.prog 123 [.eptr (.agg [.sl a0_0, nI a0_1, nI a0_2, .sl a0_3]) 0] [.v (.a [.i .i64, .i .i64]), .v (.a [.l, .i .i64, .i .i64, .l])] Ls)
 (fun e2 z1 again3 =>
 ITE (e2.2.1.2.1 == 0)
 (ITE (decide (e2.2.1.2.2.1 ≥ e2.1.1))
 (again3 ((z1.1.1, z1.1.2.1, z1.1.2.2.1, z1.1.2.2.2.1, ()), (if (IntKind.wrap .i64 ((if 1000 < (IntKind.wrap .i64 (e2.2.1.2.2.1 - e2.1.1)) then 1000 else IntKind.wrap .i64 (e2.2.1.2.2.1 - e2.1.1)) + 1)) > z1.2.1.1 then IntKind.wrap .i64 ((if 1000 < (IntKind.wrap .i64 (e2.2.1.2.2.1 - e2.1.1)) then 1000 else IntKind.wrap .i64 (e2.2.1.2.2.1 - e2.1.1)) + 1) else z1.2.1.1, ()), ()))
 (again3 ((z1.1.1, z1.1.2.1, z1.1.2.2.1, z1.1.2.2.2.1, ()), (z1.2.1.1, ()), ())))
 (again3 ((z1.1.1, z1.1.2.1, z1.1.2.2.1, z1.1.2.2.2.1, ()), (z1.2.1.1, ()), ())))
 (fun z4 =>
 R (nI z4.2.1.1))
theorem vc38_ok {a0_0 : List AV} {a0_1 a0_2 : Int} {a0_3 : List AV} {R : AV → Prop} (h : vc38 a0_0 a0_1 a0_2 a0_3 R) : Pure Tryz.prog 38 [.agg [.sl a0_0, nI a0_1, nI a0_2, .sl a0_3]] R :=
 pure_of_code (C := cfg (Func.ntmps Tryz.f38) [] [(92, .clo 123)] []) (cfg_tab _ _ _ _ _) (cfg_ord _ _ _ _ _) (L := [{ key := 5, live := [], prm := [.v (.a [.i .i64, .i .i64]), .v (.a [.l, .i .i64, .i .i64, .l])] }]) (fn := Tryz.f38) Tryz.func38 (by exact rfl) (by kernel_rfl) (by kernel_rfl) (by rfl) (of_eq (by kernel_rfl) h)
def vc5_L15 (p0 : (List AV × List AV × Unit × Unit × Unit × Int × Unit) × ((Int × List AV × List AV × Unit) × (List AV × Int × Int × List AV × Unit) × (Int × List AV × List AV × Unit) × (List AV × Int × Int × List AV × Unit) × (List AV × Int × Unit) × (List AV × Int × Int × List AV × Unit) × List AV × Unit)) (p1 : List AV) (p2 p3 : Int) (p4 : List AV) (p5 p6 p7 p8 p9 p10 p11 : Int) (R : AV → Prop) : Prop :=
 List.length p0.2.2.2.2.2.2.2.1 = List.length p0.2.2.2.2.2.2.2.1 ∧
 ∃ (S51 : AV → List AObj → Prop),
 HFn Tryz.prog 35 [.agg [.sl p1, nI p2, nI p3, .sl p4], .ptr 0 0, .sl p0.2.2.2.2.2.2.2.1] [.box (budC p5 p6 p7 p8 p9 p10)] S51 ∧
 ∀ (r62 : AV) (q63 : List AObj), S51 r62 q63 →
 ∃ (i64 i65 i66 i67 i68 i69 : Int) (l70 : List AV) (i71 i72 : Int) (l73 : List AV) (i74 : Int),
 (r62 = .tup [.agg [.sl l70, nI i71, nI i72, .sl l73], nI i74] ∧ q63 = [.box (budC i64 i65 i66 i67 i68 i69)]) ∧
 ∃ (b75 : Bool),
 PureIs Tryz.prog 27 [] (nB b75) ∧
 ITE b75
 (ITE (p11 == 0)
 (ITE (i74 == 2)
 (∃ (i77 : Int),
 PureIs Tryz.prog 38 [.agg [.sl p0.2.2.2.2.2.2.1.1, nI p0.2.2.2.2.2.2.1.2.1, nI p0.2.2.2.2.2.2.1.2.2.1, .sl p0.2.2.2.2.2.2.1.2.2.2.1]] (nI i77) ∧
 R (nB (i77 == 0)))
 (ITE (i74 == 11)
 (∃ (i78 : Int),
 PureIs Tryz.prog 38 [.agg [.sl p0.2.2.2.2.2.2.1.1, nI p0.2.2.2.2.2.2.1.2.1, nI p0.2.2.2.2.2.2.1.2.2.1, .sl p0.2.2.2.2.2.2.1.2.2.2.1]] (nI i78) ∧
 R (nB (i78 == 0)))
 (ITE (i74 == 0)
 (∃ (b79 : Bool),
 PureIs Tryz.prog 37 [.agg [.sl l70, nI i71, nI i72, .sl l73], .agg [.sl p0.2.2.2.2.1.1, nI p0.2.2.2.2.1.2.1, nI p0.2.2.2.2.1.2.2.1, .sl p0.2.2.2.2.1.2.2.2.1]] (nB b79) ∧
 ITE b79
 (∃ (i80 : Int),
 PureIs Tryz.prog 38 [.agg [.sl p0.2.2.2.2.2.2.1.1, nI p0.2.2.2.2.2.2.1.2.1, nI p0.2.2.2.2.2.2.1.2.2.1, .sl p0.2.2.2.2.2.2.1.2.2.2.1]] (nI i80) ∧
 R (nB (i80 == 0)))
 (R (nB false)))
 (R (nB false)))))
 (R (nB false)))
 (R (nB false))
def vc5_L15' (p0 : (List AV × List AV × Unit × Unit × Unit × Int × Unit) × ((Int × List AV × List AV × Unit) × (List AV × Int × Int × List AV × Unit) × (Int × List AV × List AV × Unit) × (List AV × Int × Int × List AV × Unit) × (List AV × Int × Unit) × (List AV × Int × Int × List AV × Unit) × List AV × Unit)) (p1 : List AV) (p2 p3 : Int) (p4 : List AV) (p5 : Int) (R : AV → Prop) : Prop :=
 ∃ (S50 : AV → List AObj → Prop),
 HFn Tryz.prog 36 [nI 5000] [] S50 ∧
 ∀ (r51 : AV) (q52 : List AObj), S50 r51 q52 →
 ∃ (i53 i54 i55 i56 i57 i58 : Int),
 (r51 = .ptr 0 0 ∧ q52 = [.box (budC i53 i54 i55 i56 i57 i58)]) ∧
 (vc5_L15 p0 p1 p2 p3 p4 i53 i54 i55 i56 i57 i58 p5 R) ∧
 (vc5_L15 p0 p1 p2 p3 p4 i53 i54 i55 i56 i57 i58 p5 R)
def vc5_L15'' (p0 : (List AV × List AV × Unit × Unit × Unit × Int × Unit) × ((Int × List AV × List AV × Unit) × (List AV × Int × Int × List AV × Unit) × (Int × List AV × List AV × Unit) × (List AV × Int × Int × List AV × Unit) × (List AV × Int × Unit) × (List AV × Int × Int × List AV × Unit) × List AV × Unit)) (p1 : List AV) (p2 p3 : Int) (p4 : List AV) (p5 : Int) (R : AV → Prop) : Prop :=
 ∃ (S50 : AV → List AObj → Prop),
 HFn Tryz.prog 36 [nI 5000] [] S50 ∧
 ∀ (r51 : AV) (q52 : List AObj), S50 r51 q52 →
 ∃ (i53 i54 i55 i56 i57 i58 : Int),
 (r51 = .ptr 0 0 ∧ q52 = [.box (budC i53 i54 i55 i56 i57 i58)]) ∧
 List.length p0.2.2.2.2.2.2.2.1 = List.length p0.2.2.2.2.2.2.2.1 ∧
 ∃ (S60 : AV → List AObj → Prop),
 HFn Tryz.prog 35 [.agg [.sl p1, nI p2, nI p3, .sl p4], .ptr 0 0, .sl p0.2.2.2.2.2.2.2.1] [.box (budC i53 i54 i55 i56 i57 i58)] S60 ∧
 ∀ (r65 : AV) (q66 : List AObj), S60 r65 q66 →
 ∃ (i67 i68 i69 i70 i71 i72 : Int) (l73 : List AV) (i74 i75 : Int) (l76 : List AV) (i77 : Int),
 (r65 = .tup [.agg [.sl l73, nI i74, nI i75, .sl l76], nI i77] ∧ q66 = [.box (budC i67 i68 i69 i70 i71 i72)]) ∧
 ∃ (b78 : Bool),
 PureIs Tryz.prog 27 [] (nB b78) ∧
 ITE b78
 (ITE (p5 == 0)
 (ITE (i77 == 2)
 (∃ (i80 : Int),
 PureIs Tryz.prog 38 [.agg [.sl p0.2.2.2.2.2.2.1.1, nI p0.2.2.2.2.2.2.1.2.1, nI p0.2.2.2.2.2.2.1.2.2.1, .sl p0.2.2.2.2.2.2.1.2.2.2.1]] (nI i80) ∧
 R (nB (i80 == 0)))
 (ITE (i77 == 11)
 (∃ (i81 : Int),
 PureIs Tryz.prog 38 [.agg [.sl p0.2.2.2.2.2.2.1.1, nI p0.2.2.2.2.2.2.1.2.1, nI p0.2.2.2.2.2.2.1.2.2.1, .sl p0.2.2.2.2.2.2.1.2.2.2.1]] (nI i81) ∧
 R (nB (i81 == 0)))
 (ITE (i77 == 0)
 (∃ (b82 : Bool),
 PureIs Tryz.prog 37 [.agg [.sl l73, nI i74, nI i75, .sl l76], .agg [.sl p0.2.2.2.2.1.1, nI p0.2.2.2.2.1.2.1, nI p0.2.2.2.2.1.2.2.1, .sl p0.2.2.2.2.1.2.2.2.1]] (nB b82) ∧
 ITE b82
 (∃ (i83 : Int),
 PureIs Tryz.prog 38 [.agg [.sl p0.2.2.2.2.2.2.1.1, nI p0.2.2.2.2.2.2.1.2.1, nI p0.2.2.2.2.2.2.1.2.2.1, .sl p0.2.2.2.2.2.2.1.2.2.2.1]] (nI i83) ∧
 R (nB (i83 == 0)))
 (R (nB false)))
 (R (nB false)))))
 (R (nB false)))
 (R (nB false))
def vc5_L11 (p0 : (List AV × List AV × Unit × Unit × Unit × Int × Unit) × ((Int × List AV × List AV × Unit) × (List AV × Int × Int × List AV × Unit) × (Int × List AV × List AV × Unit) × (List AV × Int × Int × List AV × Unit) × (List AV × Int × Unit) × (List AV × Int × Int × List AV × Unit) × List AV × Unit)) (R : AV → Prop) : Prop :=
 LoopP _ p0 fun z51 ag52 =>
 ITE (decide (z51.1.2.2.2.2.2.1 < ((List.length z51.1.1 : Nat) : Int)))
 (0 ≤ z51.1.2.2.2.2.2.1 ∧
 z51.1.2.2.2.2.2.1 < List.length z51.1.1 ∧
 ∃ (i53 : Int),
 List.getD z51.1.1 (Int.toNat z51.1.2.2.2.2.2.1) .top = nI i53 ∧
 0 ≤ z51.1.2.2.2.2.2.1 ∧
 z51.1.2.2.2.2.2.1 < List.length z51.1.1 ∧
 ∃ (i54 : Int),
 List.getD z51.1.1 (Int.toNat z51.1.2.2.2.2.2.1) .top = nI i54 ∧
 0 ≤ (IntKind.wrap .i64 ((IntKind.wrap .i64 (((List.length z51.1.2.1 : Nat) : Int) - 1)) - i54)) ∧
 (IntKind.wrap .i64 ((IntKind.wrap .i64 (((List.length z51.1.2.1 : Nat) : Int) - 1)) - i54)) < List.length z51.1.2.1 ∧
 ∃ (l55 : List AV) (i56 : Int),
 List.getD z51.1.2.1 (Int.toNat (IntKind.wrap .i64 ((IntKind.wrap .i64 (((List.length z51.1.2.1 : Nat) : Int) - 1)) - i54))) .top = .agg [.sl l55, nI i56] ∧
 ∃ (l57 : List AV) (i58 i59 : Int) (l60 : List AV),
 PureIs Tryz.prog 33 [.agg [nI 0, nI i53], .agg [.sl l55, nI i56]] (.agg [.sl l57, nI i58, nI i59, .sl l60]) ∧
 List.length z51.2.2.2.2.2.2.2.1 = List.length z51.2.2.2.2.2.2.2.1 ∧
 appOk td51 (List.length (z51.2.2.2.2.2.2.2.1 ++ [.agg [.sl l57, nI i58, nI i59, .sl l60]])) [] [.agg [.sl l57, nI i58, nI i59, .sl l60]] ∧
 List.length (z51.2.2.2.2.2.2.2.1 ++ [.agg [.sl l57, nI i58, nI i59, .sl l60]]) = List.length (z51.2.2.2.2.2.2.2.1 ++ [.agg [.sl l57, nI i58, nI i59, .sl l60]]) ∧
 ag52 ((z51.1.1, z51.1.2.1, (), (), (), IntKind.wrap .i64 (z51.1.2.2.2.2.2.1 + 1), ()), ((z51.2.1.1, z51.2.1.2.1, z51.2.1.2.2.1, ()), (z51.2.2.1.1, z51.2.2.1.2.1, z51.2.2.1.2.2.1, z51.2.2.1.2.2.2.1, ()), (z51.2.2.2.1.1, z51.2.2.2.1.2.1, z51.2.2.2.1.2.2.1, ()), (z51.2.2.2.2.1.1, z51.2.2.2.2.1.2.1, z51.2.2.2.2.1.2.2.1, z51.2.2.2.2.1.2.2.2.1, ()), (z51.2.2.2.2.2.1.1, z51.2.2.2.2.2.1.2.1, ()), (z51.2.2.2.2.2.2.1.1, z51.2.2.2.2.2.2.1.2.1, z51.2.2.2.2.2.2.1.2.2.1, z51.2.2.2.2.2.2.1.2.2.2.1, ()), z51.2.2.2.2.2.2.2.1 ++ [.agg [.sl l57, nI i58, nI i59, .sl l60]], ())))
 (∃ (l61 : List AV) (i62 i63 : Int) (l64 : List AV) (i65 : Int),
 PureIs Tryz.prog 34 [.agg [.sl z51.2.2.2.2.2.2.1.1, nI z51.2.2.2.2.2.2.1.2.1, nI z51.2.2.2.2.2.2.1.2.2.1, .sl z51.2.2.2.2.2.2.1.2.2.2.1], nI ((List.length z51.1.2.1 : Nat) : Int), nI 0] (.tup [.agg [.sl l61, nI i62, nI i63, .sl l64], nI i65]) ∧
 (vc5_L15' z51 l61 i62 i63 l64 i65 R) ∧
 (vc5_L15'' z51 l61 i62 i63 l64 i65 R))
def vc5_L15''' (p0 : (List AV × List AV × Unit × Unit × Unit × Int × Unit) × ((Int × List AV × List AV × Unit) × (List AV × Int × Int × List AV × Unit) × (List AV × Int × Int × List AV × Unit) × (Int × List AV × List AV × Unit) × (List AV × Int × Unit) × (List AV × Int × Int × List AV × Unit) × List AV × Unit)) (p1 : List AV) (p2 p3 : Int) (p4 : List AV) (p5 p6 p7 p8 p9 p10 p11 : Int) (R : AV → Prop) : Prop :=
 List.length p0.2.2.2.2.2.2.2.1 = List.length p0.2.2.2.2.2.2.2.1 ∧
 ∃ (S51 : AV → List AObj → Prop),
 HFn Tryz.prog 35 [.agg [.sl p1, nI p2, nI p3, .sl p4], .ptr 0 0, .sl p0.2.2.2.2.2.2.2.1] [.box (budC p5 p6 p7 p8 p9 p10)] S51 ∧
 ∀ (r62 : AV) (q63 : List AObj), S51 r62 q63 →
 ∃ (i64 i65 i66 i67 i68 i69 : Int) (l70 : List AV) (i71 i72 : Int) (l73 : List AV) (i74 : Int),
 (r62 = .tup [.agg [.sl l70, nI i71, nI i72, .sl l73], nI i74] ∧ q63 = [.box (budC i64 i65 i66 i67 i68 i69)]) ∧
 ∃ (b75 : Bool),
 PureIs Tryz.prog 27 [] (nB b75) ∧
 ITE b75
 (ITE (p11 == 0)
 (ITE (i74 == 2)
 (∃ (i77 : Int),
 PureIs Tryz.prog 38 [.agg [.sl p0.2.2.2.2.2.2.1.1, nI p0.2.2.2.2.2.2.1.2.1, nI p0.2.2.2.2.2.2.1.2.2.1, .sl p0.2.2.2.2.2.2.1.2.2.2.1]] (nI i77) ∧
 R (nB (i77 == 0)))
 (ITE (i74 == 11)
 (∃ (i78 : Int),
 PureIs Tryz.prog 38 [.agg [.sl p0.2.2.2.2.2.2.1.1, nI p0.2.2.2.2.2.2.1.2.1, nI p0.2.2.2.2.2.2.1.2.2.1, .sl p0.2.2.2.2.2.2.1.2.2.2.1]] (nI i78) ∧
 R (nB (i78 == 0)))
 (ITE (i74 == 0)
 (∃ (b79 : Bool),
 PureIs Tryz.prog 37 [.agg [.sl l70, nI i71, nI i72, .sl l73], .agg [.sl p0.2.2.2.1.1, nI p0.2.2.2.1.2.1, nI p0.2.2.2.1.2.2.1, .sl p0.2.2.2.1.2.2.2.1]] (nB b79) ∧
 ITE b79
 (∃ (i80 : Int),
 PureIs Tryz.prog 38 [.agg [.sl p0.2.2.2.2.2.2.1.1, nI p0.2.2.2.2.2.2.1.2.1, nI p0.2.2.2.2.2.2.1.2.2.1, .sl p0.2.2.2.2.2.2.1.2.2.2.1]] (nI i80) ∧
 R (nB (i80 == 0)))
 (R (nB false)))
 (R (nB false)))))
 (R (nB false)))
 (R (nB false))
def vc5_L15'''' (p0 : (List AV × List AV × Unit × Unit × Unit × Int × Unit) × ((Int × List AV × List AV × Unit) × (List AV × Int × Int × List AV × Unit) × (List AV × Int × Int × List AV × Unit) × (Int × List AV × List AV × Unit) × (List AV × Int × Unit) × (List AV × Int × Int × List AV × Unit) × List AV × Unit)) (p1 : List AV) (p2 p3 : Int) (p4 : List AV) (p5 : Int) (R : AV → Prop) : Prop :=
 ∃ (S50 : AV → List AObj → Prop),
 HFn Tryz.prog 36 [nI 5000] [] S50 ∧
 ∀ (r51 : AV) (q52 : List AObj), S50 r51 q52 →
 ∃ (i53 i54 i55 i56 i57 i58 : Int),
 (r51 = .ptr 0 0 ∧ q52 = [.box (budC i53 i54 i55 i56 i57 i58)]) ∧
 (vc5_L15''' p0 p1 p2 p3 p4 i53 i54 i55 i56 i57 i58 p5 R) ∧
 (vc5_L15''' p0 p1 p2 p3 p4 i53 i54 i55 i56 i57 i58 p5 R)
def vc5_L15''''' (p0 : (List AV × List AV × Unit × Unit × Unit × Int × Unit) × ((Int × List AV × List AV × Unit) × (List AV × Int × Int × List AV × Unit) × (List AV × Int × Int × List AV × Unit) × (Int × List AV × List AV × Unit) × (List AV × Int × Unit) × (List AV × Int × Int × List AV × Unit) × List AV × Unit)) (p1 : List AV) (p2 p3 : Int) (p4 : List AV) (p5 : Int) (R : AV → Prop) : Prop :=
 ∃ (S50 : AV → List AObj → Prop),
 HFn Tryz.prog 36 [nI 5000] [] S50 ∧
 ∀ (r51 : AV) (q52 : List AObj), S50 r51 q52 →
 ∃ (i53 i54 i55 i56 i57 i58 : Int),
 (r51 = .ptr 0 0 ∧ q52 = [.box (budC i53 i54 i55 i56 i57 i58)]) ∧
 List.length p0.2.2.2.2.2.2.2.1 = List.length p0.2.2.2.2.2.2.2.1 ∧
 ∃ (S60 : AV → List AObj → Prop),
 HFn Tryz.prog 35 [.agg [.sl p1, nI p2, nI p3, .sl p4], .ptr 0 0, .sl p0.2.2.2.2.2.2.2.1] [.box (budC i53 i54 i55 i56 i57 i58)] S60 ∧
 ∀ (r65 : AV) (q66 : List AObj), S60 r65 q66 →
 ∃ (i67 i68 i69 i70 i71 i72 : Int) (l73 : List AV) (i74 i75 : Int) (l76 : List AV) (i77 : Int),
 (r65 = .tup [.agg [.sl l73, nI i74, nI i75, .sl l76], nI i77] ∧ q66 = [.box (budC i67 i68 i69 i70 i71 i72)]) ∧
 ∃ (b78 : Bool),
 PureIs Tryz.prog 27 [] (nB b78) ∧
 ITE b78
 (ITE (p5 == 0)
 (ITE (i77 == 2)
 (∃ (i80 : Int),
 PureIs Tryz.prog 38 [.agg [.sl p0.2.2.2.2.2.2.1.1, nI p0.2.2.2.2.2.2.1.2.1, nI p0.2.2.2.2.2.2.1.2.2.1, .sl p0.2.2.2.2.2.2.1.2.2.2.1]] (nI i80) ∧
 R (nB (i80 == 0)))
 (ITE (i77 == 11)
 (∃ (i81 : Int),
 PureIs Tryz.prog 38 [.agg [.sl p0.2.2.2.2.2.2.1.1, nI p0.2.2.2.2.2.2.1.2.1, nI p0.2.2.2.2.2.2.1.2.2.1, .sl p0.2.2.2.2.2.2.1.2.2.2.1]] (nI i81) ∧
 R (nB (i81 == 0)))
 (ITE (i77 == 0)
 (∃ (b82 : Bool),
 PureIs Tryz.prog 37 [.agg [.sl l73, nI i74, nI i75, .sl l76], .agg [.sl p0.2.2.2.1.1, nI p0.2.2.2.1.2.1, nI p0.2.2.2.1.2.2.1, .sl p0.2.2.2.1.2.2.2.1]] (nB b82) ∧
 ITE b82
 (∃ (i83 : Int),
 PureIs Tryz.prog 38 [.agg [.sl p0.2.2.2.2.2.2.1.1, nI p0.2.2.2.2.2.2.1.2.1, nI p0.2.2.2.2.2.2.1.2.2.1, .sl p0.2.2.2.2.2.2.1.2.2.2.1]] (nI i83) ∧
 R (nB (i83 == 0)))
 (R (nB false)))
 (R (nB false)))))
 (R (nB false)))
 (R (nB false))
def vc5_L11' (p0 : (List AV × List AV × Unit × Unit × Unit × Int × Unit) × ((Int × List AV × List AV × Unit) × (List AV × Int × Int × List AV × Unit) × (List AV × Int × Int × List AV × Unit) × (Int × List AV × List AV × Unit) × (List AV × Int × Unit) × (List AV × Int × Int × List AV × Unit) × List AV × Unit)) (R : AV → Prop) : Prop :=
 LoopP _ p0 fun z51 ag52 =>
 ITE (decide (z51.1.2.2.2.2.2.1 < ((List.length z51.1.1 : Nat) : Int)))
 (0 ≤ z51.1.2.2.2.2.2.1 ∧
 z51.1.2.2.2.2.2.1 < List.length z51.1.1 ∧
 ∃ (i53 : Int),
 List.getD z51.1.1 (Int.toNat z51.1.2.2.2.2.2.1) .top = nI i53 ∧
 0 ≤ z51.1.2.2.2.2.2.1 ∧
 z51.1.2.2.2.2.2.1 < List.length z51.1.1 ∧
 ∃ (i54 : Int),
 List.getD z51.1.1 (Int.toNat z51.1.2.2.2.2.2.1) .top = nI i54 ∧
 0 ≤ (IntKind.wrap .i64 ((IntKind.wrap .i64 (((List.length z51.1.2.1 : Nat) : Int) - 1)) - i54)) ∧
 (IntKind.wrap .i64 ((IntKind.wrap .i64 (((List.length z51.1.2.1 : Nat) : Int) - 1)) - i54)) < List.length z51.1.2.1 ∧
 ∃ (l55 : List AV) (i56 : Int),
 List.getD z51.1.2.1 (Int.toNat (IntKind.wrap .i64 ((IntKind.wrap .i64 (((List.length z51.1.2.1 : Nat) : Int) - 1)) - i54))) .top = .agg [.sl l55, nI i56] ∧
 ∃ (l57 : List AV) (i58 i59 : Int) (l60 : List AV),
 PureIs Tryz.prog 33 [.agg [nI 0, nI i53], .agg [.sl l55, nI i56]] (.agg [.sl l57, nI i58, nI i59, .sl l60]) ∧
 List.length z51.2.2.2.2.2.2.2.1 = List.length z51.2.2.2.2.2.2.2.1 ∧
 appOk td51 (List.length (z51.2.2.2.2.2.2.2.1 ++ [.agg [.sl l57, nI i58, nI i59, .sl l60]])) [] [.agg [.sl l57, nI i58, nI i59, .sl l60]] ∧
 List.length (z51.2.2.2.2.2.2.2.1 ++ [.agg [.sl l57, nI i58, nI i59, .sl l60]]) = List.length (z51.2.2.2.2.2.2.2.1 ++ [.agg [.sl l57, nI i58, nI i59, .sl l60]]) ∧
 ag52 ((z51.1.1, z51.1.2.1, (), (), (), IntKind.wrap .i64 (z51.1.2.2.2.2.2.1 + 1), ()), ((z51.2.1.1, z51.2.1.2.1, z51.2.1.2.2.1, ()), (z51.2.2.1.1, z51.2.2.1.2.1, z51.2.2.1.2.2.1, z51.2.2.1.2.2.2.1, ()), (z51.2.2.2.1.1, z51.2.2.2.1.2.1, z51.2.2.2.1.2.2.1, z51.2.2.2.1.2.2.2.1, ()), (z51.2.2.2.2.1.1, z51.2.2.2.2.1.2.1, z51.2.2.2.2.1.2.2.1, ()), (z51.2.2.2.2.2.1.1, z51.2.2.2.2.2.1.2.1, ()), (z51.2.2.2.2.2.2.1.1, z51.2.2.2.2.2.2.1.2.1, z51.2.2.2.2.2.2.1.2.2.1, z51.2.2.2.2.2.2.1.2.2.2.1, ()), z51.2.2.2.2.2.2.2.1 ++ [.agg [.sl l57, nI i58, nI i59, .sl l60]], ())))
 (∃ (l61 : List AV) (i62 i63 : Int) (l64 : List AV) (i65 : Int),
 PureIs Tryz.prog 34 [.agg [.sl z51.2.2.2.2.2.2.1.1, nI z51.2.2.2.2.2.2.1.2.1, nI z51.2.2.2.2.2.2.1.2.2.1, .sl z51.2.2.2.2.2.2.1.2.2.2.1], nI ((List.length z51.1.2.1 : Nat) : Int), nI 0] (.tup [.agg [.sl l61, nI i62, nI i63, .sl l64], nI i65]) ∧
 (vc5_L15'''' z51 l61 i62 i63 l64 i65 R) ∧
 (vc5_L15''''' z51 l61 i62 i63 l64 i65 R))
def vc5_L4 (p0 : Int) (p1 p2 p3 p4 : List AV) (p5 p6 : Int) (p7 p8 : List AV) (R : AV → Prop) (p10 : Int) (p11 p12 p13 : List AV) (p14 p15 : Int) (p16 : List AV) : Prop :=
 ∃ (l50 : List AV) (i51 i52 : Int),
 PureIs Tryz.prog 29 [.agg [nI p0, .sl p1, .sl p2], .sl p3, .agg [.sl p4, nI p5, nI p6, .sl p7]] (.tup [.agg [.sl l50, nI i51], nI i52]) ∧
 ∃ (l61 : List AV) (i62 i63 : Int) (l64 : List AV) (i65 : Int),
 PureIs Tryz.prog 30 [.agg [.sl p4, nI p5, nI p6, .sl p7], .sl p3, .sl (List.drop (Int.toNat 0) (List.take (Int.toNat (if 20 < ((List.length p8 : Nat) : Int) then 20 else ((List.length p8 : Nat) : Int))) p8))] (.tup [.agg [.sl l61, nI i62, nI i63, .sl l64], nI i65]) ∧
 ITE (i65 != 0)
 (∃ (b67 : Bool),
 PureIs Tryz.prog 27 [] (nB b67) ∧
 R (nB b67))
 (ITE (i52 != 0)
 (∃ (b68 : Bool),
 PureIs Tryz.prog 27 [] (nB b68) ∧
 R (nB b68))
 (∃ (b69 : Bool),
 PureIs Tryz.prog 31 [.agg [nI p0, .sl p1, .sl p2]] (nB b69) ∧
 ITE (!b69)
 (∃ (b70 : Bool),
 PureIs Tryz.prog 27 [] (nB b70) ∧
 R (nB b70))
 (∃ (i71 : Int),
 PureIs Tryz.prog 32 [.agg [nI p0, .sl p1, .sl p2], .sl p3, .agg [.sl p4, nI p5, nI p6, .sl p7], .agg [.sl l50, nI i51]] (nI i71) ∧
 ITE (i71 != 0)
 (∃ (b72 : Bool),
 PureIs Tryz.prog 27 [] (nB b72) ∧
 R (nB b72))
 (0 = List.length ([] : List AV) ∧
 vc5_L11 ((List.drop (Int.toNat 0) (List.take (Int.toNat (if 20 < ((List.length p8 : Nat) : Int) then 20 else ((List.length p8 : Nat) : Int))) p8), p3, (), (), (), 0, ()), ((p10, p11, p12, ()), (p13, p14, p15, p16, ()), (p0, p1, p2, ()), (p4, p5, p6, p7, ()), (l50, i51, ()), (l61, i62, i63, l64, ()), [], ())) R))))
def vc5_L4' (p0 : Int) (p1 p2 p3 p4 : List AV) (p5 p6 : Int) (p7 p8 : List AV) (R : AV → Prop) (p10 : Int) (p11 p12 p13 : List AV) (p14 p15 : Int) (p16 : List AV) : Prop :=
 ∃ (l50 : List AV) (i51 i52 : Int),
 PureIs Tryz.prog 29 [.agg [nI p0, .sl p1, .sl p2], .sl p3, .agg [.sl p4, nI p5, nI p6, .sl p7]] (.tup [.agg [.sl l50, nI i51], nI i52]) ∧
 ∃ (l61 : List AV) (i62 i63 : Int) (l64 : List AV) (i65 : Int),
 PureIs Tryz.prog 30 [.agg [.sl p4, nI p5, nI p6, .sl p7], .sl p3, .sl (List.drop (Int.toNat 0) (List.take (Int.toNat (if 20 < ((List.length p8 : Nat) : Int) then 20 else ((List.length p8 : Nat) : Int))) p8))] (.tup [.agg [.sl l61, nI i62, nI i63, .sl l64], nI i65]) ∧
 ITE (i65 != 0)
 (∃ (b67 : Bool),
 PureIs Tryz.prog 27 [] (nB b67) ∧
 R (nB b67))
 (ITE (i52 != 0)
 (∃ (b68 : Bool),
 PureIs Tryz.prog 27 [] (nB b68) ∧
 R (nB b68))
 (∃ (b69 : Bool),
 PureIs Tryz.prog 31 [.agg [nI p0, .sl p1, .sl p2]] (nB b69) ∧
 ITE (!b69)
 (∃ (b70 : Bool),
 PureIs Tryz.prog 27 [] (nB b70) ∧
 R (nB b70))
 (∃ (i71 : Int),
 PureIs Tryz.prog 32 [.agg [nI p0, .sl p1, .sl p2], .sl p3, .agg [.sl p4, nI p5, nI p6, .sl p7], .agg [.sl l50, nI i51]] (nI i71) ∧
 ITE (i71 != 0)
 (∃ (b72 : Bool),
 PureIs Tryz.prog 27 [] (nB b72) ∧
 R (nB b72))
 (0 = List.length ([] : List AV) ∧
 vc5_L11' ((List.drop (Int.toNat 0) (List.take (Int.toNat (if 20 < ((List.length p8 : Nat) : Int) then 20 else ((List.length p8 : Nat) : Int))) p8), p3, (), (), (), 0, ()), ((p10, p11, p12, ()), (p13, p14, p15, p16, ()), (p4, p5, p6, p7, ()), (p0, p1, p2, ()), (l50, i51, ()), (l61, i62, i63, l64, ()), [], ())) R))))
def vc5 (a0_0 : Int) (a0_1 a0_2 a1 a2_0 : List AV) (a2_1 a2_2 : Int) (a2_3 a3 : List AV) (R : AV → Prop) : Prop :=
 (0 ≤ (0 : Int) ∧ (0 : Int) ≤ (if 20 < ((List.length a3 : Nat) : Int) then 20 else ((List.length a3 : Nat) : Int)) ∧ (if 20 < ((List.length a3 : Nat) : Int) then 20 else ((List.length a3 : Nat) : Int)) ≤ List.length a3 ∧ (∀ y : AV, y ∈ a3 → List.length (AV.cells y) = 1)) ∧
 ∃ (b1 : Bool),
 PureIs Tryz.prog 26 [.agg [.sl a2_0, nI a2_1, nI a2_2, .sl a2_3], nI 60, nI 60] (nB b1) ∧
 ITE (!b1)
 (∃ (b2 : Bool),
 PureIs Tryz.prog 27 [] (nB b2) ∧
 R (nB b2))
 (∃ (b3 : Bool),
 PureIs Tryz.prog 9 [.agg [nI a0_0, .sl a0_1, .sl a0_2], .sl a1] (nB b3) ∧
 ITE (!b3)
 (∃ (b4 : Bool),
 PureIs Tryz.prog 27 [] (nB b4) ∧
 R (nB b4))
 (∃ (i5 : Int) (l6 l7 : List AV),
 PureIs Tryz.prog 11 [.agg [nI a0_0, .sl a0_1, .sl a0_2]] (.agg [nI i5, .sl l6, .sl l7]) ∧
 ∃ (l8 : List AV),
 PureIs Tryz.prog 12 [.sl a1] (.sl l8) ∧
 ∃ (l9 : List AV) (i10 i11 : Int) (l12 : List AV),
 PureIs Tryz.prog 28 [.agg [.sl a2_0, nI a2_1, nI a2_2, .sl a2_3]] (.agg [.sl l9, nI i10, nI i11, .sl l12]) ∧
 (vc5_L4 i5 l6 l7 l8 l9 i10 i11 l12 a3 R a0_0 a0_1 a0_2 a2_0 a2_1 a2_2 a2_3) ∧
 (vc5_L4' i5 l6 l7 l8 l9 i10 i11 l12 a3 R a0_0 a0_1 a0_2 a2_0 a2_1 a2_2 a2_3)))
theorem vc5_ok {a0_0 : Int} {a0_1 a0_2 a1 a2_0 : List AV} {a2_1 a2_2 : Int} {a2_3 a3 : List AV} {R : AV → Prop} (h : vc5 a0_0 a0_1 a0_2 a1 a2_0 a2_1 a2_2 a2_3 a3 R) : Pure Tryz.prog 5 [.agg [nI a0_0, .sl a0_1, .sl a0_2], .sl a1, .agg [.sl a2_0, nI a2_1, nI a2_2, .sl a2_3], .sl a3] R :=
 pure_of_code (C := cfg (Func.ntmps Tryz.f5) [(4, [none, none, none, none, none, none, some [], some [], none, none, none], [some [], some [], none, some [], some [], some [], none, none, none, none, none]), (15, [none, some [], none, none, none, none, none, some [], none, none], [some [], some [], none, some [], none, none, none, none, none, none])] [(35, .emb [(.t [.a [.l, .i .i64, .i .i64, .l], .c (.i .i64)], [.box [.i .i64, .i .i64, .i .u32, .i .i32, .i .u32, .i .u32]])]), (36, .emb [(.v (.c (.k (.ptr 0 0))), [.box [.i .i64, .i .i64, .i .u32, .i .i32, .i .u32, .i .u32]])])] [(15, [35, 36])] [(4, (.val 0 (.val 1 (.val 2 (.val 3 (.val 4 (.val 5 (.two 6 (.eff 7 (.eff 8 (.val 9 (.eff 10 .done)))) 7 (.eff 6 (.eff 8 (.val 9 (.eff 10 .done)))))))))))), (15, (.val 0 (.val 2 (.two 1 (.two 3 (.val 4 (.val 5 (.val 6 (.eff 7 (.eff 8 (.val 9 .done)))))) 7 (.eff 3 (.val 4 (.val 5 (.val 6 (.eff 8 (.val 9 .done))))))) 7 (.eff 1 (.eff 3 (.val 4 (.val 5 (.val 6 (.eff 8 (.val 9 .done)))))))))))]) (cfg_tab _ _ _ _ _) (cfg_ord _ _ _ _ _) (L := [{ key := 11, live := [(3, none), (10, none), (11, none), (14, none), (16, none), (17, none)], rows := [(16, 51)] }]) (fn := Tryz.f5) Tryz.func5 (by exact rfl) (by kernel_rfl) (by kernel_rfl) (by rfl) (of_eq (by kernel_rfl) h)
def vc34 (a0_0 : List AV) (a0_1 a0_2 : Int) (a0_3 : List AV) (a1 a2 : Int) (R : AV → Prop) : Prop :=
 ITE (decide (a2 < 0))
 (R (.tup [.agg [.sl [], nI 0, nI 0, .sl []], nI 1]))
 (∃ (l1 : List AV) (i2 i3 : Int) (l4 : List AV),
 PureIs Tryz.prog 84 [.agg [.sl a0_0, nI a0_1, nI a0_2, .sl a0_3], nI 0, .clo 85 [.eptr (nI a2) 0, .eptr (nI a1) 0, .eptr .top 0]] (.agg [.sl l1, nI i2, nI i3, .sl l4]) ∧
 R (.tup [.agg [.sl l1, nI i2, nI i3, .sl l4], nI 0]))
theorem vc34_ok {a0_0 : List AV} {a0_1 a0_2 : Int} {a0_3 : List AV} {a1 a2 : Int} {R : AV → Prop} (h : vc34 a0_0 a0_1 a0_2 a0_3 a1 a2 R) : Pure Tryz.prog 34 [.agg [.sl a0_0, nI a0_1, nI a0_2, .sl a0_3], nI a1, nI a2] R :=
 pure_of_code (C := cfg (Func.ntmps Tryz.f34) [] [(84, .frz (.v (.a [.l, .i .i64, .i .i64, .l])))] []) (cfg_tab _ _ _ _ _) (cfg_ord _ _ _ _ _) (L := []) (fn := Tryz.f34) Tryz.func34 (by exact rfl) (by kernel_rfl) (by kernel_rfl) (by rfl) (of_eq (by kernel_rfl) h)
def vc_turnedP_L6 (p0 : (Int × (Unit × Unit × Unit × Unit) × Unit × Unit × List AV × Int × Int × Unit) × ((List AV × Int × Int × List AV × Unit) × (Unit × Int × Int × Unit × Unit) × (List AV × Int × Int × Unit × Unit) × List AV × Unit)) (p1 p2 : Int) (R : AV → Prop) : Prop :=
 LoopP _ p0 fun z51 ag52 =>
 ITE (decide (z51.1.2.2.2.2.2.2.1 < z51.1.2.2.2.2.2.1))
 (0 ≤ z51.1.2.2.2.2.2.2.1 ∧
 z51.1.2.2.2.2.2.2.1 < List.length z51.1.2.2.2.2.1 ∧
 ∃ (l53 : List AV) (i54 i55 : Int) (l56 : List AV),
 List.getD z51.1.2.2.2.2.1 (Int.toNat z51.1.2.2.2.2.2.2.1) .top = .agg [.sl l53, nI i54, nI i55, .sl l56] ∧
 ∃ (l57 : List AV) (i58 i59 : Int) (l60 : List AV),
 PureIs Tryz.prog 84 [.agg [.sl l53, nI i54, nI i55, .sl l56], nI z51.1.1, .clo 85 [.eptr (nI p1) 0, .eptr (nI p2) 0, .eptr .top 0]] (.agg [.sl l57, nI i58, nI i59, .sl l60]) ∧
 List.length z51.2.2.2.2.1 = List.length z51.2.2.2.2.1 ∧
 appOk td51 (List.length (z51.2.2.2.2.1 ++ [.agg [.sl l57, nI i58, nI i59, .sl l60]])) [] [.agg [.sl l57, nI i58, nI i59, .sl l60]] ∧
 List.length (z51.2.2.2.2.1 ++ [.agg [.sl l57, nI i58, nI i59, .sl l60]]) = List.length (z51.2.2.2.2.1 ++ [.agg [.sl l57, nI i58, nI i59, .sl l60]]) ∧
 (.eptr (nI p1) 0 : AV) = .eptr (nI p1) 0 ∧
 (.eptr (nI p2) 0 : AV) = .eptr (nI p2) 0 ∧
 (.eptr .top 0 : AV) = .eptr .top 0 ∧
 ag52 ((z51.1.1, ((), (), (), ()), (), (), z51.1.2.2.2.2.1, z51.1.2.2.2.2.2.1, IntKind.wrap .i64 (z51.1.2.2.2.2.2.2.1 + 1), ()), ((z51.2.1.1, z51.2.1.2.1, z51.2.1.2.2.1, z51.2.1.2.2.2.1, ()), ((), z51.2.2.1.2.1, z51.2.2.1.2.2.1, (), ()), (z51.2.2.2.1.1, z51.2.2.2.1.2.1, z51.2.2.2.1.2.2.1, (), ()), z51.2.2.2.2.1 ++ [.agg [.sl l57, nI i58, nI i59, .sl l60]], ())))
 (List.length z51.2.2.2.2.1 = List.length z51.2.2.2.2.1 ∧
 R (.agg [.sl z51.2.2.2.1.1, nI z51.2.2.2.1.2.1, nI z51.2.2.2.1.2.2.1, .sl z51.2.2.2.2.1]))
def vc_turnedP (hf hb : Int) (a0_0 : List AV) (a0_1 a0_2 : Int) (a0_3 : List AV) (a1 : Int) (R : AV → Prop) : Prop :=
 ∃ (l1 : List AV) (i2 : Int),
 PureIs Tryz.prog 82 [.agg [.sl [], nI 0], .sl a0_0] (.agg [.sl l1, nI i2]) ∧
 ITE (a0_1 == 0)
 (ITE (decide (a0_2 ≥ (IntKind.wrap .i64 (a1 + ((List.length a0_0 : Nat) : Int)))))
 (∃ (i3 : Int),
 PureIs Tryz.prog 85 [nI (IntKind.wrap .i64 (a0_2 - (IntKind.wrap .i64 (a1 + ((List.length a0_0 : Nat) : Int))))), .eptr (nI hf) 0, .eptr (nI hb) 0, .eptr .top 0] (nI i3) ∧
 0 = List.length ([] : List AV) ∧
 (.eptr (nI hf) 0 : AV) = .eptr (nI hf) 0 ∧
 (.eptr (nI hb) 0 : AV) = .eptr (nI hb) 0 ∧
 (.eptr .top 0 : AV) = .eptr .top 0 ∧
 vc_turnedP_L6 ((IntKind.wrap .i64 (a1 + ((List.length a0_0 : Nat) : Int)), ((), (), (), ()), (), (), a0_3, ((List.length a0_3 : Nat) : Int), 0, ()), ((a0_0, a0_1, a0_2, a0_3, ()), ((), 0, 0, (), ()), (l1, a0_1, IntKind.wrap .i64 ((IntKind.wrap .i64 (a1 + ((List.length a0_0 : Nat) : Int))) + i3), (), ()), [], ())) hf hb R)
 (0 = List.length ([] : List AV) ∧
 (.eptr (nI hf) 0 : AV) = .eptr (nI hf) 0 ∧
 (.eptr (nI hb) 0 : AV) = .eptr (nI hb) 0 ∧
 (.eptr .top 0 : AV) = .eptr .top 0 ∧
 vc_turnedP_L6 ((IntKind.wrap .i64 (a1 + ((List.length a0_0 : Nat) : Int)), ((), (), (), ()), (), (), a0_3, ((List.length a0_3 : Nat) : Int), 0, ()), ((a0_0, a0_1, a0_2, a0_3, ()), ((), 0, 0, (), ()), (l1, a0_1, a0_2, (), ()), [], ())) hf hb R))
 (0 = List.length ([] : List AV) ∧
 (.eptr (nI hf) 0 : AV) = .eptr (nI hf) 0 ∧
 (.eptr (nI hb) 0 : AV) = .eptr (nI hb) 0 ∧
 (.eptr .top 0 : AV) = .eptr .top 0 ∧
 vc_turnedP_L6 ((IntKind.wrap .i64 (a1 + ((List.length a0_0 : Nat) : Int)), ((), (), (), ()), (), (), a0_3, ((List.length a0_3 : Nat) : Int), 0, ()), ((a0_0, a0_1, a0_2, a0_3, ()), ((), 0, 0, (), ()), (l1, a0_1, a0_2, (), ()), [], ())) hf hb R)
theorem vc_turnedP_ok {hf hb : Int} {a0_0 : List AV} {a0_1 a0_2 : Int} {a0_3 : List AV} {a1 : Int} {R : AV → Prop} (h : vc_turnedP hf hb a0_0 a0_1 a0_2 a0_3 a1 R) : Pure Tryz.prog 84 [.agg [.sl a0_0, nI a0_1, nI a0_2, .sl a0_3], nI a1, .clo 85 [.eptr (nI hf) 0, .eptr (nI hb) 0, .eptr .top 0]] R :=
 pure_of_code (C := cfg (Func.ntmps Tryz.f84) [(2, [none, none, none, none, none, none, none, none, some [], none], [none, none, some [], some [], none, none, some [], none, none, none])]) (cfg_tab _ _ _ _ _) (cfg_ord _ _ _ _ _) (L := [{ key := 6, live := [(1, none), (2, some (.f 85 [.c (.q (.eptr (nI hf) 0)), .c (.q (.eptr (nI hb) 0)), .c (.q (.eptr .top 0))])), (6, none), (7, none), (46, none), (47, none), (48, none)], brows := [(2, 3, 51)] }]) (fn := Tryz.f84) Tryz.func84 (by exact rfl) (by kernel_rfl) (by kernel_rfl) (by rfl) (of_eq (by kernel_rfl) h)
end Go.Proofs.YtghlgbhldnkdmaaGreat
