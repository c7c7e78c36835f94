/- Texts of ours laid together for a claim: Vc8. -/
import Derived.Test.YtghlgbhldnkdmaaGreatQ38
namespace Go.Proofs.YtghlgbhldnkdmaaGreat
open Go
set_option linter.unusedSimpArgs false
set_option linter.unusedVariables false
set_option maxRecDepth 100000
abbrev sxVc8_0 : Nat × Sig := (110, .emb [(.v (.c (.b)), [.box [.i .i64, .i .i64, .i .i64]])])
abbrev sxVc8_1 : Nat × Sig := (144, .emb [(.v (.a [.l, .i .i64, .i .i64, .l]), [.box [.i .i64, .i .i64, .i .i64]])])
abbrev sxVc8_2 : Nat × Sig := (55, .emb [(.v (.a [.l, .i .i64, .i .i64, .l]), [.box [.i .i64, .i .i64, .i .i64]])])
def vc110 (ml mc me : Int) (R : AV → List AObj → Prop) : Prop :=
 ITE (me != 0)
 (R (nB false) [.box [nI ml, nI mc, nI me]])
 (ITE (mc == 100000)
 (R (nB false) [.box [nI ml, nI mc, nI 2]])
 (ITE (ml == 0)
 (R (nB false) [.box [nI ml, nI mc, nI 11]])
 (R (nB true) [.box [nI (IntKind.wrap .i64 (ml - 1)), nI (IntKind.wrap .i64 (mc + 1)), nI me]])))
theorem vc110_ok {ml mc me : Int} {R : AV → List AObj → Prop} (h : vc110 ml mc me R) : HFn Tryz.prog 110 [.ptr 0 0] [.box [nI ml, nI mc, nI me]] R :=
 heap_of_code (C := cfg (Func.ntmps Tryz.f110)) (cfg_tab _ _ _ _ _) (cfg_ord _ _ _ _ _) (L := []) (fn := Tryz.f110) Tryz.func110 (by exact rfl) (by kernel_rfl) (by kernel_rfl) (by rfl) (of_eq (by kernel_rfl) h)
def vc144_L5 (p0 : (Unit × List AV × List AV × Int × Int × Unit × Unit × Unit × Int × Unit) × ((Int × Int × Int × Unit) × (Int × Int × Unit) × (Unit × Int × Int × Unit × Unit) × (Unit × Int × Int × Unit × Unit) × List AV × Unit)) (R : AV → List AObj → Prop) : Prop :=
 LoopP _ p0 fun z51 ag52 =>
 ITE (decide (z51.1.2.2.2.2.2.2.2.2.1 < ((List.length z51.1.2.1 : Nat) : Int)))
 (0 ≤ z51.1.2.2.2.2.2.2.2.2.1 ∧
 z51.1.2.2.2.2.2.2.2.2.1 < List.length z51.1.2.1 ∧
 ∃ (l53 : List AV) (i54 i55 : Int) (l56 : List AV),
 List.getD z51.1.2.1 (Int.toNat z51.1.2.2.2.2.2.2.2.2.1) .top = .agg [.sl l53, nI i54, nI i55, .sl l56] ∧
 ∃ (S57 : AV → List AObj → Prop),
 HFn Tryz.prog 158 [.ptr 0 0, .agg [.sl l53, nI i54, nI i55, .sl l56], .sl z51.1.2.2.1, nI z51.1.2.2.2.1, nI z51.1.2.2.2.2.1] [.box [nI z51.2.1.1, nI z51.2.1.2.1, nI z51.2.1.2.2.1]] S57 ∧
 ∀ (r58 : AV) (q59 : List AObj), S57 r58 q59 →
 ∃ (i60 i61 i62 : Int) (l63 : List AV) (i64 i65 : Int) (l66 : List AV),
 (r58 = .agg [.sl l63, nI i64, nI i65, .sl l66] ∧ q59 = [.box [nI i60, nI i61, nI i62]]) ∧
 ITE (i62 != 0)
 (R (.agg [.prim (.slice none 0 0), nI 0, nI 0, .prim (.slice none 0 0)]) [.box [nI i60, nI i61, nI i62]])
 (List.length z51.2.2.2.2.2.1 = List.length z51.2.2.2.2.2.1 ∧
 appOk td58 (List.length (z51.2.2.2.2.2.1 ++ [.agg [.sl l63, nI i64, nI i65, .sl l66]])) [] [.agg [.sl l63, nI i64, nI i65, .sl l66]] ∧
 List.length (z51.2.2.2.2.2.1 ++ [.agg [.sl l63, nI i64, nI i65, .sl l66]]) = List.length (z51.2.2.2.2.2.1 ++ [.agg [.sl l63, nI i64, nI i65, .sl l66]]) ∧
 ag52 (((), z51.1.2.1, z51.1.2.2.1, z51.1.2.2.2.1, z51.1.2.2.2.2.1, (), (), (), IntKind.wrap .i64 (z51.1.2.2.2.2.2.2.2.2.1 + 1), ()), ((i60, i61, i62, ()), (z51.2.2.1.1, z51.2.2.1.2.1, ()), ((), z51.2.2.2.1.2.1, z51.2.2.2.1.2.2.1, (), ()), ((), z51.2.2.2.2.1.2.1, z51.2.2.2.2.1.2.2.1, (), ()), z51.2.2.2.2.2.1 ++ [.agg [.sl l63, nI i64, nI i65, .sl l66]], ()))))
 (ITE (z51.2.2.1.1 != 0)
 (List.length z51.2.2.2.2.2.1 = List.length z51.2.2.2.2.2.1 ∧
 R (.agg [.prim (.slice none 0 0), nI z51.2.2.2.2.1.2.1, nI z51.2.2.2.2.1.2.2.1, .sl z51.2.2.2.2.2.1]) [.box [nI z51.2.1.1, nI z51.2.1.2.1, nI z51.2.1.2.2.1]])
 (ITE (decide (z51.2.2.1.2.1 < z51.1.2.2.2.2.1))
 (List.length z51.2.2.2.2.2.1 = List.length z51.2.2.2.2.2.1 ∧
 R (.agg [.prim (.slice none 0 0), nI z51.2.2.2.2.1.2.1, nI z51.2.2.2.2.1.2.2.1, .sl z51.2.2.2.2.2.1]) [.box [nI z51.2.1.1, nI z51.2.1.2.1, nI z51.2.1.2.2.1]])
 (ITE (decide ((IntKind.wrap .i64 (z51.2.2.1.2.1 - z51.1.2.2.2.2.1)) ≥ z51.1.2.2.2.1))
 (List.length z51.2.2.2.2.2.1 = List.length z51.2.2.2.2.2.1 ∧
 R (.agg [.prim (.slice none 0 0), nI z51.2.2.2.2.1.2.1, nI (IntKind.wrap .i64 (z51.2.2.1.2.1 - ((List.length z51.1.2.2.1 : Nat) : Int))), .sl z51.2.2.2.2.2.1]) [.box [nI z51.2.1.1, nI z51.2.1.2.1, nI z51.2.1.2.2.1]])
 (ITE (decide ((IntKind.wrap .i64 ((IntKind.wrap .i64 (z51.1.2.2.2.1 - 1)) - (IntKind.wrap .i64 (z51.2.2.1.2.1 - z51.1.2.2.2.2.1)))) ≥ ((List.length z51.1.2.2.1 : Nat) : Int)))
 (List.length z51.2.2.2.2.2.1 = List.length z51.2.2.2.2.2.1 ∧
 R (.agg [.prim (.slice none 0 0), nI z51.2.2.2.2.1.2.1, nI z51.2.2.2.2.1.2.2.1, .sl z51.2.2.2.2.2.1]) [.box [nI z51.2.1.1, nI z51.2.1.2.1, nI z51.2.1.2.2.1]])
 (0 ≤ (IntKind.wrap .i64 ((IntKind.wrap .i64 (z51.1.2.2.2.1 - 1)) - (IntKind.wrap .i64 (z51.2.2.1.2.1 - z51.1.2.2.2.2.1)))) ∧
 (IntKind.wrap .i64 ((IntKind.wrap .i64 (z51.1.2.2.2.1 - 1)) - (IntKind.wrap .i64 (z51.2.2.1.2.1 - z51.1.2.2.2.2.1)))) < List.length z51.1.2.2.1 ∧
 ∃ (l67 : List AV) (i68 i69 : Int) (l70 : List AV),
 List.getD z51.1.2.2.1 (Int.toNat (IntKind.wrap .i64 ((IntKind.wrap .i64 (z51.1.2.2.2.1 - 1)) - (IntKind.wrap .i64 (z51.2.2.1.2.1 - z51.1.2.2.2.2.1))))) .top = .agg [.sl l67, nI i68, nI i69, .sl l70] ∧
 ∃ (l71 : List AV) (i72 i73 : Int) (l74 : List AV),
 PureIs Tryz.prog 159 [.agg [.sl l67, nI i68, nI i69, .sl l70], nI (IntKind.wrap .i64 ((IntKind.wrap .i64 (z51.1.2.2.2.2.1 + z51.1.2.2.2.1)) - ((List.length z51.1.2.2.1 : Nat) : Int))), nI 0] (.agg [.sl l71, nI i72, nI i73, .sl l74]) ∧
 List.length z51.2.2.2.2.2.1 = List.length z51.2.2.2.2.2.1 ∧
 ITE (((List.length l71 : Nat) : Int) != ((List.length z51.2.2.2.2.2.1 : Nat) : Int))
 (R (.agg [.prim (.slice none 0 0), nI 0, nI 0, .prim (.slice none 0 0)]) [.box [nI z51.2.1.1, nI z51.2.1.2.1, nI 1]])
 (List.length z51.2.2.2.2.2.1 = List.length z51.2.2.2.2.2.1 ∧
 ∃ (S75 : AV → List AObj → Prop),
 HFn Tryz.prog 144 [.ptr 0 0, .agg [nI i72, nI i73], .sl l74, .sl z51.2.2.2.2.2.1, nI ((List.length l71 : Nat) : Int), nI 0] [.box [nI z51.2.1.1, nI z51.2.1.2.1, nI z51.2.1.2.2.1]] S75 ∧
 ∀ (r76 : AV) (q77 : List AObj), S75 r76 q77 →
 ∃ (i78 i79 i80 : Int) (l81 : List AV) (i82 i83 : Int) (l84 : List AV),
 (r76 = .agg [.sl l81, nI i82, nI i83, .sl l84] ∧ q77 = [.box [nI i78, nI i79, nI i80]]) ∧
 R (.agg [.sl l81, nI i82, nI i83, .sl l84]) [.box [nI i78, nI i79, nI i80]]))))))
def vc144 (ml mc me a1_0 a1_1 : Int) (a2 a3 : List AV) (a4 a5 : Int) (R : AV → List AObj → Prop) : Prop :=
 ∃ (S3 : AV → List AObj → Prop),
 HFn Tryz.prog 110 [.ptr 0 0] [.box [nI ml, nI mc, nI me]] S3 ∧
 ∀ (r1 : AV) (q2 : List AObj), S3 r1 q2 →
 ∃ (i4 i5 i6 : Int) (b7 : Bool),
 (r1 = nB b7 ∧ q2 = [.box [nI i4, nI i5, nI i6]]) ∧
 ITE (!b7)
 (R (.agg [.prim (.slice none 0 0), nI 0, nI 0, .prim (.slice none 0 0)]) [.box [nI i4, nI i5, nI i6]])
 (0 = List.length ([] : List AV) ∧
 vc144_L5 (((), a2, a3, a4, a5, (), (), (), 0, ()), ((i4, i5, i6, ()), (a1_0, a1_1, ()), ((), 0, 0, (), ()), ((), a1_0, a1_1, (), ()), [], ())) R)
theorem vc144_ok {ml mc me a1_0 a1_1 : Int} {a2 a3 : List AV} {a4 a5 : Int} {R : AV → List AObj → Prop} (h : vc144 ml mc me a1_0 a1_1 a2 a3 a4 a5 R) : HFn Tryz.prog 144 [.ptr 0 0, .agg [nI a1_0, nI a1_1], .sl a2, .sl a3, nI a4, nI a5] [.box [nI ml, nI mc, nI me]] R :=
 heap_of_code (C := cfg (Func.ntmps Tryz.f144) [] [sxVc8_0, sxVc8_1, (158, .emb [(.v (.a [.l, .i .i64, .i .i64, .l]), [.box [.i .i64, .i .i64, .i .i64]])])] []) (cfg_tab _ _ _ _ _) (cfg_ord _ _ _ _ _) (L := [{ key := 5, live := [(0, none), (2, none), (3, none), (4, none), (5, none), (7, none), (12, none), (13, none), (14, none)], brows := [(3, 3, 58)] }]) (fn := Tryz.f144) Tryz.func144 (by exact rfl) (by kernel_rfl) (by kernel_rfl) (by rfl) (of_eq (by kernel_rfl) h)
def vc158 (ml mc me : Int) (a1_0 : List AV) (a1_1 a1_2 : Int) (a1_3 a2 : List AV) (a3 a4 : Int) (R : AV → List AObj → Prop) : Prop :=
 ∃ (S3 : AV → List AObj → Prop),
 HFn Tryz.prog 144 [.ptr 0 0, .agg [nI a1_1, nI a1_2], .sl a1_3, .sl a2, nI a3, nI (IntKind.wrap .i64 (a4 + ((List.length a1_0 : Nat) : Int)))] [.box [nI ml, nI mc, nI me]] S3 ∧
 ∀ (r1 : AV) (q2 : List AObj), S3 r1 q2 →
 ∃ (i4 i5 i6 : Int) (l7 : List AV) (i8 i9 : Int) (l10 : List AV),
 (r1 = .agg [.sl l7, nI i8, nI i9, .sl l10] ∧ q2 = [.box [nI i4, nI i5, nI i6]]) ∧
 R (.agg [.sl a1_0, nI i8, nI i9, .sl l10]) [.box [nI i4, nI i5, nI i6]]
theorem vc158_ok {ml mc me : Int} {a1_0 : List AV} {a1_1 a1_2 : Int} {a1_3 a2 : List AV} {a3 a4 : Int} {R : AV → List AObj → Prop} (h : vc158 ml mc me a1_0 a1_1 a1_2 a1_3 a2 a3 a4 R) : HFn Tryz.prog 158 [.ptr 0 0, .agg [.sl a1_0, nI a1_1, nI a1_2, .sl a1_3], .sl a2, nI a3, nI a4] [.box [nI ml, nI mc, nI me]] R :=
 heap_of_code (C := cfg (Func.ntmps Tryz.f158) [] [sxVc8_1] []) (cfg_tab _ _ _ _ _) (cfg_ord _ _ _ _ _) (L := []) (fn := Tryz.f158) Tryz.func158 (by exact rfl) (by kernel_rfl) (by kernel_rfl) (by rfl) (of_eq (by kernel_rfl) h)
def vc107 (ml mc me : Int) (a1_0 : List AV) (a1_1 a1_2 : Int) (a1_3 a2 : List AV) (R : AV → List AObj → Prop) : Prop :=
 ITE (me == 0)
 (ITE (decide (((List.length a2 : Nat) : Int) > ((List.length a1_0 : Nat) : Int)))
 (R (.agg [.prim (.slice none 0 0), nI 0, nI 0, .prim (.slice none 0 0)]) [.box [nI ml, nI mc, nI 1]])
 (ITE (me != 0)
 (R (.agg [.prim (.slice none 0 0), nI 0, nI 0, .prim (.slice none 0 0)]) [.box [nI ml, nI mc, nI me]])
 (∃ (S3 : AV → List AObj → Prop),
 HFn Tryz.prog 144 [.ptr 0 0, .agg [nI a1_1, nI a1_2], .sl a1_3, .sl a2, nI ((List.length a1_0 : Nat) : Int), nI 0] [.box [nI ml, nI mc, nI me]] S3 ∧
 ∀ (r1 : AV) (q2 : List AObj), S3 r1 q2 →
 ∃ (i4 i5 i6 : Int) (l7 : List AV) (i8 i9 : Int) (l10 : List AV),
 (r1 = .agg [.sl l7, nI i8, nI i9, .sl l10] ∧ q2 = [.box [nI i4, nI i5, nI i6]]) ∧
 (0 ≤ ((List.length a2 : Nat) : Int) ∧ ((List.length a2 : Nat) : Int) ≤ ((List.length a1_0 : Nat) : Int) ∧ ((List.length a1_0 : Nat) : Int) ≤ List.length a1_0 ∧ (∀ y : AV, y ∈ a1_0 → List.length (AV.cells y) = 2)) ∧
 ((List.drop (Int.toNat ((List.length a2 : Nat) : Int)) (List.take (Int.toNat ((List.length a1_0 : Nat) : Int)) a1_0) : List AV) = [] → ([] : List AV) = []) ∧
 appOk td26 (List.length (([] : List AV) ++ (List.drop (Int.toNat ((List.length a2 : Nat) : Int)) (List.take (Int.toNat ((List.length a1_0 : Nat) : Int)) a1_0)))) ([] : List AV) (List.drop (Int.toNat ((List.length a2 : Nat) : Int)) (List.take (Int.toNat ((List.length a1_0 : Nat) : Int)) a1_0)) ∧
 List.length (([] : List AV) ++ (List.drop (Int.toNat ((List.length a2 : Nat) : Int)) (List.take (Int.toNat ((List.length a1_0 : Nat) : Int)) a1_0))) = List.length (([] : List AV) ++ (List.drop (Int.toNat ((List.length a2 : Nat) : Int)) (List.take (Int.toNat ((List.length a1_0 : Nat) : Int)) a1_0))) ∧
 R (.agg [.sl (([] : List AV) ++ (List.drop (Int.toNat ((List.length a2 : Nat) : Int)) (List.take (Int.toNat ((List.length a1_0 : Nat) : Int)) a1_0))), nI i8, nI i9, .sl l10]) [.box [nI i4, nI i5, nI i6]])))
 (ITE (me != 0)
 (R (.agg [.prim (.slice none 0 0), nI 0, nI 0, .prim (.slice none 0 0)]) [.box [nI ml, nI mc, nI me]])
 (∃ (S13 : AV → List AObj → Prop),
 HFn Tryz.prog 144 [.ptr 0 0, .agg [nI a1_1, nI a1_2], .sl a1_3, .sl a2, nI ((List.length a1_0 : Nat) : Int), nI 0] [.box [nI ml, nI mc, nI me]] S13 ∧
 ∀ (r11 : AV) (q12 : List AObj), S13 r11 q12 →
 ∃ (i14 i15 i16 : Int) (l17 : List AV) (i18 i19 : Int) (l20 : List AV),
 (r11 = .agg [.sl l17, nI i18, nI i19, .sl l20] ∧ q12 = [.box [nI i14, nI i15, nI i16]]) ∧
 (0 ≤ ((List.length a2 : Nat) : Int) ∧ ((List.length a2 : Nat) : Int) ≤ ((List.length a1_0 : Nat) : Int) ∧ ((List.length a1_0 : Nat) : Int) ≤ List.length a1_0 ∧ (∀ y : AV, y ∈ a1_0 → List.length (AV.cells y) = 2)) ∧
 ((List.drop (Int.toNat ((List.length a2 : Nat) : Int)) (List.take (Int.toNat ((List.length a1_0 : Nat) : Int)) a1_0) : List AV) = [] → ([] : List AV) = []) ∧
 appOk td26 (List.length (([] : List AV) ++ (List.drop (Int.toNat ((List.length a2 : Nat) : Int)) (List.take (Int.toNat ((List.length a1_0 : Nat) : Int)) a1_0)))) ([] : List AV) (List.drop (Int.toNat ((List.length a2 : Nat) : Int)) (List.take (Int.toNat ((List.length a1_0 : Nat) : Int)) a1_0)) ∧
 List.length (([] : List AV) ++ (List.drop (Int.toNat ((List.length a2 : Nat) : Int)) (List.take (Int.toNat ((List.length a1_0 : Nat) : Int)) a1_0))) = List.length (([] : List AV) ++ (List.drop (Int.toNat ((List.length a2 : Nat) : Int)) (List.take (Int.toNat ((List.length a1_0 : Nat) : Int)) a1_0))) ∧
 R (.agg [.sl (([] : List AV) ++ (List.drop (Int.toNat ((List.length a2 : Nat) : Int)) (List.take (Int.toNat ((List.length a1_0 : Nat) : Int)) a1_0))), nI i18, nI i19, .sl l20]) [.box [nI i14, nI i15, nI i16]]))
theorem vc107_ok {ml mc me : Int} {a1_0 : List AV} {a1_1 a1_2 : Int} {a1_3 a2 : List AV} {R : AV → List AObj → Prop} (h : vc107 ml mc me a1_0 a1_1 a1_2 a1_3 a2 R) : HFn Tryz.prog 107 [.ptr 0 0, .agg [.sl a1_0, nI a1_1, nI a1_2, .sl a1_3], .sl a2] [.box [nI ml, nI mc, nI me]] R :=
 heap_of_code (C := cfg (Func.ntmps Tryz.f107) [] [sxVc8_1] []) (cfg_tab _ _ _ _ _) (cfg_ord _ _ _ _ _) (L := []) (fn := Tryz.f107) Tryz.func107 (by exact rfl) (by kernel_rfl) (by kernel_rfl) (by rfl) (of_eq (by kernel_rfl) h)
def vc54 (ml mc me : Int) (a1_0 : List AV) (a1_1 a1_2 : Int) (a1_3 : List AV) (R : AV → List AObj → Prop) : Prop :=
 ITE (me == 0)
 (∃ (b1 : Bool),
 PureIs Tryz.prog 106 [.agg [.sl a1_0, nI a1_1, nI a1_2, .sl a1_3]] (nB b1) ∧
 ITE (!b1)
 (R (.tup [.agg [.prim (.slice none 0 0), nI 0, nI 0, .prim (.slice none 0 0)], nI 2]) [.box [nI ml, nI mc, nI 2]])
 (ITE (me != 0)
 (R (.tup [.agg [.prim (.slice none 0 0), nI 0, nI 0, .prim (.slice none 0 0)], nI me]) [.box [nI ml, nI mc, nI me]])
 (R (.tup [.agg [.sl a1_0, nI a1_1, nI a1_2, .sl a1_3], nI 0]) [.box [nI ml, nI mc, nI me]])))
 (ITE (me != 0)
 (R (.tup [.agg [.prim (.slice none 0 0), nI 0, nI 0, .prim (.slice none 0 0)], nI me]) [.box [nI ml, nI mc, nI me]])
 (R (.tup [.agg [.sl a1_0, nI a1_1, nI a1_2, .sl a1_3], nI 0]) [.box [nI ml, nI mc, nI me]]))
theorem vc54_ok {ml mc me : Int} {a1_0 : List AV} {a1_1 a1_2 : Int} {a1_3 : List AV} {R : AV → List AObj → Prop} (h : vc54 ml mc me a1_0 a1_1 a1_2 a1_3 R) : HFn Tryz.prog 54 [.ptr 0 0, .agg [.sl a1_0, nI a1_1, nI a1_2, .sl a1_3]] [.box [nI ml, nI mc, nI me]] R :=
 heap_of_code (C := cfg (Func.ntmps Tryz.f54) [(4, [none, none, none, none, none, some [2], none], [none, none, none, none, some [2], none, none])]) (cfg_tab _ _ _ _ _) (cfg_ord _ _ _ _ _) (L := []) (fn := Tryz.f54) Tryz.func54 (by exact rfl) (by kernel_rfl) (by kernel_rfl) (by rfl) (of_eq (by kernel_rfl) h)
def vc55_L6 (p0 : Int) (p1 p2 p3 : List AV) (p4 : Int) (p5 : List AV) (p6 p7 : Int) (p8 : List AV) (p9 p10 p11 : Int) (p12 : List AV) (p13 : Int) (R : AV → List AObj → Prop) : Prop :=
 ∃ (S50 : AV → List AObj → Prop),
 HFn Tryz.prog 55 [.ptr 0 0, .agg [nI p0, .sl p1, .sl p2], .sl p3, .agg [nI p4, .sl p5, nI p6, nI p7, .sl p8]] [.box [nI p9, nI p10, nI p11]] S50 ∧
 ∀ (r63 : AV) (q64 : List AObj), S50 r63 q64 →
 ∃ (i65 i66 i67 : Int) (l68 : List AV) (i69 i70 : Int) (l71 : List AV),
 (r63 = .agg [.sl l68, nI i69, nI i70, .sl l71] ∧ q64 = [.box [nI i65, nI i66, nI i67]]) ∧
 ∃ (l72 : List AV),
 PureIs Tryz.prog 45 [.sl [.agg [.sl p12, nI p13]], .sl l68] (.sl l72) ∧
 R (.agg [.sl l72, nI i69, nI i70, .sl l71]) [.box [nI i65, nI i66, nI i67]]
def vc55_L11 (p0 : Int) (p1 p2 p3 : List AV) (p4 : Int) (p5 : List AV) (p6 p7 : Int) (p8 : List AV) (p9 p10 p11 : Int) (p12 : List AV) (p13 p14 : Int) (p15 : List AV) (R : AV → List AObj → Prop) : Prop :=
 ∃ (S50 : AV → List AObj → Prop),
 HFn Tryz.prog 55 [.ptr 0 0, .agg [nI p0, .sl p1, .sl p2], .sl p3, .agg [nI p4, .sl p5, nI p6, nI p7, .sl p8]] [.box [nI p9, nI p10, nI p11]] S50 ∧
 ∀ (r63 : AV) (q64 : List AObj), S50 r63 q64 →
 ∃ (i65 i66 i67 : Int) (l68 : List AV) (i69 i70 : Int) (l71 : List AV),
 (r63 = .agg [.sl l68, nI i69, nI i70, .sl l71] ∧ q64 = [.box [nI i65, nI i66, nI i67]]) ∧
 ∃ (S72 : AV → List AObj → Prop),
 HFn Tryz.prog 107 [.ptr 0 0, .agg [.sl p12, nI p13, nI p14, .sl p15], .clip [.agg [.sl l68, nI i69, nI i70, .sl l71]]] [.box [nI i65, nI i66, nI i67]] S72 ∧
 ∀ (r77 : AV) (q78 : List AObj), S72 r77 q78 →
 ∃ (i79 i80 i81 : Int) (l82 : List AV) (i83 i84 : Int) (l85 : List AV),
 (r77 = .agg [.sl l82, nI i83, nI i84, .sl l85] ∧ q78 = [.box [nI i79, nI i80, nI i81]]) ∧
 R (.agg [.sl l82, nI i83, nI i84, .sl l85]) [.box [nI i79, nI i80, nI i81]]
def vc55_L10 (p0 : Int) (p1 p2 p3 : List AV) (p4 : Int) (p5 : List AV) (p6 p7 : Int) (p8 : List AV) (p9 p10 p11 : Int) (p12 : List AV) (R : AV → List AObj → Prop) : Prop :=
 ∃ (S50 : AV → List AObj → Prop),
 HFn Tryz.prog 55 [.ptr 0 0, .agg [nI p0, .sl p1, .sl p2], .sl p3, .agg [nI p4, .sl p5, nI p6, nI p7, .sl p8]] [.box [nI p9, nI p10, nI p11]] S50 ∧
 ∀ (r63 : AV) (q64 : List AObj), S50 r63 q64 →
 ∃ (i65 i66 i67 : Int) (l68 : List AV) (i69 i70 : Int) (l71 : List AV),
 (r63 = .agg [.sl l68, nI i69, nI i70, .sl l71] ∧ q64 = [.box [nI i65, nI i66, nI i67]]) ∧
 0 ≤ (1 : Int) ∧
 (1 : Int) < List.length p12 ∧
 ∃ (i73 : Int) (l74 : List AV) (i75 i76 : Int) (l77 : List AV),
 List.getD p12 (Int.toNat 1) .top = .agg [nI i73, .sl l74, nI i75, nI i76, .sl l77] ∧
 (vc55_L11 p0 p1 p2 p3 i73 l74 i75 i76 l77 i65 i66 i67 l68 i69 i70 l71 R) ∧
 (vc55_L11 p0 p1 p2 p3 i73 l74 i75 i76 l77 i65 i66 i67 l68 i69 i70 l71 R)
def vc55_L16 (p0 : (Unit × Unit × Unit × Unit × Int × Unit) × ((Int × Int × Int × Unit) × (Int × List AV × List AV × Unit) × (Int × List AV × Int × Int × List AV × Unit) × (Unit × Int × Int × Unit × Unit) × (Int × Int × Unit) × (List AV × Int × Unit) × Unit)) (R : AV → List AObj → Prop) : Prop :=
 LoopP _ p0 fun z51 ag52 =>
 ITE (decide (z51.1.2.2.2.2.1 > 0))
 (∃ (S53 : AV → List AObj → Prop),
 HFn Tryz.prog 110 [.ptr 0 0] [.box [nI z51.2.1.1, nI z51.2.1.2.1, nI z51.2.1.2.2.1]] S53 ∧
 ∀ (r54 : AV) (q55 : List AObj), S53 r54 q55 →
 ∃ (i56 i57 i58 : Int) (b59 : Bool),
 (r54 = nB b59 ∧ q55 = [.box [nI i56, nI i57, nI i58]]) ∧
 ITE (!b59)
 (R (.agg [.prim (.slice none 0 0), nI 0, nI 0, .prim (.slice none 0 0)]) [.box [nI i56, nI i57, nI i58]])
 (ag52 (((), (), (), (), IntKind.wrap .i64 (z51.1.2.2.2.2.1 - 1), ()), ((i56, i57, i58, ()), (z51.2.2.1.1, z51.2.2.1.2.1, z51.2.2.1.2.2.1, ()), (z51.2.2.2.1.1, z51.2.2.2.1.2.1, z51.2.2.2.1.2.2.1, z51.2.2.2.1.2.2.2.1, z51.2.2.2.1.2.2.2.2.1, ()), ((), z51.2.2.2.2.1.2.1, z51.2.2.2.2.1.2.2.1, (), ()), (z51.2.2.2.2.2.1.1, z51.2.2.2.2.2.1.2.1, ()), (z51.2.2.2.2.2.2.1.1, z51.2.2.2.2.2.2.1.2.1, ()), ()))))
 (∃ (l60 : List AV) (i61 i62 : Int) (l63 : List AV),
 PureIs Tryz.prog 111 [.agg [nI z51.2.2.2.2.2.1.1, nI z51.2.2.2.2.2.1.2.1], .agg [.sl z51.2.2.2.2.2.2.1.1, nI z51.2.2.2.2.2.2.1.2.1]] (.agg [.sl l60, nI i61, nI i62, .sl l63]) ∧
 R (.agg [.sl l60, nI i61, nI i62, .sl l63]) [.box [nI z51.2.1.1, nI z51.2.1.2.1, nI z51.2.1.2.2.1]])
def vc55 (ml mc me a1_0 : Int) (a1_1 a1_2 a2 : List AV) (a3_0 : Int) (a3_1 : List AV) (a3_2 a3_3 : Int) (a3_4 : List AV) (R : AV → List AObj → Prop) : Prop :=
 ITE (me != 0)
 (R (.agg [.prim (.slice none 0 0), nI 0, nI 0, .prim (.slice none 0 0)]) [.box [nI ml, nI mc, nI me]])
 (ITE (a3_0 == 3)
 (∃ (l1 : List AV),
 PureIs Tryz.prog 45 [.sl a2, .sl [.agg [.sl a3_1, nI a3_2]]] (.sl l1) ∧
 0 ≤ (0 : Int) ∧
 (0 : Int) < List.length a3_4 ∧
 ∃ (i2 : Int) (l3 : List AV) (i4 i5 : Int) (l6 : List AV),
 List.getD a3_4 (Int.toNat 0) .top = .agg [nI i2, .sl l3, nI i4, nI i5, .sl l6] ∧
 (vc55_L6 a1_0 a1_1 a1_2 l1 i2 l3 i4 i5 l6 ml mc me a3_1 a3_2 R) ∧
 (vc55_L6 a1_0 a1_1 a1_2 l1 i2 l3 i4 i5 l6 ml mc me a3_1 a3_2 R))
 (ITE (a3_0 == 4)
 (0 ≤ (0 : Int) ∧
 (0 : Int) < List.length a3_4 ∧
 ∃ (i29 : Int) (l30 : List AV) (i31 i32 : Int) (l33 : List AV),
 List.getD a3_4 (Int.toNat 0) .top = .agg [nI i29, .sl l30, nI i31, nI i32, .sl l33] ∧
 (vc55_L10 a1_0 a1_1 a1_2 a2 i29 l30 i31 i32 l33 ml mc me a3_4 R) ∧
 (vc55_L10 a1_0 a1_1 a1_2 a2 i29 l30 i31 i32 l33 ml mc me a3_4 R))
 (∃ (l144 : List AV) (i145 : Int) (b146 : Bool),
 PureIs Tryz.prog 108 [.agg [nI a1_0, .sl a1_1, .sl a1_2], .sl a2, .agg [nI a3_0, nI a3_3]] (.tup [.agg [.sl l144, nI i145], nB b146]) ∧
 ∃ (i147 : Int),
 PureIs Tryz.prog 109 [.agg [.sl l144, nI i145]] (nI i147) ∧
 vc55_L16 (((), (), (), (), i147, ()), ((ml, mc, me, ()), (a1_0, a1_1, a1_2, ()), (a3_0, a3_1, a3_2, a3_3, a3_4, ()), ((), 0, 0, (), ()), (a3_0, a3_3, ()), (l144, i145, ()), ())) R)))
theorem vc55_ok {ml mc me a1_0 : Int} {a1_1 a1_2 a2 : List AV} {a3_0 : Int} {a3_1 : List AV} {a3_2 a3_3 : Int} {a3_4 : List AV} {R : AV → List AObj → Prop} (h : vc55 ml mc me a1_0 a1_1 a1_2 a2 a3_0 a3_1 a3_2 a3_3 a3_4 R) : HFn Tryz.prog 55 [.ptr 0 0, .agg [nI a1_0, .sl a1_1, .sl a1_2], .sl a2, .agg [nI a3_0, .sl a3_1, nI a3_2, nI a3_3, .sl a3_4]] [.box [nI ml, nI mc, nI me]] R :=
 heap_of_code (C := cfg (Func.ntmps Tryz.f55) [(6, [none, none, none, none, none, none, none, none, none, none, some [], none], [none, some [], none, none, some [], none, some [], some [], some [], some [], none, none]), (10, [none, none, none, none, none, none, none, none, some [], none], [none, some [], none, none, some [], some [], some [], some [], none, none]), (11, [none, none, none, none, none, none, none, none, some [], none], [none, some [], none, none, some [], some [], some [], some [], none, none])] [sxVc8_0, (107, .emb [(.v (.a [.l, .i .i64, .i .i64, .l]), [.box [.i .i64, .i .i64, .i .i64]])]), sxVc8_2] [(6, [55]), (10, [55]), (11, [55])] [(6, (.val 0 (.val 1 (.val 2 (.val 3 (.val 4 (.val 5 (.val 6 (.val 7 (.val 8 (.two 9 (.eff 10 (.eff 11 .done)) 10 (.eff 9 (.eff 11 .done))))))))))))), (10, (.val 0 (.val 1 (.val 2 (.val 3 (.val 4 (.val 5 (.val 6 (.two 7 (.eff 8 (.eff 9 .done)) 8 (.eff 7 (.eff 9 .done))))))))))), (11, (.val 0 (.val 1 (.val 2 (.val 3 (.val 4 (.val 5 (.val 6 (.two 7 (.eff 8 (.eff 9 .done)) 8 (.eff 7 (.eff 9 .done)))))))))))]) (cfg_tab _ _ _ _ _) (cfg_ord _ _ _ _ _) (L := [{ key := 16, live := [(0, none), (8, none), (13, none), (14, none), (16, none)] }]) (fn := Tryz.f55) Tryz.func55 (by exact rfl) (by kernel_rfl) (by kernel_rfl) (by rfl) (of_eq (by kernel_rfl) h)
def vc52_L2 (p0 : (List AV × Unit × Int × Unit) × ((Int × List AV × List AV × Unit) × Unit)) (R : AV → Prop) : Prop :=
 LoopP _ p0 fun z51 ag52 =>
 ITE (decide (z51.1.2.2.1 < ((List.length z51.1.1 : Nat) : Int)))
 (0 ≤ z51.1.2.2.1 ∧
 z51.1.2.2.1 < List.length z51.1.1 ∧
 ∃ (l53 : List AV) (i54 : Int),
 List.getD z51.1.1 (Int.toNat z51.1.2.2.1) .top = .agg [.sl l53, nI i54] ∧
 ∃ (b55 : Bool),
 PureIs Tryz.prog 102 [.agg [.sl l53, nI i54], nI z51.2.1.1] (nB b55) ∧
 ITE (!b55)
 (R (nB false))
 (ag52 ((z51.1.1, (), IntKind.wrap .i64 (z51.1.2.2.1 + 1), ()), ((z51.2.1.1, z51.2.1.2.1, z51.2.1.2.2.1, ()), ()))))
 (ITE (decide (((List.length z51.1.1 : Nat) : Int) ≤ 900))
 (∃ (b56 : Bool),
 PureIs Tryz.prog 103 [.agg [nI z51.2.1.1, .sl z51.2.1.2.1, .sl z51.2.1.2.2.1]] (nB b56) ∧
 R (nB b56))
 (R (nB false)))
def vc52 (a0_0 : Int) (a0_1 a0_2 a1 : List AV) (R : AV → Prop) : Prop :=
 vc52_L2 ((a1, (), 0, ()), ((a0_0, a0_1, a0_2, ()), ())) R
theorem vc52_ok {a0_0 : Int} {a0_1 a0_2 a1 : List AV} {R : AV → Prop} (h : vc52 a0_0 a0_1 a0_2 a1 R) : Pure Tryz.prog 52 [.agg [nI a0_0, .sl a0_1, .sl a0_2], .sl a1] R :=
 pure_of_code (C := cfg (Func.ntmps Tryz.f52)) (cfg_tab _ _ _ _ _) (cfg_ord _ _ _ _ _) (L := [{ key := 2, live := [(1, none), (2, none), (5, none)] }]) (fn := Tryz.f52) Tryz.func52 (by exact rfl) (by kernel_rfl) (by kernel_rfl) (by rfl) (of_eq (by kernel_rfl) h)
def vc16 (a0_0 : Int) (a0_1 a0_2 a1 : List AV) (a2_0 : Int) (a2_1 : List AV) (a2_2 a2_3 : Int) (a2_4 : List AV) (a3 : Int) (R : AV → Prop) : Prop :=
 ∃ (b1 : Bool),
 PureIs Tryz.prog 52 [.agg [nI a0_0, .sl a0_1, .sl a0_2], .sl a1] (nB b1) ∧
 ITE (!b1)
 (R (.tup [.agg [.sl [], nI 0, nI 0, .sl []], nI 0, nI 1]))
 (∃ (l2 : List AV) (i3 i4 : Int),
 PureIs Tryz.prog 53 [.agg [nI a0_0, .sl a0_1, .sl a0_2], .sl a1, .agg [nI a2_0, .sl a2_1, nI a2_2, nI a2_3, .sl a2_4]] (.tup [.agg [.sl l2, nI i3], nI i4]) ∧
 ITE (i4 != 0)
 (R (.tup [.agg [.sl [], nI 0, nI 0, .sl []], nI 0, nI i4]))
 (∃ (S7 : AV → List AObj → Prop),
 HFn Tryz.prog 55 [.ptr 0 0, .agg [nI a0_0, .sl a0_1, .sl a0_2], .sl a1, .agg [nI a2_0, .sl a2_1, nI a2_2, nI a2_3, .sl a2_4]] [.box [nI a3, nI 0, nI 0]] S7 ∧
 ∀ (r5 : AV) (q6 : List AObj), S7 r5 q6 →
 ∃ (i8 i9 i10 : Int) (l11 : List AV) (i12 i13 : Int) (l14 : List AV),
 (r5 = .agg [.sl l11, nI i12, nI i13, .sl l14] ∧ q6 = [.box [nI i8, nI i9, nI i10]]) ∧
 ∃ (S17 : AV → List AObj → Prop),
 HFn Tryz.prog 54 [.ptr 0 0, .agg [.sl l11, nI i12, nI i13, .sl l14]] [.box [nI i8, nI i9, nI i10]] S17 ∧
 ∀ (r15 : AV) (q16 : List AObj), S17 r15 q16 →
 ∃ (i18 i19 i20 : Int) (l21 : List AV) (i22 i23 : Int) (l24 : List AV) (i25 : Int),
 (r15 = .tup [.agg [.sl l21, nI i22, nI i23, .sl l24], nI i25] ∧ q16 = [.box [nI i18, nI i19, nI i20]]) ∧
 R (.tup [.agg [.sl l21, nI i22, nI i23, .sl l24], nI i19, nI i25])))
theorem vc16_ok {a0_0 : Int} {a0_1 a0_2 a1 : List AV} {a2_0 : Int} {a2_1 : List AV} {a2_2 a2_3 : Int} {a2_4 : List AV} {a3 : Int} {R : AV → Prop} (h : vc16 a0_0 a0_1 a0_2 a1 a2_0 a2_1 a2_2 a2_3 a2_4 a3 R) : Pure Tryz.prog 16 [.agg [nI a0_0, .sl a0_1, .sl a0_2], .sl a1, .agg [nI a2_0, .sl a2_1, nI a2_2, nI a2_3, .sl a2_4], nI a3] R :=
 pure_of_code (C := cfg (Func.ntmps Tryz.f16) [(8, [none, none, none, none, none, none, some [2], none, none], [none, none, none, none, some [2], none, none, none, none])] [sxVc8_2, (54, .emb [(.t [.a [.l, .i .i64, .i .i64, .l], .c (.i .i64)], [.box [.i .i64, .i .i64, .i .i64]])])] []) (cfg_tab _ _ _ _ _) (cfg_ord _ _ _ _ _) (L := []) (fn := Tryz.f16) Tryz.func16 (by exact rfl) (by kernel_rfl) (by kernel_rfl) (by rfl) (of_eq (by kernel_rfl) h)
def vc159 (a0_0 : List AV) (a0_1 a0_2 : Int) (a0_3 : List AV) (a1 a2 : Int) (R : AV → Prop) : Prop :=
 ∃ (l1 : List AV) (i2 i3 : Int) (l4 : List AV),
 PureIs Tryz.prog 165 [.agg [.sl a0_0, nI a0_1, nI a0_2, .sl a0_3], nI a1, nI a2, nI 0] (.agg [.sl l1, nI i2, nI i3, .sl l4]) ∧
 R (.agg [.sl l1, nI i2, nI i3, .sl l4])
theorem vc159_ok {a0_0 : List AV} {a0_1 a0_2 : Int} {a0_3 : List AV} {a1 a2 : Int} {R : AV → Prop} (h : vc159 a0_0 a0_1 a0_2 a0_3 a1 a2 R) : Pure Tryz.prog 159 [.agg [.sl a0_0, nI a0_1, nI a0_2, .sl a0_3], nI a1, nI a2] R :=
 pure_of_code (C := cfg (Func.ntmps Tryz.f159)) (cfg_tab _ _ _ _ _) (cfg_ord _ _ _ _ _) (L := []) (fn := Tryz.f159) Tryz.func159 (by exact rfl) (by kernel_rfl) (by kernel_rfl) (by rfl) (of_eq (by kernel_rfl) h)
def vc165_L6 (p0 : (Int × Int × Unit × Unit × Int × Unit × Int × Unit) × ((List AV × Int × Int × List AV × Unit) × (Unit × Int × Int × Unit × Unit) × (List AV × Int × Int × Unit × Unit) × List AV × Unit)) (R : AV → Prop) : Prop :=
 LoopP _ p0 fun z51 ag52 =>
 ITE (decide (z51.1.2.2.2.2.2.2.1 < ((List.length z51.2.1.2.2.2.1 : Nat) : Int)))
 (0 ≤ z51.1.2.2.2.2.2.2.1 ∧
 z51.1.2.2.2.2.2.2.1 < List.length z51.2.1.2.2.2.1 ∧
 ∃ (l53 : List AV) (i54 i55 : Int) (l56 : List AV),
 List.getD z51.2.1.2.2.2.1 (Int.toNat z51.1.2.2.2.2.2.2.1) .top = .agg [.sl l53, nI i54, nI i55, .sl l56] ∧
 ∃ (l57 : List AV) (i58 i59 : Int) (l60 : List AV),
 PureIs Tryz.prog 165 [.agg [.sl l53, nI i54, nI i55, .sl l56], nI z51.1.1, nI z51.1.2.1, nI z51.1.2.2.2.2.1] (.agg [.sl l57, nI i58, nI i59, .sl l60]) ∧
 List.length z51.2.2.2.2.1 = List.length z51.2.2.2.2.1 ∧
 appOk td58 (List.length (z51.2.2.2.2.1 ++ [.agg [.sl l57, nI i58, nI i59, .sl l60]])) [] [.agg [.sl l57, nI i58, nI i59, .sl l60]] ∧
 List.length (z51.2.2.2.2.1 ++ [.agg [.sl l57, nI i58, nI i59, .sl l60]]) = List.length (z51.2.2.2.2.1 ++ [.agg [.sl l57, nI i58, nI i59, .sl l60]]) ∧
 ag52 ((z51.1.1, z51.1.2.1, (), (), z51.1.2.2.2.2.1, (), IntKind.wrap .i64 (z51.1.2.2.2.2.2.2.1 + 1), ()), ((z51.2.1.1, z51.2.1.2.1, z51.2.1.2.2.1, z51.2.1.2.2.2.1, ()), ((), z51.2.2.1.2.1, z51.2.2.1.2.2.1, (), ()), (z51.2.2.2.1.1, z51.2.2.2.1.2.1, z51.2.2.2.1.2.2.1, (), ()), z51.2.2.2.2.1 ++ [.agg [.sl l57, nI i58, nI i59, .sl l60]], ())))
 (List.length z51.2.2.2.2.1 = List.length z51.2.2.2.2.1 ∧
 R (.agg [.sl z51.2.2.2.1.1, nI z51.2.2.2.1.2.1, nI z51.2.2.2.1.2.2.1, .sl z51.2.2.2.2.1]))
def vc165 (a0_0 : List AV) (a0_1 a0_2 : Int) (a0_3 : List AV) (a1 a2 a3 : Int) (R : AV → Prop) : Prop :=
 ITE (a0_1 == 0)
 (ITE (decide ((IntKind.wrap .i64 (a0_2 - (IntKind.wrap .i64 (a3 + ((List.length a0_0 : Nat) : Int))))) ≥ a2))
 (ITE (decide (a0_2 ≥ (IntKind.wrap .i64 (a3 + ((List.length a0_0 : Nat) : Int)))))
 (0 = List.length ([] : List AV) ∧
 vc165_L6 ((a1, a2, (), (), IntKind.wrap .i64 (a3 + ((List.length a0_0 : Nat) : Int)), (), 0, ()), ((a0_0, a0_1, a0_2, a0_3, ()), ((), 0, 0, (), ()), (a0_0, a0_1, IntKind.wrap .i64 (a0_2 + a1), (), ()), [], ())) R)
 (0 = List.length ([] : List AV) ∧
 vc165_L6 ((a1, a2, (), (), IntKind.wrap .i64 (a3 + ((List.length a0_0 : Nat) : Int)), (), 0, ()), ((a0_0, a0_1, a0_2, a0_3, ()), ((), 0, 0, (), ()), (a0_0, a0_1, a0_2, (), ()), [], ())) R))
 (0 = List.length ([] : List AV) ∧
 vc165_L6 ((a1, a2, (), (), IntKind.wrap .i64 (a3 + ((List.length a0_0 : Nat) : Int)), (), 0, ()), ((a0_0, a0_1, a0_2, a0_3, ()), ((), 0, 0, (), ()), (a0_0, a0_1, a0_2, (), ()), [], ())) R))
 (0 = List.length ([] : List AV) ∧
 vc165_L6 ((a1, a2, (), (), IntKind.wrap .i64 (a3 + ((List.length a0_0 : Nat) : Int)), (), 0, ()), ((a0_0, a0_1, a0_2, a0_3, ()), ((), 0, 0, (), ()), (a0_0, a0_1, a0_2, (), ()), [], ())) R)
theorem vc165_ok {a0_0 : List AV} {a0_1 a0_2 : Int} {a0_3 : List AV} {a1 a2 a3 : Int} {R : AV → Prop} (h : vc165 a0_0 a0_1 a0_2 a0_3 a1 a2 a3 R) : Pure Tryz.prog 165 [.agg [.sl a0_0, nI a0_1, nI a0_2, .sl a0_3], nI a1, nI a2, nI a3] R :=
 pure_of_code (C := cfg (Func.ntmps Tryz.f165)) (cfg_tab _ _ _ _ _) (cfg_ord _ _ _ _ _) (L := [{ key := 6, live := [(1, none), (2, none), (4, none), (8, none), (9, none), (10, none), (11, none)], brows := [(2, 3, 58)] }]) (fn := Tryz.f165) Tryz.func165 (by exact rfl) (by kernel_rfl) (by kernel_rfl) (by rfl) (of_eq (by kernel_rfl) h)
def vc142_L3 (p0 : (Unit × Int × Int × Unit) × ((List AV × Int × Int × List AV × Unit) × Unit)) (R : AV → Prop) : Prop :=
 LoopP _ p0 fun z51 ag52 =>
 ITE (decide (z51.1.2.2.1 < ((List.length z51.2.1.2.2.2.1 : Nat) : Int)))
 (0 ≤ z51.1.2.2.1 ∧
 z51.1.2.2.1 < List.length z51.2.1.2.2.2.1 ∧
 ∃ (l53 : List AV) (i54 i55 : Int) (l56 : List AV),
 List.getD z51.2.1.2.2.2.1 (Int.toNat z51.1.2.2.1) .top = .agg [.sl l53, nI i54, nI i55, .sl l56] ∧
 ∃ (i57 : Int),
 PureIs Tryz.prog 142 [.agg [.sl l53, nI i54, nI i55, .sl l56]] (nI i57) ∧
 ag52 (((), IntKind.wrap .i64 (z51.1.2.1 + i57), IntKind.wrap .i64 (z51.1.2.2.1 + 1), ()), ((z51.2.1.1, z51.2.1.2.1, z51.2.1.2.2.1, z51.2.1.2.2.2.1, ()), ())))
 (R (nI z51.1.2.1))
def vc142 (a0_0 : List AV) (a0_1 a0_2 : Int) (a0_3 : List AV) (R : AV → Prop) : Prop :=
 vc142_L3 (((), 1, 0, ()), ((a0_0, a0_1, a0_2, a0_3, ()), ())) R
theorem vc142_ok {a0_0 : List AV} {a0_1 a0_2 : Int} {a0_3 : List AV} {R : AV → Prop} (h : vc142 a0_0 a0_1 a0_2 a0_3 R) : Pure Tryz.prog 142 [.agg [.sl a0_0, nI a0_1, nI a0_2, .sl a0_3]] R :=
 pure_of_code (C := cfg (Func.ntmps Tryz.f142)) (cfg_tab _ _ _ _ _) (cfg_ord _ _ _ _ _) (L := [{ key := 3, live := [(1, none), (3, none), (4, none)] }]) (fn := Tryz.f142) Tryz.func142 (by exact rfl) (by kernel_rfl) (by kernel_rfl) (by rfl) (of_eq (by kernel_rfl) h)
def vc143_L3 (p0 : (Unit × Int × Int × Unit) × ((List AV × Int × Int × List AV × Unit) × Unit)) (R : AV → Prop) : Prop :=
 LoopP _ p0 fun z51 ag52 =>
 ITE (decide (z51.1.2.2.1 < ((List.length z51.2.1.2.2.2.1 : Nat) : Int)))
 (0 ≤ z51.1.2.2.1 ∧
 z51.1.2.2.1 < List.length z51.2.1.2.2.2.1 ∧
 ∃ (l53 : List AV) (i54 i55 : Int) (l56 : List AV),
 List.getD z51.2.1.2.2.2.1 (Int.toNat z51.1.2.2.1) .top = .agg [.sl l53, nI i54, nI i55, .sl l56] ∧
 ∃ (i57 : Int),
 PureIs Tryz.prog 143 [.agg [.sl l53, nI i54, nI i55, .sl l56]] (nI i57) ∧
 ITE (decide (i57 > z51.1.2.1))
 (ag52 (((), i57, IntKind.wrap .i64 (z51.1.2.2.1 + 1), ()), ((z51.2.1.1, z51.2.1.2.1, z51.2.1.2.2.1, z51.2.1.2.2.2.1, ()), ())))
 (ag52 (((), z51.1.2.1, IntKind.wrap .i64 (z51.1.2.2.1 + 1), ()), ((z51.2.1.1, z51.2.1.2.1, z51.2.1.2.2.1, z51.2.1.2.2.2.1, ()), ()))))
 (R (nI (IntKind.wrap .i64 (z51.1.2.1 + 1))))
def vc143 (a0_0 : List AV) (a0_1 a0_2 : Int) (a0_3 : List AV) (R : AV → Prop) : Prop :=
 vc143_L3 (((), 0, 0, ()), ((a0_0, a0_1, a0_2, a0_3, ()), ())) R
theorem vc143_ok {a0_0 : List AV} {a0_1 a0_2 : Int} {a0_3 : List AV} {R : AV → Prop} (h : vc143 a0_0 a0_1 a0_2 a0_3 R) : Pure Tryz.prog 143 [.agg [.sl a0_0, nI a0_1, nI a0_2, .sl a0_3]] R :=
 pure_of_code (C := cfg (Func.ntmps Tryz.f143)) (cfg_tab _ _ _ _ _) (cfg_ord _ _ _ _ _) (L := [{ key := 3, live := [(1, none), (3, none), (4, none)] }]) (fn := Tryz.f143) Tryz.func143 (by exact rfl) (by kernel_rfl) (by kernel_rfl) (by rfl) (of_eq (by kernel_rfl) h)
def vc106 (a0_0 : List AV) (a0_1 a0_2 : Int) (a0_3 : List AV) (R : AV → Prop) : Prop :=
 ∃ (i1 : Int),
 PureIs Tryz.prog 142 [.agg [.sl a0_0, nI a0_1, nI a0_2, .sl a0_3]] (nI i1) ∧
 ITE (decide (i1 ≤ 5000))
 (∃ (i2 : Int),
 PureIs Tryz.prog 143 [.agg [.sl a0_0, nI a0_1, nI a0_2, .sl a0_3]] (nI i2) ∧
 R (nB (decide (i2 ≤ 60))))
 (R (nB false))
theorem vc106_ok {a0_0 : List AV} {a0_1 a0_2 : Int} {a0_3 : List AV} {R : AV → Prop} (h : vc106 a0_0 a0_1 a0_2 a0_3 R) : Pure Tryz.prog 106 [.agg [.sl a0_0, nI a0_1, nI a0_2, .sl a0_3]] R :=
 pure_of_code (C := cfg (Func.ntmps Tryz.f106)) (cfg_tab _ _ _ _ _) (cfg_ord _ _ _ _ _) (L := []) (fn := Tryz.f106) Tryz.func106 (by exact rfl) (by kernel_rfl) (by kernel_rfl) (by rfl) (of_eq (by kernel_rfl) h)
def vc103_L9 (p0 : (Unit × Int × Unit) × ((Int × List AV × List AV × Unit) × Unit)) (R : AV → Prop) : Prop :=
 LoopP _ p0 fun z51 ag52 =>
 ITE (decide (z51.1.2.1 < ((List.length z51.2.1.2.2.1 : Nat) : Int)))
 (0 ≤ z51.1.2.1 ∧
 z51.1.2.1 < List.length z51.2.1.2.2.1 ∧
 ∃ (l53 : List AV) (i54 : Int),
 List.getD z51.2.1.2.2.1 (Int.toNat z51.1.2.1) .top = .agg [.sl l53, nI i54] ∧
 ∃ (b55 : Bool),
 PureIs Tryz.prog 102 [.agg [.sl l53, nI i54], nI z51.2.1.1] (nB b55) ∧
 ITE (!b55)
 (R (nB false))
 (ag52 (((), IntKind.wrap .i64 (z51.1.2.1 + 1), ()), ((z51.2.1.1, z51.2.1.2.1, z51.2.1.2.2.1, ()), ()))))
 (R (nB true))
def vc103_L4 (p0 : (Unit × Int × Unit) × ((Int × List AV × List AV × Unit) × Unit)) (R : AV → Prop) : Prop :=
 LoopP _ p0 fun z51 ag52 =>
 ITE (decide (z51.1.2.1 < ((List.length z51.2.1.2.1 : Nat) : Int)))
 (0 ≤ z51.1.2.1 ∧
 z51.1.2.1 < List.length z51.2.1.2.1 ∧
 ∃ (l53 : List AV) (i54 : Int),
 List.getD z51.2.1.2.1 (Int.toNat z51.1.2.1) .top = .agg [.sl l53, nI i54] ∧
 ∃ (b55 : Bool),
 PureIs Tryz.prog 102 [.agg [.sl l53, nI i54], nI z51.2.1.1] (nB b55) ∧
 ITE (!b55)
 (R (nB false))
 (ag52 (((), IntKind.wrap .i64 (z51.1.2.1 + 1), ()), ((z51.2.1.1, z51.2.1.2.1, z51.2.1.2.2.1, ()), ()))))
 (vc103_L9 (((), 0, ()), ((z51.2.1.1, z51.2.1.2.1, z51.2.1.2.2.1, ()), ())) R)
def vc103 (a0_0 : Int) (a0_1 a0_2 : List AV) (R : AV → Prop) : Prop :=
 ITE (decide (((List.length a0_1 : Nat) : Int) > 1000))
 (R (nB false))
 (ITE (decide (((List.length a0_2 : Nat) : Int) > (IntKind.wrap .i64 (1000 - ((List.length a0_1 : Nat) : Int)))))
 (R (nB false))
 (vc103_L4 (((), 0, ()), ((a0_0, a0_1, a0_2, ()), ())) R))
theorem vc103_ok {a0_0 : Int} {a0_1 a0_2 : List AV} {R : AV → Prop} (h : vc103 a0_0 a0_1 a0_2 R) : Pure Tryz.prog 103 [.agg [nI a0_0, .sl a0_1, .sl a0_2]] R :=
 pure_of_code (C := cfg (Func.ntmps Tryz.f103)) (cfg_tab _ _ _ _ _) (cfg_ord _ _ _ _ _) (L := [{ key := 4, live := [(1, none), (3, none)] }, { key := 9, live := [(1, none), (4, none)] }]) (fn := Tryz.f103) Tryz.func103 (by exact rfl) (by kernel_rfl) (by kernel_rfl) (by rfl) (of_eq (by kernel_rfl) h)
def vc4_L3 (p0 : Int) (p1 p2 p3 : List AV) (p4 : Int) (p5 : List AV) (p6 p7 : Int) (p8 : List AV) (p9 : Int) (p10 p11 p12 : List AV) (p13 : Int) (p14 : List AV) (p15 p16 : Int) (p17 : List AV) (R : AV → Prop) : Prop :=
 ∃ (l50 : List AV) (i51 i52 : Int) (l53 : List AV) (i54 : Int),
 PureIs Tryz.prog 24 [.agg [nI p0, .sl p1, .sl p2], .sl p3, .agg [nI p4, .sl p5, nI p6, nI p7, .sl p8]] (.tup [.agg [.sl l50, nI i51, nI i52, .sl l53], nI i54]) ∧
 ∃ (i64 i65 : Int),
 PureIs Tryz.prog 25 [.agg [nI p0, .sl p1, .sl p2], .sl p3, .agg [nI p4, .sl p5, nI p6, nI p7, .sl p8]] (.tup [nI i64, nI i65]) ∧
 ∃ (l66 : List AV) (i67 i68 : Int) (l69 : List AV) (i70 i71 : Int),
 PureIs Tryz.prog 16 [.agg [nI p9, .sl p10, .sl p11], .sl p12, .agg [nI p13, .sl p14, nI p15, nI p16, .sl p17], nI 100000] (.tup [.agg [.sl l66, nI i67, nI i68, .sl l69], nI i70, nI i71]) ∧
 ITE (i71 != 0)
 (∃ (b81 : Bool),
 PureIs Tryz.prog 10 [] (nB b81) ∧
 ITE b81
 (ITE (i54 == i71)
 (ITE (i65 == i71)
 (ITE (i64 == 0)
 (∃ (l82 : List AV) (i83 i84 : Int) (l85 : List AV),
 PureIs Tryz.prog 18 [.agg [.sl l50, nI i51, nI i52, .sl l53]] (.agg [.sl l82, nI i83, nI i84, .sl l85]) ∧
 ∃ (b86 : Bool),
 PureIs Tryz.prog 17 [.agg [.sl l82, nI i83, nI i84, .sl l85], .agg [.sl l66, nI i67, nI i68, .sl l69]] (nB b86) ∧
 R (nB b86))
 (R (nB false)))
 (R (nB false)))
 (R (nB false)))
 (R (nB false)))
 (∃ (b87 : Bool),
 PureIs Tryz.prog 10 [] (nB b87) ∧
 ITE b87
 (ITE (i54 == i71)
 (ITE (i65 == i71)
 (ITE (i64 == i70)
 (∃ (l88 : List AV) (i89 i90 : Int) (l91 : List AV),
 PureIs Tryz.prog 18 [.agg [.sl l50, nI i51, nI i52, .sl l53]] (.agg [.sl l88, nI i89, nI i90, .sl l91]) ∧
 ∃ (b92 : Bool),
 PureIs Tryz.prog 17 [.agg [.sl l88, nI i89, nI i90, .sl l91], .agg [.sl l66, nI i67, nI i68, .sl l69]] (nB b92) ∧
 R (nB b92))
 (R (nB false)))
 (R (nB false)))
 (R (nB false)))
 (R (nB false)))
def vc4 (a0_0 : Int) (a0_1 a0_2 a1 : List AV) (a2_0 : Int) (a2_1 : List AV) (a2_2 a2_3 : Int) (a2_4 : List AV) (R : AV → Prop) : Prop :=
 ∃ (b1 : Bool),
 PureIs Tryz.prog 23 [.agg [nI a2_0, .sl a2_1, nI a2_2, nI a2_3, .sl a2_4], nI 100, nI 70] (nB b1) ∧
 ITE (!b1)
 (∃ (b2 : Bool),
 PureIs Tryz.prog 10 [] (nB b2) ∧
 R (nB b2))
 (∃ (b3 : Bool),
 PureIs Tryz.prog 9 [.agg [nI a0_0, .sl a0_1, .sl a0_2], .sl a1] (nB b3) ∧
 ITE (!b3)
 (∃ (b4 : Bool),
 PureIs Tryz.prog 10 [] (nB b4) ∧
 R (nB b4))
 (∃ (i5 : Int) (l6 l7 : List AV),
 PureIs Tryz.prog 11 [.agg [nI a0_0, .sl a0_1, .sl a0_2]] (.agg [nI i5, .sl l6, .sl l7]) ∧
 ∃ (l8 : List AV),
 PureIs Tryz.prog 12 [.sl a1] (.sl l8) ∧
 ∃ (i9 : Int) (l10 : List AV) (i11 i12 : Int) (l13 : List AV),
 PureIs Tryz.prog 13 [.agg [nI a2_0, .sl a2_1, nI a2_2, nI a2_3, .sl a2_4]] (.agg [nI i9, .sl l10, nI i11, nI i12, .sl l13]) ∧
 (vc4_L3 i5 l6 l7 l8 i9 l10 i11 i12 l13 a0_0 a0_1 a0_2 a1 a2_0 a2_1 a2_2 a2_3 a2_4 R) ∧
 (vc4_L3 i5 l6 l7 l8 i9 l10 i11 i12 l13 a0_0 a0_1 a0_2 a1 a2_0 a2_1 a2_2 a2_3 a2_4 R)))
theorem vc4_ok {a0_0 : Int} {a0_1 a0_2 a1 : List AV} {a2_0 : Int} {a2_1 : List AV} {a2_2 a2_3 : Int} {a2_4 : List AV} {R : AV → Prop} (h : vc4 a0_0 a0_1 a0_2 a1 a2_0 a2_1 a2_2 a2_3 a2_4 R) : Pure Tryz.prog 4 [.agg [nI a0_0, .sl a0_1, .sl a0_2], .sl a1, .agg [nI a2_0, .sl a2_1, nI a2_2, nI a2_3, .sl a2_4]] R :=
 pure_of_code (C := cfg (Func.ntmps Tryz.f4) [(3, [none, none, none, none, none, none, some [], some [], none, none, none], [some [], some [], none, some [], some [], some [], none, none, none, none, none])] [] [] [(3, (.val 0 (.val 1 (.val 2 (.val 3 (.val 4 (.val 5 (.two 6 (.eff 7 (.eff 8 (.val 9 (.eff 10 .done)))) 7 (.eff 6 (.eff 8 (.val 9 (.eff 10 .done))))))))))))]) (cfg_tab _ _ _ _ _) (cfg_ord _ _ _ _ _) (L := []) (fn := Tryz.f4) Tryz.func4 (by exact rfl) (by kernel_rfl) (by kernel_rfl) (by rfl) (of_eq (by kernel_rfl) h)
def vc10 (R : AV → Prop) : Prop :=
 ∃ (l1 : List AV) (i2 : Int),
 PureIs Tryz.prog 47 [nI 0, .sl []] (.agg [.sl l1, nI i2]) ∧
 ∃ (l3 : List AV) (i4 : Int),
 PureIs Tryz.prog 47 [nI 0, .sl [.agg [.sl l1, nI i2]]] (.agg [.sl l3, nI i4]) ∧
 ∃ (i5 : Int) (l6 : List AV) (i7 i8 : Int) (l9 : List AV),
 PureIs Tryz.prog 48 [nI 0, nI 0] (.agg [nI i5, .sl l6, nI i7, nI i8, .sl l9]) ∧
 ∃ (i10 : Int) (l11 : List AV) (i12 i13 : Int) (l14 : List AV),
 PureIs Tryz.prog 48 [nI 0, nI 1] (.agg [nI i10, .sl l11, nI i12, nI i13, .sl l14]) ∧
 ∃ (i15 : Int) (l16 : List AV) (i17 i18 : Int) (l19 : List AV),
 PureIs Tryz.prog 48 [nI 0, nI 1] (.agg [nI i15, .sl l16, nI i17, nI i18, .sl l19]) ∧
 ∃ (i20 : Int) (l21 : List AV) (i22 i23 : Int) (l24 : List AV),
 PureIs Tryz.prog 41 [.agg [nI i15, .sl l16, nI i17, nI i18, .sl l19], .sl [.agg [nI i5, .sl l6, nI i7, nI i8, .sl l9]]] (.agg [nI i20, .sl l21, nI i22, nI i23, .sl l24]) ∧
 ∃ (i25 : Int) (l26 : List AV) (i27 i28 : Int) (l29 : List AV),
 PureIs Tryz.prog 41 [.agg [nI i10, .sl l11, nI i12, nI i13, .sl l14], .sl [.agg [nI i20, .sl l21, nI i22, nI i23, .sl l24]]] (.agg [nI i25, .sl l26, nI i27, nI i28, .sl l29]) ∧
 ∃ (i30 : Int) (l31 : List AV) (i32 i33 : Int) (l34 : List AV),
 PureIs Tryz.prog 49 [.agg [nI i25, .sl l26, nI i27, nI i28, .sl l29], .sl [.agg [.sl l3, nI i4], .agg [.sl l1, nI i2]]] (.agg [nI i30, .sl l31, nI i32, nI i33, .sl l34]) ∧
 ∃ (i35 : Int) (l36 : List AV) (i37 i38 : Int) (l39 : List AV),
 PureIs Tryz.prog 48 [nI 1, nI 0] (.agg [nI i35, .sl l36, nI i37, nI i38, .sl l39]) ∧
 ∃ (i40 : Int) (l41 : List AV) (i42 i43 : Int) (l44 : List AV),
 PureIs Tryz.prog 41 [.agg [nI i30, .sl l31, nI i32, nI i33, .sl l34], .sl [.agg [nI i35, .sl l36, nI i37, nI i38, .sl l39]]] (.agg [nI i40, .sl l41, nI i42, nI i43, .sl l44]) ∧
 ∃ (l45 : List AV) (i46 i47 : Int) (l48 : List AV) (i49 : Int),
 PureIs Tryz.prog 24 [.agg [nI 1, .sl [.agg [.sl l3, nI i4]], .sl []], .sl [], .agg [nI i40, .sl l41, nI i42, nI i43, .sl l44]] (.tup [.agg [.sl l45, nI i46, nI i47, .sl l48], nI i49]) ∧
 ∃ (i50 i51 : Int),
 PureIs Tryz.prog 25 [.agg [nI 1, .sl [.agg [.sl l3, nI i4]], .sl []], .sl [], .agg [nI i35, .sl l36, nI i37, nI i38, .sl l39]] (.tup [nI i50, nI i51]) ∧
 ∃ (i52 : Int) (l53 : List AV) (i54 i55 : Int) (l56 : List AV),
 PureIs Tryz.prog 41 [.agg [nI i35, .sl l36, nI i37, nI i38, .sl l39], .sl [.agg [nI i5, .sl l6, nI i7, nI i8, .sl l9]]] (.agg [nI i52, .sl l53, nI i54, nI i55, .sl l56]) ∧
 ∃ (i57 : Int) (l58 : List AV) (i59 i60 : Int) (l61 : List AV),
 PureIs Tryz.prog 41 [.agg [nI i35, .sl l36, nI i37, nI i38, .sl l39], .sl [.agg [nI i52, .sl l53, nI i54, nI i55, .sl l56]]] (.agg [nI i57, .sl l58, nI i59, nI i60, .sl l61]) ∧
 ∃ (i62 : Int) (l63 : List AV) (i64 i65 : Int) (l66 : List AV),
 PureIs Tryz.prog 49 [.agg [nI i57, .sl l58, nI i59, nI i60, .sl l61], .sl [.agg [.sl l1, nI i2]]] (.agg [nI i62, .sl l63, nI i64, nI i65, .sl l66]) ∧
 ∃ (l67 : List AV) (i68 i69 : Int) (l70 : List AV) (i71 : Int),
 PureIs Tryz.prog 24 [.agg [nI 1, .sl [.agg [.sl l3, nI i4]], .sl []], .sl [], .agg [nI i62, .sl l63, nI i64, nI i65, .sl l66]] (.tup [.agg [.sl l67, nI i68, nI i69, .sl l70], nI i71]) ∧
 ITE (i49 == 0)
 (ITE (i71 == 0)
 (∃ (b72 : Bool),
 PureIs Tryz.prog 37 [.agg [.sl l45, nI i46, nI i47, .sl l48], .agg [.sl l67, nI i68, nI i69, .sl l70]] (nB b72) ∧
 ITE b72
 (∃ (i73 : Int),
 PureIs Tryz.prog 42 [.agg [.sl l45, nI i46, nI i47, .sl l48]] (nI i73) ∧
 ITE (i73 == 3)
 (ITE (i51 == 0)
 (R (nB (i50 == 2)))
 (R (nB false)))
 (R (nB false)))
 (R (nB false)))
 (R (nB false)))
 (R (nB false))
theorem vc10_ok {R : AV → Prop} (h : vc10 R) : Pure Tryz.prog 10 [] R :=
 pure_of_code (C := cfg (Func.ntmps Tryz.f10) [(5, [none, none, none, none, none, none, none, none, none, none, none, some [], none], [some [], some [], some [], some [], some [], some [], some [], some [], some [], some [], some [], none, none]), (7, [none, none, none, none, none, none, none, none, none, some [], none, none], [some [], some [], some [], some [], some [], some [], none, none, none, none, none, none]), (9, [none, none, none, none, none, none, none, none, none, none, none, none, none, none, none, some [], none, none], [some [], some [], some [], some [], some [], some [], some [], some [], some [], some [], some [], some [], none, none, none, none, none, none])]) (cfg_tab _ _ _ _ _) (cfg_ord _ _ _ _ _) (L := []) (fn := Tryz.f10) Tryz.func10 (by exact rfl) (by kernel_rfl) (by kernel_rfl) (by rfl) (of_eq (by kernel_rfl) h)
def vc42 (a0_0 : List AV) (a0_1 a0_2 : Int) (a0_3 : List AV) (R : AV → Prop) : Prop :=
 PureIs Tryz.prog 92 [.agg [.sl a0_0, nI a0_1, nI a0_2, .sl a0_3]] (.clo 123 [.eptr (.agg [.sl a0_0, nI a0_1, nI a0_2, .sl a0_3]) 0]) ∧
 RangeP ((List AV × Int × Int × List AV × Unit) × (Int × Unit) × Unit) ((Int × Int × Unit) × (List AV × Int × Int × List AV × Unit) × Unit) ((a0_0, a0_1, a0_2, a0_3, ()), (0, ()), ()) (fun Ls => SeqIs Tryz.prog 123 [.eptr (.agg [.sl a0_0, nI a0_1, nI a0_2, .sl a0_3]) 0] [.v (.a [.i .i64, .i .i64]), .v (.a [.l, .i .i64, .i .i64, .l])] Ls)
 (fun e2 z1 again3 =>
 again3 ((z1.1.1, z1.1.2.1, z1.1.2.2.1, z1.1.2.2.2.1, ()), (IntKind.wrap .i64 (z1.2.1.1 + 1), ()), ()))
 (fun z4 =>
 R (nI z4.2.1.1))
theorem vc42_ok {a0_0 : List AV} {a0_1 a0_2 : Int} {a0_3 : List AV} {R : AV → Prop} (h : vc42 a0_0 a0_1 a0_2 a0_3 R) : Pure Tryz.prog 42 [.agg [.sl a0_0, nI a0_1, nI a0_2, .sl a0_3]] R :=
 pure_of_code (C := cfg (Func.ntmps Tryz.f42) [] [(92, .clo 123)] []) (cfg_tab _ _ _ _ _) (cfg_ord _ _ _ _ _) (L := [{ key := 3, live := [], prm := [.v (.a [.i .i64, .i .i64]), .v (.a [.l, .i .i64, .i .i64, .l])] }]) (fn := Tryz.f42) Tryz.func42 (by exact rfl) (by kernel_rfl) (by kernel_rfl) (by rfl) (of_eq (by kernel_rfl) h)
def vc91_L4 (p0 : (List AV × Unit × List AV × Int × Int × Unit) × (Unit)) (R : AV → Prop) : Prop :=
 LoopP _ p0 fun z51 ag52 =>
 ITE (decide (z51.1.2.2.2.2.1 < z51.1.2.2.2.1))
 (0 ≤ z51.1.2.2.2.2.1 ∧
 z51.1.2.2.2.2.1 < List.length z51.1.2.2.1 ∧
 ∃ (l53 : List AV) (i54 i55 : Int) (l56 : List AV),
 List.getD z51.1.2.2.1 (Int.toNat z51.1.2.2.2.2.1) .top = .agg [.sl l53, nI i54, nI i55, .sl l56] ∧
 0 ≤ z51.1.2.2.2.2.1 ∧
 z51.1.2.2.2.2.1 < List.length z51.1.1 ∧
 ∃ (l57 : List AV) (i58 i59 : Int) (l60 : List AV),
 List.getD z51.1.1 (Int.toNat z51.1.2.2.2.2.1) .top = .agg [.sl l57, nI i58, nI i59, .sl l60] ∧
 ∃ (b61 : Bool),
 PureIs Tryz.prog 37 [.agg [.sl l53, nI i54, nI i55, .sl l56], .agg [.sl l57, nI i58, nI i59, .sl l60]] (nB b61) ∧
 ITE (!b61)
 (R (nB false))
 (ag52 ((z51.1.1, (), z51.1.2.2.1, z51.1.2.2.2.1, IntKind.wrap .i64 (z51.1.2.2.2.2.1 + 1), ()), ())))
 (R (nB true))
def vc91 (a0 a1 : List AV) (R : AV → Prop) : Prop :=
 ITE (((List.length a0 : Nat) : Int) != ((List.length a1 : Nat) : Int))
 (R (nB false))
 (vc91_L4 ((a1, (), a0, ((List.length a0 : Nat) : Int), 0, ()), ()) R)
theorem vc91_ok {a0 a1 : List AV} {R : AV → Prop} (h : vc91 a0 a1 R) : Pure Tryz.prog 91 [.sl a0, .sl a1, .clo 37 []] R :=
 pure_of_code (C := cfg (Func.ntmps Tryz.f91)) (cfg_tab _ _ _ _ _) (cfg_ord _ _ _ _ _) (L := [{ key := 4, live := [(1, none), (2, none), (15, none), (16, none), (17, none)] }]) (fn := Tryz.f91) Tryz.func91 (by exact rfl) (by kernel_rfl) (by kernel_rfl) (by rfl) (of_eq (by kernel_rfl) h)
def vc37 (a0_0 : List AV) (a0_1 a0_2 : Int) (a0_3 a1_0 : List AV) (a1_1 a1_2 : Int) (a1_3 : List AV) (R : AV → Prop) : Prop :=
 ITE (a0_1 == a1_1 && a0_2 == a1_2)
 (∃ (b1 : Bool),
 PureIs Tryz.prog 89 [.sl a0_0, .sl a1_0, .clo 90 []] (nB b1) ∧
 ITE b1
 (∃ (b2 : Bool),
 PureIs Tryz.prog 91 [.sl a0_3, .sl a1_3, .clo 37 []] (nB b2) ∧
 R (nB b2))
 (R (nB false)))
 (R (nB false))
theorem vc37_ok {a0_0 : List AV} {a0_1 a0_2 : Int} {a0_3 a1_0 : List AV} {a1_1 a1_2 : Int} {a1_3 : List AV} {R : AV → Prop} (h : vc37 a0_0 a0_1 a0_2 a0_3 a1_0 a1_1 a1_2 a1_3 R) : Pure Tryz.prog 37 [.agg [.sl a0_0, nI a0_1, nI a0_2, .sl a0_3], .agg [.sl a1_0, nI a1_1, nI a1_2, .sl a1_3]] R :=
 pure_of_code (C := cfg (Func.ntmps Tryz.f37)) (cfg_tab _ _ _ _ _) (cfg_ord _ _ _ _ _) (L := []) (fn := Tryz.f37) Tryz.func37 (by exact rfl) (by kernel_rfl) (by kernel_rfl) (by rfl) (of_eq (by kernel_rfl) h)
end Go.Proofs.YtghlgbhldnkdmaaGreat
