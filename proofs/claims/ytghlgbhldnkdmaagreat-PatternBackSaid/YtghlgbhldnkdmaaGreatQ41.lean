/- Texts of ours laid together for a claim: Vc9. -/
import Derived.Test.YtghlgbhldnkdmaaGreatQ40
namespace Go.Proofs.YtghlgbhldnkdmaaGreat
open Go
set_option linter.unusedSimpArgs false
set_option linter.unusedVariables false
set_option maxRecDepth 100000
def vc35 (xl xu xd xm xs xy : Int) (a0_0 : List AV) (a0_1 a0_2 : Int) (a0_3 a2 : List AV) (R : AV → List AObj → Prop) : Prop :=
 ∃ (S3 : AV → List AObj → Prop),
 HFn Tryz.prog 87 [.ptr 1 0, .agg [.sl a0_0, nI a0_1, nI a0_2, .sl a0_3], .sl a2] [.box (budC xl xu xd xm xs xy), .box [.ptr 0 0, nI 0, nI 0]] S3 ∧
 ∀ (r1 : AV) (q2 : List AObj), S3 r1 q2 →
 ∃ (i4 i5 i6 i7 i8 i9 i10 i11 : Int) (l12 : List AV) (i13 i14 : Int) (l15 : List AV),
 (r1 = .agg [.sl l12, nI i13, nI i14, .sl l15] ∧ q2 = [.box (budC i4 i5 i6 i7 i8 i9), .box [.ptr 0 0, nI i10, nI i11]]) ∧
 ∃ (S18 : AV → List AObj → Prop),
 HFn Tryz.prog 86 [.ptr 1 0, .agg [.sl l12, nI i13, nI i14, .sl l15]] [.box (budC i4 i5 i6 i7 i8 i9), .box [.ptr 0 0, nI i10, nI i11]] S18 ∧
 ∀ (r16 : AV) (q17 : List AObj), S18 r16 q17 →
 ∃ (i19 i20 i21 i22 i23 i24 i25 i26 : Int) (l27 : List AV) (i28 i29 : Int) (l30 : List AV) (i31 : Int),
 (r16 = .tup [.agg [.sl l27, nI i28, nI i29, .sl l30], nI i31] ∧ q17 = [.box (budC i19 i20 i21 i22 i23 i24), .box [.ptr 0 0, nI i25, nI i26]]) ∧
 R (.tup [.agg [.sl l27, nI i28, nI i29, .sl l30], nI i31]) [.box (budC i19 i20 i21 i22 i23 i24)]
theorem vc35_ok {xl xu xd xm xs xy : Int} {a0_0 : List AV} {a0_1 a0_2 : Int} {a0_3 a2 : List AV} {R : AV → List AObj → Prop} (h : vc35 xl xu xd xm xs xy a0_0 a0_1 a0_2 a0_3 a2 R) : HFn Tryz.prog 35 [.agg [.sl a0_0, nI a0_1, nI a0_2, .sl a0_3], .ptr 0 0, .sl a2] [.box (budC xl xu xd xm xs xy)] R :=
 heap_of_code (C := cfg (Func.ntmps Tryz.f35) [] [(87, .emb [(.v (.a [.l, .i .i64, .i .i64, .l]), [.box [.i .i64, .i .i64, .i .u32, .i .i32, .i .u32, .i .u32], .box [.k (.ptr 0 0), .i .i64, .i .i64]])]), (86, .emb [(.t [.a [.l, .i .i64, .i .i64, .l], .c (.i .i64)], [.box [.i .i64, .i .i64, .i .u32, .i .i32, .i .u32, .i .u32], .box [.k (.ptr 0 0), .i .i64, .i .i64]])])] []) (cfg_tab _ _ _ _ _) (cfg_ord _ _ _ _ _) (L := []) (fn := Tryz.f35) Tryz.func35 (by exact rfl) (by kernel_rfl) (by kernel_rfl) (by rfl) (of_eq (by kernel_rfl) h)
end Go.Proofs.YtghlgbhldnkdmaaGreat
