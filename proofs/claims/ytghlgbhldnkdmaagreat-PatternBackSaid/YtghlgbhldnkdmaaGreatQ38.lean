/- Texts of ours laid together for a claim: Vc6. -/
import Derived.Test.YtghlgbhldnkdmaaGreatQ37
namespace Go.Proofs.YtghlgbhldnkdmaaGreat
open Go
set_option linter.unusedSimpArgs false
set_option linter.unusedVariables false
set_option maxRecDepth 100000
abbrev sxVc6_0 : Nat × Sig := (58, .heap 1 [(.v (.c (.i .i64)), [.box [.i .i64, .i .i64, .i .u32, .i .i32, .i .u32, .i .u32]])])
abbrev sxVc6_1 : Nat × Sig := (59, .heap 1 [(.v (.c (.b)), [.box [.i .i64, .i .i64, .i .u32, .i .i32, .i .u32, .i .u32]])])
abbrev sxVc6_2 : Nat × Sig := (88, .heap 1 [(.t [], [.box [.i .i64, .i .i64, .i .u32, .i .i32, .i .u32, .i .u32]])])
abbrev sxVc6_3 : Nat × Sig := (166, .heap 1 [(.v (.c (.i .i64)), [.box [.i .i64, .i .i64, .i .u32, .i .i32, .i .u32, .i .u32]])])
abbrev sxVc6_4 : Nat × Sig := (169, .heap 1 [(.t [], [.box [.i .i64, .i .i64, .i .u32, .i .i32, .i .u32, .i .u32]])])
abbrev sxVc6_5 : Nat × Sig := (19, .heap 1 [(.v (.c (.i .i64)), [.box [.i .i64, .i .i64, .i .u32, .i .i32, .i .u32, .i .u32]])])
abbrev sxVc6_6 : Nat × Sig := (20, .heap 1 [(.v (.c (.b)), [.box [.i .i64, .i .i64, .i .u32, .i .i32, .i .u32, .i .u32]])])
abbrev sxVc6_7 : Nat × Sig := (163, .heap 1 [(.t [], [.box [.i .i64, .i .i64, .i .u32, .i .i32, .i .u32, .i .u32]])])
abbrev sxVc6_8 : Nat × Sig := (164, .heap 1 [(.t [], [.box [.i .i64, .i .i64, .i .u32, .i .i32, .i .u32, .i .u32]])])
abbrev sxVc6_9 : Nat × Sig := (157, .heap 1 [(.v (.c (.b)), [.box [.i .i64, .i .i64, .i .u32, .i .i32, .i .u32, .i .u32]])])
abbrev sxVc6_10 : Nat × Sig := (167, .heap 2 [(.t [], [.box [.i .i64, .i .i64, .i .u32, .i .i32, .i .u32, .i .u32], .box [.k (.ptr 0 0)]])])
def vc_loadLeft (xl xu xd xm xs xy : Int) (R : AV → List AObj → Prop) : Prop :=
 R (nI xl) [.box (budC xl xu xd xm xs xy)]
theorem vc_loadLeft_ok {xl xu xd xm xs xy : Int} {R : AV → List AObj → Prop} (h : vc_loadLeft xl xu xd xm xs xy R) : HFn Tryz.prog 58 [.ptr 0 0] [.box (budC xl xu xd xm xs xy)] R :=
 heap_of_code (C := cfg (Func.ntmps Tryz.f58) [] [sxVc6_0, sxVc6_1, sxVc6_2, sxVc6_3, sxVc6_4, sxVc6_5, sxVc6_6, sxVc6_7, sxVc6_8, sxVc6_9, sxVc6_10] []) (cfg_tab _ _ _ _ _) (cfg_ord _ _ _ _ _) (L := []) (fn := Tryz.f58) Tryz.func58 (by exact rfl) (by kernel_rfl) (by kernel_rfl) (by rfl) (of_eq (by kernel_rfl) h)
def vc_loadDry (xl xu xd xm xs xy : Int) (R : AV → List AObj → Prop) : Prop :=
 R (nB (xy != 0)) [.box (budC xl xu xd xm xs xy)]
theorem vc_loadDry_ok {xl xu xd xm xs xy : Int} {R : AV → List AObj → Prop} (h : vc_loadDry xl xu xd xm xs xy R) : HFn Tryz.prog 59 [.ptr 0 5] [.box (budC xl xu xd xm xs xy)] R :=
 heap_of_code (C := cfg (Func.ntmps Tryz.f59) [] [sxVc6_0, sxVc6_1, sxVc6_2, sxVc6_3, sxVc6_4, sxVc6_5, sxVc6_6, sxVc6_7, sxVc6_8, sxVc6_9, sxVc6_10] []) (cfg_tab _ _ _ _ _) (cfg_ord _ _ _ _ _) (L := []) (fn := Tryz.f59) Tryz.func59 (by exact rfl) (by kernel_rfl) (by kernel_rfl) (by rfl) (of_eq (by kernel_rfl) h)
def vc_addLeft (xl xu xd xm xs xy a1 : Int) (R : AV → List AObj → Prop) : Prop :=
 R (nI (IntKind.wrap .i64 (xl + a1))) [.box (budC (IntKind.wrap .i64 (xl + a1)) xu xd xm xs xy)]
theorem vc_addLeft_ok {xl xu xd xm xs xy a1 : Int} {R : AV → List AObj → Prop} (h : vc_addLeft xl xu xd xm xs xy a1 R) : HFn Tryz.prog 166 [.ptr 0 0, nI a1] [.box (budC xl xu xd xm xs xy)] R :=
 heap_of_code (C := cfg (Func.ntmps Tryz.f166) [] [sxVc6_0, sxVc6_1, sxVc6_2, sxVc6_3, sxVc6_4, sxVc6_5, sxVc6_6, sxVc6_7, sxVc6_8, sxVc6_9, sxVc6_10] []) (cfg_tab _ _ _ _ _) (cfg_ord _ _ _ _ _) (L := []) (fn := Tryz.f166) Tryz.func166 (by exact rfl) (by kernel_rfl) (by kernel_rfl) (by rfl) (of_eq (by kernel_rfl) h)
def vc_addUsed (xl xu xd xm xs xy a1 : Int) (R : AV → List AObj → Prop) : Prop :=
 R (nI (IntKind.wrap .i64 (xu + a1))) [.box (budC xl (IntKind.wrap .i64 (xu + a1)) xd xm xs xy)]
theorem vc_addUsed_ok {xl xu xd xm xs xy a1 : Int} {R : AV → List AObj → Prop} (h : vc_addUsed xl xu xd xm xs xy a1 R) : HFn Tryz.prog 166 [.ptr 0 1, nI a1] [.box (budC xl xu xd xm xs xy)] R :=
 heap_of_code (C := cfg (Func.ntmps Tryz.f166) [] [sxVc6_0, sxVc6_1, sxVc6_2, sxVc6_3, sxVc6_4, sxVc6_5, sxVc6_6, sxVc6_7, sxVc6_8, sxVc6_9, sxVc6_10] []) (cfg_tab _ _ _ _ _) (cfg_ord _ _ _ _ _) (L := []) (fn := Tryz.f166) Tryz.func166 (by exact rfl) (by kernel_rfl) (by kernel_rfl) (by rfl) (of_eq (by kernel_rfl) h)
def vc19 (xl xu xd xm xs xy : Int) (R : AV → List AObj → Prop) : Prop :=
 ∃ (S3 : AV → List AObj → Prop),
 HFn Tryz.prog 58 [.ptr 0 0] [.box (budC xl xu xd xm xs xy)] S3 ∧
 ∀ (r1 : AV) (q2 : List AObj), S3 r1 q2 →
 ∃ (i4 i5 i6 i7 i8 i9 i10 : Int),
 (r1 = nI i10 ∧ q2 = [.box (budC i4 i5 i6 i7 i8 i9)]) ∧
 R (nI i10) [.box (budC i4 i5 i6 i7 i8 i9)]
theorem vc19_ok {xl xu xd xm xs xy : Int} {R : AV → List AObj → Prop} (h : vc19 xl xu xd xm xs xy R) : HFn Tryz.prog 19 [.ptr 0 0] [.box (budC xl xu xd xm xs xy)] R :=
 heap_of_code (C := cfg (Func.ntmps Tryz.f19) [] [sxVc6_0, sxVc6_1, sxVc6_2, sxVc6_3, sxVc6_4, sxVc6_5, sxVc6_6, sxVc6_7, sxVc6_8, sxVc6_9, sxVc6_10] []) (cfg_tab _ _ _ _ _) (cfg_ord _ _ _ _ _) (L := []) (fn := Tryz.f19) Tryz.func19 (by exact rfl) (by kernel_rfl) (by kernel_rfl) (by rfl) (of_eq (by kernel_rfl) h)
def vc20 (xl xu xd xm xs xy : Int) (R : AV → List AObj → Prop) : Prop :=
 ∃ (S3 : AV → List AObj → Prop),
 HFn Tryz.prog 59 [.ptr 0 5] [.box (budC xl xu xd xm xs xy)] S3 ∧
 ∀ (r1 : AV) (q2 : List AObj), S3 r1 q2 →
 ∃ (i4 i5 i6 i7 i8 i9 : Int) (b10 : Bool),
 (r1 = nB b10 ∧ q2 = [.box (budC i4 i5 i6 i7 i8 i9)]) ∧
 R (nB b10) [.box (budC i4 i5 i6 i7 i8 i9)]
theorem vc20_ok {xl xu xd xm xs xy : Int} {R : AV → List AObj → Prop} (h : vc20 xl xu xd xm xs xy R) : HFn Tryz.prog 20 [.ptr 0 0] [.box (budC xl xu xd xm xs xy)] R :=
 heap_of_code (C := cfg (Func.ntmps Tryz.f20) [] [sxVc6_0, sxVc6_1, sxVc6_2, sxVc6_3, sxVc6_4, sxVc6_5, sxVc6_6, sxVc6_7, sxVc6_8, sxVc6_9, sxVc6_10] []) (cfg_tab _ _ _ _ _) (cfg_ord _ _ _ _ _) (L := []) (fn := Tryz.f20) Tryz.func20 (by exact rfl) (by kernel_rfl) (by kernel_rfl) (by rfl) (of_eq (by kernel_rfl) h)
def vc163 (xl xu xd xm xs xy a1 : Int) (R : AV → List AObj → Prop) : Prop :=
 ∃ (S3 : AV → List AObj → Prop),
 HFn Tryz.prog 166 [.ptr 0 0, nI (IntKind.wrap .i64 (0 - a1))] [.box (budC xl xu xd xm xs xy)] S3 ∧
 ∀ (r1 : AV) (q2 : List AObj), S3 r1 q2 →
 ∃ (i4 i5 i6 i7 i8 i9 i10 : Int),
 (r1 = nI i10 ∧ q2 = [.box (budC i4 i5 i6 i7 i8 i9)]) ∧
 ∃ (S13 : AV → List AObj → Prop),
 HFn Tryz.prog 166 [.ptr 0 1, nI a1] [.box (budC i4 i5 i6 i7 i8 i9)] S13 ∧
 ∀ (r11 : AV) (q12 : List AObj), S13 r11 q12 →
 ∃ (i14 i15 i16 i17 i18 i19 i20 : Int),
 (r11 = nI i20 ∧ q12 = [.box (budC i14 i15 i16 i17 i18 i19)]) ∧
 R (.tup []) [.box (budC i14 i15 i16 i17 i18 i19)]
theorem vc163_ok {xl xu xd xm xs xy a1 : Int} {R : AV → List AObj → Prop} (h : vc163 xl xu xd xm xs xy a1 R) : HFn Tryz.prog 163 [.ptr 0 0, nI a1] [.box (budC xl xu xd xm xs xy)] R :=
 heap_of_code (C := cfg (Func.ntmps Tryz.f163) [] [sxVc6_0, sxVc6_1, sxVc6_2, sxVc6_3, sxVc6_4, sxVc6_5, sxVc6_6, sxVc6_7, sxVc6_8, sxVc6_9, sxVc6_10] []) (cfg_tab _ _ _ _ _) (cfg_ord _ _ _ _ _) (L := []) (fn := Tryz.f163) Tryz.func163 (by exact rfl) (by kernel_rfl) (by kernel_rfl) (by rfl) (of_eq (by kernel_rfl) h)
def vc164 (xl xu xd xm xs xy : Int) (R : AV → List AObj → Prop) : Prop :=
 ∃ (S3 : AV → List AObj → Prop),
 HFn Tryz.prog 167 [.ptr 0 2, .clo 168 [.ptr 1 0]] [.box (budC xl xu xd xm xs xy), .box [.ptr 0 0]] S3 ∧
 ∀ (r1 : AV) (q2 : List AObj), S3 r1 q2 →
 ∃ (i4 i5 i6 i7 i8 i9 : Int),
 (r1 = .tup [] ∧ q2 = [.box (budC i4 i5 i6 i7 i8 i9), .box [.ptr 0 0]]) ∧
 R (.tup []) [.box (budC i4 i5 i6 i7 i8 i9)]
theorem vc164_ok {xl xu xd xm xs xy : Int} {R : AV → List AObj → Prop} (h : vc164 xl xu xd xm xs xy R) : HFn Tryz.prog 164 [.ptr 0 0] [.box (budC xl xu xd xm xs xy)] R :=
 heap_of_code (C := cfg (Func.ntmps Tryz.f164) [] [sxVc6_0, sxVc6_1, sxVc6_2, sxVc6_3, sxVc6_4, sxVc6_5, sxVc6_6, sxVc6_7, sxVc6_8, sxVc6_9, sxVc6_10] []) (cfg_tab _ _ _ _ _) (cfg_ord _ _ _ _ _) (L := []) (fn := Tryz.f164) Tryz.func164 (by exact rfl) (by kernel_rfl) (by kernel_rfl) (by rfl) (of_eq (by kernel_rfl) h)
def vc157 (xl xu xd xm xs xy a1 : Int) (R : AV → List AObj → Prop) : Prop :=
 ITE (decide (a1 < 0))
 (R (nB false) [.box (budC xl xu xd xm xs xy)])
 (∃ (S3 : AV → List AObj → Prop),
 HFn Tryz.prog 20 [.ptr 0 0] [.box (budC xl xu xd xm xs xy)] S3 ∧
 ∀ (r1 : AV) (q2 : List AObj), S3 r1 q2 →
 ∃ (i4 i5 i6 i7 i8 i9 : Int) (b10 : Bool),
 (r1 = nB b10 ∧ q2 = [.box (budC i4 i5 i6 i7 i8 i9)]) ∧
 ITE b10
 (∃ (S13 : AV → List AObj → Prop),
 HFn Tryz.prog 19 [.ptr 0 0] [.box (budC i4 i5 i6 i7 i8 i9)] S13 ∧
 ∀ (r11 : AV) (q12 : List AObj), S13 r11 q12 →
 ∃ (i14 i15 i16 i17 i18 i19 i20 : Int),
 (r11 = nI i20 ∧ q12 = [.box (budC i14 i15 i16 i17 i18 i19)]) ∧
 ∃ (S23 : AV → List AObj → Prop),
 HFn Tryz.prog 163 [.ptr 0 0, nI i20] [.box (budC i14 i15 i16 i17 i18 i19)] S23 ∧
 ∀ (r21 : AV) (q22 : List AObj), S23 r21 q22 →
 ∃ (i24 i25 i26 i27 i28 i29 : Int),
 (r21 = .tup [] ∧ q22 = [.box (budC i24 i25 i26 i27 i28 i29)]) ∧
 ∃ (S32 : AV → List AObj → Prop),
 HFn Tryz.prog 164 [.ptr 0 0] [.box (budC i24 i25 i26 i27 i28 i29)] S32 ∧
 ∀ (r30 : AV) (q31 : List AObj), S32 r30 q31 →
 ∃ (i33 i34 i35 i36 i37 i38 : Int),
 (r30 = .tup [] ∧ q31 = [.box (budC i33 i34 i35 i36 i37 i38)]) ∧
 R (nB false) [.box (budC i33 i34 i35 i36 i37 i38)])
 (∃ (S41 : AV → List AObj → Prop),
 HFn Tryz.prog 19 [.ptr 0 0] [.box (budC i4 i5 i6 i7 i8 i9)] S41 ∧
 ∀ (r39 : AV) (q40 : List AObj), S41 r39 q40 →
 ∃ (i42 i43 i44 i45 i46 i47 i48 : Int),
 (r39 = nI i48 ∧ q40 = [.box (budC i42 i43 i44 i45 i46 i47)]) ∧
 ITE (decide (a1 > i48))
 (∃ (S51 : AV → List AObj → Prop),
 HFn Tryz.prog 19 [.ptr 0 0] [.box (budC i42 i43 i44 i45 i46 i47)] S51 ∧
 ∀ (r49 : AV) (q50 : List AObj), S51 r49 q50 →
 ∃ (i52 i53 i54 i55 i56 i57 i58 : Int),
 (r49 = nI i58 ∧ q50 = [.box (budC i52 i53 i54 i55 i56 i57)]) ∧
 ∃ (S61 : AV → List AObj → Prop),
 HFn Tryz.prog 163 [.ptr 0 0, nI i58] [.box (budC i52 i53 i54 i55 i56 i57)] S61 ∧
 ∀ (r59 : AV) (q60 : List AObj), S61 r59 q60 →
 ∃ (i62 i63 i64 i65 i66 i67 : Int),
 (r59 = .tup [] ∧ q60 = [.box (budC i62 i63 i64 i65 i66 i67)]) ∧
 ∃ (S70 : AV → List AObj → Prop),
 HFn Tryz.prog 164 [.ptr 0 0] [.box (budC i62 i63 i64 i65 i66 i67)] S70 ∧
 ∀ (r68 : AV) (q69 : List AObj), S70 r68 q69 →
 ∃ (i71 i72 i73 i74 i75 i76 : Int),
 (r68 = .tup [] ∧ q69 = [.box (budC i71 i72 i73 i74 i75 i76)]) ∧
 R (nB false) [.box (budC i71 i72 i73 i74 i75 i76)])
 (∃ (S79 : AV → List AObj → Prop),
 HFn Tryz.prog 163 [.ptr 0 0, nI a1] [.box (budC i42 i43 i44 i45 i46 i47)] S79 ∧
 ∀ (r77 : AV) (q78 : List AObj), S79 r77 q78 →
 ∃ (i80 i81 i82 i83 i84 i85 : Int),
 (r77 = .tup [] ∧ q78 = [.box (budC i80 i81 i82 i83 i84 i85)]) ∧
 R (nB true) [.box (budC i80 i81 i82 i83 i84 i85)])))
theorem vc157_ok {xl xu xd xm xs xy a1 : Int} {R : AV → List AObj → Prop} (h : vc157 xl xu xd xm xs xy a1 R) : HFn Tryz.prog 157 [.ptr 0 0, nI a1] [.box (budC xl xu xd xm xs xy)] R :=
 heap_of_code (C := cfg (Func.ntmps Tryz.f157) [] [sxVc6_0, sxVc6_1, sxVc6_2, sxVc6_3, sxVc6_4, sxVc6_5, sxVc6_6, sxVc6_7, sxVc6_8, sxVc6_9, sxVc6_10] []) (cfg_tab _ _ _ _ _) (cfg_ord _ _ _ _ _) (L := []) (fn := Tryz.f157) Tryz.func157 (by exact rfl) (by kernel_rfl) (by kernel_rfl) (by rfl) (of_eq (by kernel_rfl) h)
end Go.Proofs.YtghlgbhldnkdmaaGreat
