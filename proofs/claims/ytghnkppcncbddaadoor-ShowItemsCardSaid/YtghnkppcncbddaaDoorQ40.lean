/- Texts of ours laid together for a claim: Vd3. -/
import Derived.Test.YtghnkppcncbddaaDoorQ39
namespace Go.Proofs.YtghnkppcncbddaaDoor
open Go
set_option linter.unusedSimpArgs false
set_option linter.unusedVariables false
set_option maxRecDepth 100000
abbrev sxVd3_0 : Nat × Sig := (62, .emb [(.t [], [.bld 1, .row 5 1])])
abbrev sxVd3_1 : Nat × Sig := (46, .emb [(.t [.c (.i .i64), .c (.k .top)], [.bld 1, .row 5 1])])
abbrev sxVd3_2 : Nat × Sig := (28, .emb [(.t [], [.bld 1, .row 5 1])])
abbrev sxVd3_3 : Nat × Sig := (30, .emb [(.t [], [.bld 1, .row 5 1])])
abbrev sxVd3_4 : Nat × Sig := (47, .emb [(.t [], [.bld 1, .row 5 1])])
abbrev sxVd3_5 : Nat × Sig := (40, .emb [(.t [], [.bld 1, .row 5 1])])
abbrev sxVd3_6 : Nat × Sig := (29, .emb [(.v (.c (.s)), [.dead, .dead])])
def vc16_L9 (p0 : (Int × Unit × Int × Unit) × ((Int × List AV × List AV × Int × Int × Unit) × Unit)) (R : AV → Prop) : Prop :=
 LoopP _ p0 fun z51 ag52 =>
 ITE (decide (z51.1.2.2.1 < ((List.length z51.2.1.2.2.1 : Nat) : Int)))
 (0 ≤ z51.1.2.2.1 ∧
 z51.1.2.2.1 < List.length z51.2.1.2.2.1 ∧
 ∃ (i53 : Int) (s54 : ByteArray) (i55 : Int) (l56 : List AV),
 List.getD z51.2.1.2.2.1 (Int.toNat z51.1.2.2.1) .top = .agg [nI i53, nS s54, nI i55, .sl l56] ∧
 ∃ (b57 : Bool),
 PureIs Tryd.prog 5 [.agg [nI i53, nS s54, nI i55, .sl l56], nI z51.1.1, nI 70] (nB b57) ∧
 ITE (!b57)
 (R (nB false))
 (0 ≤ z51.1.2.2.1 ∧
 z51.1.2.2.1 < List.length z51.2.1.2.2.1 ∧
 ∃ (i58 : Int) (s59 : ByteArray) (i60 : Int) (l61 : List AV),
 List.getD z51.2.1.2.2.1 (Int.toNat z51.1.2.2.1) .top = .agg [nI i58, nS s59, nI i60, .sl l61] ∧
 ∃ (b62 : Bool),
 PureIs Tryd.prog 34 [.agg [nI i58, nS s59, nI i60, .sl l61]] (nB b62) ∧
 ITE (!b62)
 (R (nB false))
 (ag52 ((z51.1.1, (), IntKind.wrap .i64 (z51.1.2.2.1 + 1), ()), ((z51.2.1.1, z51.2.1.2.1, z51.2.1.2.2.1, z51.2.1.2.2.2.1, z51.2.1.2.2.2.2.1, ()), ())))))
 (R (nB true))
def vc16_L4 (p0 : (Int × Unit × Int × Unit) × ((Int × List AV × List AV × Int × Int × Unit) × Unit)) (R : AV → Prop) : Prop :=
 LoopP _ p0 fun z51 ag52 =>
 ITE (decide (z51.1.2.2.1 < ((List.length z51.2.1.2.1 : Nat) : Int)))
 (0 ≤ z51.1.2.2.1 ∧
 z51.1.2.2.1 < List.length z51.2.1.2.1 ∧
 ∃ (s53 : ByteArray),
 List.getD z51.2.1.2.1 (Int.toNat z51.1.2.2.1) .top = nS s53 ∧
 ITE (decide (((ByteArray.size s53 : Nat) : Int) > 40))
 (R (nB false))
 (ag52 ((z51.1.1, (), IntKind.wrap .i64 (z51.1.2.2.1 + 1), ()), ((z51.2.1.1, z51.2.1.2.1, z51.2.1.2.2.1, z51.2.1.2.2.2.1, z51.2.1.2.2.2.2.1, ()), ()))))
 (vc16_L9 ((z51.1.1, (), 0, ()), ((z51.2.1.1, z51.2.1.2.1, z51.2.1.2.2.1, z51.2.1.2.2.2.1, z51.2.1.2.2.2.2.1, ()), ())) R)
def vc16 (a0_0 : Int) (a0_1 a0_2 : List AV) (a0_3 a0_4 a1 : Int) (R : AV → Prop) : Prop :=
 ITE (decide (((List.length a0_1 : Nat) : Int) > 10))
 (R (nB false))
 (ITE (decide (((List.length a0_2 : Nat) : Int) > 3))
 (R (nB false))
 (vc16_L4 ((a1, (), 0, ()), ((a0_0, a0_1, a0_2, a0_3, a0_4, ()), ())) R))
theorem vc16_ok {a0_0 : Int} {a0_1 a0_2 : List AV} {a0_3 a0_4 a1 : Int} {R : AV → Prop} (h : vc16 a0_0 a0_1 a0_2 a0_3 a0_4 a1 R) : Pure Tryd.prog 16 [.agg [nI a0_0, .sl a0_1, .sl a0_2, nI a0_3, nI a0_4], nI a1] R :=
 pure_of_code (C := cfg (Func.ntmps Tryd.f16)) (cfg_tab _ _ _ _ _) (cfg_ord _ _ _ _ _) (L := [{ key := 4, live := [(1, none), (2, none), (5, none)] }, { key := 9, live := [(1, none), (2, none), (6, none)] }]) (fn := Tryd.f16) Tryd.func16 (by exact rfl) (by kernel_rfl) (by kernel_rfl) (by rfl) (of_eq (by kernel_rfl) h)
def vc34_L4 (p0 : (Unit × Int × Unit) × ((Int × ByteArray × Int × List AV × Unit) × Unit)) (R : AV → Prop) : Prop :=
 LoopP _ p0 fun z51 ag52 =>
 ITE (decide (z51.1.2.1 < ((List.length z51.2.1.2.2.2.1 : Nat) : Int)))
 (0 ≤ z51.1.2.1 ∧
 z51.1.2.1 < List.length z51.2.1.2.2.2.1 ∧
 ∃ (i53 : Int) (s54 : ByteArray) (i55 : Int) (l56 : List AV),
 List.getD z51.2.1.2.2.2.1 (Int.toNat z51.1.2.1) .top = .agg [nI i53, nS s54, nI i55, .sl l56] ∧
 ∃ (b57 : Bool),
 PureIs Tryd.prog 34 [.agg [nI i53, nS s54, nI i55, .sl l56]] (nB b57) ∧
 ITE (!b57)
 (R (nB false))
 (ag52 (((), IntKind.wrap .i64 (z51.1.2.1 + 1), ()), ((z51.2.1.1, z51.2.1.2.1, z51.2.1.2.2.1, z51.2.1.2.2.2.1, ()), ()))))
 (R (nB true))
def vc34 (a0_0 : Int) (a0_1 : ByteArray) (a0_2 : Int) (a0_3 : List AV) (R : AV → Prop) : Prop :=
 ITE (decide (((ByteArray.size a0_1 : Nat) : Int) > 40))
 (R (nB false))
 (vc34_L4 (((), 0, ()), ((a0_0, a0_1, a0_2, a0_3, ()), ())) R)
theorem vc34_ok {a0_0 : Int} {a0_1 : ByteArray} {a0_2 : Int} {a0_3 : List AV} {R : AV → Prop} (h : vc34 a0_0 a0_1 a0_2 a0_3 R) : Pure Tryd.prog 34 [.agg [nI a0_0, nS a0_1, nI a0_2, .sl a0_3]] R :=
 pure_of_code (C := cfg (Func.ntmps Tryd.f34)) (cfg_tab _ _ _ _ _) (cfg_ord _ _ _ _ _) (L := [{ key := 4, live := [(1, none), (3, none)] }]) (fn := Tryd.f34) Tryd.func34 (by exact rfl) (by kernel_rfl) (by kernel_rfl) (by rfl) (of_eq (by kernel_rfl) h)
def vc17_L3 (p0 : (Unit × Unit × Unit × Int × Unit) × ((Int × List AV × List AV × Int × Int × Unit) × (Int × Unit × Unit × Int × Int × Unit) × (Int × List AV × Unit × Int × Int × Unit) × List AV × Unit)) (R : AV → Prop) : Prop :=
 LoopP _ p0 fun z51 ag52 =>
 ITE (decide (z51.1.2.2.2.1 < ((List.length z51.2.1.2.2.1 : Nat) : Int)))
 (0 ≤ z51.1.2.2.2.1 ∧
 z51.1.2.2.2.1 < List.length z51.2.1.2.2.1 ∧
 ∃ (i53 : Int) (s54 : ByteArray) (i55 : Int) (l56 : List AV),
 List.getD z51.2.1.2.2.1 (Int.toNat z51.1.2.2.2.1) .top = .agg [nI i53, nS s54, nI i55, .sl l56] ∧
 ∃ (i57 : Int) (s58 : ByteArray) (i59 : Int) (l60 : List AV),
 PureIs Tryd.prog 7 [.agg [nI i53, nS s54, nI i55, .sl l56]] (.agg [nI i57, nS s58, nI i59, .sl l60]) ∧
 List.length z51.2.2.2.2.1 = List.length z51.2.2.2.2.1 ∧
 appOk td29 (List.length (z51.2.2.2.2.1 ++ [.agg [nI i57, nS s58, nI i59, .sl l60]])) [] [.agg [nI i57, nS s58, nI i59, .sl l60]] ∧
 List.length (z51.2.2.2.2.1 ++ [.agg [nI i57, nS s58, nI i59, .sl l60]]) = List.length (z51.2.2.2.2.1 ++ [.agg [nI i57, nS s58, nI i59, .sl l60]]) ∧
 ag52 (((), (), (), IntKind.wrap .i64 (z51.1.2.2.2.1 + 1), ()), ((z51.2.1.1, z51.2.1.2.1, z51.2.1.2.2.1, z51.2.1.2.2.2.1, z51.2.1.2.2.2.2.1, ()), (z51.2.2.1.1, (), (), z51.2.2.1.2.2.2.1, z51.2.2.1.2.2.2.2.1, ()), (z51.2.2.2.1.1, z51.2.2.2.1.2.1, (), z51.2.2.2.1.2.2.2.1, z51.2.2.2.1.2.2.2.2.1, ()), z51.2.2.2.2.1 ++ [.agg [nI i57, nS s58, nI i59, .sl l60]], ())))
 (List.length z51.2.2.2.2.1 = List.length z51.2.2.2.2.1 ∧
 R (.agg [nI z51.2.2.2.1.1, .sl z51.2.2.2.1.2.1, .sl z51.2.2.2.2.1, nI z51.2.2.2.1.2.2.2.1, nI z51.2.2.2.1.2.2.2.2.1]))
def vc17 (a0_0 : Int) (a0_1 a0_2 : List AV) (a0_3 a0_4 : Int) (R : AV → Prop) : Prop :=
 0 = List.length ([] : List AV) ∧
 vc17_L3 (((), (), (), 0, ()), ((a0_0, a0_1, a0_2, a0_3, a0_4, ()), (0, (), (), 0, 0, ()), (a0_0, a0_1, (), a0_3, a0_4, ()), [], ())) R
theorem vc17_ok {a0_0 : Int} {a0_1 a0_2 : List AV} {a0_3 a0_4 : Int} {R : AV → Prop} (h : vc17 a0_0 a0_1 a0_2 a0_3 a0_4 R) : Pure Tryd.prog 17 [.agg [nI a0_0, .sl a0_1, .sl a0_2, nI a0_3, nI a0_4]] R :=
 pure_of_code (C := cfg (Func.ntmps Tryd.f17)) (cfg_tab _ _ _ _ _) (cfg_ord _ _ _ _ _) (L := [{ key := 3, live := [(1, none), (2, none), (3, none), (4, none)], brows := [(2, 2, 29)] }]) (fn := Tryd.f17) Tryd.func17 (by exact rfl) (by kernel_rfl) (by kernel_rfl) (by rfl) (of_eq (by kernel_rfl) h)
def vc35 (a0 : Int) (R : AV → Prop) : Prop :=
 ITE (a0 == 1)
 (R (.tup [.agg [nS (⟨#[115, 111, 114, 116]⟩ : ByteArray), nI 1, nI 1073741824, nI 0, nB false, nB false], nB true]))
 (ITE (a0 == 2)
 (R (.tup [.agg [nS (⟨#[99, 111, 110, 115, 116]⟩ : ByteArray), nI 1, nI 1, nI 1, nB true, nB false], nB true]))
 (ITE (a0 == 3)
 (R (.tup [.agg [nS (⟨#[118, 97, 114]⟩ : ByteArray), nI 1, nI 1, nI 1, nB true, nB false], nB true]))
 (ITE (a0 == 4)
 (R (.tup [.agg [nS (⟨#[101, 113]⟩ : ByteArray), nI 1, nI 1, nI 2, nB false, nB false], nB true]))
 (ITE (a0 == 5)
 (R (.tup [.agg [nS (⟨#[114, 117, 108, 101]⟩ : ByteArray), nI 1, nI 1, nI 2, nB false, nB false], nB true]))
 (ITE (a0 == 6)
 (R (.tup [.agg [nS (⟨#[112, 114, 101, 99]⟩ : ByteArray), nI 2, nI 1073741824, nI 0, nB false, nB false], nB true]))
 (ITE (a0 == 7)
 (R (.tup [.agg [nS (⟨#[115, 116, 97, 116, 117, 115]⟩ : ByteArray), nI 2, nI 2, nI 0, nB false, nB false], nB true]))
 (ITE (a0 == 8)
 (R (.tup [.agg [nS (⟨#[99, 111, 109, 112, 108, 101, 116, 101]⟩ : ByteArray), nI 0, nI 0, nI 0, nB false, nB true], nB true]))
 (ITE (a0 == 9)
 (R (.tup [.agg [nS (⟨#[110, 111, 114, 109, 97, 108]⟩ : ByteArray), nI 0, nI 0, nI 1, nB false, nB true], nB true]))
 (ITE (a0 == 10)
 (R (.tup [.agg [nS (⟨#[100, 101, 99, 105, 100, 101]⟩ : ByteArray), nI 0, nI 0, nI 2, nB false, nB true], nB true]))
 (ITE (a0 == 11)
 (R (.tup [.agg [nS (⟨#[99, 111, 110, 102, 108, 117, 101, 110, 116]⟩ : ByteArray), nI 0, nI 0, nI 0, nB false, nB true], nB true]))
 (ITE (a0 == 12)
 (R (.tup [.agg [nS (⟨#[99, 101, 114, 116, 105, 102, 121]⟩ : ByteArray), nI 1, nI 1, nI 0, nB false, nB false], nB true]))
 (R (.tup [.agg [nS ⟨#[]⟩, nI 0, nI 0, nI 0, nB false, nB false], nB false])))))))))))))
theorem vc35_ok {a0 : Int} {R : AV → Prop} (h : vc35 a0 R) : Pure Tryd.prog 35 [nI a0] R :=
 pure_of_code (C := cfg (Func.ntmps Tryd.f35)) (cfg_tab _ _ _ _ _) (cfg_ord _ _ _ _ _) (L := []) (fn := Tryd.f35) Tryd.func35 (by exact rfl) (by kernel_rfl) (by kernel_rfl) (by rfl) (of_eq (by kernel_rfl) h)
def vc18 (a0_0 : Int) (a0_1 a0_2 : List AV) (a0_3 a0_4 : Int) (R : AV → Prop) : Prop :=
 ∃ (s1 : ByteArray) (i2 i3 i4 : Int) (b5 b6 b7 : Bool),
 PureIs Tryd.prog 35 [nI a0_0] (.tup [.agg [nS s1, nI i2, nI i3, nI i4, nB b5, nB b6], nB b7]) ∧
 ITE (!b7)
 (R (nB false))
 (ITE (decide (((List.length a0_1 : Nat) : Int) < i2))
 (R (nB false))
 (ITE (decide (((List.length a0_1 : Nat) : Int) > i3))
 (R (nB false))
 (ITE (((List.length a0_2 : Nat) : Int) != i4)
 (R (nB false))
 (ITE b6
 (ITE (decide (a0_3 < 0))
 (R (nB false))
 (ITE (decide (a0_3 > 999999999))
 (R (nB false))
 (ITE (!b6)
 (ITE (a0_3 != 0)
 (R (nB false))
 (ITE b5
 (∃ (b8 : Bool),
 PureIs Tryd.prog 36 [.sl a0_1, .clo 37 []] (nB b8) ∧
 ITE (!b8)
 (∃ (b9 : Bool),
 PureIs Tryd.prog 38 [.sl a0_2, .clo 39 [.eptr (.clo 14 []) 0]] (nB b9) ∧
 R (nB (!b9)))
 (R (nB false)))
 (∃ (b10 : Bool),
 PureIs Tryd.prog 36 [.sl a0_1, .clo 37 []] (nB b10) ∧
 ITE (!b10)
 (∃ (b11 : Bool),
 PureIs Tryd.prog 38 [.sl a0_2, .clo 39 [.eptr (.clo 15 []) 0]] (nB b11) ∧
 R (nB (!b11)))
 (R (nB false)))))
 (ITE b5
 (∃ (b12 : Bool),
 PureIs Tryd.prog 36 [.sl a0_1, .clo 37 []] (nB b12) ∧
 ITE (!b12)
 (∃ (b13 : Bool),
 PureIs Tryd.prog 38 [.sl a0_2, .clo 39 [.eptr (.clo 14 []) 0]] (nB b13) ∧
 R (nB (!b13)))
 (R (nB false)))
 (∃ (b14 : Bool),
 PureIs Tryd.prog 36 [.sl a0_1, .clo 37 []] (nB b14) ∧
 ITE (!b14)
 (∃ (b15 : Bool),
 PureIs Tryd.prog 38 [.sl a0_2, .clo 39 [.eptr (.clo 15 []) 0]] (nB b15) ∧
 R (nB (!b15)))
 (R (nB false)))))))
 (ITE (!b6)
 (ITE (a0_3 != 0)
 (R (nB false))
 (ITE b5
 (∃ (b16 : Bool),
 PureIs Tryd.prog 36 [.sl a0_1, .clo 37 []] (nB b16) ∧
 ITE (!b16)
 (∃ (b17 : Bool),
 PureIs Tryd.prog 38 [.sl a0_2, .clo 39 [.eptr (.clo 14 []) 0]] (nB b17) ∧
 R (nB (!b17)))
 (R (nB false)))
 (∃ (b18 : Bool),
 PureIs Tryd.prog 36 [.sl a0_1, .clo 37 []] (nB b18) ∧
 ITE (!b18)
 (∃ (b19 : Bool),
 PureIs Tryd.prog 38 [.sl a0_2, .clo 39 [.eptr (.clo 15 []) 0]] (nB b19) ∧
 R (nB (!b19)))
 (R (nB false)))))
 (ITE b5
 (∃ (b20 : Bool),
 PureIs Tryd.prog 36 [.sl a0_1, .clo 37 []] (nB b20) ∧
 ITE (!b20)
 (∃ (b21 : Bool),
 PureIs Tryd.prog 38 [.sl a0_2, .clo 39 [.eptr (.clo 14 []) 0]] (nB b21) ∧
 R (nB (!b21)))
 (R (nB false)))
 (∃ (b22 : Bool),
 PureIs Tryd.prog 36 [.sl a0_1, .clo 37 []] (nB b22) ∧
 ITE (!b22)
 (∃ (b23 : Bool),
 PureIs Tryd.prog 38 [.sl a0_2, .clo 39 [.eptr (.clo 15 []) 0]] (nB b23) ∧
 R (nB (!b23)))
 (R (nB false)))))))))
theorem vc18_ok {a0_0 : Int} {a0_1 a0_2 : List AV} {a0_3 a0_4 : Int} {R : AV → Prop} (h : vc18 a0_0 a0_1 a0_2 a0_3 a0_4 R) : Pure Tryd.prog 18 [.agg [nI a0_0, .sl a0_1, .sl a0_2, nI a0_3, nI a0_4]] R :=
 pure_of_code (C := cfg (Func.ntmps Tryd.f18) [] [(38, .frz (.v (.c (.b))))] []) (cfg_tab _ _ _ _ _) (cfg_ord _ _ _ _ _) (L := []) (fn := Tryd.f18) Tryd.func18 (by exact rfl) (by kernel_rfl) (by kernel_rfl) (by rfl) (of_eq (by kernel_rfl) h)
def vc37 (a0 : ByteArray) (R : AV → Prop) : Prop :=
 ∃ (b1 : Bool),
 PureIs Tryd.prog 33 [nS a0] (nB b1) ∧
 R (nB (!b1))
theorem vc37_ok {a0 : ByteArray} {R : AV → Prop} (h : vc37 a0 R) : Pure Tryd.prog 37 [nS a0] R :=
 pure_of_code (C := cfg (Func.ntmps Tryd.f37)) (cfg_tab _ _ _ _ _) (cfg_ord _ _ _ _ _) (L := []) (fn := Tryd.f37) Tryd.func37 (by exact rfl) (by kernel_rfl) (by kernel_rfl) (by rfl) (of_eq (by kernel_rfl) h)
def vc_ri2T (a0_0 : Int) (a0_1 : ByteArray) (a0_2 : Int) (a0_3 : List AV) (R : AV → Prop) : Prop :=
 ∃ (b1 : Bool),
 PureIs Tryd.prog 14 [.agg [nI a0_0, nS a0_1, nI a0_2, .sl a0_3]] (nB b1) ∧
 R (nB (!b1))
theorem vc_ri2T_ok {a0_0 : Int} {a0_1 : ByteArray} {a0_2 : Int} {a0_3 : List AV} {R : AV → Prop} (h : vc_ri2T a0_0 a0_1 a0_2 a0_3 R) : Pure Tryd.prog 39 [.agg [nI a0_0, nS a0_1, nI a0_2, .sl a0_3], .eptr (.clo 14 []) 0] R :=
 pure_of_code (C := cfg (Func.ntmps Tryd.f39)) (cfg_tab _ _ _ _ _) (cfg_ord _ _ _ _ _) (L := []) (fn := Tryd.f39) Tryd.func39 (by exact rfl) (by kernel_rfl) (by kernel_rfl) (by rfl) (of_eq (by kernel_rfl) h)
def vc_ri2M (a0_0 : Int) (a0_1 : ByteArray) (a0_2 : Int) (a0_3 : List AV) (R : AV → Prop) : Prop :=
 ∃ (b1 : Bool),
 PureIs Tryd.prog 15 [.agg [nI a0_0, nS a0_1, nI a0_2, .sl a0_3]] (nB b1) ∧
 R (nB (!b1))
theorem vc_ri2M_ok {a0_0 : Int} {a0_1 : ByteArray} {a0_2 : Int} {a0_3 : List AV} {R : AV → Prop} (h : vc_ri2M a0_0 a0_1 a0_2 a0_3 R) : Pure Tryd.prog 39 [.agg [nI a0_0, nS a0_1, nI a0_2, .sl a0_3], .eptr (.clo 15 []) 0] R :=
 pure_of_code (C := cfg (Func.ntmps Tryd.f39)) (cfg_tab _ _ _ _ _) (cfg_ord _ _ _ _ _) (L := []) (fn := Tryd.f39) Tryd.func39 (by exact rfl) (by kernel_rfl) (by kernel_rfl) (by rfl) (of_eq (by kernel_rfl) h)
def vc52_L2 (p0 : (List AV × Unit × Int × Int × Unit) × (Unit)) (R : AV → Prop) : Prop :=
 LoopP _ p0 fun z51 ag52 =>
 ITE (decide (z51.1.2.2.2.1 < z51.1.2.2.1))
 (0 ≤ z51.1.2.2.2.1 ∧
 z51.1.2.2.2.1 < List.length z51.1.1 ∧
 ∃ (s53 : ByteArray),
 List.getD z51.1.1 (Int.toNat z51.1.2.2.2.1) .top = nS s53 ∧
 ∃ (b54 : Bool),
 PureIs Tryd.prog 37 [nS s53] (nB b54) ∧
 ITE b54
 (R (nI z51.1.2.2.2.1))
 (ag52 ((z51.1.1, (), z51.1.2.2.1, IntKind.wrap .i64 (z51.1.2.2.2.1 + 1), ()), ())))
 (R (nI (-1)))
def vc52 (a0 : List AV) (R : AV → Prop) : Prop :=
 vc52_L2 ((a0, (), ((List.length a0 : Nat) : Int), 0, ()), ()) R
theorem vc52_ok {a0 : List AV} {R : AV → Prop} (h : vc52 a0 R) : Pure Tryd.prog 52 [.sl a0, .clo 37 []] R :=
 pure_of_code (C := cfg (Func.ntmps Tryd.f52)) (cfg_tab _ _ _ _ _) (cfg_ord _ _ _ _ _) (L := [{ key := 2, live := [(0, none), (1, none), (7, none), (8, none)] }]) (fn := Tryd.f52) Tryd.func52 (by exact rfl) (by kernel_rfl) (by kernel_rfl) (by rfl) (of_eq (by kernel_rfl) h)
def vc36 (a0 : List AV) (R : AV → Prop) : Prop :=
 ∃ (i1 : Int),
 PureIs Tryd.prog 52 [.sl a0, .clo 37 []] (nI i1) ∧
 R (nB (decide (i1 ≥ 0)))
theorem vc36_ok {a0 : List AV} {R : AV → Prop} (h : vc36 a0 R) : Pure Tryd.prog 36 [.sl a0, .clo 37 []] R :=
 pure_of_code (C := cfg (Func.ntmps Tryd.f36)) (cfg_tab _ _ _ _ _) (cfg_ord _ _ _ _ _) (L := []) (fn := Tryd.f36) Tryd.func36 (by exact rfl) (by kernel_rfl) (by kernel_rfl) (by rfl) (of_eq (by kernel_rfl) h)
def vc_idxNT_L2 (p0 : (List AV × (Unit × Unit) × Int × Int × Unit) × (Unit)) (R : AV → Prop) : Prop :=
 LoopP _ p0 fun z51 ag52 =>
 ITE (decide (z51.1.2.2.2.1 < z51.1.2.2.1))
 (0 ≤ z51.1.2.2.2.1 ∧
 z51.1.2.2.2.1 < List.length z51.1.1 ∧
 ∃ (i53 : Int) (s54 : ByteArray) (i55 : Int) (l56 : List AV),
 List.getD z51.1.1 (Int.toNat z51.1.2.2.2.1) .top = .agg [nI i53, nS s54, nI i55, .sl l56] ∧
 ∃ (b57 : Bool),
 PureIs Tryd.prog 39 [.agg [nI i53, nS s54, nI i55, .sl l56], .eptr (.clo 14 []) 0] (nB b57) ∧
 ITE b57
 (R (nI z51.1.2.2.2.1))
 ((.eptr (.clo 14 []) 0 : AV) = .eptr (.clo 14 []) 0 ∧
 ag52 ((z51.1.1, ((), ()), z51.1.2.2.1, IntKind.wrap .i64 (z51.1.2.2.2.1 + 1), ()), ())))
 (R (nI (-1)))
def vc_idxNT (a0 : List AV) (R : AV → Prop) : Prop :=
 (.eptr (.clo 14 []) 0 : AV) = .eptr (.clo 14 []) 0 ∧
 vc_idxNT_L2 ((a0, ((), ()), ((List.length a0 : Nat) : Int), 0, ()), ()) R
theorem vc_idxNT_ok {a0 : List AV} {R : AV → Prop} (h : vc_idxNT a0 R) : Pure Tryd.prog 53 [.sl a0, .clo 39 [.eptr (.clo 14 []) 0]] R :=
 pure_of_code (C := cfg (Func.ntmps Tryd.f53)) (cfg_tab _ _ _ _ _) (cfg_ord _ _ _ _ _) (L := [{ key := 2, live := [(0, none), (1, some (.f 39 [.c (.q (.eptr (.clo 14 []) 0))])), (7, none), (8, none)] }]) (fn := Tryd.f53) Tryd.func53 (by exact rfl) (by kernel_rfl) (by kernel_rfl) (by rfl) (of_eq (by kernel_rfl) h)
def vc_idxNM_L2 (p0 : (List AV × (Unit × Unit) × Int × Int × Unit) × (Unit)) (R : AV → Prop) : Prop :=
 LoopP _ p0 fun z51 ag52 =>
 ITE (decide (z51.1.2.2.2.1 < z51.1.2.2.1))
 (0 ≤ z51.1.2.2.2.1 ∧
 z51.1.2.2.2.1 < List.length z51.1.1 ∧
 ∃ (i53 : Int) (s54 : ByteArray) (i55 : Int) (l56 : List AV),
 List.getD z51.1.1 (Int.toNat z51.1.2.2.2.1) .top = .agg [nI i53, nS s54, nI i55, .sl l56] ∧
 ∃ (b57 : Bool),
 PureIs Tryd.prog 39 [.agg [nI i53, nS s54, nI i55, .sl l56], .eptr (.clo 15 []) 0] (nB b57) ∧
 ITE b57
 (R (nI z51.1.2.2.2.1))
 ((.eptr (.clo 15 []) 0 : AV) = .eptr (.clo 15 []) 0 ∧
 ag52 ((z51.1.1, ((), ()), z51.1.2.2.1, IntKind.wrap .i64 (z51.1.2.2.2.1 + 1), ()), ())))
 (R (nI (-1)))
def vc_idxNM (a0 : List AV) (R : AV → Prop) : Prop :=
 (.eptr (.clo 15 []) 0 : AV) = .eptr (.clo 15 []) 0 ∧
 vc_idxNM_L2 ((a0, ((), ()), ((List.length a0 : Nat) : Int), 0, ()), ()) R
theorem vc_idxNM_ok {a0 : List AV} {R : AV → Prop} (h : vc_idxNM a0 R) : Pure Tryd.prog 53 [.sl a0, .clo 39 [.eptr (.clo 15 []) 0]] R :=
 pure_of_code (C := cfg (Func.ntmps Tryd.f53)) (cfg_tab _ _ _ _ _) (cfg_ord _ _ _ _ _) (L := [{ key := 2, live := [(0, none), (1, some (.f 39 [.c (.q (.eptr (.clo 15 []) 0))])), (7, none), (8, none)] }]) (fn := Tryd.f53) Tryd.func53 (by exact rfl) (by kernel_rfl) (by kernel_rfl) (by rfl) (of_eq (by kernel_rfl) h)
def vc_conNT (a0 : List AV) (R : AV → Prop) : Prop :=
 ∃ (i1 : Int),
 PureIs Tryd.prog 53 [.sl a0, .clo 39 [.eptr (.clo 14 []) 0]] (nI i1) ∧
 R (nB (decide (i1 ≥ 0)))
theorem vc_conNT_ok {a0 : List AV} {R : AV → Prop} (h : vc_conNT a0 R) : Pure Tryd.prog 38 [.sl a0, .clo 39 [.eptr (.clo 14 []) 0]] R :=
 pure_of_code (C := cfg (Func.ntmps Tryd.f38)) (cfg_tab _ _ _ _ _) (cfg_ord _ _ _ _ _) (L := []) (fn := Tryd.f38) Tryd.func38 (by exact rfl) (by kernel_rfl) (by kernel_rfl) (by rfl) (of_eq (by kernel_rfl) h)
def vc_conNM (a0 : List AV) (R : AV → Prop) : Prop :=
 ∃ (i1 : Int),
 PureIs Tryd.prog 53 [.sl a0, .clo 39 [.eptr (.clo 15 []) 0]] (nI i1) ∧
 R (nB (decide (i1 ≥ 0)))
theorem vc_conNM_ok {a0 : List AV} {R : AV → Prop} (h : vc_conNM a0 R) : Pure Tryd.prog 38 [.sl a0, .clo 39 [.eptr (.clo 15 []) 0]] R :=
 pure_of_code (C := cfg (Func.ntmps Tryd.f38)) (cfg_tab _ _ _ _ _) (cfg_ord _ _ _ _ _) (L := []) (fn := Tryd.f38) Tryd.func38 (by exact rfl) (by kernel_rfl) (by kernel_rfl) (by rfl) (of_eq (by kernel_rfl) h)
def vc19_L7 (p0 : (Unit × Int × Unit) × ((Int × List AV × List AV × Int × Int × Unit) × Unit)) (R : AV → Prop) : Prop :=
 LoopP _ p0 fun z51 ag52 =>
 ITE (decide (z51.1.2.1 < ((List.length z51.2.1.2.2.1 : Nat) : Int)))
 (ITE (z51.2.1.1 == 2)
 (0 ≤ z51.1.2.1 ∧
 z51.1.2.1 < List.length z51.2.1.2.2.1 ∧
 ∃ (i53 : Int) (s54 : ByteArray) (i55 : Int) (l56 : List AV),
 List.getD z51.2.1.2.2.1 (Int.toNat z51.1.2.1) .top = .agg [nI i53, nS s54, nI i55, .sl l56] ∧
 ∃ (b57 : Bool),
 PureIs Tryd.prog 10 [.agg [nI i53, nS s54, nI i55, .sl l56]] (nB b57) ∧
 ITE (!b57)
 (R (nB false))
 (ag52 (((), IntKind.wrap .i64 (z51.1.2.1 + 1), ()), ((z51.2.1.1, z51.2.1.2.1, z51.2.1.2.2.1, z51.2.1.2.2.2.1, z51.2.1.2.2.2.2.1, ()), ()))))
 (ITE (z51.2.1.1 == 3)
 (0 ≤ z51.1.2.1 ∧
 z51.1.2.1 < List.length z51.2.1.2.2.1 ∧
 ∃ (i58 : Int) (s59 : ByteArray) (i60 : Int) (l61 : List AV),
 List.getD z51.2.1.2.2.1 (Int.toNat z51.1.2.1) .top = .agg [nI i58, nS s59, nI i60, .sl l61] ∧
 ∃ (b62 : Bool),
 PureIs Tryd.prog 10 [.agg [nI i58, nS s59, nI i60, .sl l61]] (nB b62) ∧
 ITE (!b62)
 (R (nB false))
 (ag52 (((), IntKind.wrap .i64 (z51.1.2.1 + 1), ()), ((z51.2.1.1, z51.2.1.2.1, z51.2.1.2.2.1, z51.2.1.2.2.2.1, z51.2.1.2.2.2.2.1, ()), ()))))
 (0 ≤ z51.1.2.1 ∧
 z51.1.2.1 < List.length z51.2.1.2.2.1 ∧
 ∃ (i63 : Int) (s64 : ByteArray) (i65 : Int) (l66 : List AV),
 List.getD z51.2.1.2.2.1 (Int.toNat z51.1.2.1) .top = .agg [nI i63, nS s64, nI i65, .sl l66] ∧
 ∃ (b67 : Bool),
 PureIs Tryd.prog 11 [.agg [nI i63, nS s64, nI i65, .sl l66]] (nB b67) ∧
 ITE (!b67)
 (R (nB false))
 (ag52 (((), IntKind.wrap .i64 (z51.1.2.1 + 1), ()), ((z51.2.1.1, z51.2.1.2.1, z51.2.1.2.2.1, z51.2.1.2.2.2.1, z51.2.1.2.2.2.2.1, ()), ()))))))
 (ITE (decide (z51.2.1.2.2.2.1 ≥ 0))
 (ITE (z51.2.1.1 == 1)
 (ITE (decide (((List.length z51.2.1.2.1 : Nat) : Int) ≥ 1))
 (ITE (((List.length z51.2.1.2.2.1 : Nat) : Int) == 0)
 (R (nB (z51.2.1.2.2.2.1 == 0)))
 (R (nB false)))
 (R (nB false)))
 (ITE (z51.2.1.1 == 2)
 (ITE (z51.2.1.1 == 2)
 (ITE (((List.length z51.2.1.2.1 : Nat) : Int) == 1)
 (ITE (((List.length z51.2.1.2.2.1 : Nat) : Int) == 1)
 (R (nB (z51.2.1.2.2.2.1 == 0)))
 (R (nB false)))
 (R (nB false)))
 (ITE (z51.2.1.1 == 4)
 (ITE (z51.2.1.1 == 4)
 (ITE (((List.length z51.2.1.2.1 : Nat) : Int) == 1)
 (ITE (((List.length z51.2.1.2.2.1 : Nat) : Int) == 2)
 (R (nB (z51.2.1.2.2.2.1 == 0)))
 (R (nB false)))
 (R (nB false)))
 (ITE (z51.2.1.1 == 6)
 (ITE (decide (((List.length z51.2.1.2.1 : Nat) : Int) ≥ 2))
 (ITE (((List.length z51.2.1.2.2.1 : Nat) : Int) == 0)
 (R (nB (z51.2.1.2.2.2.1 == 0)))
 (R (nB false)))
 (R (nB false)))
 (ITE (z51.2.1.1 == 7)
 (ITE (((List.length z51.2.1.2.1 : Nat) : Int) == 2)
 (ITE (((List.length z51.2.1.2.2.1 : Nat) : Int) == 0)
 (R (nB (z51.2.1.2.2.2.1 == 0)))
 (R (nB false)))
 (R (nB false)))
 (ITE (z51.2.1.1 == 8)
 (ITE (z51.2.1.1 == 8)
 (ITE (((List.length z51.2.1.2.1 : Nat) : Int) == 0)
 (ITE (((List.length z51.2.1.2.2.1 : Nat) : Int) == 0)
 (R (nB (decide (z51.2.1.2.2.2.1 ≤ 999999999))))
 (R (nB false)))
 (R (nB false)))
 (ITE (z51.2.1.1 == 9)
 (ITE (((List.length z51.2.1.2.1 : Nat) : Int) == 0)
 (ITE (((List.length z51.2.1.2.2.1 : Nat) : Int) == 1)
 (R (nB (decide (z51.2.1.2.2.2.1 ≤ 999999999))))
 (R (nB false)))
 (R (nB false)))
 (ITE (z51.2.1.1 == 10)
 (ITE (((List.length z51.2.1.2.1 : Nat) : Int) == 0)
 (ITE (((List.length z51.2.1.2.2.1 : Nat) : Int) == 2)
 (R (nB (decide (z51.2.1.2.2.2.1 ≤ 999999999))))
 (R (nB false)))
 (R (nB false)))
 (ITE (z51.2.1.1 == 12)
 (ITE (((List.length z51.2.1.2.1 : Nat) : Int) == 1)
 (ITE (((List.length z51.2.1.2.2.1 : Nat) : Int) == 0)
 (R (nB (z51.2.1.2.2.2.1 == 0)))
 (R (nB false)))
 (R (nB false)))
 (R (nB false))))))
 (ITE (z51.2.1.1 == 11)
 (ITE (((List.length z51.2.1.2.1 : Nat) : Int) == 0)
 (ITE (((List.length z51.2.1.2.2.1 : Nat) : Int) == 0)
 (R (nB (decide (z51.2.1.2.2.2.1 ≤ 999999999))))
 (R (nB false)))
 (R (nB false)))
 (ITE (z51.2.1.1 == 9)
 (ITE (((List.length z51.2.1.2.1 : Nat) : Int) == 0)
 (ITE (((List.length z51.2.1.2.2.1 : Nat) : Int) == 1)
 (R (nB (decide (z51.2.1.2.2.2.1 ≤ 999999999))))
 (R (nB false)))
 (R (nB false)))
 (ITE (z51.2.1.1 == 10)
 (ITE (((List.length z51.2.1.2.1 : Nat) : Int) == 0)
 (ITE (((List.length z51.2.1.2.2.1 : Nat) : Int) == 2)
 (R (nB (decide (z51.2.1.2.2.2.1 ≤ 999999999))))
 (R (nB false)))
 (R (nB false)))
 (ITE (z51.2.1.1 == 12)
 (ITE (((List.length z51.2.1.2.1 : Nat) : Int) == 1)
 (ITE (((List.length z51.2.1.2.2.1 : Nat) : Int) == 0)
 (R (nB (z51.2.1.2.2.2.1 == 0)))
 (R (nB false)))
 (R (nB false)))
 (R (nB false))))))))))
 (ITE (z51.2.1.1 == 5)
 (ITE (((List.length z51.2.1.2.1 : Nat) : Int) == 1)
 (ITE (((List.length z51.2.1.2.2.1 : Nat) : Int) == 2)
 (R (nB (z51.2.1.2.2.2.1 == 0)))
 (R (nB false)))
 (R (nB false)))
 (ITE (z51.2.1.1 == 6)
 (ITE (decide (((List.length z51.2.1.2.1 : Nat) : Int) ≥ 2))
 (ITE (((List.length z51.2.1.2.2.1 : Nat) : Int) == 0)
 (R (nB (z51.2.1.2.2.2.1 == 0)))
 (R (nB false)))
 (R (nB false)))
 (ITE (z51.2.1.1 == 7)
 (ITE (((List.length z51.2.1.2.1 : Nat) : Int) == 2)
 (ITE (((List.length z51.2.1.2.2.1 : Nat) : Int) == 0)
 (R (nB (z51.2.1.2.2.2.1 == 0)))
 (R (nB false)))
 (R (nB false)))
 (ITE (z51.2.1.1 == 8)
 (ITE (z51.2.1.1 == 8)
 (ITE (((List.length z51.2.1.2.1 : Nat) : Int) == 0)
 (ITE (((List.length z51.2.1.2.2.1 : Nat) : Int) == 0)
 (R (nB (decide (z51.2.1.2.2.2.1 ≤ 999999999))))
 (R (nB false)))
 (R (nB false)))
 (ITE (z51.2.1.1 == 9)
 (ITE (((List.length z51.2.1.2.1 : Nat) : Int) == 0)
 (ITE (((List.length z51.2.1.2.2.1 : Nat) : Int) == 1)
 (R (nB (decide (z51.2.1.2.2.2.1 ≤ 999999999))))
 (R (nB false)))
 (R (nB false)))
 (ITE (z51.2.1.1 == 10)
 (ITE (((List.length z51.2.1.2.1 : Nat) : Int) == 0)
 (ITE (((List.length z51.2.1.2.2.1 : Nat) : Int) == 2)
 (R (nB (decide (z51.2.1.2.2.2.1 ≤ 999999999))))
 (R (nB false)))
 (R (nB false)))
 (ITE (z51.2.1.1 == 12)
 (ITE (((List.length z51.2.1.2.1 : Nat) : Int) == 1)
 (ITE (((List.length z51.2.1.2.2.1 : Nat) : Int) == 0)
 (R (nB (z51.2.1.2.2.2.1 == 0)))
 (R (nB false)))
 (R (nB false)))
 (R (nB false))))))
 (ITE (z51.2.1.1 == 11)
 (ITE (((List.length z51.2.1.2.1 : Nat) : Int) == 0)
 (ITE (((List.length z51.2.1.2.2.1 : Nat) : Int) == 0)
 (R (nB (decide (z51.2.1.2.2.2.1 ≤ 999999999))))
 (R (nB false)))
 (R (nB false)))
 (ITE (z51.2.1.1 == 9)
 (ITE (((List.length z51.2.1.2.1 : Nat) : Int) == 0)
 (ITE (((List.length z51.2.1.2.2.1 : Nat) : Int) == 1)
 (R (nB (decide (z51.2.1.2.2.2.1 ≤ 999999999))))
 (R (nB false)))
 (R (nB false)))
 (ITE (z51.2.1.1 == 10)
 (ITE (((List.length z51.2.1.2.1 : Nat) : Int) == 0)
 (ITE (((List.length z51.2.1.2.2.1 : Nat) : Int) == 2)
 (R (nB (decide (z51.2.1.2.2.2.1 ≤ 999999999))))
 (R (nB false)))
 (R (nB false)))
 (ITE (z51.2.1.1 == 12)
 (ITE (((List.length z51.2.1.2.1 : Nat) : Int) == 1)
 (ITE (((List.length z51.2.1.2.2.1 : Nat) : Int) == 0)
 (R (nB (z51.2.1.2.2.2.1 == 0)))
 (R (nB false)))
 (R (nB false)))
 (R (nB false))))))))))))
 (ITE (z51.2.1.1 == 3)
 (ITE (((List.length z51.2.1.2.1 : Nat) : Int) == 1)
 (ITE (((List.length z51.2.1.2.2.1 : Nat) : Int) == 1)
 (R (nB (z51.2.1.2.2.2.1 == 0)))
 (R (nB false)))
 (R (nB false)))
 (ITE (z51.2.1.1 == 4)
 (ITE (z51.2.1.1 == 4)
 (ITE (((List.length z51.2.1.2.1 : Nat) : Int) == 1)
 (ITE (((List.length z51.2.1.2.2.1 : Nat) : Int) == 2)
 (R (nB (z51.2.1.2.2.2.1 == 0)))
 (R (nB false)))
 (R (nB false)))
 (ITE (z51.2.1.1 == 6)
 (ITE (decide (((List.length z51.2.1.2.1 : Nat) : Int) ≥ 2))
 (ITE (((List.length z51.2.1.2.2.1 : Nat) : Int) == 0)
 (R (nB (z51.2.1.2.2.2.1 == 0)))
 (R (nB false)))
 (R (nB false)))
 (ITE (z51.2.1.1 == 7)
 (ITE (((List.length z51.2.1.2.1 : Nat) : Int) == 2)
 (ITE (((List.length z51.2.1.2.2.1 : Nat) : Int) == 0)
 (R (nB (z51.2.1.2.2.2.1 == 0)))
 (R (nB false)))
 (R (nB false)))
 (ITE (z51.2.1.1 == 8)
 (ITE (z51.2.1.1 == 8)
 (ITE (((List.length z51.2.1.2.1 : Nat) : Int) == 0)
 (ITE (((List.length z51.2.1.2.2.1 : Nat) : Int) == 0)
 (R (nB (decide (z51.2.1.2.2.2.1 ≤ 999999999))))
 (R (nB false)))
 (R (nB false)))
 (ITE (z51.2.1.1 == 9)
 (ITE (((List.length z51.2.1.2.1 : Nat) : Int) == 0)
 (ITE (((List.length z51.2.1.2.2.1 : Nat) : Int) == 1)
 (R (nB (decide (z51.2.1.2.2.2.1 ≤ 999999999))))
 (R (nB false)))
 (R (nB false)))
 (ITE (z51.2.1.1 == 10)
 (ITE (((List.length z51.2.1.2.1 : Nat) : Int) == 0)
 (ITE (((List.length z51.2.1.2.2.1 : Nat) : Int) == 2)
 (R (nB (decide (z51.2.1.2.2.2.1 ≤ 999999999))))
 (R (nB false)))
 (R (nB false)))
 (ITE (z51.2.1.1 == 12)
 (ITE (((List.length z51.2.1.2.1 : Nat) : Int) == 1)
 (ITE (((List.length z51.2.1.2.2.1 : Nat) : Int) == 0)
 (R (nB (z51.2.1.2.2.2.1 == 0)))
 (R (nB false)))
 (R (nB false)))
 (R (nB false))))))
 (ITE (z51.2.1.1 == 11)
 (ITE (((List.length z51.2.1.2.1 : Nat) : Int) == 0)
 (ITE (((List.length z51.2.1.2.2.1 : Nat) : Int) == 0)
 (R (nB (decide (z51.2.1.2.2.2.1 ≤ 999999999))))
 (R (nB false)))
 (R (nB false)))
 (ITE (z51.2.1.1 == 9)
 (ITE (((List.length z51.2.1.2.1 : Nat) : Int) == 0)
 (ITE (((List.length z51.2.1.2.2.1 : Nat) : Int) == 1)
 (R (nB (decide (z51.2.1.2.2.2.1 ≤ 999999999))))
 (R (nB false)))
 (R (nB false)))
 (ITE (z51.2.1.1 == 10)
 (ITE (((List.length z51.2.1.2.1 : Nat) : Int) == 0)
 (ITE (((List.length z51.2.1.2.2.1 : Nat) : Int) == 2)
 (R (nB (decide (z51.2.1.2.2.2.1 ≤ 999999999))))
 (R (nB false)))
 (R (nB false)))
 (ITE (z51.2.1.1 == 12)
 (ITE (((List.length z51.2.1.2.1 : Nat) : Int) == 1)
 (ITE (((List.length z51.2.1.2.2.1 : Nat) : Int) == 0)
 (R (nB (z51.2.1.2.2.2.1 == 0)))
 (R (nB false)))
 (R (nB false)))
 (R (nB false))))))))))
 (ITE (z51.2.1.1 == 5)
 (ITE (((List.length z51.2.1.2.1 : Nat) : Int) == 1)
 (ITE (((List.length z51.2.1.2.2.1 : Nat) : Int) == 2)
 (R (nB (z51.2.1.2.2.2.1 == 0)))
 (R (nB false)))
 (R (nB false)))
 (ITE (z51.2.1.1 == 6)
 (ITE (decide (((List.length z51.2.1.2.1 : Nat) : Int) ≥ 2))
 (ITE (((List.length z51.2.1.2.2.1 : Nat) : Int) == 0)
 (R (nB (z51.2.1.2.2.2.1 == 0)))
 (R (nB false)))
 (R (nB false)))
 (ITE (z51.2.1.1 == 7)
 (ITE (((List.length z51.2.1.2.1 : Nat) : Int) == 2)
 (ITE (((List.length z51.2.1.2.2.1 : Nat) : Int) == 0)
 (R (nB (z51.2.1.2.2.2.1 == 0)))
 (R (nB false)))
 (R (nB false)))
 (ITE (z51.2.1.1 == 8)
 (ITE (z51.2.1.1 == 8)
 (ITE (((List.length z51.2.1.2.1 : Nat) : Int) == 0)
 (ITE (((List.length z51.2.1.2.2.1 : Nat) : Int) == 0)
 (R (nB (decide (z51.2.1.2.2.2.1 ≤ 999999999))))
 (R (nB false)))
 (R (nB false)))
 (ITE (z51.2.1.1 == 9)
 (ITE (((List.length z51.2.1.2.1 : Nat) : Int) == 0)
 (ITE (((List.length z51.2.1.2.2.1 : Nat) : Int) == 1)
 (R (nB (decide (z51.2.1.2.2.2.1 ≤ 999999999))))
 (R (nB false)))
 (R (nB false)))
 (ITE (z51.2.1.1 == 10)
 (ITE (((List.length z51.2.1.2.1 : Nat) : Int) == 0)
 (ITE (((List.length z51.2.1.2.2.1 : Nat) : Int) == 2)
 (R (nB (decide (z51.2.1.2.2.2.1 ≤ 999999999))))
 (R (nB false)))
 (R (nB false)))
 (ITE (z51.2.1.1 == 12)
 (ITE (((List.length z51.2.1.2.1 : Nat) : Int) == 1)
 (ITE (((List.length z51.2.1.2.2.1 : Nat) : Int) == 0)
 (R (nB (z51.2.1.2.2.2.1 == 0)))
 (R (nB false)))
 (R (nB false)))
 (R (nB false))))))
 (ITE (z51.2.1.1 == 11)
 (ITE (((List.length z51.2.1.2.1 : Nat) : Int) == 0)
 (ITE (((List.length z51.2.1.2.2.1 : Nat) : Int) == 0)
 (R (nB (decide (z51.2.1.2.2.2.1 ≤ 999999999))))
 (R (nB false)))
 (R (nB false)))
 (ITE (z51.2.1.1 == 9)
 (ITE (((List.length z51.2.1.2.1 : Nat) : Int) == 0)
 (ITE (((List.length z51.2.1.2.2.1 : Nat) : Int) == 1)
 (R (nB (decide (z51.2.1.2.2.2.1 ≤ 999999999))))
 (R (nB false)))
 (R (nB false)))
 (ITE (z51.2.1.1 == 10)
 (ITE (((List.length z51.2.1.2.1 : Nat) : Int) == 0)
 (ITE (((List.length z51.2.1.2.2.1 : Nat) : Int) == 2)
 (R (nB (decide (z51.2.1.2.2.2.1 ≤ 999999999))))
 (R (nB false)))
 (R (nB false)))
 (ITE (z51.2.1.1 == 12)
 (ITE (((List.length z51.2.1.2.1 : Nat) : Int) == 1)
 (ITE (((List.length z51.2.1.2.2.1 : Nat) : Int) == 0)
 (R (nB (z51.2.1.2.2.2.1 == 0)))
 (R (nB false)))
 (R (nB false)))
 (R (nB false))))))))))))))
 (ITE (z51.2.1.1 == 1)
 (ITE (decide (((List.length z51.2.1.2.1 : Nat) : Int) ≥ 1))
 (ITE (((List.length z51.2.1.2.2.1 : Nat) : Int) == 0)
 (R (nB (z51.2.1.2.2.2.1 == 0)))
 (R (nB false)))
 (R (nB false)))
 (ITE (z51.2.1.1 == 2)
 (ITE (z51.2.1.1 == 2)
 (ITE (((List.length z51.2.1.2.1 : Nat) : Int) == 1)
 (ITE (((List.length z51.2.1.2.2.1 : Nat) : Int) == 1)
 (R (nB (z51.2.1.2.2.2.1 == 0)))
 (R (nB false)))
 (R (nB false)))
 (ITE (z51.2.1.1 == 4)
 (ITE (z51.2.1.1 == 4)
 (ITE (((List.length z51.2.1.2.1 : Nat) : Int) == 1)
 (ITE (((List.length z51.2.1.2.2.1 : Nat) : Int) == 2)
 (R (nB (z51.2.1.2.2.2.1 == 0)))
 (R (nB false)))
 (R (nB false)))
 (ITE (z51.2.1.1 == 6)
 (ITE (decide (((List.length z51.2.1.2.1 : Nat) : Int) ≥ 2))
 (ITE (((List.length z51.2.1.2.2.1 : Nat) : Int) == 0)
 (R (nB (z51.2.1.2.2.2.1 == 0)))
 (R (nB false)))
 (R (nB false)))
 (ITE (z51.2.1.1 == 7)
 (ITE (((List.length z51.2.1.2.1 : Nat) : Int) == 2)
 (ITE (((List.length z51.2.1.2.2.1 : Nat) : Int) == 0)
 (R (nB (z51.2.1.2.2.2.1 == 0)))
 (R (nB false)))
 (R (nB false)))
 (ITE (z51.2.1.1 == 8)
 (ITE (z51.2.1.1 == 8)
 (ITE (((List.length z51.2.1.2.1 : Nat) : Int) == 0)
 (ITE (((List.length z51.2.1.2.2.1 : Nat) : Int) == 0)
 (R (nB false))
 (R (nB false)))
 (R (nB false)))
 (ITE (z51.2.1.1 == 9)
 (ITE (((List.length z51.2.1.2.1 : Nat) : Int) == 0)
 (ITE (((List.length z51.2.1.2.2.1 : Nat) : Int) == 1)
 (R (nB false))
 (R (nB false)))
 (R (nB false)))
 (ITE (z51.2.1.1 == 10)
 (ITE (((List.length z51.2.1.2.1 : Nat) : Int) == 0)
 (ITE (((List.length z51.2.1.2.2.1 : Nat) : Int) == 2)
 (R (nB false))
 (R (nB false)))
 (R (nB false)))
 (ITE (z51.2.1.1 == 12)
 (ITE (((List.length z51.2.1.2.1 : Nat) : Int) == 1)
 (ITE (((List.length z51.2.1.2.2.1 : Nat) : Int) == 0)
 (R (nB (z51.2.1.2.2.2.1 == 0)))
 (R (nB false)))
 (R (nB false)))
 (R (nB false))))))
 (ITE (z51.2.1.1 == 11)
 (ITE (((List.length z51.2.1.2.1 : Nat) : Int) == 0)
 (ITE (((List.length z51.2.1.2.2.1 : Nat) : Int) == 0)
 (R (nB false))
 (R (nB false)))
 (R (nB false)))
 (ITE (z51.2.1.1 == 9)
 (ITE (((List.length z51.2.1.2.1 : Nat) : Int) == 0)
 (ITE (((List.length z51.2.1.2.2.1 : Nat) : Int) == 1)
 (R (nB false))
 (R (nB false)))
 (R (nB false)))
 (ITE (z51.2.1.1 == 10)
 (ITE (((List.length z51.2.1.2.1 : Nat) : Int) == 0)
 (ITE (((List.length z51.2.1.2.2.1 : Nat) : Int) == 2)
 (R (nB false))
 (R (nB false)))
 (R (nB false)))
 (ITE (z51.2.1.1 == 12)
 (ITE (((List.length z51.2.1.2.1 : Nat) : Int) == 1)
 (ITE (((List.length z51.2.1.2.2.1 : Nat) : Int) == 0)
 (R (nB (z51.2.1.2.2.2.1 == 0)))
 (R (nB false)))
 (R (nB false)))
 (R (nB false))))))))))
 (ITE (z51.2.1.1 == 5)
 (ITE (((List.length z51.2.1.2.1 : Nat) : Int) == 1)
 (ITE (((List.length z51.2.1.2.2.1 : Nat) : Int) == 2)
 (R (nB (z51.2.1.2.2.2.1 == 0)))
 (R (nB false)))
 (R (nB false)))
 (ITE (z51.2.1.1 == 6)
 (ITE (decide (((List.length z51.2.1.2.1 : Nat) : Int) ≥ 2))
 (ITE (((List.length z51.2.1.2.2.1 : Nat) : Int) == 0)
 (R (nB (z51.2.1.2.2.2.1 == 0)))
 (R (nB false)))
 (R (nB false)))
 (ITE (z51.2.1.1 == 7)
 (ITE (((List.length z51.2.1.2.1 : Nat) : Int) == 2)
 (ITE (((List.length z51.2.1.2.2.1 : Nat) : Int) == 0)
 (R (nB (z51.2.1.2.2.2.1 == 0)))
 (R (nB false)))
 (R (nB false)))
 (ITE (z51.2.1.1 == 8)
 (ITE (z51.2.1.1 == 8)
 (ITE (((List.length z51.2.1.2.1 : Nat) : Int) == 0)
 (ITE (((List.length z51.2.1.2.2.1 : Nat) : Int) == 0)
 (R (nB false))
 (R (nB false)))
 (R (nB false)))
 (ITE (z51.2.1.1 == 9)
 (ITE (((List.length z51.2.1.2.1 : Nat) : Int) == 0)
 (ITE (((List.length z51.2.1.2.2.1 : Nat) : Int) == 1)
 (R (nB false))
 (R (nB false)))
 (R (nB false)))
 (ITE (z51.2.1.1 == 10)
 (ITE (((List.length z51.2.1.2.1 : Nat) : Int) == 0)
 (ITE (((List.length z51.2.1.2.2.1 : Nat) : Int) == 2)
 (R (nB false))
 (R (nB false)))
 (R (nB false)))
 (ITE (z51.2.1.1 == 12)
 (ITE (((List.length z51.2.1.2.1 : Nat) : Int) == 1)
 (ITE (((List.length z51.2.1.2.2.1 : Nat) : Int) == 0)
 (R (nB (z51.2.1.2.2.2.1 == 0)))
 (R (nB false)))
 (R (nB false)))
 (R (nB false))))))
 (ITE (z51.2.1.1 == 11)
 (ITE (((List.length z51.2.1.2.1 : Nat) : Int) == 0)
 (ITE (((List.length z51.2.1.2.2.1 : Nat) : Int) == 0)
 (R (nB false))
 (R (nB false)))
 (R (nB false)))
 (ITE (z51.2.1.1 == 9)
 (ITE (((List.length z51.2.1.2.1 : Nat) : Int) == 0)
 (ITE (((List.length z51.2.1.2.2.1 : Nat) : Int) == 1)
 (R (nB false))
 (R (nB false)))
 (R (nB false)))
 (ITE (z51.2.1.1 == 10)
 (ITE (((List.length z51.2.1.2.1 : Nat) : Int) == 0)
 (ITE (((List.length z51.2.1.2.2.1 : Nat) : Int) == 2)
 (R (nB false))
 (R (nB false)))
 (R (nB false)))
 (ITE (z51.2.1.1 == 12)
 (ITE (((List.length z51.2.1.2.1 : Nat) : Int) == 1)
 (ITE (((List.length z51.2.1.2.2.1 : Nat) : Int) == 0)
 (R (nB (z51.2.1.2.2.2.1 == 0)))
 (R (nB false)))
 (R (nB false)))
 (R (nB false))))))))))))
 (ITE (z51.2.1.1 == 3)
 (ITE (((List.length z51.2.1.2.1 : Nat) : Int) == 1)
 (ITE (((List.length z51.2.1.2.2.1 : Nat) : Int) == 1)
 (R (nB (z51.2.1.2.2.2.1 == 0)))
 (R (nB false)))
 (R (nB false)))
 (ITE (z51.2.1.1 == 4)
 (ITE (z51.2.1.1 == 4)
 (ITE (((List.length z51.2.1.2.1 : Nat) : Int) == 1)
 (ITE (((List.length z51.2.1.2.2.1 : Nat) : Int) == 2)
 (R (nB (z51.2.1.2.2.2.1 == 0)))
 (R (nB false)))
 (R (nB false)))
 (ITE (z51.2.1.1 == 6)
 (ITE (decide (((List.length z51.2.1.2.1 : Nat) : Int) ≥ 2))
 (ITE (((List.length z51.2.1.2.2.1 : Nat) : Int) == 0)
 (R (nB (z51.2.1.2.2.2.1 == 0)))
 (R (nB false)))
 (R (nB false)))
 (ITE (z51.2.1.1 == 7)
 (ITE (((List.length z51.2.1.2.1 : Nat) : Int) == 2)
 (ITE (((List.length z51.2.1.2.2.1 : Nat) : Int) == 0)
 (R (nB (z51.2.1.2.2.2.1 == 0)))
 (R (nB false)))
 (R (nB false)))
 (ITE (z51.2.1.1 == 8)
 (ITE (z51.2.1.1 == 8)
 (ITE (((List.length z51.2.1.2.1 : Nat) : Int) == 0)
 (ITE (((List.length z51.2.1.2.2.1 : Nat) : Int) == 0)
 (R (nB false))
 (R (nB false)))
 (R (nB false)))
 (ITE (z51.2.1.1 == 9)
 (ITE (((List.length z51.2.1.2.1 : Nat) : Int) == 0)
 (ITE (((List.length z51.2.1.2.2.1 : Nat) : Int) == 1)
 (R (nB false))
 (R (nB false)))
 (R (nB false)))
 (ITE (z51.2.1.1 == 10)
 (ITE (((List.length z51.2.1.2.1 : Nat) : Int) == 0)
 (ITE (((List.length z51.2.1.2.2.1 : Nat) : Int) == 2)
 (R (nB false))
 (R (nB false)))
 (R (nB false)))
 (ITE (z51.2.1.1 == 12)
 (ITE (((List.length z51.2.1.2.1 : Nat) : Int) == 1)
 (ITE (((List.length z51.2.1.2.2.1 : Nat) : Int) == 0)
 (R (nB (z51.2.1.2.2.2.1 == 0)))
 (R (nB false)))
 (R (nB false)))
 (R (nB false))))))
 (ITE (z51.2.1.1 == 11)
 (ITE (((List.length z51.2.1.2.1 : Nat) : Int) == 0)
 (ITE (((List.length z51.2.1.2.2.1 : Nat) : Int) == 0)
 (R (nB false))
 (R (nB false)))
 (R (nB false)))
 (ITE (z51.2.1.1 == 9)
 (ITE (((List.length z51.2.1.2.1 : Nat) : Int) == 0)
 (ITE (((List.length z51.2.1.2.2.1 : Nat) : Int) == 1)
 (R (nB false))
 (R (nB false)))
 (R (nB false)))
 (ITE (z51.2.1.1 == 10)
 (ITE (((List.length z51.2.1.2.1 : Nat) : Int) == 0)
 (ITE (((List.length z51.2.1.2.2.1 : Nat) : Int) == 2)
 (R (nB false))
 (R (nB false)))
 (R (nB false)))
 (ITE (z51.2.1.1 == 12)
 (ITE (((List.length z51.2.1.2.1 : Nat) : Int) == 1)
 (ITE (((List.length z51.2.1.2.2.1 : Nat) : Int) == 0)
 (R (nB (z51.2.1.2.2.2.1 == 0)))
 (R (nB false)))
 (R (nB false)))
 (R (nB false))))))))))
 (ITE (z51.2.1.1 == 5)
 (ITE (((List.length z51.2.1.2.1 : Nat) : Int) == 1)
 (ITE (((List.length z51.2.1.2.2.1 : Nat) : Int) == 2)
 (R (nB (z51.2.1.2.2.2.1 == 0)))
 (R (nB false)))
 (R (nB false)))
 (ITE (z51.2.1.1 == 6)
 (ITE (decide (((List.length z51.2.1.2.1 : Nat) : Int) ≥ 2))
 (ITE (((List.length z51.2.1.2.2.1 : Nat) : Int) == 0)
 (R (nB (z51.2.1.2.2.2.1 == 0)))
 (R (nB false)))
 (R (nB false)))
 (ITE (z51.2.1.1 == 7)
 (ITE (((List.length z51.2.1.2.1 : Nat) : Int) == 2)
 (ITE (((List.length z51.2.1.2.2.1 : Nat) : Int) == 0)
 (R (nB (z51.2.1.2.2.2.1 == 0)))
 (R (nB false)))
 (R (nB false)))
 (ITE (z51.2.1.1 == 8)
 (ITE (z51.2.1.1 == 8)
 (ITE (((List.length z51.2.1.2.1 : Nat) : Int) == 0)
 (ITE (((List.length z51.2.1.2.2.1 : Nat) : Int) == 0)
 (R (nB false))
 (R (nB false)))
 (R (nB false)))
 (ITE (z51.2.1.1 == 9)
 (ITE (((List.length z51.2.1.2.1 : Nat) : Int) == 0)
 (ITE (((List.length z51.2.1.2.2.1 : Nat) : Int) == 1)
 (R (nB false))
 (R (nB false)))
 (R (nB false)))
 (ITE (z51.2.1.1 == 10)
 (ITE (((List.length z51.2.1.2.1 : Nat) : Int) == 0)
 (ITE (((List.length z51.2.1.2.2.1 : Nat) : Int) == 2)
 (R (nB false))
 (R (nB false)))
 (R (nB false)))
 (ITE (z51.2.1.1 == 12)
 (ITE (((List.length z51.2.1.2.1 : Nat) : Int) == 1)
 (ITE (((List.length z51.2.1.2.2.1 : Nat) : Int) == 0)
 (R (nB (z51.2.1.2.2.2.1 == 0)))
 (R (nB false)))
 (R (nB false)))
 (R (nB false))))))
 (ITE (z51.2.1.1 == 11)
 (ITE (((List.length z51.2.1.2.1 : Nat) : Int) == 0)
 (ITE (((List.length z51.2.1.2.2.1 : Nat) : Int) == 0)
 (R (nB false))
 (R (nB false)))
 (R (nB false)))
 (ITE (z51.2.1.1 == 9)
 (ITE (((List.length z51.2.1.2.1 : Nat) : Int) == 0)
 (ITE (((List.length z51.2.1.2.2.1 : Nat) : Int) == 1)
 (R (nB false))
 (R (nB false)))
 (R (nB false)))
 (ITE (z51.2.1.1 == 10)
 (ITE (((List.length z51.2.1.2.1 : Nat) : Int) == 0)
 (ITE (((List.length z51.2.1.2.2.1 : Nat) : Int) == 2)
 (R (nB false))
 (R (nB false)))
 (R (nB false)))
 (ITE (z51.2.1.1 == 12)
 (ITE (((List.length z51.2.1.2.1 : Nat) : Int) == 1)
 (ITE (((List.length z51.2.1.2.2.1 : Nat) : Int) == 0)
 (R (nB (z51.2.1.2.2.2.1 == 0)))
 (R (nB false)))
 (R (nB false)))
 (R (nB false)))))))))))))))
def vc19_L2 (p0 : (Unit × Int × Unit) × ((Int × List AV × List AV × Int × Int × Unit) × Unit)) (R : AV → Prop) : Prop :=
 LoopP _ p0 fun z51 ag52 =>
 ITE (decide (z51.1.2.1 < ((List.length z51.2.1.2.1 : Nat) : Int)))
 (0 ≤ z51.1.2.1 ∧
 z51.1.2.1 < List.length z51.2.1.2.1 ∧
 ∃ (s53 : ByteArray),
 List.getD z51.2.1.2.1 (Int.toNat z51.1.2.1) .top = nS s53 ∧
 ∃ (b54 : Bool),
 PureIs Tryd.prog 31 [nS s53] (nB b54) ∧
 ITE (!b54)
 (R (nB false))
 (ag52 (((), IntKind.wrap .i64 (z51.1.2.1 + 1), ()), ((z51.2.1.1, z51.2.1.2.1, z51.2.1.2.2.1, z51.2.1.2.2.2.1, z51.2.1.2.2.2.2.1, ()), ()))))
 (vc19_L7 (((), 0, ()), ((z51.2.1.1, z51.2.1.2.1, z51.2.1.2.2.1, z51.2.1.2.2.2.1, z51.2.1.2.2.2.2.1, ()), ())) R)
def vc19 (a0_0 : Int) (a0_1 a0_2 : List AV) (a0_3 a0_4 : Int) (R : AV → Prop) : Prop :=
 vc19_L2 (((), 0, ()), ((a0_0, a0_1, a0_2, a0_3, a0_4, ()), ())) R
theorem vc19_ok {a0_0 : Int} {a0_1 a0_2 : List AV} {a0_3 a0_4 : Int} {R : AV → Prop} (h : vc19 a0_0 a0_1 a0_2 a0_3 a0_4 R) : Pure Tryd.prog 19 [.agg [nI a0_0, .sl a0_1, .sl a0_2, nI a0_3, nI a0_4]] R :=
 pure_of_code (C := cfg (Func.ntmps Tryd.f19)) (cfg_tab _ _ _ _ _) (cfg_ord _ _ _ _ _) (L := [{ key := 2, live := [(1, none), (3, none)] }, { key := 7, live := [(1, none), (4, none)] }]) (fn := Tryd.f19) Tryd.func19 (by exact rfl) (by kernel_rfl) (by kernel_rfl) (by rfl) (of_eq (by kernel_rfl) h)
def vc21_L11 (p0 : (Unit × ByteArray × Int × Unit) × ((Int × List AV × List AV × Int × Int × Unit) × Unit)) (R : AV → Prop) : Prop :=
 LoopP _ p0 fun z51 ag52 =>
 ITE (decide (z51.1.2.2.1 < ((List.length z51.2.1.2.2.1 : Nat) : Int)))
 (ITE (z51.2.1.1 == 2)
 (0 ≤ z51.1.2.2.1 ∧
 z51.1.2.2.1 < List.length z51.2.1.2.2.1 ∧
 ∃ (i53 : Int) (s54 : ByteArray) (i55 : Int) (l56 : List AV),
 List.getD z51.2.1.2.2.1 (Int.toNat z51.1.2.2.1) .top = .agg [nI i53, nS s54, nI i55, .sl l56] ∧
 ∃ (s57 : ByteArray),
 PureIs Tryd.prog 12 [.agg [nI i53, nS s54, nI i55, .sl l56]] (nS s57) ∧
 ITE (z51.1.2.2.1 == 0)
 (ByteArray.size z51.1.2.1 + ByteArray.size (⟨#[58, 32]⟩ : ByteArray) ≤ 9223372036854775807 ∧
 ByteArray.size (z51.1.2.1 ++ (⟨#[58, 32]⟩ : ByteArray)) + ByteArray.size s57 ≤ 9223372036854775807 ∧
 ag52 (((), (z51.1.2.1 ++ (⟨#[58, 32]⟩ : ByteArray)) ++ s57, IntKind.wrap .i64 (z51.1.2.2.1 + 1), ()), ((z51.2.1.1, z51.2.1.2.1, z51.2.1.2.2.1, z51.2.1.2.2.2.1, z51.2.1.2.2.2.2.1, ()), ())))
 (ITE (z51.2.1.1 == 5)
 (ByteArray.size z51.1.2.1 + ByteArray.size (⟨#[32, 62, 32]⟩ : ByteArray) ≤ 9223372036854775807 ∧
 ByteArray.size (z51.1.2.1 ++ (⟨#[32, 62, 32]⟩ : ByteArray)) + ByteArray.size s57 ≤ 9223372036854775807 ∧
 ag52 (((), (z51.1.2.1 ++ (⟨#[32, 62, 32]⟩ : ByteArray)) ++ s57, IntKind.wrap .i64 (z51.1.2.2.1 + 1), ()), ((z51.2.1.1, z51.2.1.2.1, z51.2.1.2.2.1, z51.2.1.2.2.2.1, z51.2.1.2.2.2.2.1, ()), ())))
 (ByteArray.size z51.1.2.1 + ByteArray.size (⟨#[32, 61, 32]⟩ : ByteArray) ≤ 9223372036854775807 ∧
 ByteArray.size (z51.1.2.1 ++ (⟨#[32, 61, 32]⟩ : ByteArray)) + ByteArray.size s57 ≤ 9223372036854775807 ∧
 ag52 (((), (z51.1.2.1 ++ (⟨#[32, 61, 32]⟩ : ByteArray)) ++ s57, IntKind.wrap .i64 (z51.1.2.2.1 + 1), ()), ((z51.2.1.1, z51.2.1.2.1, z51.2.1.2.2.1, z51.2.1.2.2.2.1, z51.2.1.2.2.2.2.1, ()), ())))))
 (ITE (z51.2.1.1 == 3)
 (0 ≤ z51.1.2.2.1 ∧
 z51.1.2.2.1 < List.length z51.2.1.2.2.1 ∧
 ∃ (i58 : Int) (s59 : ByteArray) (i60 : Int) (l61 : List AV),
 List.getD z51.2.1.2.2.1 (Int.toNat z51.1.2.2.1) .top = .agg [nI i58, nS s59, nI i60, .sl l61] ∧
 ∃ (s62 : ByteArray),
 PureIs Tryd.prog 12 [.agg [nI i58, nS s59, nI i60, .sl l61]] (nS s62) ∧
 ITE (z51.1.2.2.1 == 0)
 (ByteArray.size z51.1.2.1 + ByteArray.size (⟨#[58, 32]⟩ : ByteArray) ≤ 9223372036854775807 ∧
 ByteArray.size (z51.1.2.1 ++ (⟨#[58, 32]⟩ : ByteArray)) + ByteArray.size s62 ≤ 9223372036854775807 ∧
 ag52 (((), (z51.1.2.1 ++ (⟨#[58, 32]⟩ : ByteArray)) ++ s62, IntKind.wrap .i64 (z51.1.2.2.1 + 1), ()), ((z51.2.1.1, z51.2.1.2.1, z51.2.1.2.2.1, z51.2.1.2.2.2.1, z51.2.1.2.2.2.2.1, ()), ())))
 (ITE (z51.2.1.1 == 5)
 (ByteArray.size z51.1.2.1 + ByteArray.size (⟨#[32, 62, 32]⟩ : ByteArray) ≤ 9223372036854775807 ∧
 ByteArray.size (z51.1.2.1 ++ (⟨#[32, 62, 32]⟩ : ByteArray)) + ByteArray.size s62 ≤ 9223372036854775807 ∧
 ag52 (((), (z51.1.2.1 ++ (⟨#[32, 62, 32]⟩ : ByteArray)) ++ s62, IntKind.wrap .i64 (z51.1.2.2.1 + 1), ()), ((z51.2.1.1, z51.2.1.2.1, z51.2.1.2.2.1, z51.2.1.2.2.2.1, z51.2.1.2.2.2.2.1, ()), ())))
 (ByteArray.size z51.1.2.1 + ByteArray.size (⟨#[32, 61, 32]⟩ : ByteArray) ≤ 9223372036854775807 ∧
 ByteArray.size (z51.1.2.1 ++ (⟨#[32, 61, 32]⟩ : ByteArray)) + ByteArray.size s62 ≤ 9223372036854775807 ∧
 ag52 (((), (z51.1.2.1 ++ (⟨#[32, 61, 32]⟩ : ByteArray)) ++ s62, IntKind.wrap .i64 (z51.1.2.2.1 + 1), ()), ((z51.2.1.1, z51.2.1.2.1, z51.2.1.2.2.1, z51.2.1.2.2.2.1, z51.2.1.2.2.2.2.1, ()), ())))))
 (0 ≤ z51.1.2.2.1 ∧
 z51.1.2.2.1 < List.length z51.2.1.2.2.1 ∧
 ∃ (i63 : Int) (s64 : ByteArray) (i65 : Int) (l66 : List AV),
 List.getD z51.2.1.2.2.1 (Int.toNat z51.1.2.2.1) .top = .agg [nI i63, nS s64, nI i65, .sl l66] ∧
 ∃ (s67 : ByteArray),
 PureIs Tryd.prog 13 [.agg [nI i63, nS s64, nI i65, .sl l66]] (nS s67) ∧
 ITE (z51.1.2.2.1 == 0)
 (ByteArray.size z51.1.2.1 + ByteArray.size (⟨#[58, 32]⟩ : ByteArray) ≤ 9223372036854775807 ∧
 ByteArray.size (z51.1.2.1 ++ (⟨#[58, 32]⟩ : ByteArray)) + ByteArray.size s67 ≤ 9223372036854775807 ∧
 ag52 (((), (z51.1.2.1 ++ (⟨#[58, 32]⟩ : ByteArray)) ++ s67, IntKind.wrap .i64 (z51.1.2.2.1 + 1), ()), ((z51.2.1.1, z51.2.1.2.1, z51.2.1.2.2.1, z51.2.1.2.2.2.1, z51.2.1.2.2.2.2.1, ()), ())))
 (ITE (z51.2.1.1 == 5)
 (ByteArray.size z51.1.2.1 + ByteArray.size (⟨#[32, 62, 32]⟩ : ByteArray) ≤ 9223372036854775807 ∧
 ByteArray.size (z51.1.2.1 ++ (⟨#[32, 62, 32]⟩ : ByteArray)) + ByteArray.size s67 ≤ 9223372036854775807 ∧
 ag52 (((), (z51.1.2.1 ++ (⟨#[32, 62, 32]⟩ : ByteArray)) ++ s67, IntKind.wrap .i64 (z51.1.2.2.1 + 1), ()), ((z51.2.1.1, z51.2.1.2.1, z51.2.1.2.2.1, z51.2.1.2.2.2.1, z51.2.1.2.2.2.2.1, ()), ())))
 (ByteArray.size z51.1.2.1 + ByteArray.size (⟨#[32, 61, 32]⟩ : ByteArray) ≤ 9223372036854775807 ∧
 ByteArray.size (z51.1.2.1 ++ (⟨#[32, 61, 32]⟩ : ByteArray)) + ByteArray.size s67 ≤ 9223372036854775807 ∧
 ag52 (((), (z51.1.2.1 ++ (⟨#[32, 61, 32]⟩ : ByteArray)) ++ s67, IntKind.wrap .i64 (z51.1.2.2.1 + 1), ()), ((z51.2.1.1, z51.2.1.2.1, z51.2.1.2.2.1, z51.2.1.2.2.2.1, z51.2.1.2.2.2.2.1, ()), ())))))))
 (ByteArray.size z51.1.2.1 + ByteArray.size (⟨#[59, 10]⟩ : ByteArray) ≤ 9223372036854775807 ∧
 R (nS (z51.1.2.1 ++ (⟨#[59, 10]⟩ : ByteArray))))
def vc21_L3 (p0 : (Unit × ByteArray × Int × Unit) × ((Int × List AV × List AV × Int × Int × Unit) × Unit)) (R : AV → Prop) : Prop :=
 LoopP _ p0 fun z51 ag52 =>
 ITE (decide (z51.1.2.2.1 < ((List.length z51.2.1.2.1 : Nat) : Int)))
 (ITE (decide (z51.1.2.2.1 > 0))
 (ITE (z51.2.1.1 == 6)
 (ByteArray.size z51.1.2.1 + ByteArray.size (⟨#[32, 62]⟩ : ByteArray) ≤ 9223372036854775807 ∧
 ByteArray.size (z51.1.2.1 ++ (⟨#[32, 62]⟩ : ByteArray)) + ByteArray.size (⟨#[32]⟩ : ByteArray) ≤ 9223372036854775807 ∧
 0 ≤ z51.1.2.2.1 ∧
 z51.1.2.2.1 < List.length z51.2.1.2.1 ∧
 ∃ (s53 : ByteArray),
 List.getD z51.2.1.2.1 (Int.toNat z51.1.2.2.1) .top = nS s53 ∧
 ByteArray.size ((z51.1.2.1 ++ (⟨#[32, 62]⟩ : ByteArray)) ++ (⟨#[32]⟩ : ByteArray)) + ByteArray.size s53 ≤ 9223372036854775807 ∧
 ag52 (((), ((z51.1.2.1 ++ (⟨#[32, 62]⟩ : ByteArray)) ++ (⟨#[32]⟩ : ByteArray)) ++ s53, IntKind.wrap .i64 (z51.1.2.2.1 + 1), ()), ((z51.2.1.1, z51.2.1.2.1, z51.2.1.2.2.1, z51.2.1.2.2.2.1, z51.2.1.2.2.2.2.1, ()), ())))
 (ByteArray.size z51.1.2.1 + ByteArray.size (⟨#[32]⟩ : ByteArray) ≤ 9223372036854775807 ∧
 0 ≤ z51.1.2.2.1 ∧
 z51.1.2.2.1 < List.length z51.2.1.2.1 ∧
 ∃ (s54 : ByteArray),
 List.getD z51.2.1.2.1 (Int.toNat z51.1.2.2.1) .top = nS s54 ∧
 ByteArray.size (z51.1.2.1 ++ (⟨#[32]⟩ : ByteArray)) + ByteArray.size s54 ≤ 9223372036854775807 ∧
 ag52 (((), (z51.1.2.1 ++ (⟨#[32]⟩ : ByteArray)) ++ s54, IntKind.wrap .i64 (z51.1.2.2.1 + 1), ()), ((z51.2.1.1, z51.2.1.2.1, z51.2.1.2.2.1, z51.2.1.2.2.2.1, z51.2.1.2.2.2.2.1, ()), ()))))
 (ByteArray.size z51.1.2.1 + ByteArray.size (⟨#[32]⟩ : ByteArray) ≤ 9223372036854775807 ∧
 0 ≤ z51.1.2.2.1 ∧
 z51.1.2.2.1 < List.length z51.2.1.2.1 ∧
 ∃ (s55 : ByteArray),
 List.getD z51.2.1.2.1 (Int.toNat z51.1.2.2.1) .top = nS s55 ∧
 ByteArray.size (z51.1.2.1 ++ (⟨#[32]⟩ : ByteArray)) + ByteArray.size s55 ≤ 9223372036854775807 ∧
 ag52 (((), (z51.1.2.1 ++ (⟨#[32]⟩ : ByteArray)) ++ s55, IntKind.wrap .i64 (z51.1.2.2.1 + 1), ()), ((z51.2.1.1, z51.2.1.2.1, z51.2.1.2.2.1, z51.2.1.2.2.2.1, z51.2.1.2.2.2.2.1, ()), ()))))
 (ITE (decide (z51.2.1.1 ≥ 8))
 (ITE (decide (z51.2.1.1 ≤ 11))
 (ByteArray.size z51.1.2.1 + ByteArray.size (⟨#[32]⟩ : ByteArray) ≤ 9223372036854775807 ∧
 ∃ (s56 : ByteArray),
 PureIs Tryd.prog 42 [nI z51.2.1.2.2.2.1] (nS s56) ∧
 ByteArray.size (z51.1.2.1 ++ (⟨#[32]⟩ : ByteArray)) + ByteArray.size s56 ≤ 9223372036854775807 ∧
 vc21_L11 (((), (z51.1.2.1 ++ (⟨#[32]⟩ : ByteArray)) ++ s56, 0, ()), ((z51.2.1.1, z51.2.1.2.1, z51.2.1.2.2.1, z51.2.1.2.2.2.1, z51.2.1.2.2.2.2.1, ()), ())) R)
 (vc21_L11 (((), z51.1.2.1, 0, ()), ((z51.2.1.1, z51.2.1.2.1, z51.2.1.2.2.1, z51.2.1.2.2.2.1, z51.2.1.2.2.2.2.1, ()), ())) R))
 (vc21_L11 (((), z51.1.2.1, 0, ()), ((z51.2.1.1, z51.2.1.2.1, z51.2.1.2.2.1, z51.2.1.2.2.2.1, z51.2.1.2.2.2.2.1, ()), ())) R))
def vc21 (a0_0 : Int) (a0_1 a0_2 : List AV) (a0_3 a0_4 : Int) (R : AV → Prop) : Prop :=
 ∃ (s1 : ByteArray),
 PureIs Tryd.prog 41 [nI a0_0] (nS s1) ∧
 vc21_L3 (((), s1, 0, ()), ((a0_0, a0_1, a0_2, a0_3, a0_4, ()), ())) R
theorem vc21_ok {a0_0 : Int} {a0_1 a0_2 : List AV} {a0_3 a0_4 : Int} {R : AV → Prop} (h : vc21 a0_0 a0_1 a0_2 a0_3 a0_4 R) : Pure Tryd.prog 21 [.agg [nI a0_0, .sl a0_1, .sl a0_2, nI a0_3, nI a0_4]] R :=
 pure_of_code (C := cfg (Func.ntmps Tryd.f21)) (cfg_tab _ _ _ _ _) (cfg_ord _ _ _ _ _) (L := [{ key := 3, live := [(1, none), (3, none), (4, none)] }, { key := 11, live := [(1, none), (3, none), (5, none)] }]) (fn := Tryd.f21) Tryd.func21 (by exact rfl) (by kernel_rfl) (by kernel_rfl) (by rfl) (of_eq (by kernel_rfl) h)
def vc20_L3 (p0 : (Unit × List AV × Int × Int × Unit) × (Unit × List AV × (Unit × Unit) × Unit)) (R : AV → Prop) : Prop :=
 LoopP _ p0 fun z51 ag52 =>
 ITE (decide (z51.1.2.2.2.1 < z51.1.2.2.1))
 (0 ≤ z51.1.2.2.2.1 ∧
 z51.1.2.2.2.1 < List.length z51.1.2.1 ∧
 ∃ (i53 : Int) (l54 l55 : List AV) (i56 i57 : Int),
 List.getD z51.1.2.1 (Int.toNat z51.1.2.2.2.1) .top = .agg [nI i53, .sl l54, .sl l55, nI i56, nI i57] ∧
 ∃ (b58 : Bool),
 PureIs Tryd.prog 18 [.agg [nI i53, .sl l54, .sl l55, nI i56, nI i57]] (nB b58) ∧
 ITE (!b58)
 (R (.tup [nS (⟨#[]⟩ : ByteArray), nI 1]))
 (∃ (S59 : AV → List AObj → Prop),
 HFn Tryd.prog 40 [.agg [.ptr 0 0], .agg [nI i53, .sl l54, .sl l55, nI i56, nI i57]] [.bld 1 (List.length z51.2.2.1), .row 5 1 z51.2.2.1] S59 ∧
 ∀ (r60 : AV) (q61 : List AObj), S59 r60 q61 →
 ∃ (l62 : List AV),
 (r60 = .tup [] ∧ q61 = [.bld 1 (List.length l62), .row 5 1 l62]) ∧
 List.length l62 = List.length l62 ∧
 ag52 (((), z51.1.2.1, z51.1.2.2.1, IntKind.wrap .i64 (z51.1.2.2.2.1 + 1), ()), ((), l62, ((), ()), ()))))
 (∃ (S63 : AV → List AObj → Prop),
 HFn Tryd.prog 29 [.ptr 0 0] [.bld 1 (List.length z51.2.2.1), .row 5 1 z51.2.2.1] S63 ∧
 ∀ (r64 : AV) (q65 : List AObj), S63 r64 q65 →
 ∃ (s66 : ByteArray),
 (r64 = nS s66 ∧ q65 = [.dead, .dead]) ∧
 R (.tup [nS s66, nI 0]))
def vc20 (a0 : List AV) (R : AV → Prop) : Prop :=
 List.length ([] : List AV) = List.length ([] : List AV) ∧
 vc20_L3 (((), a0, ((List.length a0 : Nat) : Int), 0, ()), ((), [], ((), ()), ())) R
theorem vc20_ok {a0 : List AV} {R : AV → Prop} (h : vc20 a0 R) : Pure Tryd.prog 20 [.sl a0] R :=
 pure_of_code (C := cfg (Func.ntmps Tryd.f20) [] [sxVd3_0, sxVd3_1, sxVd3_2, sxVd3_3, sxVd3_4, sxVd3_5, sxVd3_6] []) (cfg_tab _ _ _ _ _) (cfg_ord _ _ _ _ _) (L := [{ key := 3, live := [(4, none), (10, none), (11, none), (12, none)] }]) (fn := Tryd.f20) Tryd.func20 (by exact rfl) (by kernel_rfl) (by kernel_rfl) (by rfl) (of_eq (by kernel_rfl) h)
def vc_itemT_L14 (p0 : (Unit × Unit × ((Unit × Unit) × Unit) × List AV × Int × Int × Unit) × (Unit × List AV × (Unit × Unit) × (Int × List AV × List AV × Int × Int × Unit) × (ByteArray × Int × Int × Int × Bool × Bool × Unit) × Unit)) (R : AV → List AObj → Prop) : Prop :=
 LoopP _ p0 fun z51 ag52 =>
 ITE (decide (z51.1.2.2.2.2.2.1 < z51.1.2.2.2.2.1))
 (0 ≤ z51.1.2.2.2.2.2.1 ∧
 z51.1.2.2.2.2.2.1 < List.length z51.1.2.2.2.1 ∧
 ∃ (i53 : Int) (s54 : ByteArray) (i55 : Int) (l56 : List AV),
 List.getD z51.1.2.2.2.1 (Int.toNat z51.1.2.2.2.2.2.1) .top = .agg [nI i53, nS s54, nI i55, .sl l56] ∧
 ITE (z51.1.2.2.2.2.2.1 == 0)
 (∃ (S57 : AV → List AObj → Prop),
 HFn Tryd.prog 46 [.ptr 0 0, nS (⟨#[58, 32]⟩ : ByteArray)] [.bld 1 (List.length z51.2.2.1), .row 5 1 z51.2.2.1] S57 ∧
 ∀ (r58 : AV) (q59 : List AObj), S57 r58 q59 →
 ∃ (l60 : List AV) (i61 : Int),
 (r58 = .tup [nI i61, .top] ∧ q59 = [.bld 1 (List.length l60), .row 5 1 l60]) ∧
 ∃ (S62 : AV → List AObj → Prop),
 HFn Tryd.prog 28 [.agg [.ptr 0 0], .agg [nI i53, nS s54, nI i55, .sl l56]] [.bld 1 (List.length l60), .row 5 1 l60] S62 ∧
 ∀ (r63 : AV) (q64 : List AObj), S62 r63 q64 →
 ∃ (l65 : List AV),
 (r63 = .tup [] ∧ q64 = [.bld 1 (List.length l65), .row 5 1 l65]) ∧
 List.length l65 = List.length l65 ∧
 28 = 28 ∧
 ag52 (((), (), (((), ()), ()), z51.1.2.2.2.1, z51.1.2.2.2.2.1, IntKind.wrap .i64 (z51.1.2.2.2.2.2.1 + 1), ()), ((), l65, ((), ()), (z51.2.2.2.2.1.1, z51.2.2.2.2.1.2.1, z51.2.2.2.2.1.2.2.1, z51.2.2.2.2.1.2.2.2.1, z51.2.2.2.2.1.2.2.2.2.1, ()), (z51.2.2.2.2.2.1.1, z51.2.2.2.2.2.1.2.1, z51.2.2.2.2.2.1.2.2.1, z51.2.2.2.2.2.1.2.2.2.1, z51.2.2.2.2.2.1.2.2.2.2.1, z51.2.2.2.2.2.1.2.2.2.2.2.1, ()), ())))
 (ITE (z51.2.2.2.2.1.1 == 5)
 (∃ (S66 : AV → List AObj → Prop),
 HFn Tryd.prog 46 [.ptr 0 0, nS (⟨#[32, 62, 32]⟩ : ByteArray)] [.bld 1 (List.length z51.2.2.1), .row 5 1 z51.2.2.1] S66 ∧
 ∀ (r67 : AV) (q68 : List AObj), S66 r67 q68 →
 ∃ (l69 : List AV) (i70 : Int),
 (r67 = .tup [nI i70, .top] ∧ q68 = [.bld 1 (List.length l69), .row 5 1 l69]) ∧
 ∃ (S71 : AV → List AObj → Prop),
 HFn Tryd.prog 28 [.agg [.ptr 0 0], .agg [nI i53, nS s54, nI i55, .sl l56]] [.bld 1 (List.length l69), .row 5 1 l69] S71 ∧
 ∀ (r72 : AV) (q73 : List AObj), S71 r72 q73 →
 ∃ (l74 : List AV),
 (r72 = .tup [] ∧ q73 = [.bld 1 (List.length l74), .row 5 1 l74]) ∧
 List.length l74 = List.length l74 ∧
 28 = 28 ∧
 ag52 (((), (), (((), ()), ()), z51.1.2.2.2.1, z51.1.2.2.2.2.1, IntKind.wrap .i64 (z51.1.2.2.2.2.2.1 + 1), ()), ((), l74, ((), ()), (z51.2.2.2.2.1.1, z51.2.2.2.2.1.2.1, z51.2.2.2.2.1.2.2.1, z51.2.2.2.2.1.2.2.2.1, z51.2.2.2.2.1.2.2.2.2.1, ()), (z51.2.2.2.2.2.1.1, z51.2.2.2.2.2.1.2.1, z51.2.2.2.2.2.1.2.2.1, z51.2.2.2.2.2.1.2.2.2.1, z51.2.2.2.2.2.1.2.2.2.2.1, z51.2.2.2.2.2.1.2.2.2.2.2.1, ()), ())))
 (∃ (S75 : AV → List AObj → Prop),
 HFn Tryd.prog 46 [.ptr 0 0, nS (⟨#[32, 61, 32]⟩ : ByteArray)] [.bld 1 (List.length z51.2.2.1), .row 5 1 z51.2.2.1] S75 ∧
 ∀ (r76 : AV) (q77 : List AObj), S75 r76 q77 →
 ∃ (l78 : List AV) (i79 : Int),
 (r76 = .tup [nI i79, .top] ∧ q77 = [.bld 1 (List.length l78), .row 5 1 l78]) ∧
 ∃ (S80 : AV → List AObj → Prop),
 HFn Tryd.prog 28 [.agg [.ptr 0 0], .agg [nI i53, nS s54, nI i55, .sl l56]] [.bld 1 (List.length l78), .row 5 1 l78] S80 ∧
 ∀ (r81 : AV) (q82 : List AObj), S80 r81 q82 →
 ∃ (l83 : List AV),
 (r81 = .tup [] ∧ q82 = [.bld 1 (List.length l83), .row 5 1 l83]) ∧
 List.length l83 = List.length l83 ∧
 28 = 28 ∧
 ag52 (((), (), (((), ()), ()), z51.1.2.2.2.1, z51.1.2.2.2.2.1, IntKind.wrap .i64 (z51.1.2.2.2.2.2.1 + 1), ()), ((), l83, ((), ()), (z51.2.2.2.2.1.1, z51.2.2.2.2.1.2.1, z51.2.2.2.2.1.2.2.1, z51.2.2.2.2.1.2.2.2.1, z51.2.2.2.2.1.2.2.2.2.1, ()), (z51.2.2.2.2.2.1.1, z51.2.2.2.2.2.1.2.1, z51.2.2.2.2.2.1.2.2.1, z51.2.2.2.2.2.1.2.2.2.1, z51.2.2.2.2.2.1.2.2.2.2.1, z51.2.2.2.2.2.1.2.2.2.2.2.1, ()), ())))))
 (∃ (S84 : AV → List AObj → Prop),
 HFn Tryd.prog 46 [.ptr 0 0, nS (⟨#[59, 10]⟩ : ByteArray)] [.bld 1 (List.length z51.2.2.1), .row 5 1 z51.2.2.1] S84 ∧
 ∀ (r85 : AV) (q86 : List AObj), S84 r85 q86 →
 ∃ (l87 : List AV) (i88 : Int),
 (r85 = .tup [nI i88, .top] ∧ q86 = [.bld 1 (List.length l87), .row 5 1 l87]) ∧
 R (.tup []) [.bld 1 (List.length l87), .row 5 1 l87])
def vc_itemT (us : List AV) (a1_0 : Int) (a1_1 a1_2 : List AV) (a1_3 a1_4 : Int) (R : AV → List AObj → Prop) : Prop :=
 ∃ (s1 : ByteArray) (i2 i3 i4 : Int) (b5 b6 b7 : Bool),
 PureIs Tryd.prog 35 [nI a1_0] (.tup [.agg [nS s1, nI i2, nI i3, nI i4, nB b5, nB b6], nB b7]) ∧
 ∃ (S10 : AV → List AObj → Prop),
 HFn Tryd.prog 46 [.ptr 0 0, nS s1] [.bld 1 (List.length us), .row 5 1 us] S10 ∧
 ∀ (r8 : AV) (q9 : List AObj), S10 r8 q9 →
 ∃ (l11 : List AV) (i12 : Int),
 (r8 = .tup [nI i12, .top] ∧ q9 = [.bld 1 (List.length l11), .row 5 1 l11]) ∧
 ITE (a1_0 == 6)
 (ITE (decide (((List.length a1_1 : Nat) : Int) > 0))
 (∃ (s13 : ByteArray),
 PureIs Tryd.prog 54 [.sl a1_1, nS (⟨#[32, 62, 32]⟩ : ByteArray)] (nS s13) ∧
 ByteArray.size (⟨#[32]⟩ : ByteArray) + ByteArray.size s13 ≤ 9223372036854775807 ∧
 ∃ (S16 : AV → List AObj → Prop),
 HFn Tryd.prog 46 [.ptr 0 0, nS ((⟨#[32]⟩ : ByteArray) ++ s13)] [.bld 1 (List.length l11), .row 5 1 l11] S16 ∧
 ∀ (r14 : AV) (q15 : List AObj), S16 r14 q15 →
 ∃ (l17 : List AV) (i18 : Int),
 (r14 = .tup [nI i18, .top] ∧ q15 = [.bld 1 (List.length l17), .row 5 1 l17]) ∧
 ITE b6
 (∃ (s19 : ByteArray),
 PureIs Tryd.prog 55 [nI a1_3] (nS s19) ∧
 ByteArray.size (⟨#[32]⟩ : ByteArray) + ByteArray.size s19 ≤ 9223372036854775807 ∧
 ∃ (S22 : AV → List AObj → Prop),
 HFn Tryd.prog 46 [.ptr 0 0, nS ((⟨#[32]⟩ : ByteArray) ++ s19)] [.bld 1 (List.length l17), .row 5 1 l17] S22 ∧
 ∀ (r20 : AV) (q21 : List AObj), S22 r20 q21 →
 ∃ (l23 : List AV) (i24 : Int),
 (r20 = .tup [nI i24, .top] ∧ q21 = [.bld 1 (List.length l23), .row 5 1 l23]) ∧
 ITE b5
 (List.length l23 = List.length l23 ∧
 28 = 28 ∧
 vc_itemT_L14 (((), (), (((), ()), ()), a1_2, ((List.length a1_2 : Nat) : Int), 0, ()), ((), l23, ((), ()), (a1_0, a1_1, a1_2, a1_3, a1_4, ()), (s1, i2, i3, i4, b5, b6, ()), ())) R)
 (List.length l23 = List.length l23 ∧
 30 = 28 ∧
 vc_itemT_L14 (((), (), (((), ()), ()), a1_2, ((List.length a1_2 : Nat) : Int), 0, ()), ((), l23, ((), ()), (a1_0, a1_1, a1_2, a1_3, a1_4, ()), (s1, i2, i3, i4, b5, b6, ()), ())) R))
 (ITE b5
 (List.length l17 = List.length l17 ∧
 28 = 28 ∧
 vc_itemT_L14 (((), (), (((), ()), ()), a1_2, ((List.length a1_2 : Nat) : Int), 0, ()), ((), l17, ((), ()), (a1_0, a1_1, a1_2, a1_3, a1_4, ()), (s1, i2, i3, i4, b5, b6, ()), ())) R)
 (List.length l17 = List.length l17 ∧
 30 = 28 ∧
 vc_itemT_L14 (((), (), (((), ()), ()), a1_2, ((List.length a1_2 : Nat) : Int), 0, ()), ((), l17, ((), ()), (a1_0, a1_1, a1_2, a1_3, a1_4, ()), (s1, i2, i3, i4, b5, b6, ()), ())) R)))
 (ITE b6
 (∃ (s177 : ByteArray),
 PureIs Tryd.prog 55 [nI a1_3] (nS s177) ∧
 ByteArray.size (⟨#[32]⟩ : ByteArray) + ByteArray.size s177 ≤ 9223372036854775807 ∧
 ∃ (S180 : AV → List AObj → Prop),
 HFn Tryd.prog 46 [.ptr 0 0, nS ((⟨#[32]⟩ : ByteArray) ++ s177)] [.bld 1 (List.length l11), .row 5 1 l11] S180 ∧
 ∀ (r178 : AV) (q179 : List AObj), S180 r178 q179 →
 ∃ (l181 : List AV) (i182 : Int),
 (r178 = .tup [nI i182, .top] ∧ q179 = [.bld 1 (List.length l181), .row 5 1 l181]) ∧
 ITE b5
 (List.length l181 = List.length l181 ∧
 28 = 28 ∧
 vc_itemT_L14 (((), (), (((), ()), ()), a1_2, ((List.length a1_2 : Nat) : Int), 0, ()), ((), l181, ((), ()), (a1_0, a1_1, a1_2, a1_3, a1_4, ()), (s1, i2, i3, i4, b5, b6, ()), ())) R)
 (List.length l181 = List.length l181 ∧
 30 = 28 ∧
 vc_itemT_L14 (((), (), (((), ()), ()), a1_2, ((List.length a1_2 : Nat) : Int), 0, ()), ((), l181, ((), ()), (a1_0, a1_1, a1_2, a1_3, a1_4, ()), (s1, i2, i3, i4, b5, b6, ()), ())) R))
 (ITE b5
 (List.length l11 = List.length l11 ∧
 28 = 28 ∧
 vc_itemT_L14 (((), (), (((), ()), ()), a1_2, ((List.length a1_2 : Nat) : Int), 0, ()), ((), l11, ((), ()), (a1_0, a1_1, a1_2, a1_3, a1_4, ()), (s1, i2, i3, i4, b5, b6, ()), ())) R)
 (List.length l11 = List.length l11 ∧
 30 = 28 ∧
 vc_itemT_L14 (((), (), (((), ()), ()), a1_2, ((List.length a1_2 : Nat) : Int), 0, ()), ((), l11, ((), ()), (a1_0, a1_1, a1_2, a1_3, a1_4, ()), (s1, i2, i3, i4, b5, b6, ()), ())) R))))
 (ITE (decide (((List.length a1_1 : Nat) : Int) > 0))
 (∃ (s335 : ByteArray),
 PureIs Tryd.prog 54 [.sl a1_1, nS (⟨#[32]⟩ : ByteArray)] (nS s335) ∧
 ByteArray.size (⟨#[32]⟩ : ByteArray) + ByteArray.size s335 ≤ 9223372036854775807 ∧
 ∃ (S338 : AV → List AObj → Prop),
 HFn Tryd.prog 46 [.ptr 0 0, nS ((⟨#[32]⟩ : ByteArray) ++ s335)] [.bld 1 (List.length l11), .row 5 1 l11] S338 ∧
 ∀ (r336 : AV) (q337 : List AObj), S338 r336 q337 →
 ∃ (l339 : List AV) (i340 : Int),
 (r336 = .tup [nI i340, .top] ∧ q337 = [.bld 1 (List.length l339), .row 5 1 l339]) ∧
 ITE b6
 (∃ (s341 : ByteArray),
 PureIs Tryd.prog 55 [nI a1_3] (nS s341) ∧
 ByteArray.size (⟨#[32]⟩ : ByteArray) + ByteArray.size s341 ≤ 9223372036854775807 ∧
 ∃ (S344 : AV → List AObj → Prop),
 HFn Tryd.prog 46 [.ptr 0 0, nS ((⟨#[32]⟩ : ByteArray) ++ s341)] [.bld 1 (List.length l339), .row 5 1 l339] S344 ∧
 ∀ (r342 : AV) (q343 : List AObj), S344 r342 q343 →
 ∃ (l345 : List AV) (i346 : Int),
 (r342 = .tup [nI i346, .top] ∧ q343 = [.bld 1 (List.length l345), .row 5 1 l345]) ∧
 ITE b5
 (List.length l345 = List.length l345 ∧
 28 = 28 ∧
 vc_itemT_L14 (((), (), (((), ()), ()), a1_2, ((List.length a1_2 : Nat) : Int), 0, ()), ((), l345, ((), ()), (a1_0, a1_1, a1_2, a1_3, a1_4, ()), (s1, i2, i3, i4, b5, b6, ()), ())) R)
 (List.length l345 = List.length l345 ∧
 30 = 28 ∧
 vc_itemT_L14 (((), (), (((), ()), ()), a1_2, ((List.length a1_2 : Nat) : Int), 0, ()), ((), l345, ((), ()), (a1_0, a1_1, a1_2, a1_3, a1_4, ()), (s1, i2, i3, i4, b5, b6, ()), ())) R))
 (ITE b5
 (List.length l339 = List.length l339 ∧
 28 = 28 ∧
 vc_itemT_L14 (((), (), (((), ()), ()), a1_2, ((List.length a1_2 : Nat) : Int), 0, ()), ((), l339, ((), ()), (a1_0, a1_1, a1_2, a1_3, a1_4, ()), (s1, i2, i3, i4, b5, b6, ()), ())) R)
 (List.length l339 = List.length l339 ∧
 30 = 28 ∧
 vc_itemT_L14 (((), (), (((), ()), ()), a1_2, ((List.length a1_2 : Nat) : Int), 0, ()), ((), l339, ((), ()), (a1_0, a1_1, a1_2, a1_3, a1_4, ()), (s1, i2, i3, i4, b5, b6, ()), ())) R)))
 (ITE b6
 (∃ (s499 : ByteArray),
 PureIs Tryd.prog 55 [nI a1_3] (nS s499) ∧
 ByteArray.size (⟨#[32]⟩ : ByteArray) + ByteArray.size s499 ≤ 9223372036854775807 ∧
 ∃ (S502 : AV → List AObj → Prop),
 HFn Tryd.prog 46 [.ptr 0 0, nS ((⟨#[32]⟩ : ByteArray) ++ s499)] [.bld 1 (List.length l11), .row 5 1 l11] S502 ∧
 ∀ (r500 : AV) (q501 : List AObj), S502 r500 q501 →
 ∃ (l503 : List AV) (i504 : Int),
 (r500 = .tup [nI i504, .top] ∧ q501 = [.bld 1 (List.length l503), .row 5 1 l503]) ∧
 ITE b5
 (List.length l503 = List.length l503 ∧
 28 = 28 ∧
 vc_itemT_L14 (((), (), (((), ()), ()), a1_2, ((List.length a1_2 : Nat) : Int), 0, ()), ((), l503, ((), ()), (a1_0, a1_1, a1_2, a1_3, a1_4, ()), (s1, i2, i3, i4, b5, b6, ()), ())) R)
 (List.length l503 = List.length l503 ∧
 30 = 28 ∧
 vc_itemT_L14 (((), (), (((), ()), ()), a1_2, ((List.length a1_2 : Nat) : Int), 0, ()), ((), l503, ((), ()), (a1_0, a1_1, a1_2, a1_3, a1_4, ()), (s1, i2, i3, i4, b5, b6, ()), ())) R))
 (ITE b5
 (List.length l11 = List.length l11 ∧
 28 = 28 ∧
 vc_itemT_L14 (((), (), (((), ()), ()), a1_2, ((List.length a1_2 : Nat) : Int), 0, ()), ((), l11, ((), ()), (a1_0, a1_1, a1_2, a1_3, a1_4, ()), (s1, i2, i3, i4, b5, b6, ()), ())) R)
 (List.length l11 = List.length l11 ∧
 30 = 28 ∧
 vc_itemT_L14 (((), (), (((), ()), ()), a1_2, ((List.length a1_2 : Nat) : Int), 0, ()), ((), l11, ((), ()), (a1_0, a1_1, a1_2, a1_3, a1_4, ()), (s1, i2, i3, i4, b5, b6, ()), ())) R))))
theorem vc_itemT_ok {us : List AV} {a1_0 : Int} {a1_1 a1_2 : List AV} {a1_3 a1_4 : Int} {R : AV → List AObj → Prop} (h : vc_itemT us a1_0 a1_1 a1_2 a1_3 a1_4 R) : HFn Tryd.prog 40 [.agg [.ptr 0 0], .agg [nI a1_0, .sl a1_1, .sl a1_2, nI a1_3, nI a1_4]] [.bld 1 (List.length us), .row 5 1 us] R :=
 heap_of_code (C := cfg (Func.ntmps Tryd.f40) [] [sxVd3_0, sxVd3_1, sxVd3_2, sxVd3_3, sxVd3_4, sxVd3_5, sxVd3_6] [(7, [46]), (9, [46])]) (cfg_tab _ _ _ _ _) (cfg_ord _ _ _ _ _) (L := [{ key := 14, live := [(2, none), (3, none), (7, some (.m 28 [.a [.k (.ptr 0 0)]])), (52, none), (53, none), (54, none)] }]) (fn := Tryd.f40) Tryd.func40 (by exact rfl) (by kernel_rfl) (by kernel_rfl) (by rfl) (of_eq (by kernel_rfl) h)
def vc_itemM_L14 (p0 : (Unit × Unit × ((Unit × Unit) × Unit) × List AV × Int × Int × Unit) × (Unit × List AV × (Unit × Unit) × (Int × List AV × List AV × Int × Int × Unit) × (ByteArray × Int × Int × Int × Bool × Bool × Unit) × Unit)) (R : AV → List AObj → Prop) : Prop :=
 LoopP _ p0 fun z51 ag52 =>
 ITE (decide (z51.1.2.2.2.2.2.1 < z51.1.2.2.2.2.1))
 (0 ≤ z51.1.2.2.2.2.2.1 ∧
 z51.1.2.2.2.2.2.1 < List.length z51.1.2.2.2.1 ∧
 ∃ (i53 : Int) (s54 : ByteArray) (i55 : Int) (l56 : List AV),
 List.getD z51.1.2.2.2.1 (Int.toNat z51.1.2.2.2.2.2.1) .top = .agg [nI i53, nS s54, nI i55, .sl l56] ∧
 ITE (z51.1.2.2.2.2.2.1 == 0)
 (∃ (S57 : AV → List AObj → Prop),
 HFn Tryd.prog 46 [.ptr 0 0, nS (⟨#[58, 32]⟩ : ByteArray)] [.bld 1 (List.length z51.2.2.1), .row 5 1 z51.2.2.1] S57 ∧
 ∀ (r58 : AV) (q59 : List AObj), S57 r58 q59 →
 ∃ (l60 : List AV) (i61 : Int),
 (r58 = .tup [nI i61, .top] ∧ q59 = [.bld 1 (List.length l60), .row 5 1 l60]) ∧
 ∃ (S62 : AV → List AObj → Prop),
 HFn Tryd.prog 30 [.agg [.ptr 0 0], .agg [nI i53, nS s54, nI i55, .sl l56]] [.bld 1 (List.length l60), .row 5 1 l60] S62 ∧
 ∀ (r63 : AV) (q64 : List AObj), S62 r63 q64 →
 ∃ (l65 : List AV),
 (r63 = .tup [] ∧ q64 = [.bld 1 (List.length l65), .row 5 1 l65]) ∧
 List.length l65 = List.length l65 ∧
 30 = 30 ∧
 ag52 (((), (), (((), ()), ()), z51.1.2.2.2.1, z51.1.2.2.2.2.1, IntKind.wrap .i64 (z51.1.2.2.2.2.2.1 + 1), ()), ((), l65, ((), ()), (z51.2.2.2.2.1.1, z51.2.2.2.2.1.2.1, z51.2.2.2.2.1.2.2.1, z51.2.2.2.2.1.2.2.2.1, z51.2.2.2.2.1.2.2.2.2.1, ()), (z51.2.2.2.2.2.1.1, z51.2.2.2.2.2.1.2.1, z51.2.2.2.2.2.1.2.2.1, z51.2.2.2.2.2.1.2.2.2.1, z51.2.2.2.2.2.1.2.2.2.2.1, z51.2.2.2.2.2.1.2.2.2.2.2.1, ()), ())))
 (ITE (z51.2.2.2.2.1.1 == 5)
 (∃ (S66 : AV → List AObj → Prop),
 HFn Tryd.prog 46 [.ptr 0 0, nS (⟨#[32, 62, 32]⟩ : ByteArray)] [.bld 1 (List.length z51.2.2.1), .row 5 1 z51.2.2.1] S66 ∧
 ∀ (r67 : AV) (q68 : List AObj), S66 r67 q68 →
 ∃ (l69 : List AV) (i70 : Int),
 (r67 = .tup [nI i70, .top] ∧ q68 = [.bld 1 (List.length l69), .row 5 1 l69]) ∧
 ∃ (S71 : AV → List AObj → Prop),
 HFn Tryd.prog 30 [.agg [.ptr 0 0], .agg [nI i53, nS s54, nI i55, .sl l56]] [.bld 1 (List.length l69), .row 5 1 l69] S71 ∧
 ∀ (r72 : AV) (q73 : List AObj), S71 r72 q73 →
 ∃ (l74 : List AV),
 (r72 = .tup [] ∧ q73 = [.bld 1 (List.length l74), .row 5 1 l74]) ∧
 List.length l74 = List.length l74 ∧
 30 = 30 ∧
 ag52 (((), (), (((), ()), ()), z51.1.2.2.2.1, z51.1.2.2.2.2.1, IntKind.wrap .i64 (z51.1.2.2.2.2.2.1 + 1), ()), ((), l74, ((), ()), (z51.2.2.2.2.1.1, z51.2.2.2.2.1.2.1, z51.2.2.2.2.1.2.2.1, z51.2.2.2.2.1.2.2.2.1, z51.2.2.2.2.1.2.2.2.2.1, ()), (z51.2.2.2.2.2.1.1, z51.2.2.2.2.2.1.2.1, z51.2.2.2.2.2.1.2.2.1, z51.2.2.2.2.2.1.2.2.2.1, z51.2.2.2.2.2.1.2.2.2.2.1, z51.2.2.2.2.2.1.2.2.2.2.2.1, ()), ())))
 (∃ (S75 : AV → List AObj → Prop),
 HFn Tryd.prog 46 [.ptr 0 0, nS (⟨#[32, 61, 32]⟩ : ByteArray)] [.bld 1 (List.length z51.2.2.1), .row 5 1 z51.2.2.1] S75 ∧
 ∀ (r76 : AV) (q77 : List AObj), S75 r76 q77 →
 ∃ (l78 : List AV) (i79 : Int),
 (r76 = .tup [nI i79, .top] ∧ q77 = [.bld 1 (List.length l78), .row 5 1 l78]) ∧
 ∃ (S80 : AV → List AObj → Prop),
 HFn Tryd.prog 30 [.agg [.ptr 0 0], .agg [nI i53, nS s54, nI i55, .sl l56]] [.bld 1 (List.length l78), .row 5 1 l78] S80 ∧
 ∀ (r81 : AV) (q82 : List AObj), S80 r81 q82 →
 ∃ (l83 : List AV),
 (r81 = .tup [] ∧ q82 = [.bld 1 (List.length l83), .row 5 1 l83]) ∧
 List.length l83 = List.length l83 ∧
 30 = 30 ∧
 ag52 (((), (), (((), ()), ()), z51.1.2.2.2.1, z51.1.2.2.2.2.1, IntKind.wrap .i64 (z51.1.2.2.2.2.2.1 + 1), ()), ((), l83, ((), ()), (z51.2.2.2.2.1.1, z51.2.2.2.2.1.2.1, z51.2.2.2.2.1.2.2.1, z51.2.2.2.2.1.2.2.2.1, z51.2.2.2.2.1.2.2.2.2.1, ()), (z51.2.2.2.2.2.1.1, z51.2.2.2.2.2.1.2.1, z51.2.2.2.2.2.1.2.2.1, z51.2.2.2.2.2.1.2.2.2.1, z51.2.2.2.2.2.1.2.2.2.2.1, z51.2.2.2.2.2.1.2.2.2.2.2.1, ()), ())))))
 (∃ (S84 : AV → List AObj → Prop),
 HFn Tryd.prog 46 [.ptr 0 0, nS (⟨#[59, 10]⟩ : ByteArray)] [.bld 1 (List.length z51.2.2.1), .row 5 1 z51.2.2.1] S84 ∧
 ∀ (r85 : AV) (q86 : List AObj), S84 r85 q86 →
 ∃ (l87 : List AV) (i88 : Int),
 (r85 = .tup [nI i88, .top] ∧ q86 = [.bld 1 (List.length l87), .row 5 1 l87]) ∧
 R (.tup []) [.bld 1 (List.length l87), .row 5 1 l87])
def vc_itemM (us : List AV) (a1_0 : Int) (a1_1 a1_2 : List AV) (a1_3 a1_4 : Int) (R : AV → List AObj → Prop) : Prop :=
 ∃ (s1 : ByteArray) (i2 i3 i4 : Int) (b5 b6 b7 : Bool),
 PureIs Tryd.prog 35 [nI a1_0] (.tup [.agg [nS s1, nI i2, nI i3, nI i4, nB b5, nB b6], nB b7]) ∧
 ∃ (S10 : AV → List AObj → Prop),
 HFn Tryd.prog 46 [.ptr 0 0, nS s1] [.bld 1 (List.length us), .row 5 1 us] S10 ∧
 ∀ (r8 : AV) (q9 : List AObj), S10 r8 q9 →
 ∃ (l11 : List AV) (i12 : Int),
 (r8 = .tup [nI i12, .top] ∧ q9 = [.bld 1 (List.length l11), .row 5 1 l11]) ∧
 ITE (a1_0 == 6)
 (ITE (decide (((List.length a1_1 : Nat) : Int) > 0))
 (∃ (s13 : ByteArray),
 PureIs Tryd.prog 54 [.sl a1_1, nS (⟨#[32, 62, 32]⟩ : ByteArray)] (nS s13) ∧
 ByteArray.size (⟨#[32]⟩ : ByteArray) + ByteArray.size s13 ≤ 9223372036854775807 ∧
 ∃ (S16 : AV → List AObj → Prop),
 HFn Tryd.prog 46 [.ptr 0 0, nS ((⟨#[32]⟩ : ByteArray) ++ s13)] [.bld 1 (List.length l11), .row 5 1 l11] S16 ∧
 ∀ (r14 : AV) (q15 : List AObj), S16 r14 q15 →
 ∃ (l17 : List AV) (i18 : Int),
 (r14 = .tup [nI i18, .top] ∧ q15 = [.bld 1 (List.length l17), .row 5 1 l17]) ∧
 ITE b6
 (∃ (s19 : ByteArray),
 PureIs Tryd.prog 55 [nI a1_3] (nS s19) ∧
 ByteArray.size (⟨#[32]⟩ : ByteArray) + ByteArray.size s19 ≤ 9223372036854775807 ∧
 ∃ (S22 : AV → List AObj → Prop),
 HFn Tryd.prog 46 [.ptr 0 0, nS ((⟨#[32]⟩ : ByteArray) ++ s19)] [.bld 1 (List.length l17), .row 5 1 l17] S22 ∧
 ∀ (r20 : AV) (q21 : List AObj), S22 r20 q21 →
 ∃ (l23 : List AV) (i24 : Int),
 (r20 = .tup [nI i24, .top] ∧ q21 = [.bld 1 (List.length l23), .row 5 1 l23]) ∧
 ITE b5
 (List.length l23 = List.length l23 ∧
 28 = 30 ∧
 vc_itemM_L14 (((), (), (((), ()), ()), a1_2, ((List.length a1_2 : Nat) : Int), 0, ()), ((), l23, ((), ()), (a1_0, a1_1, a1_2, a1_3, a1_4, ()), (s1, i2, i3, i4, b5, b6, ()), ())) R)
 (List.length l23 = List.length l23 ∧
 30 = 30 ∧
 vc_itemM_L14 (((), (), (((), ()), ()), a1_2, ((List.length a1_2 : Nat) : Int), 0, ()), ((), l23, ((), ()), (a1_0, a1_1, a1_2, a1_3, a1_4, ()), (s1, i2, i3, i4, b5, b6, ()), ())) R))
 (ITE b5
 (List.length l17 = List.length l17 ∧
 28 = 30 ∧
 vc_itemM_L14 (((), (), (((), ()), ()), a1_2, ((List.length a1_2 : Nat) : Int), 0, ()), ((), l17, ((), ()), (a1_0, a1_1, a1_2, a1_3, a1_4, ()), (s1, i2, i3, i4, b5, b6, ()), ())) R)
 (List.length l17 = List.length l17 ∧
 30 = 30 ∧
 vc_itemM_L14 (((), (), (((), ()), ()), a1_2, ((List.length a1_2 : Nat) : Int), 0, ()), ((), l17, ((), ()), (a1_0, a1_1, a1_2, a1_3, a1_4, ()), (s1, i2, i3, i4, b5, b6, ()), ())) R)))
 (ITE b6
 (∃ (s177 : ByteArray),
 PureIs Tryd.prog 55 [nI a1_3] (nS s177) ∧
 ByteArray.size (⟨#[32]⟩ : ByteArray) + ByteArray.size s177 ≤ 9223372036854775807 ∧
 ∃ (S180 : AV → List AObj → Prop),
 HFn Tryd.prog 46 [.ptr 0 0, nS ((⟨#[32]⟩ : ByteArray) ++ s177)] [.bld 1 (List.length l11), .row 5 1 l11] S180 ∧
 ∀ (r178 : AV) (q179 : List AObj), S180 r178 q179 →
 ∃ (l181 : List AV) (i182 : Int),
 (r178 = .tup [nI i182, .top] ∧ q179 = [.bld 1 (List.length l181), .row 5 1 l181]) ∧
 ITE b5
 (List.length l181 = List.length l181 ∧
 28 = 30 ∧
 vc_itemM_L14 (((), (), (((), ()), ()), a1_2, ((List.length a1_2 : Nat) : Int), 0, ()), ((), l181, ((), ()), (a1_0, a1_1, a1_2, a1_3, a1_4, ()), (s1, i2, i3, i4, b5, b6, ()), ())) R)
 (List.length l181 = List.length l181 ∧
 30 = 30 ∧
 vc_itemM_L14 (((), (), (((), ()), ()), a1_2, ((List.length a1_2 : Nat) : Int), 0, ()), ((), l181, ((), ()), (a1_0, a1_1, a1_2, a1_3, a1_4, ()), (s1, i2, i3, i4, b5, b6, ()), ())) R))
 (ITE b5
 (List.length l11 = List.length l11 ∧
 28 = 30 ∧
 vc_itemM_L14 (((), (), (((), ()), ()), a1_2, ((List.length a1_2 : Nat) : Int), 0, ()), ((), l11, ((), ()), (a1_0, a1_1, a1_2, a1_3, a1_4, ()), (s1, i2, i3, i4, b5, b6, ()), ())) R)
 (List.length l11 = List.length l11 ∧
 30 = 30 ∧
 vc_itemM_L14 (((), (), (((), ()), ()), a1_2, ((List.length a1_2 : Nat) : Int), 0, ()), ((), l11, ((), ()), (a1_0, a1_1, a1_2, a1_3, a1_4, ()), (s1, i2, i3, i4, b5, b6, ()), ())) R))))
 (ITE (decide (((List.length a1_1 : Nat) : Int) > 0))
 (∃ (s335 : ByteArray),
 PureIs Tryd.prog 54 [.sl a1_1, nS (⟨#[32]⟩ : ByteArray)] (nS s335) ∧
 ByteArray.size (⟨#[32]⟩ : ByteArray) + ByteArray.size s335 ≤ 9223372036854775807 ∧
 ∃ (S338 : AV → List AObj → Prop),
 HFn Tryd.prog 46 [.ptr 0 0, nS ((⟨#[32]⟩ : ByteArray) ++ s335)] [.bld 1 (List.length l11), .row 5 1 l11] S338 ∧
 ∀ (r336 : AV) (q337 : List AObj), S338 r336 q337 →
 ∃ (l339 : List AV) (i340 : Int),
 (r336 = .tup [nI i340, .top] ∧ q337 = [.bld 1 (List.length l339), .row 5 1 l339]) ∧
 ITE b6
 (∃ (s341 : ByteArray),
 PureIs Tryd.prog 55 [nI a1_3] (nS s341) ∧
 ByteArray.size (⟨#[32]⟩ : ByteArray) + ByteArray.size s341 ≤ 9223372036854775807 ∧
 ∃ (S344 : AV → List AObj → Prop),
 HFn Tryd.prog 46 [.ptr 0 0, nS ((⟨#[32]⟩ : ByteArray) ++ s341)] [.bld 1 (List.length l339), .row 5 1 l339] S344 ∧
 ∀ (r342 : AV) (q343 : List AObj), S344 r342 q343 →
 ∃ (l345 : List AV) (i346 : Int),
 (r342 = .tup [nI i346, .top] ∧ q343 = [.bld 1 (List.length l345), .row 5 1 l345]) ∧
 ITE b5
 (List.length l345 = List.length l345 ∧
 28 = 30 ∧
 vc_itemM_L14 (((), (), (((), ()), ()), a1_2, ((List.length a1_2 : Nat) : Int), 0, ()), ((), l345, ((), ()), (a1_0, a1_1, a1_2, a1_3, a1_4, ()), (s1, i2, i3, i4, b5, b6, ()), ())) R)
 (List.length l345 = List.length l345 ∧
 30 = 30 ∧
 vc_itemM_L14 (((), (), (((), ()), ()), a1_2, ((List.length a1_2 : Nat) : Int), 0, ()), ((), l345, ((), ()), (a1_0, a1_1, a1_2, a1_3, a1_4, ()), (s1, i2, i3, i4, b5, b6, ()), ())) R))
 (ITE b5
 (List.length l339 = List.length l339 ∧
 28 = 30 ∧
 vc_itemM_L14 (((), (), (((), ()), ()), a1_2, ((List.length a1_2 : Nat) : Int), 0, ()), ((), l339, ((), ()), (a1_0, a1_1, a1_2, a1_3, a1_4, ()), (s1, i2, i3, i4, b5, b6, ()), ())) R)
 (List.length l339 = List.length l339 ∧
 30 = 30 ∧
 vc_itemM_L14 (((), (), (((), ()), ()), a1_2, ((List.length a1_2 : Nat) : Int), 0, ()), ((), l339, ((), ()), (a1_0, a1_1, a1_2, a1_3, a1_4, ()), (s1, i2, i3, i4, b5, b6, ()), ())) R)))
 (ITE b6
 (∃ (s499 : ByteArray),
 PureIs Tryd.prog 55 [nI a1_3] (nS s499) ∧
 ByteArray.size (⟨#[32]⟩ : ByteArray) + ByteArray.size s499 ≤ 9223372036854775807 ∧
 ∃ (S502 : AV → List AObj → Prop),
 HFn Tryd.prog 46 [.ptr 0 0, nS ((⟨#[32]⟩ : ByteArray) ++ s499)] [.bld 1 (List.length l11), .row 5 1 l11] S502 ∧
 ∀ (r500 : AV) (q501 : List AObj), S502 r500 q501 →
 ∃ (l503 : List AV) (i504 : Int),
 (r500 = .tup [nI i504, .top] ∧ q501 = [.bld 1 (List.length l503), .row 5 1 l503]) ∧
 ITE b5
 (List.length l503 = List.length l503 ∧
 28 = 30 ∧
 vc_itemM_L14 (((), (), (((), ()), ()), a1_2, ((List.length a1_2 : Nat) : Int), 0, ()), ((), l503, ((), ()), (a1_0, a1_1, a1_2, a1_3, a1_4, ()), (s1, i2, i3, i4, b5, b6, ()), ())) R)
 (List.length l503 = List.length l503 ∧
 30 = 30 ∧
 vc_itemM_L14 (((), (), (((), ()), ()), a1_2, ((List.length a1_2 : Nat) : Int), 0, ()), ((), l503, ((), ()), (a1_0, a1_1, a1_2, a1_3, a1_4, ()), (s1, i2, i3, i4, b5, b6, ()), ())) R))
 (ITE b5
 (List.length l11 = List.length l11 ∧
 28 = 30 ∧
 vc_itemM_L14 (((), (), (((), ()), ()), a1_2, ((List.length a1_2 : Nat) : Int), 0, ()), ((), l11, ((), ()), (a1_0, a1_1, a1_2, a1_3, a1_4, ()), (s1, i2, i3, i4, b5, b6, ()), ())) R)
 (List.length l11 = List.length l11 ∧
 30 = 30 ∧
 vc_itemM_L14 (((), (), (((), ()), ()), a1_2, ((List.length a1_2 : Nat) : Int), 0, ()), ((), l11, ((), ()), (a1_0, a1_1, a1_2, a1_3, a1_4, ()), (s1, i2, i3, i4, b5, b6, ()), ())) R))))
theorem vc_itemM_ok {us : List AV} {a1_0 : Int} {a1_1 a1_2 : List AV} {a1_3 a1_4 : Int} {R : AV → List AObj → Prop} (h : vc_itemM us a1_0 a1_1 a1_2 a1_3 a1_4 R) : HFn Tryd.prog 40 [.agg [.ptr 0 0], .agg [nI a1_0, .sl a1_1, .sl a1_2, nI a1_3, nI a1_4]] [.bld 1 (List.length us), .row 5 1 us] R :=
 heap_of_code (C := cfg (Func.ntmps Tryd.f40) [] [sxVd3_0, sxVd3_1, sxVd3_2, sxVd3_3, sxVd3_4, sxVd3_5, sxVd3_6] [(7, [46]), (9, [46])]) (cfg_tab _ _ _ _ _) (cfg_ord _ _ _ _ _) (L := [{ key := 14, live := [(2, none), (3, none), (7, some (.m 30 [.a [.k (.ptr 0 0)]])), (52, none), (53, none), (54, none)] }]) (fn := Tryd.f40) Tryd.func40 (by exact rfl) (by kernel_rfl) (by kernel_rfl) (by rfl) (of_eq (by kernel_rfl) h)
def vc4_L19 (p0 : (List AV × ByteArray × Int × ByteArray × Int × Unit) × (List AV × Unit)) (R : AV → Prop) : Prop :=
 LoopP _ p0 fun z51 ag52 =>
 ITE (decide (z51.1.2.2.2.2.1 < ((List.length z51.1.1 : Nat) : Int)))
 (0 ≤ z51.1.2.2.2.2.1 ∧
 z51.1.2.2.2.2.1 < List.length z51.1.1 ∧
 ∃ (i53 : Int) (l54 l55 : List AV) (i56 i57 : Int),
 List.getD z51.1.1 (Int.toNat z51.1.2.2.2.2.1) .top = .agg [nI i53, .sl l54, .sl l55, nI i56, nI i57] ∧
 ∃ (s58 : ByteArray),
 PureIs Tryd.prog 21 [.agg [nI i53, .sl l54, .sl l55, nI i56, nI i57]] (nS s58) ∧
 ByteArray.size z51.1.2.2.2.1 + ByteArray.size s58 ≤ 9223372036854775807 ∧
 ag52 ((z51.1.1, z51.1.2.1, z51.1.2.2.1, z51.1.2.2.2.1 ++ s58, IntKind.wrap .i64 (z51.1.2.2.2.2.1 + 1), ()), (z51.2.1, ())))
 (∃ (b59 : Bool),
 PureIs Tryd.prog 6 [] (nB b59) ∧
 ITE b59
 (ITE (z51.1.2.2.1 == 0)
 (R (nB (strEq z51.1.2.1 z51.1.2.2.2.1)))
 (R (nB false)))
 (R (nB false)))
def vc4_L5 (p0 : (List AV × Unit × Bool × Int × Unit) × (List AV × Unit)) (R : AV → Prop) : Prop :=
 LoopP _ p0 fun z51 ag52 =>
 ITE (decide (z51.1.2.2.2.1 < ((List.length z51.1.1 : Nat) : Int)))
 (0 ≤ z51.1.2.2.2.1 ∧
 z51.1.2.2.2.1 < List.length z51.1.1 ∧
 ∃ (i53 : Int) (l54 l55 : List AV) (i56 i57 : Int),
 List.getD z51.1.1 (Int.toNat z51.1.2.2.2.1) .top = .agg [nI i53, .sl l54, .sl l55, nI i56, nI i57] ∧
 ∃ (b58 : Bool),
 PureIs Tryd.prog 16 [.agg [nI i53, .sl l54, .sl l55, nI i56, nI i57], nI 60] (nB b58) ∧
 ITE (!b58)
 (∃ (b59 : Bool),
 PureIs Tryd.prog 6 [] (nB b59) ∧
 R (nB b59))
 (0 ≤ z51.1.2.2.2.1 ∧
 z51.1.2.2.2.1 < List.length z51.1.1 ∧
 ∃ (i60 : Int) (l61 l62 : List AV) (i63 i64 : Int),
 List.getD z51.1.1 (Int.toNat z51.1.2.2.2.1) .top = .agg [nI i60, .sl l61, .sl l62, nI i63, nI i64] ∧
 ∃ (i65 : Int) (l66 l67 : List AV) (i68 i69 : Int),
 PureIs Tryd.prog 17 [.agg [nI i60, .sl l61, .sl l62, nI i63, nI i64]] (.agg [nI i65, .sl l66, .sl l67, nI i68, nI i69]) ∧
 List.length z51.2.1 = List.length z51.2.1 ∧
 appOk td44 (List.length (z51.2.1 ++ [.agg [nI i65, .sl l66, .sl l67, nI i68, nI i69]])) [] [.agg [nI i65, .sl l66, .sl l67, nI i68, nI i69]] ∧
 ∃ (b70 : Bool),
 PureIs Tryd.prog 18 [.agg [nI i65, .sl l66, .sl l67, nI i68, nI i69]] (nB b70) ∧
 0 ≤ z51.1.2.2.2.1 ∧
 z51.1.2.2.2.1 < List.length z51.1.1 ∧
 ∃ (i71 : Int) (l72 l73 : List AV) (i74 i75 : Int),
 List.getD z51.1.1 (Int.toNat z51.1.2.2.2.1) .top = .agg [nI i71, .sl l72, .sl l73, nI i74, nI i75] ∧
 ∃ (b76 : Bool),
 PureIs Tryd.prog 19 [.agg [nI i71, .sl l72, .sl l73, nI i74, nI i75]] (nB b76) ∧
 ITE (!(b70 == b76))
 (R (nB false))
 (ITE z51.1.2.2.1
 (0 ≤ z51.1.2.2.2.1 ∧
 z51.1.2.2.2.1 < List.length z51.1.1 ∧
 ∃ (i77 : Int) (l78 l79 : List AV) (i80 i81 : Int),
 List.getD z51.1.1 (Int.toNat z51.1.2.2.2.1) .top = .agg [nI i77, .sl l78, .sl l79, nI i80, nI i81] ∧
 ∃ (b82 : Bool),
 PureIs Tryd.prog 19 [.agg [nI i77, .sl l78, .sl l79, nI i80, nI i81]] (nB b82) ∧
 List.length (z51.2.1 ++ [.agg [nI i65, .sl l66, .sl l67, nI i68, nI i69]]) = List.length (z51.2.1 ++ [.agg [nI i65, .sl l66, .sl l67, nI i68, nI i69]]) ∧
 ag52 ((z51.1.1, (), b82, IntKind.wrap .i64 (z51.1.2.2.2.1 + 1), ()), (z51.2.1 ++ [.agg [nI i65, .sl l66, .sl l67, nI i68, nI i69]], ())))
 (List.length (z51.2.1 ++ [.agg [nI i65, .sl l66, .sl l67, nI i68, nI i69]]) = List.length (z51.2.1 ++ [.agg [nI i65, .sl l66, .sl l67, nI i68, nI i69]]) ∧
 ag52 ((z51.1.1, (), false, IntKind.wrap .i64 (z51.1.2.2.2.1 + 1), ()), (z51.2.1 ++ [.agg [nI i65, .sl l66, .sl l67, nI i68, nI i69]], ()))))))
 (List.length z51.2.1 = List.length z51.2.1 ∧
 ∃ (s83 : ByteArray) (i84 : Int),
 PureIs Tryd.prog 20 [.sl z51.2.1] (.tup [nS s83, nI i84]) ∧
 ITE (!z51.1.2.2.1)
 (∃ (b85 : Bool),
 PureIs Tryd.prog 6 [] (nB b85) ∧
 ITE b85
 (ITE (i84 == 1)
 (R (nB (strEq s83 (⟨#[]⟩ : ByteArray))))
 (R (nB false)))
 (R (nB false)))
 (vc4_L19 ((z51.1.1, s83, i84, (⟨#[]⟩ : ByteArray), 0, ()), (z51.2.1, ())) R))
def vc4 (a0 : List AV) (R : AV → Prop) : Prop :=
 (0 ≤ (0 : Int) ∧ (0 : Int) ≤ (if 6 < ((List.length a0 : Nat) : Int) then 6 else ((List.length a0 : Nat) : Int)) ∧ (if 6 < ((List.length a0 : Nat) : Int) then 6 else ((List.length a0 : Nat) : Int)) ≤ List.length a0 ∧ (∀ y : AV, y ∈ a0 → List.length (AV.cells y) = 5)) ∧
 0 = List.length ([] : List AV) ∧
 vc4_L5 ((List.drop (Int.toNat 0) (List.take (Int.toNat (if 6 < ((List.length a0 : Nat) : Int) then 6 else ((List.length a0 : Nat) : Int))) a0), (), true, 0, ()), ([], ())) R
theorem vc4_ok {a0 : List AV} {R : AV → Prop} (h : vc4 a0 R) : Pure Tryd.prog 4 [.sl a0] R :=
 pure_of_code (C := cfg (Func.ntmps Tryd.f4)) (cfg_tab _ _ _ _ _) (cfg_ord _ _ _ _ _) (L := [{ key := 5, live := [(0, none), (3, none), (4, none), (5, none)], rows := [(3, 44)] }, { key := 19, live := [(0, none), (7, none), (8, none), (9, none), (10, none)] }]) (fn := Tryd.f4) Tryd.func4 (by exact rfl) (by kernel_rfl) (by kernel_rfl) (by rfl) (of_eq (by kernel_rfl) h)
def vc41 (a0 : Int) (R : AV → Prop) : Prop :=
 (0 ≤ a0 ∧ a0 < 13) ∧
 ITE (a0 == 0)
 (R (nS (⟨#[]⟩ : ByteArray)))
 (ITE (a0 == 1)
 (R (nS (⟨#[115, 111, 114, 116]⟩ : ByteArray)))
 (ITE (a0 == 2)
 (R (nS (⟨#[99, 111, 110, 115, 116]⟩ : ByteArray)))
 (ITE (a0 == 3)
 (R (nS (⟨#[118, 97, 114]⟩ : ByteArray)))
 (ITE (a0 == 4)
 (R (nS (⟨#[101, 113]⟩ : ByteArray)))
 (ITE (a0 == 5)
 (R (nS (⟨#[114, 117, 108, 101]⟩ : ByteArray)))
 (ITE (a0 == 6)
 (R (nS (⟨#[112, 114, 101, 99]⟩ : ByteArray)))
 (ITE (a0 == 7)
 (R (nS (⟨#[115, 116, 97, 116, 117, 115]⟩ : ByteArray)))
 (ITE (a0 == 8)
 (R (nS (⟨#[99, 111, 109, 112, 108, 101, 116, 101]⟩ : ByteArray)))
 (ITE (a0 == 9)
 (R (nS (⟨#[110, 111, 114, 109, 97, 108]⟩ : ByteArray)))
 (ITE (a0 == 10)
 (R (nS (⟨#[100, 101, 99, 105, 100, 101]⟩ : ByteArray)))
 (ITE (a0 == 11)
 (R (nS (⟨#[99, 111, 110, 102, 108, 117, 101, 110, 116]⟩ : ByteArray)))
 (R (nS (⟨#[99, 101, 114, 116, 105, 102, 121]⟩ : ByteArray))))))))))))))
theorem vc41_ok {a0 : Int} {R : AV → Prop} (h : vc41 a0 R) : Pure Tryd.prog 41 [nI a0] R :=
 pure_of_code (C := cfg (Func.ntmps Tryd.f41)) (cfg_tab _ _ _ _ _) (cfg_ord _ _ _ _ _) (L := []) (fn := Tryd.f41) Tryd.func41 (by exact rfl) (by kernel_rfl) (by kernel_rfl) (by rfl) (of_eq (by kernel_rfl) h)
end Go.Proofs.YtghnkppcncbddaaDoor
