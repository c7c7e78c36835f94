/- Texts of ours laid together for a claim: Vc9. -/
import Derived.Test.YtghlgbhldnkdmaaGreatQ40
namespace Go.Proofs.YtghlgbhldnkdmaaGreat
open Go
set_option linter.unusedSimpArgs false
set_option linter.unusedVariables false
set_option maxRecDepth 100000
def vc7_L3 (p0 : Int) (p1 p2 p3 : List AV) (p4 : Int) (p5 : List AV) (p6 p7 : Int) (p8 : List AV) (R : AV → Prop) : Prop :=
 ∃ (l50 : List AV) (i51 i52 : Int) (l53 : List AV) (i54 : Int),
 PureIs Tryz.prog 24 [.agg [nI p0, .sl p1, .sl p2], .sl p3, .agg [nI p4, .sl p5, nI p6, nI p7, .sl p8]] (.tup [.agg [.sl l50, nI i51, nI i52, .sl l53], nI i54]) ∧
 ITE (i54 != 0)
 (∃ (b64 : Bool),
 PureIs Tryz.prog 10 [] (nB b64) ∧
 ITE b64
 (∃ (i65 : Int),
 PureIs Tryz.prog 42 [.agg [.sl l50, nI i51, nI i52, .sl l53]] (nI i65) ∧
 R (nB (i65 == 1)))
 (R (nB false)))
 (∃ (l66 : List AV) (i67 i68 : Int),
 PureIs Tryz.prog 43 [.agg [nI p0, .sl p1, .sl p2], .sl p3, .agg [nI p4, .sl p5, nI p6, nI p7, .sl p8]] (.tup [.agg [.sl l66, nI i67], nI i68]) ∧
 ITE (i68 != 0)
 (R (nB false))
 (∃ (i69 : Int),
 PureIs Tryz.prog 32 [.agg [nI p0, .sl p1, .sl p2], .sl p3, .agg [.sl l50, nI i51, nI i52, .sl l53], .agg [.sl l66, nI i67]] (nI i69) ∧
 ITE (i69 != 0)
 (R (nB false))
 (∃ (i70 : Int) (l71 : List AV) (i72 i73 : Int) (l74 : List AV),
 PureIs Tryz.prog 39 [.agg [.sl l50, nI i51, nI i52, .sl l53]] (.agg [nI i70, .sl l71, nI i72, nI i73, .sl l74]) ∧
 ∃ (l75 : List AV) (i76 i77 : Int) (l78 : List AV) (i79 : Int),
 PureIs Tryz.prog 24 [.agg [nI p0, .sl p1, .sl p2], .sl p3, .agg [nI i70, .sl l71, nI i72, nI i73, .sl l74]] (.tup [.agg [.sl l75, nI i76, nI i77, .sl l78], nI i79]) ∧
 ITE (i79 == 0)
 (∃ (b80 : Bool),
 PureIs Tryz.prog 37 [.agg [.sl l75, nI i76, nI i77, .sl l78], .agg [.sl l50, nI i51, nI i52, .sl l53]] (nB b80) ∧
 ITE (!b80)
 (R (nB false))
 (ITE (i79 != 0)
 (ITE (i79 != 1)
 (ITE (i79 != 2)
 (R (nB false))
 (∃ (i81 : Int) (l82 : List AV) (i83 i84 : Int) (l85 : List AV) (b86 : Bool),
 PureIs Tryz.prog 44 [.agg [nI p4, .sl p5, nI p6, nI p7, .sl p8]] (.tup [.agg [nI i81, .sl l82, nI i83, nI i84, .sl l85], nB b86]) ∧
 ∃ (l87 : List AV) (i88 i89 : Int) (l90 : List AV) (i91 : Int),
 PureIs Tryz.prog 24 [.agg [nI p0, .sl p1, .sl p2], .sl p3, .agg [nI i81, .sl l82, nI i83, nI i84, .sl l85]] (.tup [.agg [.sl l87, nI i88, nI i89, .sl l90], nI i91]) ∧
 ∃ (b92 : Bool),
 PureIs Tryz.prog 10 [] (nB b92) ∧
 ITE b92
 (ITE (!b86)
 (R (nB true))
 (ITE (i91 != 0)
 (R (nB true))
 (∃ (b93 : Bool),
 PureIs Tryz.prog 37 [.agg [.sl l87, nI i88, nI i89, .sl l90], .agg [.sl l50, nI i51, nI i52, .sl l53]] (nB b93) ∧
 R (nB b93))))
 (R (nB false))))
 (∃ (i94 : Int) (l95 : List AV) (i96 i97 : Int) (l98 : List AV) (b99 : Bool),
 PureIs Tryz.prog 44 [.agg [nI p4, .sl p5, nI p6, nI p7, .sl p8]] (.tup [.agg [nI i94, .sl l95, nI i96, nI i97, .sl l98], nB b99]) ∧
 ∃ (l100 : List AV) (i101 i102 : Int) (l103 : List AV) (i104 : Int),
 PureIs Tryz.prog 24 [.agg [nI p0, .sl p1, .sl p2], .sl p3, .agg [nI i94, .sl l95, nI i96, nI i97, .sl l98]] (.tup [.agg [.sl l100, nI i101, nI i102, .sl l103], nI i104]) ∧
 ∃ (b105 : Bool),
 PureIs Tryz.prog 10 [] (nB b105) ∧
 ITE b105
 (ITE (!b99)
 (R (nB true))
 (ITE (i104 != 0)
 (R (nB true))
 (∃ (b106 : Bool),
 PureIs Tryz.prog 37 [.agg [.sl l100, nI i101, nI i102, .sl l103], .agg [.sl l50, nI i51, nI i52, .sl l53]] (nB b106) ∧
 R (nB b106))))
 (R (nB false))))
 (∃ (i107 : Int) (l108 : List AV) (i109 i110 : Int) (l111 : List AV) (b112 : Bool),
 PureIs Tryz.prog 44 [.agg [nI p4, .sl p5, nI p6, nI p7, .sl p8]] (.tup [.agg [nI i107, .sl l108, nI i109, nI i110, .sl l111], nB b112]) ∧
 ∃ (l113 : List AV) (i114 i115 : Int) (l116 : List AV) (i117 : Int),
 PureIs Tryz.prog 24 [.agg [nI p0, .sl p1, .sl p2], .sl p3, .agg [nI i107, .sl l108, nI i109, nI i110, .sl l111]] (.tup [.agg [.sl l113, nI i114, nI i115, .sl l116], nI i117]) ∧
 ∃ (b118 : Bool),
 PureIs Tryz.prog 10 [] (nB b118) ∧
 ITE b118
 (ITE (!b112)
 (R (nB true))
 (ITE (i117 != 0)
 (R (nB true))
 (∃ (b119 : Bool),
 PureIs Tryz.prog 37 [.agg [.sl l113, nI i114, nI i115, .sl l116], .agg [.sl l50, nI i51, nI i52, .sl l53]] (nB b119) ∧
 R (nB b119))))
 (R (nB false)))))
 (ITE (i79 != 0)
 (ITE (i79 != 1)
 (ITE (i79 != 2)
 (R (nB false))
 (∃ (i120 : Int) (l121 : List AV) (i122 i123 : Int) (l124 : List AV) (b125 : Bool),
 PureIs Tryz.prog 44 [.agg [nI p4, .sl p5, nI p6, nI p7, .sl p8]] (.tup [.agg [nI i120, .sl l121, nI i122, nI i123, .sl l124], nB b125]) ∧
 ∃ (l126 : List AV) (i127 i128 : Int) (l129 : List AV) (i130 : Int),
 PureIs Tryz.prog 24 [.agg [nI p0, .sl p1, .sl p2], .sl p3, .agg [nI i120, .sl l121, nI i122, nI i123, .sl l124]] (.tup [.agg [.sl l126, nI i127, nI i128, .sl l129], nI i130]) ∧
 ∃ (b131 : Bool),
 PureIs Tryz.prog 10 [] (nB b131) ∧
 ITE b131
 (ITE (!b125)
 (R (nB true))
 (ITE (i130 != 0)
 (R (nB true))
 (∃ (b132 : Bool),
 PureIs Tryz.prog 37 [.agg [.sl l126, nI i127, nI i128, .sl l129], .agg [.sl l50, nI i51, nI i52, .sl l53]] (nB b132) ∧
 R (nB b132))))
 (R (nB false))))
 (∃ (i133 : Int) (l134 : List AV) (i135 i136 : Int) (l137 : List AV) (b138 : Bool),
 PureIs Tryz.prog 44 [.agg [nI p4, .sl p5, nI p6, nI p7, .sl p8]] (.tup [.agg [nI i133, .sl l134, nI i135, nI i136, .sl l137], nB b138]) ∧
 ∃ (l139 : List AV) (i140 i141 : Int) (l142 : List AV) (i143 : Int),
 PureIs Tryz.prog 24 [.agg [nI p0, .sl p1, .sl p2], .sl p3, .agg [nI i133, .sl l134, nI i135, nI i136, .sl l137]] (.tup [.agg [.sl l139, nI i140, nI i141, .sl l142], nI i143]) ∧
 ∃ (b144 : Bool),
 PureIs Tryz.prog 10 [] (nB b144) ∧
 ITE b144
 (ITE (!b138)
 (R (nB true))
 (ITE (i143 != 0)
 (R (nB true))
 (∃ (b145 : Bool),
 PureIs Tryz.prog 37 [.agg [.sl l139, nI i140, nI i141, .sl l142], .agg [.sl l50, nI i51, nI i52, .sl l53]] (nB b145) ∧
 R (nB b145))))
 (R (nB false))))
 (∃ (i146 : Int) (l147 : List AV) (i148 i149 : Int) (l150 : List AV) (b151 : Bool),
 PureIs Tryz.prog 44 [.agg [nI p4, .sl p5, nI p6, nI p7, .sl p8]] (.tup [.agg [nI i146, .sl l147, nI i148, nI i149, .sl l150], nB b151]) ∧
 ∃ (l152 : List AV) (i153 i154 : Int) (l155 : List AV) (i156 : Int),
 PureIs Tryz.prog 24 [.agg [nI p0, .sl p1, .sl p2], .sl p3, .agg [nI i146, .sl l147, nI i148, nI i149, .sl l150]] (.tup [.agg [.sl l152, nI i153, nI i154, .sl l155], nI i156]) ∧
 ∃ (b157 : Bool),
 PureIs Tryz.prog 10 [] (nB b157) ∧
 ITE b157
 (ITE (!b151)
 (R (nB true))
 (ITE (i156 != 0)
 (R (nB true))
 (∃ (b158 : Bool),
 PureIs Tryz.prog 37 [.agg [.sl l152, nI i153, nI i154, .sl l155], .agg [.sl l50, nI i51, nI i52, .sl l53]] (nB b158) ∧
 R (nB b158))))
 (R (nB false)))))))
def vc7 (a0_0 : Int) (a0_1 a0_2 a1 : List AV) (a2_0 : Int) (a2_1 : List AV) (a2_2 a2_3 : Int) (a2_4 : List AV) (R : AV → Prop) : Prop :=
 ∃ (b1 : Bool),
 PureIs Tryz.prog 23 [.agg [nI a2_0, .sl a2_1, nI a2_2, nI a2_3, .sl a2_4], nI 100, nI 70] (nB b1) ∧
 ITE (!b1)
 (∃ (b2 : Bool),
 PureIs Tryz.prog 10 [] (nB b2) ∧
 R (nB b2))
 (∃ (b3 : Bool),
 PureIs Tryz.prog 9 [.agg [nI a0_0, .sl a0_1, .sl a0_2], .sl a1] (nB b3) ∧
 ITE (!b3)
 (∃ (b4 : Bool),
 PureIs Tryz.prog 10 [] (nB b4) ∧
 R (nB b4))
 (∃ (i5 : Int) (l6 l7 : List AV),
 PureIs Tryz.prog 11 [.agg [nI a0_0, .sl a0_1, .sl a0_2]] (.agg [nI i5, .sl l6, .sl l7]) ∧
 ∃ (l8 : List AV),
 PureIs Tryz.prog 12 [.sl a1] (.sl l8) ∧
 ∃ (i9 : Int) (l10 : List AV) (i11 i12 : Int) (l13 : List AV),
 PureIs Tryz.prog 13 [.agg [nI a2_0, .sl a2_1, nI a2_2, nI a2_3, .sl a2_4]] (.agg [nI i9, .sl l10, nI i11, nI i12, .sl l13]) ∧
 (vc7_L3 i5 l6 l7 l8 i9 l10 i11 i12 l13 R) ∧
 (vc7_L3 i5 l6 l7 l8 i9 l10 i11 i12 l13 R)))
theorem vc7_ok {a0_0 : Int} {a0_1 a0_2 a1 : List AV} {a2_0 : Int} {a2_1 : List AV} {a2_2 a2_3 : Int} {a2_4 : List AV} {R : AV → Prop} (h : vc7 a0_0 a0_1 a0_2 a1 a2_0 a2_1 a2_2 a2_3 a2_4 R) : Pure Tryz.prog 7 [.agg [nI a0_0, .sl a0_1, .sl a0_2], .sl a1, .agg [nI a2_0, .sl a2_1, nI a2_2, nI a2_3, .sl a2_4]] R :=
 pure_of_code (C := cfg (Func.ntmps Tryz.f7) [(3, [none, none, none, none, none, none, some [], some [], none, none, none], [some [], some [], none, some [], some [], some [], none, none, none, none, none]), (10, [none, none, none, none, none, none, none, none, some [], none, none], [some [], none, some [], some [], some [], none, none, none, none, none, none])] [] [] [(3, (.val 0 (.val 1 (.val 2 (.val 3 (.val 4 (.val 5 (.two 6 (.eff 7 (.eff 8 (.val 9 (.eff 10 .done)))) 7 (.eff 6 (.eff 8 (.val 9 (.eff 10 .done))))))))))))]) (cfg_tab _ _ _ _ _) (cfg_ord _ _ _ _ _) (L := []) (fn := Tryz.f7) Tryz.func7 (by exact rfl) (by kernel_rfl) (by kernel_rfl) (by rfl) (of_eq (by kernel_rfl) h)
end Go.Proofs.YtghlgbhldnkdmaaGreat
