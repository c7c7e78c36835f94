/- Texts of ours laid together for a claim: Ve8. -/
import Derived.Test.YtjhanogfpkbamaaGreatDoorQ33
namespace Go.Proofs.YtjhanogfpkbamaaGreatDoor
open Go
set_option linter.unusedSimpArgs false
set_option linter.unusedVariables false
set_option maxRecDepth 100000
abbrev E5:Type:=(List AV×Int×List AV×Int×Int×Unit)×(Unit)
abbrev E6:Type:=(Unit×List AV×Int×Int×Unit)×(List AV×Unit)
abbrev A9 (c e:Int) (d:List AV) (f:Nat) (a:List AV) (g:E6→Prop) (R:AV→Prop):Prop :=ak (decide (c<e)) (0≤c ∧c<List.length d ∧∃b,List.getD d (Int.toNat c) .top=.sl b ∧f=List.length a ∧bL qp (List.length (a++b)) [] b ∧(List.length (a++b))=List.length (a++b) ∧g (((),d,e,IntKind.wrap .i64 (c+1),()),((a++b),()))) (f=List.length a ∧R (.sl a))
abbrev vg (b:E6) (R:AV→Prop):Prop :=aB _ b fun a c=>A9 a.1.2.2.2.1 a.1.2.2.1 a.1.2.1 (List.length a.2.1) a.2.1 c R
abbrev E7 (a g:Int) (d:List AV) (e:Int) (j:E5→Prop) (b:List AV) (R:AV→Prop):Prop :=ak (decide (a<g)) (0≤a ∧a<List.length d ∧∃f,List.getD d (Int.toNat a) .top=.sl f ∧ak (decide ((IntKind.wrap .i64 (e+((List.length f:Nat):Int)))<0)) (False) (j ((b,IntKind.wrap .i64 (e+((List.length f:Nat):Int)),d,g,IntKind.wrap .i64 (a+1),()),()))) (aC 165 [.ah (.slice none 0 0),nI e] [] fun h i=>(∃c,(h=.own 0 (List.length c)∧i=[.row 101 2 c]) ∧(List.length c)=List.length c ∧vg (((),b,((List.length b:Nat):Int),0,()),(c,())) R)∨(h=.ah (.slice none 0 0)∧i=[]) ∧0=List.length ([]:List AV) ∧vg (((),b,((List.length b:Nat):Int),0,()),([],())) R)
abbrev Ot (b:E5) (R:AV→Prop):Prop :=aB _ b fun a c=>E7 a.1.2.2.2.2.1 a.1.2.2.2.1 a.1.2.2.1 a.1.2.1 c a.1.1 R
abbrev Zp (a:List AV) (R:AV→Prop):Prop :=Ot ((a,0,a,((List.length a:Nat):Int),0,()),()) R
theorem Ou {a0 R} (h:Zp a0 R):Pure Tryz.prog 158 [.sl a0] R:=
 JA [] [(165,.kN [(.v (.c (.o 0)),[.row 101 2]),(.v (.c (.k (.ah (.slice none 0 0)))),[])])] [] [] [la 3 [0,3,9,10,11],la 11 [6,25,26,27] [(6,101)]] Tryz.func158 (by exact rfl) (by kernel_rfl) (by kernel_rfl) h
abbrev JB:Type:=(List AV×Int×List AV×Int×Int×Unit)×(Unit)
abbrev JC:Type:=(Unit×List AV×Int×Int×Unit)×(List AV×Unit)
abbrev E8 (c e:Int) (d:List AV) (f:Nat) (a:List AV) (g:JC→Prop) (R:AV→Prop):Prop :=ak (decide (c<e)) (0≤c ∧c<List.length d ∧∃b,List.getD d (Int.toNat c) .top=.sl b ∧f=List.length a ∧bL Mo (List.length (a++b)) [] b ∧(List.length (a++b))=List.length (a++b) ∧g (((),d,e,IntKind.wrap .i64 (c+1),()),((a++b),()))) (f=List.length a ∧R (.sl a))
abbrev zg (b:JC) (R:AV→Prop):Prop :=aB _ b fun a c=>E8 a.1.2.2.2.1 a.1.2.2.1 a.1.2.1 (List.length a.2.1) a.2.1 c R
abbrev JD (a g:Int) (d:List AV) (e:Int) (j:JB→Prop) (b:List AV) (R:AV→Prop):Prop :=ak (decide (a<g)) (0≤a ∧a<List.length d ∧∃f,List.getD d (Int.toNat a) .top=.sl f ∧ak (decide ((IntKind.wrap .i64 (e+((List.length f:Nat):Int)))<0)) (False) (j ((b,IntKind.wrap .i64 (e+((List.length f:Nat):Int)),d,g,IntKind.wrap .i64 (a+1),()),()))) (aC 103 [.ah (.slice none 0 0),nI e] [] fun h i=>(∃c,(h=.own 0 (List.length c)∧i=[.row 3 1 c]) ∧(List.length c)=List.length c ∧zg (((),b,((List.length b:Nat):Int),0,()),(c,())) R)∨(h=.ah (.slice none 0 0)∧i=[]) ∧0=List.length ([]:List AV) ∧zg (((),b,((List.length b:Nat):Int),0,()),([],())) R)
abbrev RP (b:JB) (R:AV→Prop):Prop :=aB _ b fun a c=>JD a.1.2.2.2.2.1 a.1.2.2.2.1 a.1.2.2.1 a.1.2.1 c a.1.1 R
abbrev acS (a:List AV) (R:AV→Prop):Prop :=RP ((a,0,a,((List.length a:Nat):Int),0,()),()) R
theorem RQ {a0 R} (h:acS a0 R):Pure Tryz.prog 60 [.sl a0] R:=
 JA [] [(103,.kN [(.v (.c (.o 0)),[.row 3 1]),(.v (.c (.k (.ah (.slice none 0 0)))),[])])] [] [] [la 3 [0,3,9,10,11],la 11 [6,25,26,27] [(6,3)]] Tryz.func60 (by exact rfl) (by kernel_rfl) (by kernel_rfl) h
abbrev Zq (a:Int) (R:AV→List af→Prop):Prop :=ak (decide (a<0)) (False) (ak (decide ((IntKind.wrap .i64 (a-(IntKind.wrap .i64 (0-((List.length ([]:List AV):Nat):Int)))))>0)) ((0<(IntKind.wrap .i64 (a-(IntKind.wrap .i64 (0-((List.length ([]:List AV):Nat):Int)))))∧Int.toNat (IntKind.wrap .i64 (a-(IntKind.wrap .i64 (0-((List.length ([]:List AV):Nat):Int)))))≤maxLen∧Int.toNat (IntKind.wrap .i64 (a-(IntKind.wrap .i64 (0-((List.length ([]:List AV):Nat):Int)))))*TD.bytes qp≤140737488355328) ∧R (.own 0 0) [.row 101 2 []]) (R (.ah (.slice none 0 0)) []))
theorem Ov {a1 R} (h:Zq a1 R):cG Tryz.prog 165 [.ah (.slice none 0 0),nI a1] [] R:=
 Zh [] [] [] [] false none [(5,5)] 1 [] Tryz.func165 (by exact rfl) (by kernel_rfl) (by kernel_rfl) h
abbrev Zr (a:Int) (R:AV→List af→Prop):Prop :=ak (decide (a<0)) (False) (ak (decide ((IntKind.wrap .i64 (a-(IntKind.wrap .i64 (0-((List.length ([]:List AV):Nat):Int)))))>0)) ((0<(IntKind.wrap .i64 (a-(IntKind.wrap .i64 (0-((List.length ([]:List AV):Nat):Int)))))∧Int.toNat (IntKind.wrap .i64 (a-(IntKind.wrap .i64 (0-((List.length ([]:List AV):Nat):Int)))))≤maxLen∧Int.toNat (IntKind.wrap .i64 (a-(IntKind.wrap .i64 (0-((List.length ([]:List AV):Nat):Int)))))*TD.bytes Mo≤140737488355328) ∧R (.own 0 0) [.row 3 1 []]) (R (.ah (.slice none 0 0)) []))
theorem Ow {a1 R} (h:Zr a1 R):cG Tryz.prog 103 [.ah (.slice none 0 0),nI a1] [] R:=
 Zh [] [] [] [] false none [(5,5)] 1 [] Tryz.func103 (by exact rfl) (by kernel_rfl) (by kernel_rfl) h
end Go.Proofs.YtjhanogfpkbamaaGreatDoor
