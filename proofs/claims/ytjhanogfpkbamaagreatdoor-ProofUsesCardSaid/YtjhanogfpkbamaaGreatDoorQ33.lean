/- Texts of ours laid together for a claim: Vc1. -/
import Derived.Test.YtjhanogfpkbamaaGreatDoorQ32
namespace Go.Proofs.YtjhanogfpkbamaaGreatDoor
open Go
set_option linter.unusedSimpArgs false
set_option linter.unusedVariables false
set_option maxRecDepth 100000
def Og (d:(List AV×List AV×Int×Int×Unit)×(Unit)) (R:AV→Prop):Prop :=aB _ d fun a e=>ak (decide (a.1.2.2.2.1<a.1.2.2.1)) (0≤a.1.2.2.2.1 ∧a.1.2.2.2.1<List.length a.1.1 ∧∃(b:Int),List.getD a.1.1 (Int.toNat a.1.2.2.2.1) .top=nI b ∧0≤a.1.2.2.2.1 ∧a.1.2.2.2.1<List.length a.1.2.1 ∧∃(c:Int),List.getD a.1.2.1 (Int.toNat a.1.2.2.2.1) .top=nI c ∧ak (b != c) (R (nB false)) (e ((a.1.1,a.1.2.1,a.1.2.2.1,IntKind.wrap .i64 (a.1.2.2.2.1+1),()),()))) (R (nB true))
def Zi (a b:List AV) (R:AV→Prop):Prop :=ak (((List.length a:Nat):Int) != ((List.length b:Nat):Int)) (R (nB false)) (Og ((a,b,((List.length a:Nat):Int),0,()),()) R)
theorem Oh {a0 a1 R} (h:Zi a0 a1 R):Pure Tryz.prog 104 [.sl a0,.sl a1] R:=
 fj [la 4 [0,1,12,13]] Tryz.func104 (by exact rfl) (by kernel_rfl) (by kernel_rfl) h
def RH (d:(List AV×List AV×Int×Unit)×(Unit)) (R:AV→Prop):Prop :=aB _ d fun a e=>ak (decide (a.1.2.2.1<((List.length a.1.1:Nat):Int))) (0≤a.1.2.2.1 ∧a.1.2.2.1<List.length a.1.1 ∧∃(b:Int),List.getD a.1.1 (Int.toNat a.1.2.2.1) .top=nI b ∧0≤a.1.2.2.1 ∧a.1.2.2.1<List.length a.1.2.1 ∧∃(c:Int),List.getD a.1.2.1 (Int.toNat a.1.2.2.1) .top=nI c ∧ak (b != c) (R (nB false)) (e ((a.1.1,a.1.2.1,IntKind.wrap .i64 (a.1.2.2.1+1),()),()))) (R (nB true))
def acP (a b:List AV) (R:AV→Prop):Prop :=ak (((List.length a:Nat):Int) != ((List.length b:Nat):Int)) (R (nB false)) (RH ((a,b,0,()),()) R)
theorem RI {a0 a1 R} (h:acP a0 a1 R):Pure Tryz.prog 27 [.sl a0,.sl a1] R:=
 fj [la 4 [0,1,5]] Tryz.func27 (by exact rfl) (by kernel_rfl) (by kernel_rfl) h
def Oi (f:(Unit×Unit×List AV×Int×Int×Unit)×((List AV×Int×Unit)×(Unit×Int×Unit)×(Unit×Int×Unit)×List AV×Unit)) (R:AV→Prop):Prop :=aB _ f fun a g=>ak (decide (a.1.2.2.2.2.1<a.1.2.2.2.1)) (0≤a.1.2.2.2.2.1 ∧a.1.2.2.2.2.1<List.length a.1.2.2.1 ∧∃(d:List AV) (e:Int),List.getD a.1.2.2.1 (Int.toNat a.1.2.2.2.2.1) .top=.agg [.sl d,nI e] ∧∃(b:List AV) (c:Int),av Tryz.prog 157 [.agg [.sl d,nI e]] (.agg [.sl b,nI c]) ∧List.length a.2.2.2.2.1=List.length a.2.2.2.2.1 ∧bL qp (List.length (a.2.2.2.2.1++[.agg [.sl b,nI c]])) [] [.agg [.sl b,nI c]] ∧List.length (a.2.2.2.2.1++[.agg [.sl b,nI c]])=List.length (a.2.2.2.2.1++[.agg [.sl b,nI c]]) ∧g (((),(),a.1.2.2.1,a.1.2.2.2.1,IntKind.wrap .i64 (a.1.2.2.2.2.1+1),()),((a.2.1.1,a.2.1.2.1,()),((),a.2.2.1.2.1,()),((),a.2.2.2.1.2.1,()),a.2.2.2.2.1++[.agg [.sl b,nI c]],()))) (List.length a.2.2.2.2.1=List.length a.2.2.2.2.1 ∧R (.agg [.sl a.2.2.2.2.1,nI a.2.2.2.1.2.1]))
def Zj (a:List AV) (b:Int) (R:AV→Prop):Prop :=0=List.length ([]:List AV) ∧Oi (((),(),a,((List.length a:Nat):Int),0,()),((a,b,()),((),0,()),((),b,()),[],())) R
theorem Oj {bP bQ R} (h:Zj bP bQ R):Pure Tryz.prog 157 [.agg [.sl bP,nI bQ]] R:=
 fj [{ key:=3,live:=lv [2,3,10,11,12],kH:=[(2,0,101)] }] Tryz.func157 (by exact rfl) (by kernel_rfl) (by kernel_rfl) h
def Zk (d:List AV) (e:Int) (f:List AV) (R:AV→Prop):Prop :=∃(a:List AV),av Tryz.prog 158 [.sl [.sl f,.sl d]] (.sl a) ∧∃(b:List AV) (c:Int),av Tryz.prog 157 [.agg [.sl a,nI e]] (.agg [.sl b,nI c]) ∧R (.agg [.sl b,nI c])
theorem Ol {bP bQ a1 R} (h:Zk bP bQ a1 R):Pure Tryz.prog 150 [.agg [.sl bP,nI bQ],.sl a1] R:=
 fj [] Tryz.func150 (by exact rfl) (by kernel_rfl) (by kernel_rfl) h
def Zl (a:List AV) (R:AV→Prop):Prop :=∀b:Bool,(a≠[]→b=!true)→ak b (R (.sl [])) (((a:List AV)=[]→([]:List AV)=[]) ∧bL Mo (List.length (([]:List AV)++a)) ([]:List AV) a ∧List.length (([]:List AV)++a)=List.length (([]:List AV)++a) ∧R (.sl (([]:List AV)++a)))
theorem Om {a0 R} (h:Zl a0 R):Pure Tryz.prog 101 [.sl a0] R:=
 fj [] Tryz.func101 (by exact rfl) (by kernel_rfl) (by kernel_rfl) h
def RL (g:(List AV×Unit×List AV×Int×Int×Unit)×(Unit)) (R:AV→Prop):Prop :=aB _ g fun a h=>ak (decide (a.1.2.2.2.2.1<a.1.2.2.2.1)) (0≤a.1.2.2.2.2.1 ∧a.1.2.2.2.2.1<List.length a.1.2.2.1 ∧∃(b:List AV) (c:Int),List.getD a.1.2.2.1 (Int.toNat a.1.2.2.2.2.1) .top=.agg [.sl b,nI c] ∧0≤a.1.2.2.2.2.1 ∧a.1.2.2.2.2.1<List.length a.1.1 ∧∃(d:List AV) (e:Int),List.getD a.1.1 (Int.toNat a.1.2.2.2.2.1) .top=.agg [.sl d,nI e] ∧∃(f:Bool),av Tryz.prog 74 [.agg [.sl b,nI c],.agg [.sl d,nI e]] (nB f) ∧ak (!f) (R (nB false)) (h ((a.1.1,(),a.1.2.2.1,a.1.2.2.2.1,IntKind.wrap .i64 (a.1.2.2.2.2.1+1),()),()))) (R (nB true))
def acQ (a b:List AV) (R:AV→Prop):Prop :=ak (((List.length a:Nat):Int) != ((List.length b:Nat):Int)) (R (nB false)) (RL ((b,(),a,((List.length a:Nat):Int),0,()),()) R)
theorem RM {a0 a1 R} (h:acQ a0 a1 R):Pure Tryz.prog 73 [.sl a0,.sl a1,.ck 74 []] R:=
 fj [la 4 [1,2,15,16,17]] Tryz.func73 (by exact rfl) (by kernel_rfl) (by kernel_rfl) h
def acR (b:List AV) (c:Int) (d:List AV) (e:Int) (R:AV→Prop):Prop :=ak (c==e) (∃(a:Bool),av Tryz.prog 73 [.sl b,.sl d,.ck 74 []] (nB a) ∧R (nB a)) (R (nB false))
theorem RN {bP bQ gm gp R} (h:acR bP bQ gm gp R):Pure Tryz.prog 74 [.agg [.sl bP,nI bQ],.agg [.sl gm,nI gp]] R:=
 fj [] Tryz.func74 (by exact rfl) (by kernel_rfl) (by kernel_rfl) h
def tR (j:(Int×Unit×Unit×Unit×List AV×Int×Int×Unit)×((List AV×Int×Int×List AV×Unit)×(Unit×Int×Int×Unit×Unit)×(List AV×Int×Int×Unit×Unit)×List AV×Unit)) (R:AV→Prop):Prop :=aB _ j fun a k=>ak (decide (a.1.2.2.2.2.2.2.1<a.1.2.2.2.2.2.1)) (0≤a.1.2.2.2.2.2.2.1 ∧a.1.2.2.2.2.2.2.1<List.length a.1.2.2.2.2.1 ∧∃(f:List AV) (g h:Int) (i:List AV),List.getD a.1.2.2.2.2.1 (Int.toNat a.1.2.2.2.2.2.2.1) .top=.agg [.sl f,nI g,nI h,.sl i] ∧∃(b:List AV) (c d:Int) (e:List AV),av Tryz.prog 137 [.agg [.sl f,nI g,nI h,.sl i],nI a.1.1,.ck 138 []] (.agg [.sl b,nI c,nI d,.sl e]) ∧List.length a.2.2.2.2.1=List.length a.2.2.2.2.1 ∧bL Rz (List.length (a.2.2.2.2.1++[.agg [.sl b,nI c,nI d,.sl e]])) [] [.agg [.sl b,nI c,nI d,.sl e]] ∧List.length (a.2.2.2.2.1++[.agg [.sl b,nI c,nI d,.sl e]])=List.length (a.2.2.2.2.1++[.agg [.sl b,nI c,nI d,.sl e]]) ∧k ((a.1.1,(),(),(),a.1.2.2.2.2.1,a.1.2.2.2.2.2.1,IntKind.wrap .i64 (a.1.2.2.2.2.2.2.1+1),()),((a.2.1.1,a.2.1.2.1,a.2.1.2.2.1,a.2.1.2.2.2.1,()),((),a.2.2.1.2.1,a.2.2.1.2.2.1,(),()),(a.2.2.2.1.1,a.2.2.2.1.2.1,a.2.2.2.1.2.2.1,(),()),a.2.2.2.2.1++[.agg [.sl b,nI c,nI d,.sl e]],()))) (List.length a.2.2.2.2.1=List.length a.2.2.2.2.1 ∧R (.agg [.sl a.2.2.2.1.1,nI a.2.2.2.1.2.1,nI a.2.2.2.1.2.2.1,.sl a.2.2.2.2.1]))
def Zm (a:List AV) (c d:Int) (b:List AV) (e:Int) (R:AV→Prop):Prop :=∃(f:List AV) (h:Int),av Tryz.prog 150 [.agg [.sl [],nI 0],.sl a] (.agg [.sl f,nI h]) ∧ak (c==0) (ak (decide (d≥(IntKind.wrap .i64 (e+((List.length a:Nat):Int))))) (∃(g:Int),av Tryz.prog 138 [nI (IntKind.wrap .i64 (d-(IntKind.wrap .i64 (e+((List.length a:Nat):Int)))))] (nI g) ∧0=List.length ([]:List AV) ∧tR ((IntKind.wrap .i64 (e+((List.length a:Nat):Int)),(),(),(),b,((List.length b:Nat):Int),0,()),((a,c,d,b,()),((),0,0,(),()),(f,c,IntKind.wrap .i64 ((IntKind.wrap .i64 (e+((List.length a:Nat):Int)))+g),(),()),[],())) R) (0=List.length ([]:List AV) ∧tR ((IntKind.wrap .i64 (e+((List.length a:Nat):Int)),(),(),(),b,((List.length b:Nat):Int),0,()),((a,c,d,b,()),((),0,0,(),()),(f,c,d,(),()),[],())) R)) (0=List.length ([]:List AV) ∧tR ((IntKind.wrap .i64 (e+((List.length a:Nat):Int)),(),(),(),b,((List.length b:Nat):Int),0,()),((a,c,d,b,()),((),0,0,(),()),(f,c,d,(),()),[],())) R)
theorem On {bP bQ cR dh a1 R} (h:Zm bP bQ cR dh a1 R):Pure Tryz.prog 137 [.agg [.sl bP,nI bQ,nI cR,.sl dh],nI a1,.ck 138 []] R:=
 JA [(2,[none,none,none,none,none,none,none,none,some [],none],[none,none,some [],some [],none,none,some [],none,none,none])] [] [] [] [{ key:=6,live:=lv [1,2,6,7,46,47,48],kH:=[(2,3,48)] }] Tryz.func137 (by exact rfl) (by kernel_rfl) (by kernel_rfl) h
def Zn (a:Int) (R:AV→Prop):Prop :=R (nI a)
theorem Oo {a0 R} (h:Zn a0 R):Pure Tryz.prog 138 [nI a0] R:=
 fj [] Tryz.func138 (by exact rfl) (by kernel_rfl) (by kernel_rfl) h
def Zo (e:List AV) (f g:Int) (h:List AV) (R:AV→Prop):Prop :=∃(a:List AV) (b c:Int) (d:List AV),av Tryz.prog 137 [.agg [.sl e,nI f,nI g,.sl h],nI 0,.ck 138 []] (.agg [.sl a,nI b,nI c,.sl d]) ∧R (.agg [.sl a,nI b,nI c,.sl d])
theorem Oq {bP bQ cR dh R} (h:Zo bP bQ cR dh R):Pure Tryz.prog 102 [.agg [.sl bP,nI bQ,nI cR,.sl dh]] R:=
 fj [] Tryz.func102 (by exact rfl) (by kernel_rfl) (by kernel_rfl) h
end Go.Proofs.YtjhanogfpkbamaaGreatDoor
