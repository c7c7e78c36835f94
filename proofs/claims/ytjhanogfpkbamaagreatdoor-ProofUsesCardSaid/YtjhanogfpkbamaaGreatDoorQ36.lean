/- Texts of ours laid together for a claim: Vc8. -/
import Derived.Test.YtjhanogfpkbamaaGreatDoorQ35
namespace Go.Proofs.YtjhanogfpkbamaaGreatDoor
open Go
set_option linter.unusedSimpArgs false
set_option linter.unusedVariables false
set_option maxRecDepth 100000
def R9 (k:(List AV×Unit×List AV×Int×Int×Unit)×(Unit)) (R:AV→Prop):Prop :=aB _ k fun a l=>ak (decide (a.1.2.2.2.2.1<a.1.2.2.2.1)) (0≤a.1.2.2.2.2.1 ∧a.1.2.2.2.2.1<List.length a.1.2.2.1 ∧∃(b:List AV) (c d:Int) (e:List AV),List.getD a.1.2.2.1 (Int.toNat a.1.2.2.2.2.1) .top=.agg [.sl b,nI c,nI d,.sl e] ∧0≤a.1.2.2.2.2.1 ∧a.1.2.2.2.2.1<List.length a.1.1 ∧∃(f:List AV) (g h:Int) (i:List AV),List.getD a.1.1 (Int.toNat a.1.2.2.2.2.1) .top=.agg [.sl f,nI g,nI h,.sl i] ∧∃(j:Bool),av Tryz.prog 34 [.agg [.sl b,nI c,nI d,.sl e],.agg [.sl f,nI g,nI h,.sl i]] (nB j) ∧ak (!j) (R (nB false)) (l ((a.1.1,(),a.1.2.2.1,a.1.2.2.2.1,IntKind.wrap .i64 (a.1.2.2.2.2.1+1),()),()))) (R (nB true))
def ac1 (a b:List AV) (R:AV→Prop):Prop :=ak (((List.length a:Nat):Int) != ((List.length b:Nat):Int)) (R (nB false)) (R9 ((b,(),a,((List.length a:Nat):Int),0,()),()) R)
theorem Sa {a0 a1 R} (h:ac1 a0 a1 R):Pure Tryz.prog 75 [.sl a0,.sl a1,.ck 34 []] R:=
 fj [la 4 [1,2,15,16,17]] Tryz.func75 (by exact rfl) (by kernel_rfl) (by kernel_rfl) h
def ac2 (c:List AV) (d e:Int) (f g:List AV) (h i:Int) (j:List AV) (R:AV→Prop):Prop :=ak (d==h&&e==i) (∃(a:Bool),av Tryz.prog 73 [.sl c,.sl g,.ck 74 []] (nB a) ∧ak a (∃(b:Bool),av Tryz.prog 75 [.sl f,.sl j,.ck 34 []] (nB b) ∧R (nB b)) (R (nB false))) (R (nB false))
theorem Sb {bP bQ cR dh gm gp j5 j6 R} (h:ac2 bP bQ cR dh gm gp j5 j6 R):Pure Tryz.prog 34 [.agg [.sl bP,nI bQ,nI cR,.sl dh],.agg [.sl gm,nI gp,nI j5,.sl j6]] R:=
 fj [] Tryz.func34 (by exact rfl) (by kernel_rfl) (by kernel_rfl) h
end Go.Proofs.YtjhanogfpkbamaaGreatDoor
