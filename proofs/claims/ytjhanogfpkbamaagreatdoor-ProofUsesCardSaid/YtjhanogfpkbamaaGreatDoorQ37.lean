/- Texts of ours laid together for a claim: Vd1. -/
import Derived.Test.YtjhanogfpkbamaaGreatDoorQ36
namespace Go.Proofs.YtjhanogfpkbamaaGreatDoor
open Go
set_option linter.unusedSimpArgs false
set_option linter.unusedVariables false
set_option maxRecDepth 100000
def ZA (a:Int) (R:AV→Prop):Prop :=ak (decide (a≥97)) (ak (decide (a≤122)) (R (nB true)) (ak (decide (a≥65)) (R (nB (decide (a≤90)))) (R (nB false)))) (ak (decide (a≥65)) (R (nB (decide (a≤90)))) (R (nB false)))
theorem OK {a0 R} (h:ZA a0 R):Pure Tryz.prog 119 [.ah (.int .u8 a0)] R:=
 fj [] Tryz.func119 (by exact rfl) (by kernel_rfl) (by kernel_rfl) h
def ZB (a:Int) (R:AV→Prop):Prop :=ak (decide (a≥48)) (R (nB (decide (a≤57)))) (R (nB false))
theorem OL {a0 R} (h:ZB a0 R):Pure Tryz.prog 122 [.ah (.int .u8 a0)] R:=
 fj [] Tryz.func122 (by exact rfl) (by kernel_rfl) (by kernel_rfl) h
def ZC (a:Int) (R:AV→Prop):Prop :=∃(b:Bool),av Tryz.prog 119 [.ah (.int .u8 a)] (nB b) ∧ak b (R (nB true)) (∃(c:Bool),av Tryz.prog 122 [.ah (.int .u8 a)] (nB c) ∧ak c (R (nB true)) (ak (a==95) (R (nB true)) (R (nB (a==39)))))
theorem OM {a0 R} (h:ZC a0 R):Pure Tryz.prog 121 [.ah (.int .u8 a0)] R:=
 fj [] Tryz.func121 (by exact rfl) (by kernel_rfl) (by kernel_rfl) h
def Fg (c:(ByteArray×Unit×Int×Unit)×(Unit)) (R:AV→Prop):Prop :=aB _ c fun a d=>ak (decide (a.1.2.2.1<((ByteArray.size a.1.1:Nat):Int))) ((0≤a.1.2.2.1∧a.1.2.2.1<ByteArray.size a.1.1) ∧∃(b:Bool),av Tryz.prog 121 [.ah (.int .u8 (cq a.1.1 a.1.2.2.1))] (nB b) ∧ak b (d ((a.1.1,(),IntKind.wrap .i64 (a.1.2.2.1+1),()),())) (R (nI a.1.2.2.1))) (R (nI a.1.2.2.1))
def Vn (a:ByteArray) (R:AV→Prop):Prop :=Fg ((a,(),0,()),()) R
theorem OO {a0 R} (h:Vn a0 R):Pure Tryz.prog 120 [nS a0,.ck 121 []] R:=
 fj [la 2 [0,1,5]] Tryz.func120 (by exact rfl) (by kernel_rfl) (by kernel_rfl) h
def ac3 (us:List AV) (b:ByteArray) (R:AV→List af→Prop):Prop :=∃(S3:AV→List af→Prop),cG Tryz.prog 82 [.ptr 0 0] [.dD 1 (List.length us),.row 5 1 us] S3 ∧∀(c:AV) (d:List af),S3 c d→∃(a:List AV),(c=.aX []∧d=[.dD 1 (List.length a),.row 5 1 a]) ∧List.length a=List.length a ∧List.length a+ByteArray.size b≤140737488355328 ∧List.length (a++bg b)≠0 ∧R (.aX [nI ((ByteArray.size b:Nat):Int),.ah (.nilIface)]) [.dD 1 (List.length (a++bg b)),.row 5 1 (a++bg b)]
theorem Sc {us a1 R} (h:ac3 us a1 R):cG Tryz.prog 80 [.ptr 0 0,nS a1] [.dD 1 (List.length us),.row 5 1 us] R:=
 pJ [] [(82,.kN [(.t [],[.dD 1,.row 5 1])]),(80,.kN [(.t [.c (.i .i64),.c (.k .top)],[.dD 1,.row 5 1])]),(42,.kN [(.v (.c (.s)),[.dead,.dead])])] [] [] 2 [] Tryz.func80 (by exact rfl) (by kernel_rfl) (by kernel_rfl) h
end Go.Proofs.YtjhanogfpkbamaaGreatDoor
