/- Texts of ours laid together for a claim: Vd1. -/
import Derived.Test.YtjhanogfpkbamaaGreatDoorQ34
namespace Go.Proofs.YtjhanogfpkbamaaGreatDoor
open Go
set_option linter.unusedSimpArgs false
set_option linter.unusedVariables false
set_option maxRecDepth 100000
def vc119 (a0:Int) (R:AV→Prop):Prop :=ITE (decide (a0≥97)) (ITE (decide (a0≤122)) (R (nB true)) (ITE (decide (a0≥65)) (R (nB (decide (a0≤90)))) (R (nB false)))) (ITE (decide (a0≥65)) (R (nB (decide (a0≤90)))) (R (nB false)))
theorem vc119_ok {a0:Int} {R:AV→Prop} (h:vc119 a0 R):Pure Tryz.prog 119 [.prim (.int .u8 a0)] R:=
 pure_of_code (C:=cfg (Func.ntmps Tryz.f119)) (cfg_tab _ _ _ _ _) (cfg_ord _ _ _ _ _) (L:=[]) (fn:=Tryz.f119) Tryz.func119 (by exact rfl) (by kernel_rfl) (by kernel_rfl) (by rfl) (of_eq (by kernel_rfl) h)
def vc122 (a0:Int) (R:AV→Prop):Prop :=ITE (decide (a0≥48)) (R (nB (decide (a0≤57)))) (R (nB false))
theorem vc122_ok {a0:Int} {R:AV→Prop} (h:vc122 a0 R):Pure Tryz.prog 122 [.prim (.int .u8 a0)] R:=
 pure_of_code (C:=cfg (Func.ntmps Tryz.f122)) (cfg_tab _ _ _ _ _) (cfg_ord _ _ _ _ _) (L:=[]) (fn:=Tryz.f122) Tryz.func122 (by exact rfl) (by kernel_rfl) (by kernel_rfl) (by rfl) (of_eq (by kernel_rfl) h)
def vc121 (a0:Int) (R:AV→Prop):Prop :=∃(b1:Bool),PureIs Tryz.prog 119 [.prim (.int .u8 a0)] (nB b1) ∧ITE b1 (R (nB true)) (∃(b2:Bool),PureIs Tryz.prog 122 [.prim (.int .u8 a0)] (nB b2) ∧ITE b2 (R (nB true)) (ITE (a0==95) (R (nB true)) (R (nB (a0==39)))))
theorem vc121_ok {a0:Int} {R:AV→Prop} (h:vc121 a0 R):Pure Tryz.prog 121 [.prim (.int .u8 a0)] R:=
 pure_of_code (C:=cfg (Func.ntmps Tryz.f121)) (cfg_tab _ _ _ _ _) (cfg_ord _ _ _ _ _) (L:=[]) (fn:=Tryz.f121) Tryz.func121 (by exact rfl) (by kernel_rfl) (by kernel_rfl) (by rfl) (of_eq (by kernel_rfl) h)
def vc120_L2 (p0:(ByteArray×Unit×Int×Unit)×(Unit)) (R:AV→Prop):Prop :=LoopP _ p0 fun z51 ag52=>ITE (decide (z51.1.2.2.1<((ByteArray.size z51.1.1:Nat):Int))) ((0≤z51.1.2.2.1∧z51.1.2.2.1<ByteArray.size z51.1.1) ∧∃(b53:Bool),PureIs Tryz.prog 121 [.prim (.int .u8 (strAt z51.1.1 z51.1.2.2.1))] (nB b53) ∧ITE b53 (ag52 ((z51.1.1,(),IntKind.wrap .i64 (z51.1.2.2.1+1),()),())) (R (nI z51.1.2.2.1))) (R (nI z51.1.2.2.1))
def vc120 (a0:ByteArray) (R:AV→Prop):Prop :=vc120_L2 ((a0,(),0,()),()) R
theorem vc120_ok {a0:ByteArray} {R:AV→Prop} (h:vc120 a0 R):Pure Tryz.prog 120 [nS a0,.clo 121 []] R:=
 pure_of_code (C:=cfg (Func.ntmps Tryz.f120)) (cfg_tab _ _ _ _ _) (cfg_ord _ _ _ _ _) (L:=[{ key:=2,live:=[(0,none),(1,none),(5,none)] }]) (fn:=Tryz.f120) Tryz.func120 (by exact rfl) (by kernel_rfl) (by kernel_rfl) (by rfl) (of_eq (by kernel_rfl) h)
def vc80 (us:List AV) (a1:ByteArray) (R:AV→List AObj→Prop):Prop :=∃(S3:AV→List AObj→Prop),HFn Tryz.prog 82 [.ptr 0 0] [.bld 1 (List.length us),.row 5 1 us] S3 ∧∀(r1:AV) (q2:List AObj),S3 r1 q2→∃(l4:List AV),(r1=.tup []∧q2=[.bld 1 (List.length l4),.row 5 1 l4]) ∧List.length l4=List.length l4 ∧List.length l4+ByteArray.size a1≤140737488355328 ∧List.length (l4++strAV a1)≠0 ∧R (.tup [nI ((ByteArray.size a1:Nat):Int),.prim (.nilIface)]) [.bld 1 (List.length (l4++strAV a1)),.row 5 1 (l4++strAV a1)]
theorem vc80_ok {us:List AV} {a1:ByteArray} {R:AV→List AObj→Prop} (h:vc80 us a1 R):HFn Tryz.prog 80 [.ptr 0 0,nS a1] [.bld 1 (List.length us),.row 5 1 us] R:=
 heap_of_code (C:=cfg (Func.ntmps Tryz.f80) [] [(82,.emb [(.t [],[.bld 1,.row 5 1])]),(80,.emb [(.t [.c (.i .i64),.c (.k .top)],[.bld 1,.row 5 1])]),(42,.emb [(.v (.c (.s)),[.dead,.dead])])] []) (cfg_tab _ _ _ _ _) (cfg_ord _ _ _ _ _) (L:=[]) (fn:=Tryz.f80) Tryz.func80 (by exact rfl) (by kernel_rfl) (by kernel_rfl) (by rfl) (of_eq (by kernel_rfl) h)
end Go.Proofs.YtjhanogfpkbamaaGreatDoor
