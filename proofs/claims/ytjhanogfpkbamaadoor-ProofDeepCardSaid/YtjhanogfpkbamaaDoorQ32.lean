/- Texts of ours laid together for a claim: Vd1. -/
import Derived.Test.YtjhanogfpkbamaaDoorQ31
namespace Go.Proofs.YtjhanogfpkbamaaDoor
open Go
set_option linter.unusedSimpArgs false
set_option linter.unusedVariables false
set_option maxRecDepth 100000
def vc46 (a0:Int) (R:AV→Prop):Prop :=ITE (decide (a0≥97)) (ITE (decide (a0≤122)) (R (nB true)) (ITE (decide (a0≥65)) (R (nB (decide (a0≤90)))) (R (nB false)))) (ITE (decide (a0≥65)) (R (nB (decide (a0≤90)))) (R (nB false)))
theorem vc46_ok {a0:Int} {R:AV→Prop} (h:vc46 a0 R):Pure Tryd.prog 46 [.prim (.int .u8 a0)] R:=
 pure_of_code (C:=cfg (Func.ntmps Tryd.f46)) (cfg_tab _ _ _ _ _) (cfg_ord _ _ _ _ _) (L:=[]) (fn:=Tryd.f46) Tryd.func46 (by exact rfl) (by kernel_rfl) (by kernel_rfl) (by rfl) (of_eq (by kernel_rfl) h)
def vc49 (a0:Int) (R:AV→Prop):Prop :=ITE (decide (a0≥48)) (R (nB (decide (a0≤57)))) (R (nB false))
theorem vc49_ok {a0:Int} {R:AV→Prop} (h:vc49 a0 R):Pure Tryd.prog 49 [.prim (.int .u8 a0)] R:=
 pure_of_code (C:=cfg (Func.ntmps Tryd.f49)) (cfg_tab _ _ _ _ _) (cfg_ord _ _ _ _ _) (L:=[]) (fn:=Tryd.f49) Tryd.func49 (by exact rfl) (by kernel_rfl) (by kernel_rfl) (by rfl) (of_eq (by kernel_rfl) h)
def vc48 (a0:Int) (R:AV→Prop):Prop :=∃(b1:Bool),PureIs Tryd.prog 46 [.prim (.int .u8 a0)] (nB b1) ∧ITE b1 (R (nB true)) (∃(b2:Bool),PureIs Tryd.prog 49 [.prim (.int .u8 a0)] (nB b2) ∧ITE b2 (R (nB true)) (ITE (a0==95) (R (nB true)) (R (nB (a0==39)))))
theorem vc48_ok {a0:Int} {R:AV→Prop} (h:vc48 a0 R):Pure Tryd.prog 48 [.prim (.int .u8 a0)] R:=
 pure_of_code (C:=cfg (Func.ntmps Tryd.f48)) (cfg_tab _ _ _ _ _) (cfg_ord _ _ _ _ _) (L:=[]) (fn:=Tryd.f48) Tryd.func48 (by exact rfl) (by kernel_rfl) (by kernel_rfl) (by rfl) (of_eq (by kernel_rfl) h)
def vc47_L2 (p0:(ByteArray×Unit×Int×Unit)×(Unit)) (R:AV→Prop):Prop :=LoopP _ p0 fun z51 ag52=>ITE (decide (z51.1.2.2.1<((ByteArray.size z51.1.1:Nat):Int))) ((0≤z51.1.2.2.1∧z51.1.2.2.1<ByteArray.size z51.1.1) ∧∃(b53:Bool),PureIs Tryd.prog 48 [.prim (.int .u8 (strAt z51.1.1 z51.1.2.2.1))] (nB b53) ∧ITE b53 (ag52 ((z51.1.1,(),IntKind.wrap .i64 (z51.1.2.2.1+1),()),())) (R (nI z51.1.2.2.1))) (R (nI z51.1.2.2.1))
def vc47 (a0:ByteArray) (R:AV→Prop):Prop :=vc47_L2 ((a0,(),0,()),()) R
theorem vc47_ok {a0:ByteArray} {R:AV→Prop} (h:vc47 a0 R):Pure Tryd.prog 47 [nS a0,.clo 48 []] R:=
 pure_of_code (C:=cfg (Func.ntmps Tryd.f47)) (cfg_tab _ _ _ _ _) (cfg_ord _ _ _ _ _) (L:=[{ key:=2,live:=[(0,none),(1,none),(5,none)] }]) (fn:=Tryd.f47) Tryd.func47 (by exact rfl) (by kernel_rfl) (by kernel_rfl) (by rfl) (of_eq (by kernel_rfl) h)
def vc20 (us:List AV) (a1:ByteArray) (R:AV→List AObj→Prop):Prop :=∃(S3:AV→List AObj→Prop),HFn Tryd.prog 22 [.ptr 0 0] [.bld 1 (List.length us),.row 5 1 us] S3 ∧∀(r1:AV) (q2:List AObj),S3 r1 q2→∃(l4:List AV),(r1=.tup []∧q2=[.bld 1 (List.length l4),.row 5 1 l4]) ∧List.length l4=List.length l4 ∧List.length l4+ByteArray.size a1≤140737488355328 ∧List.length (l4++strAV a1)≠0 ∧R (.tup [nI ((ByteArray.size a1:Nat):Int),.prim (.nilIface)]) [.bld 1 (List.length (l4++strAV a1)),.row 5 1 (l4++strAV a1)]
theorem vc20_ok {us:List AV} {a1:ByteArray} {R:AV→List AObj→Prop} (h:vc20 us a1 R):HFn Tryd.prog 20 [.ptr 0 0,nS a1] [.bld 1 (List.length us),.row 5 1 us] R:=
 heap_of_code (C:=cfg (Func.ntmps Tryd.f20) [] [(22,.emb [(.t [],[.bld 1,.row 5 1])]),(20,.emb [(.t [.c (.i .i64),.c (.k .top)],[.bld 1,.row 5 1])]),(12,.emb [(.v (.c (.s)),[.dead,.dead])])] []) (cfg_tab _ _ _ _ _) (cfg_ord _ _ _ _ _) (L:=[]) (fn:=Tryd.f20) Tryd.func20 (by exact rfl) (by kernel_rfl) (by kernel_rfl) (by rfl) (of_eq (by kernel_rfl) h)
end Go.Proofs.YtjhanogfpkbamaaDoor
