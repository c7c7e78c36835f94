/- Texts of ours laid together for a claim: Ve7. -/
import Derived.Test.YtjhanogfpkbamaaGreatDoorQ40
namespace Go.Proofs.YtjhanogfpkbamaaGreatDoor
open Go
set_option linter.unusedSimpArgs false
set_option linter.unusedVariables false
set_option maxRecDepth 100000
abbrev vc139_T0:Type:=(List AV×Unit×List AV×Int×Int×Unit)×(Unit)
abbrev vc139_R4 (p0 p1:Int) (p2 p3:List AV) (R:AV→Prop) (p5:vc139_T0→Prop):Prop :=ITE (decide (p0<p1)) (0≤p0 ∧p0<List.length p2 ∧∃i53 l54 i55 i56 l57,List.getD p2 (Int.toNat p0) .top=.agg [nI i53,.sl l54,nI i55,nI i56,.sl l57] ∧0≤p0 ∧p0<List.length p3 ∧∃i59 l60 i61 i62 l63,List.getD p3 (Int.toNat p0) .top=.agg [nI i59,.sl l60,nI i61,nI i62,.sl l63] ∧∃b64,pI 140 [.agg [nI i53,.sl l54,nI i55,nI i56,.sl l57],.agg [nI i59,.sl l60,nI i61,nI i62,.sl l63]] (nB b64) ∧ITE (!b64) (R (nB false)) (p5 ((p3,(),p2,p1,IntKind.wrap .i64 (p0+1),()),()))) (R (nB true))
abbrev vc139_L4 (p0:vc139_T0) (R:AV→Prop):Prop :=LoopP _ p0 fun z51 ag52=>vc139_R4 z51.1.2.2.2.2.1 z51.1.2.2.2.1 z51.1.2.2.1 z51.1.1 R ag52
abbrev vc139 (a0 a1:List AV) (R:AV→Prop):Prop :=ITE (((List.length a0:Nat):Int) != ((List.length a1:Nat):Int)) (R (nB false)) (vc139_L4 ((a1,(),a0,((List.length a0:Nat):Int),0,()),()) R)
theorem vc139_ok {a0 a1:List AV} {R:AV→Prop} (h:vc139 a0 a1 R):Pure Tryz.prog 139 [.sl a0,.sl a1,.clo 140 []] R:=
 pure_of_code (C:=cfg (Func.ntmps Tryz.f139)) (cfg_tab _ _ _ _ _) (cfg_ord _ _ _ _ _) (L:=[{ key:=4,live:=[(1,none),(2,none),(15,none),(16,none),(17,none)] }]) (fn:=Tryz.f139) Tryz.func139 (by exact rfl) (by kernel_rfl) (by kernel_rfl) (by rfl) (of_eq (by kernel_rfl) h)
abbrev vc61_T0:Type:=(List AV×Unit×List AV×Int×Int×Unit)×(Unit)
abbrev vc61_R4 (p0 p1:Int) (p2 p3:List AV) (R:AV→Prop) (p5:vc61_T0→Prop):Prop :=ITE (decide (p0<p1)) (0≤p0 ∧p0<List.length p2 ∧∃i53 b54 l55 l56,List.getD p2 (Int.toNat p0) .top=.agg [nI i53,nB b54,.sl l55,.sl l56] ∧0≤p0 ∧p0<List.length p3 ∧∃i58 b59 l60 l61,List.getD p3 (Int.toNat p0) .top=.agg [nI i58,nB b59,.sl l60,.sl l61] ∧∃b62,pI 62 [.agg [nI i53,nB b54,.sl l55,.sl l56],.agg [nI i58,nB b59,.sl l60,.sl l61]] (nB b62) ∧ITE (!b62) (R (nB false)) (p5 ((p3,(),p2,p1,IntKind.wrap .i64 (p0+1),()),()))) (R (nB true))
abbrev vc61_L4 (p0:vc61_T0) (R:AV→Prop):Prop :=LoopP _ p0 fun z51 ag52=>vc61_R4 z51.1.2.2.2.2.1 z51.1.2.2.2.1 z51.1.2.2.1 z51.1.1 R ag52
abbrev vc61 (a0 a1:List AV) (R:AV→Prop):Prop :=ITE (((List.length a0:Nat):Int) != ((List.length a1:Nat):Int)) (R (nB false)) (vc61_L4 ((a1,(),a0,((List.length a0:Nat):Int),0,()),()) R)
theorem vc61_ok {a0 a1:List AV} {R:AV→Prop} (h:vc61 a0 a1 R):Pure Tryz.prog 61 [.sl a0,.sl a1,.clo 62 []] R:=
 pure_of_code (C:=cfg (Func.ntmps Tryz.f61)) (cfg_tab _ _ _ _ _) (cfg_ord _ _ _ _ _) (L:=[{ key:=4,live:=[(1,none),(2,none),(15,none),(16,none),(17,none)] }]) (fn:=Tryz.f61) Tryz.func61 (by exact rfl) (by kernel_rfl) (by kernel_rfl) (by rfl) (of_eq (by kernel_rfl) h)
abbrev vc52_T0:Type:=(List AV×Unit×List AV×Int×Int×Unit)×(Unit)
abbrev vc52_R4 (p0 p1:Int) (p2 p3:List AV) (R:AV→Prop) (p5:vc52_T0→Prop):Prop :=ITE (decide (p0<p1)) (0≤p0 ∧p0<List.length p2 ∧∃l53 i54 i55 l56 l57 i58 i59 l60 l61 l62,List.getD p2 (Int.toNat p0) .top=.agg [.sl l53,nI i54,nI i55,.sl l56,.sl l57,nI i58,nI i59,.sl l60,.sl l61,.sl l62] ∧0≤p0 ∧p0<List.length p3 ∧∃l64 i65 i66 l67 l68 i69 i70 l71 l72 l73,List.getD p3 (Int.toNat p0) .top=.agg [.sl l64,nI i65,nI i66,.sl l67,.sl l68,nI i69,nI i70,.sl l71,.sl l72,.sl l73] ∧∃b74,pI 53 [.agg [.sl l53,nI i54,nI i55,.sl l56,.sl l57,nI i58,nI i59,.sl l60,.sl l61,.sl l62],.agg [.sl l64,nI i65,nI i66,.sl l67,.sl l68,nI i69,nI i70,.sl l71,.sl l72,.sl l73]] (nB b74) ∧ITE (!b74) (R (nB false)) (p5 ((p3,(),p2,p1,IntKind.wrap .i64 (p0+1),()),()))) (R (nB true))
abbrev vc52_L4 (p0:vc52_T0) (R:AV→Prop):Prop :=LoopP _ p0 fun z51 ag52=>vc52_R4 z51.1.2.2.2.2.1 z51.1.2.2.2.1 z51.1.2.2.1 z51.1.1 R ag52
abbrev vc52 (a0 a1:List AV) (R:AV→Prop):Prop :=ITE (((List.length a0:Nat):Int) != ((List.length a1:Nat):Int)) (R (nB false)) (vc52_L4 ((a1,(),a0,((List.length a0:Nat):Int),0,()),()) R)
theorem vc52_ok {a0 a1:List AV} {R:AV→Prop} (h:vc52 a0 a1 R):Pure Tryz.prog 52 [.sl a0,.sl a1,.clo 53 []] R:=
 pure_of_code (C:=cfg (Func.ntmps Tryz.f52)) (cfg_tab _ _ _ _ _) (cfg_ord _ _ _ _ _) (L:=[{ key:=4,live:=[(1,none),(2,none),(15,none),(16,none),(17,none)] }]) (fn:=Tryz.f52) Tryz.func52 (by exact rfl) (by kernel_rfl) (by kernel_rfl) (by rfl) (of_eq (by kernel_rfl) h)
abbrev vc100_T0:Type:=((Value×Unit×Int×Unit)×(Unit))×Gh
abbrev vc100_R1 (p0:Int) (p1:List AV) (p2 p3:Value) (p4:Gh) (R:Bool→Gh→Prop) (p6:List AV) (p7:vc100_T0→Prop):Prop :=ITE (decide (p0≥0)) (0≤p0 ∧p0<List.length p1 ∧∃i52 b53 l54 l55,List.getD p1 (Int.toNat p0) .top=.agg [nI i52,nB b53,.sl l54,.sl l55] ∧p2=p3 ∧∃(m58:List (List AV)),p4=some ([nI p0,.agg [nI i52,nB b53,.sl l54,.sl l55]]::m58) ∧∀b60:Bool,ITE (!b60) (R true (gT b60 m58)) ((.eptr (.sl p1) 0:AV)=.eptr (.sl p6) 0 ∧p7 (((p2,(),IntKind.wrap .i64 (p0-1),()),()),gT b60 m58))) (R true p4)
abbrev vc100_L1 (p0:vc100_T0) (p1:List AV) (p2:Value) (R:Bool→Gh→Prop):Prop :=LoopP _ p0 fun z51 ag52=>vc100_R1 z51.1.1.2.2.1 p1 z51.1.1.1 p2 z51.2 R p1 ag52
def vc100 (t0:List AV) (yv:Value) (g:Gh) (R:Bool→Gh→Prop):Prop :=(.eptr (.sl t0) 0:AV)=.eptr (.sl t0) 0 ∧vc100_L1 (((yv,(),IntKind.wrap .i64 (((List.length t0:Nat):Int)-1),()),()),g) t0 yv R
theorem vc100_ok {t0:List AV} {L:List (List AV)} (h:∀(yv:Value) (more:List (List AV)),vc100 t0 yv (some (L++more)) (RY false more)):YFn Tryz.prog 100 (fun v=>[v,.eptr (.sl t0) 0]) L false:=
 yfn_of_code (C:=cfg (Func.ntmps Tryz.f100)) (cfg_tab _ _ _ _ _) (cfg_ord _ _ _ _ _) (L:=[{ key:=1,live:=[(0,none),(1,some (.v (.c (.q (.eptr (.sl t0) 0))))),(3,none)] }]) (fn:=Tryz.f100) Tryz.func100 (by exact rfl) (by kernel_rfl) (fun _=>by rfl) (by rfl) (fun yv more=>of_eq (by kernel_rfl) (h yv more))
abbrev vc58 (a0:List AV) (R:AV→Prop):Prop :=R (.clo 100 [.eptr (.sl a0) 0])
theorem vc58_ok {a0:List AV} {R:AV→Prop} (h:vc58 a0 R):Pure Tryz.prog 58 [.sl a0] R:=
 pure_of_code (C:=cfg (Func.ntmps Tryz.f58) [] [(100,.y false)] []) (cfg_tab _ _ _ _ _) (cfg_ord _ _ _ _ _) (L:=[]) (fn:=Tryz.f58) Tryz.func58 (by exact rfl) (by kernel_rfl) (by kernel_rfl) (by rfl) (of_eq (by kernel_rfl) h)
abbrev vc16 (a0:List AV) (R:AV→Prop):Prop :=pI 58 [.sl a0] (.clo 100 [.eptr (.sl a0) 0]) ∧0=List.length ([]:List AV) ∧RangeP ((Unit×Unit)×List AV×Unit) (Int×(Int×Bool×List AV×List AV×Unit)×Unit) (((),()),[],()) (fun Ls=>SeqIs Tryz.prog 100 [.eptr (.sl a0) 0] [.v (.c (.i .i64)),.v (.a [.i .i64,.b,.l,.l])] Ls) (fun e2 z1 again3=>∃i4 b5 l6 l7,pI 59 [.agg [nI e2.2.1.1,nB e2.2.1.2.1,.sl e2.2.1.2.2.1,.sl e2.2.1.2.2.2.1]] (.agg [nI i4,nB b5,.sl l6,.sl l7]) ∧List.length z1.2.1=List.length z1.2.1 ∧appOk td107 (List.length (z1.2.1++[.agg [nI i4,nB (!b5),.sl l6,.sl l7]])) [] [.agg [nI i4,nB (!b5),.sl l6,.sl l7]] ∧List.length (z1.2.1++[.agg [nI i4,nB (!b5),.sl l6,.sl l7]])=List.length (z1.2.1++[.agg [nI i4,nB (!b5),.sl l6,.sl l7]]) ∧again3 (((),()),z1.2.1++[.agg [nI i4,nB (!b5),.sl l6,.sl l7]],())) (fun z8=>List.length z8.2.1=List.length z8.2.1 ∧R (.sl z8.2.1))
theorem vc16_ok {a0:List AV} {R:AV→Prop} (h:vc16 a0 R):Pure Tryz.prog 16 [.sl a0] R:=
 pure_of_code (C:=cfg (Func.ntmps Tryz.f16) [] [(58,.clo 100)] []) (cfg_tab _ _ _ _ _) (cfg_ord _ _ _ _ _) (L:=[{ key:=4,live:=[],brows:=[(0,0,107)],prm:=[.v (.c (.i .i64)),.v (.a [.i .i64,.b,.l,.l])] }]) (fn:=Tryz.f16) Tryz.func16 (by exact rfl) (by kernel_rfl) (by kernel_rfl) (by rfl) (of_eq (by kernel_rfl) h)
abbrev vc99_T0:Type:=(List AV×List AV×Int×Unit)×(Unit)
abbrev vc99_R8 (p0:Bool) (R:AV→Prop) (p2:Int) (p3 p4:List AV) (p5:vc99_T0→Prop):Prop :=ITE p0 (R (nI 1)) (0≤p2 ∧p2<List.length p3 ∧∃i53,List.getD p3 (Int.toNat p2) .top=nI i53 ∧0≤p2 ∧p2<List.length p4 ∧∃i55,List.getD p4 (Int.toNat p2) .top=nI i55 ∧ITE (decide (i53<i55)) (R (nI (-1))) (0≤p2 ∧p2<List.length p3 ∧∃i56,List.getD p3 (Int.toNat p2) .top=nI i56 ∧0≤p2 ∧p2<List.length p4 ∧∃i57,List.getD p4 (Int.toNat p2) .top=nI i57 ∧ITE (decide (i56>i57)) (R (nI 1)) (p5 ((p3,p4,IntKind.wrap .i64 (p2+1),()),()))))
abbrev vc99_R3 (p0:Int) (p1 p2:List AV) (R:AV→Prop) (p4:vc99_T0→Prop):Prop :=ITE (p0==((List.length p1:Nat):Int)) (ITE (p0==((List.length p2:Nat):Int)) (R (nI 0)) (ITE (p0==((List.length p1:Nat):Int)) (R (nI (-1))) (vc99_R8 (p0==((List.length p2:Nat):Int)) R p0 p1 p2 p4))) (ITE (p0==((List.length p1:Nat):Int)) (R (nI (-1))) (vc99_R8 (p0==((List.length p2:Nat):Int)) R p0 p1 p2 p4))
abbrev vc99_L3 (p0:vc99_T0) (R:AV→Prop):Prop :=LoopP _ p0 fun z51 ag52=>vc99_R3 z51.1.2.2.1 z51.1.1 z51.1.2.1 R ag52
abbrev vc99 (a0 a1:List AV) (R:AV→Prop):Prop :=vc99_L3 ((a0,a1,0,()),()) R
theorem vc99_ok {a0 a1:List AV} {R:AV→Prop} (h:vc99 a0 a1 R):Pure Tryz.prog 99 [.sl a0,.sl a1] R:=
 pure_of_code (C:=cfg (Func.ntmps Tryz.f99)) (cfg_tab _ _ _ _ _) (cfg_ord _ _ _ _ _) (L:=[{ key:=3,live:=[(0,none),(1,none),(5,none)] }]) (fn:=Tryz.f99) Tryz.func99 (by exact rfl) (by kernel_rfl) (by kernel_rfl) (by rfl) (of_eq (by kernel_rfl) h)
abbrev vc55 (a0 a1:List AV) (R:AV→Prop):Prop :=∃i1,pI 99 [.sl a0,.sl a1] (nI i1) ∧R (nB (i1==0))
theorem vc55_ok {a0 a1:List AV} {R:AV→Prop} (h:vc55 a0 a1 R):Pure Tryz.prog 55 [.sl a0,.sl a1] R:=
 pure_of_code (C:=cfg (Func.ntmps Tryz.f55)) (cfg_tab _ _ _ _ _) (cfg_ord _ _ _ _ _) (L:=[]) (fn:=Tryz.f55) Tryz.func55 (by exact rfl) (by kernel_rfl) (by kernel_rfl) (by rfl) (of_eq (by kernel_rfl) h)
end Go.Proofs.YtjhanogfpkbamaaGreatDoor
