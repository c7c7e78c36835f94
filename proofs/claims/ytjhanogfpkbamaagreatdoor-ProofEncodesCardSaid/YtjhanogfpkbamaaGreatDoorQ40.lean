/- Texts of ours laid together for a claim: Ve7. -/
import Derived.Test.YtjhanogfpkbamaaGreatDoorQ39
namespace Go.Proofs.YtjhanogfpkbamaaGreatDoor
open Go
set_option linter.unusedSimpArgs false
set_option linter.unusedVariables false
set_option maxRecDepth 100000
abbrev vc139_T0:Type:=(List AV×Unit×List AV×Int×Int×Unit)×(Unit)
abbrev vc139_R4 (p0 p1:Int) (p2 p3:List AV) (R:AV→Prop) (p5:vc139_T0→Prop):Prop :=ITE (decide (p0<p1)) (0≤p0 ∧p0<List.length p2 ∧∃i53 l54 i55 i56 l57,List.getD p2 (Int.toNat p0) .top=.agg [nI i53,.sl l54,nI i55,nI i56,.sl l57] ∧0≤p0 ∧p0<List.length p3 ∧∃i59 l60 i61 i62 l63,List.getD p3 (Int.toNat p0) .top=.agg [nI i59,.sl l60,nI i61,nI i62,.sl l63] ∧∃b64,pI 140 [.agg [nI i53,.sl l54,nI i55,nI i56,.sl l57],.agg [nI i59,.sl l60,nI i61,nI i62,.sl l63]] (nB b64) ∧ITE (!b64) (R (nB false)) (p5 ((p3,(),p2,p1,IntKind.wrap .i64 (p0+1),()),()))) (R (nB true))
abbrev vc139_L4 (p0:vc139_T0) (R:AV→Prop):Prop :=LoopP _ p0 fun z51 ag52=>vc139_R4 z51.1.2.2.2.2.1 z51.1.2.2.2.1 z51.1.2.2.1 z51.1.1 R ag52
abbrev vc139 (a0 a1:List AV) (R:AV→Prop):Prop :=ITE (((List.length a0:Nat):Int) != ((List.length a1:Nat):Int)) (R (nB false)) (vc139_L4 ((a1,(),a0,((List.length a0:Nat):Int),0,()),()) R)
theorem vc139_ok {a0 a1:List AV} {R:AV→Prop} (h:vc139 a0 a1 R):Pure Tryz.prog 139 [.sl a0,.sl a1,.clo 140 []] R:=
 pure_of_code (C:=cfg (Func.ntmps Tryz.f139)) (cfg_tab _ _ _ _ _) (cfg_ord _ _ _ _ _) (L:=[{ key:=4,live:=[(1,none),(2,none),(15,none),(16,none),(17,none)] }]) (fn:=Tryz.f139) Tryz.func139 (by exact rfl) (by kernel_rfl) (by kernel_rfl) (by rfl) (of_eq (by kernel_rfl) h)
abbrev vc61_T0:Type:=(List AV×Unit×List AV×Int×Int×Unit)×(Unit)
abbrev vc61_R4 (p0 p1:Int) (p2 p3:List AV) (R:AV→Prop) (p5:vc61_T0→Prop):Prop :=ITE (decide (p0<p1)) (0≤p0 ∧p0<List.length p2 ∧∃i53 b54 l55 l56,List.getD p2 (Int.toNat p0) .top=.agg [nI i53,nB b54,.sl l55,.sl l56] ∧0≤p0 ∧p0<List.length p3 ∧∃i58 b59 l60 l61,List.getD p3 (Int.toNat p0) .top=.agg [nI i58,nB b59,.sl l60,.sl l61] ∧∃b62,pI 62 [.agg [nI i53,nB b54,.sl l55,.sl l56],.agg [nI i58,nB b59,.sl l60,.sl l61]] (nB b62) ∧ITE (!b62) (R (nB false)) (p5 ((p3,(),p2,p1,IntKind.wrap .i64 (p0+1),()),()))) (R (nB true))
abbrev vc61_L4 (p0:vc61_T0) (R:AV→Prop):Prop :=LoopP _ p0 fun z51 ag52=>vc61_R4 z51.1.2.2.2.2.1 z51.1.2.2.2.1 z51.1.2.2.1 z51.1.1 R ag52
abbrev vc61 (a0 a1:List AV) (R:AV→Prop):Prop :=ITE (((List.length a0:Nat):Int) != ((List.length a1:Nat):Int)) (R (nB false)) (vc61_L4 ((a1,(),a0,((List.length a0:Nat):Int),0,()),()) R)
theorem vc61_ok {a0 a1:List AV} {R:AV→Prop} (h:vc61 a0 a1 R):Pure Tryz.prog 61 [.sl a0,.sl a1,.clo 62 []] R:=
 pure_of_code (C:=cfg (Func.ntmps Tryz.f61)) (cfg_tab _ _ _ _ _) (cfg_ord _ _ _ _ _) (L:=[{ key:=4,live:=[(1,none),(2,none),(15,none),(16,none),(17,none)] }]) (fn:=Tryz.f61) Tryz.func61 (by exact rfl) (by kernel_rfl) (by kernel_rfl) (by rfl) (of_eq (by kernel_rfl) h)
abbrev vc52_T0:Type:=(List AV×Unit×List AV×Int×Int×Unit)×(Unit)
abbrev vc52_R4 (p0 p1:Int) (p2 p3:List AV) (R:AV→Prop) (p5:vc52_T0→Prop):Prop :=ITE (decide (p0<p1)) (0≤p0 ∧p0<List.length p2 ∧∃l53 i54 i55 l56 l57 i58 i59 l60 l61 l62,List.getD p2 (Int.toNat p0) .top=.agg [.sl l53,nI i54,nI i55,.sl l56,.sl l57,nI i58,nI i59,.sl l60,.sl l61,.sl l62] ∧0≤p0 ∧p0<List.length p3 ∧∃l64 i65 i66 l67 l68 i69 i70 l71 l72 l73,List.getD p3 (Int.toNat p0) .top=.agg [.sl l64,nI i65,nI i66,.sl l67,.sl l68,nI i69,nI i70,.sl l71,.sl l72,.sl l73] ∧∃b74,pI 53 [.agg [.sl l53,nI i54,nI i55,.sl l56,.sl l57,nI i58,nI i59,.sl l60,.sl l61,.sl l62],.agg [.sl l64,nI i65,nI i66,.sl l67,.sl l68,nI i69,nI i70,.sl l71,.sl l72,.sl l73]] (nB b74) ∧ITE (!b74) (R (nB false)) (p5 ((p3,(),p2,p1,IntKind.wrap .i64 (p0+1),()),()))) (R (nB true))
abbrev vc52_L4 (p0:vc52_T0) (R:AV→Prop):Prop :=LoopP _ p0 fun z51 ag52=>vc52_R4 z51.1.2.2.2.2.1 z51.1.2.2.2.1 z51.1.2.2.1 z51.1.1 R ag52
abbrev vc52 (a0 a1:List AV) (R:AV→Prop):Prop :=ITE (((List.length a0:Nat):Int) != ((List.length a1:Nat):Int)) (R (nB false)) (vc52_L4 ((a1,(),a0,((List.length a0:Nat):Int),0,()),()) R)
theorem vc52_ok {a0 a1:List AV} {R:AV→Prop} (h:vc52 a0 a1 R):Pure Tryz.prog 52 [.sl a0,.sl a1,.clo 53 []] R:=
 pure_of_code (C:=cfg (Func.ntmps Tryz.f52)) (cfg_tab _ _ _ _ _) (cfg_ord _ _ _ _ _) (L:=[{ key:=4,live:=[(1,none),(2,none),(15,none),(16,none),(17,none)] }]) (fn:=Tryz.f52) Tryz.func52 (by exact rfl) (by kernel_rfl) (by kernel_rfl) (by rfl) (of_eq (by kernel_rfl) h)
end Go.Proofs.YtjhanogfpkbamaaGreatDoor
