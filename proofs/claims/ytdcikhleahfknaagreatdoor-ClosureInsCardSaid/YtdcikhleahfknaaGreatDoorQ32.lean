/- Texts of ours laid together for a claim: Tab. -/
import Derived.Test.YtdcikhleahfknaaGreatDoorProg
import Derived.KernelRfl
import Derived.Test.YtdcikhleahfknaaGreatDoorQ31
namespace Go.Proofs.YtdcikhleahfknaaGreatDoor
open Go
set_option linter.unusedSimpArgs false
set_option linter.unusedVariables false
def tc (k:TK) (b:Nat) (z:Value):TD:={ flat:=false,kind:=k,size:=1,bytes:=b,zero:=z }
def ti (k:IntKind) (b:Nat):TD:=tc (.int k) b (.int k 0)
def ts (e:Nat):TD:=tc (.iW e) 24 (.slice none 0 0)
def tp (e:Nat):TD:=tc (.ptr e) 8 (.pointer none)
def tf:TD:=tc .other 8 .nilFunc
def tg (k:TK) (b:Nat) (z:List Value) (f:Bool:=false):TD:={ flat:=f,kind:=k,size:=z.length,bytes:=b,zero:=.agg z.toArray }
abbrev mA:Value:=.int .i64 0
abbrev lu:Value:=.slice none 0 0
abbrev zeT:Value:=.string ⟨#[]⟩
def td1:TD:=tf
def td2:TD:=ti .i64 8
def Q6:TD:=ti .i64 8
def td4:TD:=tc (.bool) 1 (.bool false)
def td5:TD:=ti .u8 1
def td9:TD:=tc (.str) 16 (zeT)
def YI:TD:=ti .i32 4
def YJ:TD:=ts 90
def YK:TD:=ts 80
def YL:TD:=tg (.bS [(0,1,false),(1,1,false),(2,1,false)]) 56 [mA,lu,lu]
def YM:TD:=ts 116
def UM:TD:=tg (.bS [(0,1,false),(1,1,false)]) 16 [mA,mA] true
def YN:TD:=ts 31
def N8:TD:=tg (.bS [(0,1,false),(1,2,true),(3,1,false)]) 64 [lu,mA,mA,lu]
def YO:TD:=tg (.bS [(0,4,true),(4,4,true),(8,1,false)]) 152 [lu,mA,mA,lu,lu,mA,mA,lu,lu]
def YP:TD:=tp 149
def YQ:TD:=ti .i64 8
def YS:TD:=tf
def YT:TD:=ts 88
def UN:TD:=tg (.bS [(0,1,false),(1,1,false)]) 16 [mA,mA] true
def YU:TD:=ts 46
def EA:TD:=tg (.bS [(0,1,false),(1,2,true),(3,1,false)]) 64 [lu,mA,mA,lu]
def YV:TD:=tg (.bS [(0,4,true),(4,4,true),(8,1,false)]) 152 [lu,mA,mA,lu,lu,mA,mA,lu,lu]
def YW:TD:=tf
def YX:TD:=tg (.bS [(0,1,false),(1,1,false),(2,1,false)]) 56 [mA,lu,lu]
def YY:TD:=tg (.bS [(0,1,false),(1,1,false),(2,1,false)]) 56 [mA,lu,lu]
def YZ:TD:=ts 81
def UO:TD:=tg (.bS [(0,1,false),(1,1,false)]) 16 [mA,mA] true
def N9:TD:=tg (.bS [(0,1,false),(1,1,false)]) 16 [mA,mA] true
def Y1:TD:=ts 33
def BO:TD:=tg (.bS [(0,1,false),(1,1,false)]) 32 [lu,mA]
def UQ:TD:=tg (.arr 2) 16 [mA,mA]
def Y2:TD:=tp 110
def Y3:TD:=tg (.bS []) 0 []
def Y4:TD:=tg (.bS []) 0 []
def Y5:TD:=ti .u32 4
def Y6:TD:=tg (.bS [(0,0,true),(0,1,false)]) 4 [.int .u32 0]
def UR:TD:=tg (.bS [(0,1,false),(1,1,false)]) 8 [.int .i32 0,.int .u32 0]
def US:TD:=tg (.bS [(0,0,true),(0,2,true)]) 8 [.int .i32 0,.int .u32 0]
def UT:TD:=tg (.bS [(0,0,true),(0,1,true),(1,2,true)]) 12 [.int .u32 0,.int .i32 0,.int .u32 0]
def UU:TD:=tc (.mI 9 4) 8 (.map none)
def UW:TD:=tg (.bS [(0,3,true),(3,1,false)]) 24 [.int .u32 0,.int .i32 0,.int .u32 0,.map none]
def UX:TD:=tg (.bS [(0,9,true),(9,1,false),(10,1,false),(11,4,true)]) 208 [lu,mA,mA,lu,lu,mA,mA,lu,lu,.pointer none,lu,.int .u32 0,.int .i32 0,.int .u32 0,.map none]
def UY:TD:=tf
def KA:TD:=tg (.bS [(0,1,false),(1,1,false)]) 32 [lu,mA]
def UZ:TD:=ts 48
def U0:TD:=tf
def U1:TD:=tf
def U2:TD:=tf
def U3:TD:=tc (.mI 3 3) 8 (.map none)
def U4:TD:=ts 192
def U5:TD:=tg (.bS [(0,3,true),(3,1,false)]) 40 [.int .u32 0,.int .i32 0,.int .u32 0,lu]
def U6:TD:=tg (.bS []) 0 []
def U7:TD:=tg (.bS [(0,0,true),(0,0,true),(0,1,false)]) 8 [mA]
def U8:TD:=tg (.bS [(0,1,false),(1,1,false),(2,1,false),(3,4,true),(7,1,true),(8,1,false)]) 112 [mA,lu,.map none,.int .u32 0,.int .i32 0,.int .u32 0,lu,mA,lu]
def U9:TD:=tf
def Va:TD:=ts 249
def Vb:TD:=ts 3
def Vc:TD:=ts 262
def Vd:TD:=tp 108
def Ve:TD:=tp 200
def Vf:TD:=ts 5
def Vg:TD:=tg (.bS [(0,1,false),(1,1,false)]) 32 [.pointer none,lu]
def Vh:TD:=tf
def Vi:TD:=tf
def Vj:TD:=tf
def Vk:TD:=tf
def Vl:TD:=tf
def Q7:TD:=tg (.bS [(0,1,false),(1,1,false)]) 16 [mA,mA] true
def Vm:TD:=tp 234
def Vn:TD:=tg (.bS [(0,1,false),(1,1,false)]) 32 [.map none,lu]
def Vo:TD:=tg (.bS [(0,1,false)]) 8 [.pointer none]
def Vp:TD:=ts 182
def Vq:TD:=tg (.bS [(0,1,false),(1,1,false),(2,1,false),(3,1,false)]) 80 [mA,lu,lu,lu]
def Vr:TD:=ts 28
def Vs:TD:=ts 297
def Vt:TD:=ti .u64 8
def Vu:TD:=tp 105
def Vv:TD:=tp 5
def Vw:TD:=ts 42
def Vx:TD:=tf
def Vy:TD:=ti .u64 8
def Vz:TD:=tp 2
def VA:TD:=tp 97
def VB:TD:=tf
def Q8:TD:=tg (.bS [(0,1,false),(1,1,false),(2,1,false),(3,1,false)]) 80 [mA,lu,lu,lu]
def VC:TD:=ti .i64 8
def VD:TD:=tc (.mI 3 4) 8 (.map none)
def VE:TD:=ti .u64 8
def VF:TD:=tp 3
def VG:TD:=tp 101
def VH:TD:=tp 21
def VI:TD:=tg (.arr 20) 160 [.int .u64 0,.int .u64 0,.int .u64 0,.int .u64 0,.int .u64 0,.int .u64 0,.int .u64 0,.int .u64 0,.int .u64 0,.int .u64 0,.int .u64 0,.int .u64 0,.int .u64 0,.int .u64 0,.int .u64 0,.int .u64 0,.int .u64 0,.int .u64 0,.int .u64 0,.int .u64 0]
theorem SG:fh Tryz.prog 28 UM:=kO (by kernel_rfl) (by kernel_rfl) (by rfl) rfl (by kernel_rfl) (by kernel_rfl) (by kernel_rfl) (by kernel_rfl)
theorem SH:fh Tryz.prog 43 UN:=kO (by kernel_rfl) (by kernel_rfl) (by rfl) rfl (by kernel_rfl) (by kernel_rfl) (by kernel_rfl) (by kernel_rfl)
theorem SI:fh Tryz.prog 80 UO:=kO (by kernel_rfl) (by kernel_rfl) (by rfl) rfl (by kernel_rfl) (by kernel_rfl) (by kernel_rfl) (by kernel_rfl)
theorem SJ:fh Tryz.prog 81 N9:=kO (by kernel_rfl) (by kernel_rfl) (by rfl) rfl (by kernel_rfl) (by kernel_rfl) (by kernel_rfl) (by kernel_rfl)
theorem Oa:fh Tryz.prog 227 Q7:=kO (by kernel_rfl) (by kernel_rfl) (by rfl) rfl (by kernel_rfl) (by kernel_rfl) (by kernel_rfl) (by kernel_rfl)
def Ob:List (Nat×TD):=[(1,td1),(2,td2),(3,Q6),(4,td4),(5,td5),(9,td9),(21,YI),(22,YJ),(23,YK),(25,YL),(26,YM),(29,YN),(31,N8),(33,YO),(34,YP),(35,YQ),(40,YS),(42,YT),(44,YU),(46,EA),(48,YV),(59,YW),(63,YX),(66,YY),(78,YZ),(84,Y1),(88,BO),(90,UQ),(93,Y2),(95,Y3),(96,Y4),(97,Y5),(99,Y6),(101,UR),(103,US),(105,UT),(106,UU),(108,UW),(110,UX),(111,UY),(116,KA),(128,UZ),(134,U0),(136,U1),(138,U2),(140,U3),(142,U4),(144,U5),(145,U6),(147,U7),(149,U8),(159,U9),(179,Va),(182,Vb),(192,Vc),(194,Vd),(197,Ve),(198,Vf),(200,Vg),(207,Vh),(208,Vi),(209,Vj),(217,Vk),(222,Vl),(232,Vm),(234,Vn),(236,Vo),(242,Vp),(249,Vq),(250,Vr),(252,Vs),(262,Vt),(263,Vu),(264,Vv),(267,Vw),(272,Vx),(281,Vy),(284,Vz),(287,VA),(292,VB),(297,Q8),(299,VC),(314,VD),(317,VE),(321,VF),(323,VG),(325,VH),(330,VI)]
def VJ:List (Nat×TD):=Ob++[(28,UM),(43,UN),(80,UO),(81,N9),(227,Q7)]
def tab (T:Nat):Option TD:=(VJ.find? (fun p=>p.1==T)).map (·.2)
def tyF (P:Program) (p:Nat×TD):Option (Nat×Nat×Option Value)×Option Bool×Bool×Bool:=((P.info? p.1).map (fun i=>(i.size,i.bytes,i.zero)),(P.underlying p.1).map (fun u=>gV P u p.2.kind),AX p.2,p.2.flat)
theorem Oc:∀p∈Ob,fh Tryz.prog p.1 p.2:=fun p hp=>by
 have h:Ob.map (tyF Tryz.prog)=Ob.map fun p=>(some (p.2.size,p.2.bytes,some p.2.zero),some true,true,false):=by kernel_rfl
 have h:=(List.map_inj_left.1 h) p hp
 simp only[tyF,Prod.mk.injEq] at h
 exact NC h.1 h.2.1 h.2.2.1 h.2.2.2
theorem Od:∀p∈VJ,fh Tryz.prog p.1 p.2:=List.forall_mem_append.2 ⟨Oc,List.forall_mem_cons.2 ⟨SG,List.forall_mem_cons.2 ⟨SH,List.forall_mem_cons.2 ⟨SI,List.forall_mem_cons.2 ⟨SJ,List.forall_mem_cons.2 ⟨Oa,fun p h=>by cases h⟩⟩⟩⟩⟩⟩
theorem EB:aQ Tryz.prog tab:=Jl Od
end Go.Proofs.YtdcikhleahfknaaGreatDoor
