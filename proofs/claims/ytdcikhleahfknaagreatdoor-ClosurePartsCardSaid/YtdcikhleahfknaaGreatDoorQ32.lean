/- Texts of ours laid together for a claim: Tab. -/
import Derived.Test.YtdcikhleahfknaaGreatDoorProg
import Derived.KernelRfl
import Derived.Test.YtdcikhleahfknaaGreatDoorQ31
namespace Go.Proofs.YtdcikhleahfknaaGreatDoor
open Go
set_option linter.unusedSimpArgs false
set_option linter.unusedVariables false
def tc (k:TK) (b:Nat) (z:Value):TD:={ flat:=false,kind:=k,size:=1,bytes:=b,zero:=z }
def ti (k:IntKind) (b:Nat):TD:=tc (.int k) b (.int k 0)
def ts (e:Nat):TD:=tc (.iu e) 24 (.slice none 0 0)
def tp (e:Nat):TD:=tc (.ptr e) 8 (.pointer none)
def tf:TD:=tc .other 8 .nilFunc
def tg (k:TK) (b:Nat) (z:List Value) (f:Bool:=false):TD:={ flat:=f,kind:=k,size:=z.length,bytes:=b,zero:=.agg z.toArray }
abbrev lT:Value:=.int .i64 0
abbrev kP:Value:=.slice none 0 0
abbrev zeT:Value:=.string ⟨#[]⟩
def td1:TD:=tf
def td2:TD:=ti .i64 8
def S2:TD:=ti .i64 8
def td4:TD:=tc (.bool) 1 (.bool false)
def ZG:TD:=ti .u8 1
def td9:TD:=tc (.str) 16 (zeT)
def W9:TD:=ti .i32 4
def Xa:TD:=ts 90
def Xb:TD:=ts 80
def Xc:TD:=tg (.bP [(0,1,false),(1,1,false),(2,1,false)]) 56 [lT,kP,kP]
def Xd:TD:=ts 116
def S4:TD:=tg (.bP [(0,1,false),(1,1,false)]) 16 [lT,lT] true
def Xe:TD:=ts 31
def Jb:TD:=tg (.bP [(0,1,false),(1,2,true),(3,1,false)]) 64 [kP,lT,lT,kP]
def Xf:TD:=tg (.bP [(0,4,true),(4,4,true),(8,1,false)]) 152 [kP,lT,lT,kP,kP,lT,lT,kP,kP]
def Xg:TD:=tp 149
def Xh:TD:=ti .i64 8
def Xi:TD:=tf
def Xj:TD:=ts 88
def S5:TD:=tg (.bP [(0,1,false),(1,1,false)]) 16 [lT,lT] true
def Xk:TD:=ts 46
def vA:TD:=tg (.bP [(0,1,false),(1,2,true),(3,1,false)]) 64 [kP,lT,lT,kP]
def Xl:TD:=tg (.bP [(0,4,true),(4,4,true),(8,1,false)]) 152 [kP,lT,lT,kP,kP,lT,lT,kP,kP]
def Xm:TD:=tf
def Xn:TD:=tg (.bP [(0,1,false),(1,1,false),(2,1,false)]) 56 [lT,kP,kP]
def Xo:TD:=tg (.bP [(0,1,false),(1,1,false),(2,1,false)]) 56 [lT,kP,kP]
def Xp:TD:=ts 81
def S6:TD:=tg (.bP [(0,1,false),(1,1,false)]) 16 [lT,lT] true
def QV:TD:=tg (.bP [(0,1,false),(1,1,false)]) 16 [lT,lT] true
def Xq:TD:=ts 33
def AF:TD:=tg (.bP [(0,1,false),(1,1,false)]) 32 [kP,lT]
def S7:TD:=tg (.arr 2) 16 [lT,lT]
def Xr:TD:=tp 110
def Xs:TD:=tg (.bP []) 0 []
def Xt:TD:=tg (.bP []) 0 []
def Xu:TD:=ti .u32 4
def Xv:TD:=tg (.bP [(0,0,true),(0,1,false)]) 4 [.int .u32 0]
def S8:TD:=tg (.bP [(0,1,false),(1,1,false)]) 8 [.int .i32 0,.int .u32 0]
def S9:TD:=tg (.bP [(0,0,true),(0,2,true)]) 8 [.int .i32 0,.int .u32 0]
def Ta:TD:=tg (.bP [(0,0,true),(0,1,true),(1,2,true)]) 12 [.int .u32 0,.int .i32 0,.int .u32 0]
def Tb:TD:=tc (.l5 9 4) 8 (.map none)
def Tc:TD:=tg (.bP [(0,3,true),(3,1,false)]) 24 [.int .u32 0,.int .i32 0,.int .u32 0,.map none]
def Td:TD:=tg (.bP [(0,9,true),(9,1,false),(10,1,false),(11,4,true)]) 208 [kP,lT,lT,kP,kP,lT,lT,kP,kP,.pointer none,kP,.int .u32 0,.int .i32 0,.int .u32 0,.map none]
def Te:TD:=tf
def AG:TD:=tg (.bP [(0,1,false),(1,1,false)]) 32 [kP,lT]
def Tf:TD:=ts 48
def Tg:TD:=tf
def Th:TD:=tf
def Ti:TD:=tf
def Tj:TD:=tc (.l5 3 3) 8 (.map none)
def Tk:TD:=ts 192
def Tl:TD:=tg (.bP [(0,3,true),(3,1,false)]) 40 [.int .u32 0,.int .i32 0,.int .u32 0,kP]
def Tn:TD:=tg (.bP []) 0 []
def To:TD:=tg (.bP [(0,0,true),(0,0,true),(0,1,false)]) 8 [lT]
def Tp:TD:=tg (.bP [(0,1,false),(1,1,false),(2,1,false),(3,4,true),(7,1,true),(8,1,false)]) 112 [lT,kP,.map none,.int .u32 0,.int .i32 0,.int .u32 0,kP,lT,kP]
def Tq:TD:=tf
def Tr:TD:=ts 249
def Ts:TD:=ts 3
def Tt:TD:=ts 262
def Tu:TD:=tp 108
def Tv:TD:=tp 200
def Tw:TD:=ts 5
def Tx:TD:=tg (.bP [(0,1,false),(1,1,false)]) 32 [.pointer none,kP]
def Tz:TD:=tf
def TA:TD:=tf
def TB:TD:=tf
def TC:TD:=tf
def TE:TD:=tf
def Pw:TD:=tg (.bP [(0,1,false),(1,1,false)]) 16 [lT,lT] true
def TF:TD:=tp 234
def TG:TD:=tg (.bP [(0,1,false),(1,1,false)]) 32 [.map none,kP]
def TH:TD:=tg (.bP [(0,1,false)]) 8 [.pointer none]
def TI:TD:=ts 182
def TJ:TD:=tg (.bP [(0,1,false),(1,1,false),(2,1,false),(3,1,false)]) 80 [lT,kP,kP,kP]
def TL:TD:=ts 28
def TM:TD:=ts 297
def TN:TD:=ti .u64 8
def TP:TD:=tp 105
def TQ:TD:=tp 5
def TR:TD:=ts 42
def TT:TD:=tf
def TU:TD:=ti .u64 8
def TV:TD:=tp 2
def TW:TD:=tp 97
def TX:TD:=tf
def Px:TD:=tg (.bP [(0,1,false),(1,1,false),(2,1,false),(3,1,false)]) 80 [lT,kP,kP,kP]
def TY:TD:=ti .i64 8
def TZ:TD:=tc (.l5 3 4) 8 (.map none)
def T0:TD:=ti .u64 8
def T5:TD:=tp 3
def T6:TD:=tp 101
def T7:TD:=tp 21
def T8:TD:=tg (.arr 20) 160 [.int .u64 0,.int .u64 0,.int .u64 0,.int .u64 0,.int .u64 0,.int .u64 0,.int .u64 0,.int .u64 0,.int .u64 0,.int .u64 0,.int .u64 0,.int .u64 0,.int .u64 0,.int .u64 0,.int .u64 0,.int .u64 0,.int .u64 0,.int .u64 0,.int .u64 0,.int .u64 0]
theorem QW:eK Tryz.prog 28 S4:=ki (by kernel_rfl) (by kernel_rfl) (by rfl) rfl (by kernel_rfl) (by kernel_rfl) (by kernel_rfl) (by kernel_rfl)
theorem QX:eK Tryz.prog 43 S5:=ki (by kernel_rfl) (by kernel_rfl) (by rfl) rfl (by kernel_rfl) (by kernel_rfl) (by kernel_rfl) (by kernel_rfl)
theorem QY:eK Tryz.prog 80 S6:=ki (by kernel_rfl) (by kernel_rfl) (by rfl) rfl (by kernel_rfl) (by kernel_rfl) (by kernel_rfl) (by kernel_rfl)
theorem QZ:eK Tryz.prog 81 QV:=ki (by kernel_rfl) (by kernel_rfl) (by rfl) rfl (by kernel_rfl) (by kernel_rfl) (by kernel_rfl) (by kernel_rfl)
theorem My:eK Tryz.prog 227 Pw:=ki (by kernel_rfl) (by kernel_rfl) (by rfl) rfl (by kernel_rfl) (by kernel_rfl) (by kernel_rfl) (by kernel_rfl)
def Mz:List (Nat×TD):=[(1,td1),(2,td2),(3,S2),(4,td4),(5,ZG),(9,td9),(21,W9),(22,Xa),(23,Xb),(25,Xc),(26,Xd),(29,Xe),(31,Jb),(33,Xf),(34,Xg),(35,Xh),(40,Xi),(42,Xj),(44,Xk),(46,vA),(48,Xl),(59,Xm),(63,Xn),(66,Xo),(78,Xp),(84,Xq),(88,AF),(90,S7),(93,Xr),(95,Xs),(96,Xt),(97,Xu),(99,Xv),(101,S8),(103,S9),(105,Ta),(106,Tb),(108,Tc),(110,Td),(111,Te),(116,AG),(128,Tf),(134,Tg),(136,Th),(138,Ti),(140,Tj),(142,Tk),(144,Tl),(145,Tn),(147,To),(149,Tp),(159,Tq),(179,Tr),(182,Ts),(192,Tt),(194,Tu),(197,Tv),(198,Tw),(200,Tx),(207,Tz),(208,TA),(209,TB),(217,TC),(222,TE),(232,TF),(234,TG),(236,TH),(242,TI),(249,TJ),(250,TL),(252,TM),(262,TN),(263,TP),(264,TQ),(267,TR),(272,TT),(281,TU),(284,TV),(287,TW),(292,TX),(297,Px),(299,TY),(314,TZ),(317,T0),(321,T5),(323,T6),(325,T7),(330,T8)]
def T9:List (Nat×TD):=Mz++[(28,S4),(43,S5),(80,S6),(81,QV),(227,Pw)]
def tab (T:Nat):Option TD:=(T9.find? (fun p=>p.1==T)).map (·.2)
def ZH (P:Program) (p:Nat×TD):Option (Nat×Nat×Option Value)×Option Bool×Bool×Bool:=((P.info? p.1).map (fun i=>(i.size,i.bytes,i.zero)),(P.underlying p.1).map (fun u=>gC P u p.2.kind),zH p.2,p.2.flat)
theorem MA:∀p∈Mz,eK Tryz.prog p.1 p.2:=fun p hp=>by
 have h:Mz.map (ZH Tryz.prog)=Mz.map fun p=>(some (p.2.size,p.2.bytes,some p.2.zero),some true,true,false):=by kernel_rfl
 have h:=(List.map_inj_left.1 h) p hp
 simp only[ZH,Prod.mk.injEq] at h
 exact L4 h.1 h.2.1 h.2.2.1 h.2.2.2
theorem MB:∀p∈T9,eK Tryz.prog p.1 p.2:=List.forall_mem_append.2 ⟨MA,List.forall_mem_cons.2 ⟨QW,List.forall_mem_cons.2 ⟨QX,List.forall_mem_cons.2 ⟨QY,List.forall_mem_cons.2 ⟨QZ,List.forall_mem_cons.2 ⟨My,fun p h=>by cases h⟩⟩⟩⟩⟩⟩
theorem Dg:aL Tryz.prog tab:=HJ MB
end Go.Proofs.YtdcikhleahfknaaGreatDoor
