/- Texts of ours laid together for a claim: Tab. -/
import Derived.Test.YtjhanogfpkbamaaGreatDoorProg
import Derived.KernelRfl
import Derived.Test.YtjhanogfpkbamaaGreatDoorQ30
namespace Go.Proofs.YtjhanogfpkbamaaGreatDoor
open Go
set_option linter.unusedSimpArgs false
set_option linter.unusedVariables false
def tc (k:TK) (b:Nat) (z:Value):TD:={ flat:=false,kind:=k,size:=1,bytes:=b,zero:=z }
def ti (k:IntKind) (b:Nat):TD:=tc (.int k) b (.int k 0)
def ts (e:Nat):TD:=tc (.lO e) 24 (.slice none 0 0)
def tp (e:Nat):TD:=tc (.ptr e) 8 (.pointer none)
def tf:TD:=tc .other 8 .nilFunc
def tg (k:TK) (b:Nat) (z:List Value) (f:Bool:=false):TD:={ flat:=f,kind:=k,size:=z.length,bytes:=b,zero:=.agg z.toArray }
abbrev lz:Value:=.int .i64 0
abbrev nv:Value:=.slice none 0 0
abbrev Mn:Value:=.string ⟨#[]⟩
def td2:TD:=ti .i64 8
def Mo:TD:=ti .i64 8
def Yz:TD:=tc (.bool) 1 (.bool false)
def td5:TD:=ti .u8 1
def td9:TD:=tc (.str) 16 (Mn)
def acn:TD:=ti .i32 4
def aco:TD:=ts 63
def acp:TD:=ts 53
def acq:TD:=tg (.cY [(0,1,false)]) 24 [nv]
def acr:TD:=ti .i64 8
def YA:TD:=tg (.cY [(0,1,false),(1,1,false)]) 16 [lz,lz] true
def acs:TD:=tg (.cY [(0,1,false),(1,2,true),(3,1,false)]) 40 [lz,lz,lz,Mn]
def acu:TD:=ts 3
def acv:TD:=ts 101
def YB:TD:=tg (.cY [(0,1,false),(1,1,false)]) 16 [lz,lz] true
def acw:TD:=ts 48
def Rz:TD:=tg (.cY [(0,1,false),(1,2,true),(3,1,false)]) 64 [nv,lz,lz,nv]
def acy:TD:=tg (.cY [(0,4,true),(4,4,true),(8,1,false)]) 152 [nv,lz,lz,nv,nv,lz,lz,nv,nv]
def acz:TD:=ts 107
def Od:TD:=tg (.cY [(0,9,true),(9,1,false)]) 176 [nv,lz,lz,nv,nv,lz,lz,nv,nv,nv]
def acA:TD:=ts 163
def YC:TD:=tg (.cY [(0,1,false),(1,1,false)]) 16 [lz,lz] true
def acB:TD:=ts 58
def YD:TD:=tg (.cY [(0,1,false),(1,2,true),(3,1,false)]) 64 [nv,lz,lz,nv]
def acC:TD:=tg (.cY [(0,4,true),(4,4,true),(8,1,false)]) 152 [nv,lz,lz,nv,nv,lz,lz,nv,nv]
def acD:TD:=ts 121
def WB:TD:=tg (.cY [(0,9,true),(9,1,false)]) 176 [nv,lz,lz,nv,nv,lz,lz,nv,nv,nv]
def acE:TD:=tg (.cY [(0,1,false),(1,1,false),(2,1,false)]) 56 [lz,nv,nv]
def acF:TD:=tf
def acG:TD:=tp 98
def acH:TD:=tp 96
def acI:TD:=ts 5
def acJ:TD:=tg (.cY [(0,1,false),(1,1,false)]) 32 [.pointer none,nv]
def acK:TD:=tg (.cY [(0,1,false),(1,1,false)]) 16 [.pointer none,lz]
def qp:TD:=tg (.cY [(0,1,false),(1,1,false)]) 32 [nv,lz]
def YE:TD:=ts 177
def YF:TD:=ts 177
def E3:TD:=tg (.cY [(0,1,false),(1,1,false),(2,1,false),(3,1,false)]) 64 [lz,.bool false,nv,nv]
def YG:TD:=tc (.XB) 16 (.nilIface)
def YH:TD:=tp 115
def YI:TD:=tg (.cY [(0,1,false),(1,1,false)]) 24 [Mn,.bool false]
def YJ:TD:=ts 124
def Oe:TD:=tg (.cY [(0,1,false),(1,1,false),(2,1,false),(3,1,false)]) 64 [lz,.bool false,nv,nv]
def Vl:TD:=tg (.cY [(0,1,false),(1,4,true)]) 72 [lz,nv,lz,lz,nv]
def YK:TD:=ts 134
def YL:TD:=tp 132
def YM:TD:=tp 191
def YN:TD:=tg (.cY [(0,1,false),(1,4,true)]) 48 [.pointer none,lz,lz,lz,Mn]
def Of:TD:=tg (.cY [(0,1,false),(1,1,false),(2,1,false)]) 32 [lz,Mn,lz]
def YO:TD:=tf
def YP:TD:=tf
def YQ:TD:=tc (.pQ 3 3) 8 (.map none)
def YS:TD:=tc (.pQ 3 4) 8 (.map none)
def YT:TD:=ts 4
def E4:TD:=tg (.cY [(0,1,false),(1,1,false)]) 32 [nv,lz]
def YU:TD:=tf
def YV:TD:=ts 9
def Jz:TD:=tg (.cY [(0,1,false),(1,4,true)]) 72 [lz,nv,lz,lz,nv]
def YW:TD:=tp 5
def YX:TD:=tg (.arr 3) 48 [Mn,Mn,Mn]
def YY:TD:=tg (.cY [(0,1,false),(1,1,false),(2,1,false)]) 48 [nv,Mn,lz]
def YZ:TD:=tf
def Y1:TD:=tf
def Y2:TD:=ts 42
def Y3:TD:=tf
def Y4:TD:=tf
def Y5:TD:=tf
def Y6:TD:=tf
def Y7:TD:=tf
def Y8:TD:=tf
def Y9:TD:=ti .u64 8
def Za:TD:=ts 43
def Zb:TD:=tg (.arr 20) 160 [.int .u64 0,.int .u64 0,.int .u64 0,.int .u64 0,.int .u64 0,.int .u64 0,.int .u64 0,.int .u64 0,.int .u64 0,.int .u64 0,.int .u64 0,.int .u64 0,.int .u64 0,.int .u64 0,.int .u64 0,.int .u64 0,.int .u64 0,.int .u64 0,.int .u64 0,.int .u64 0]
def Zc:TD:=ti .u32 4
def Zd:TD:=ti .u64 8
def Ze:TD:=tg (.cY [(0,1,false),(1,1,false),(2,1,false)]) 48 [Mn,Mn,.nilIface]
def Zf:TD:=tg (.cY [(0,1,false)]) 16 [Mn]
theorem WC:iI Tryz.prog 36 YA:=uV (by kernel_rfl) (by kernel_rfl) (by rfl) rfl (by kernel_rfl) (by kernel_rfl) (by kernel_rfl) (by kernel_rfl)
theorem WD:iI Tryz.prog 45 YB:=uV (by kernel_rfl) (by kernel_rfl) (by rfl) rfl (by kernel_rfl) (by kernel_rfl) (by kernel_rfl) (by kernel_rfl)
theorem WE:iI Tryz.prog 55 YC:=uV (by kernel_rfl) (by kernel_rfl) (by rfl) rfl (by kernel_rfl) (by kernel_rfl) (by kernel_rfl) (by kernel_rfl)
def RA:List (Nat×TD):=[(2,td2),(3,Mo),(4,Yz),(5,td5),(9,td9),(21,acn),(22,aco),(25,acp),(27,acq),(29,acr),(38,acs),(42,acu),(43,acv),(46,acw),(48,Rz),(50,acy),(51,acz),(53,Od),(54,acA),(56,acB),(58,YD),(60,acC),(61,acD),(63,WB),(87,acE),(89,acF),(92,acG),(93,acH),(94,acI),(96,acJ),(98,acK),(101,qp),(104,YE),(105,YF),(107,E3),(110,YG),(113,YH),(115,YI),(119,YJ),(121,Oe),(124,Vl),(125,YK),(128,YL),(129,YM),(132,YN),(134,Of),(139,YO),(148,YP),(155,YQ),(157,YS),(158,YT),(163,E4),(166,YU),(171,YV),(177,Jz),(178,YW),(179,YX),(191,YY),(194,YZ),(197,Y1),(202,Y2),(216,Y3),(222,Y4),(225,Y5),(228,Y6),(230,Y7),(232,Y8),(245,Y9),(251,Za),(254,Zb),(255,Zc),(257,Zd),(269,Ze),(276,Zf)]
def Zg:List (Nat×TD):=RA++[(36,YA),(45,YB),(55,YC)]
def az (T:Nat):Option TD:=(Zg.find? (fun p=>p.1==T)).map (·.2)
def tyF (P:Program) (p:Nat×TD):Option (Nat×Nat×Option Value)×Option Bool×Bool×Bool:=((P.info? p.1).map (fun i=>(i.size,i.bytes,i.zero)),(P.underlying p.1).map (fun u=>jY P u p.2.kind),Ea p.2,p.2.flat)
theorem RB:∀p∈RA,iI Tryz.prog p.1 p.2:=fun p hp=>by
 have h:RA.map (tyF Tryz.prog)=RA.map fun p=>(some (p.2.size,p.2.bytes,some p.2.zero),some true,true,false):=by kernel_rfl
 have h:=(List.map_inj_left.1 h) p hp
 simp only[tyF,Prod.mk.injEq] at h
 exact Q7 h.1 h.2.1 h.2.2.1 h.2.2.2
theorem RC:∀p∈Zg,iI Tryz.prog p.1 p.2:=List.forall_mem_append.2 ⟨RB,List.forall_mem_cons.2 ⟨WC,List.forall_mem_cons.2 ⟨WD,List.forall_mem_cons.2 ⟨WE,fun p h=>by cases h⟩⟩⟩⟩
theorem WG:aT Tryz.prog az:=MW RC
end Go.Proofs.YtjhanogfpkbamaaGreatDoor
