/- Texts of ours laid together for a claim: Tab. -/
import Derived.Test.YtdcikhleahfknaaGreatDoorProg
import Derived.KernelRfl
import Derived.Test.YtdcikhleahfknaaGreatDoorQ31
namespace Go.Proofs.YtdcikhleahfknaaGreatDoor
open Go
set_option linter.unusedSimpArgs false
set_option linter.unusedVariables false
def tc (k:TK) (b:Nat) (z:Value):TD:={ flat:=false,kind:=k,size:=1,bytes:=b,zero:=z }
def ti (k:IntKind) (b:Nat):TD:=tc (.int k) b (.int k 0)
def ts (e:Nat):TD:=tc (.jS e) 24 (.slice none 0 0)
def tp (e:Nat):TD:=tc (.ptr e) 8 (.pointer none)
def tf:TD:=tc .other 8 .nilFunc
def tg (k:TK) (b:Nat) (z:List Value) (f:Bool:=false):TD:={ flat:=f,kind:=k,size:=z.length,bytes:=b,zero:=.agg z.toArray }
abbrev nZ:Value:=.int .i64 0
abbrev mQ:Value:=.slice none 0 0
abbrev zeT:Value:=.string ⟨#[]⟩
def td1:TD:=tf
def td2:TD:=ti .i64 8
def Dk:TD:=ti .i64 8
def td4:TD:=tc (.bool) 1 (.bool false)
def td5:TD:=ti .u8 1
def td9:TD:=tc (.str) 16 (zeT)
def afr:TD:=ti .i32 4
def afs:TD:=ts 90
def aft:TD:=ts 80
def afu:TD:=tg (.cr [(0,1,false),(1,1,false),(2,1,false)]) 56 [nZ,mQ,mQ]
def afv:TD:=ts 116
def LI:TD:=tg (.cr [(0,1,false),(1,1,false)]) 16 [nZ,nZ] true
def afw:TD:=ts 31
def LJ:TD:=tg (.cr [(0,1,false),(1,2,true),(3,1,false)]) 64 [mQ,nZ,nZ,mQ]
def LK:TD:=tg (.cr [(0,4,true),(4,4,true),(8,1,false)]) 152 [mQ,nZ,nZ,mQ,mQ,nZ,nZ,mQ,mQ]
def afx:TD:=tp 149
def afy:TD:=ti .i64 8
def afz:TD:=tf
def afA:TD:=ts 88
def aa3:TD:=tg (.cr [(0,1,false),(1,1,false)]) 16 [nZ,nZ] true
def afB:TD:=ts 46
def ss:TD:=tg (.cr [(0,1,false),(1,2,true),(3,1,false)]) 64 [mQ,nZ,nZ,mQ]
def aa4:TD:=tg (.cr [(0,4,true),(4,4,true),(8,1,false)]) 152 [mQ,nZ,nZ,mQ,mQ,nZ,nZ,mQ,mQ]
def afC:TD:=tf
def afD:TD:=tg (.cr [(0,1,false),(1,1,false),(2,1,false)]) 56 [nZ,mQ,mQ]
def afE:TD:=tg (.cr [(0,1,false),(1,1,false),(2,1,false)]) 56 [nZ,mQ,mQ]
def afF:TD:=ts 81
def aa5:TD:=tg (.cr [(0,1,false),(1,1,false)]) 16 [nZ,nZ] true
def TF:TD:=tg (.cr [(0,1,false),(1,1,false)]) 16 [nZ,nZ] true
def afG:TD:=ts 33
def BS:TD:=tg (.cr [(0,1,false),(1,1,false)]) 32 [mQ,nZ]
def aa6:TD:=tg (.arr 2) 16 [nZ,nZ]
def afH:TD:=tp 110
def afI:TD:=tg (.cr []) 0 []
def afJ:TD:=tg (.cr []) 0 []
def afK:TD:=ti .u32 4
def afL:TD:=tg (.cr [(0,0,true),(0,1,false)]) 4 [.int .u32 0]
def aa7:TD:=tg (.cr [(0,1,false),(1,1,false)]) 8 [.int .i32 0,.int .u32 0]
def aa8:TD:=tg (.cr [(0,0,true),(0,2,true)]) 8 [.int .i32 0,.int .u32 0]
def aa9:TD:=tg (.cr [(0,0,true),(0,1,true),(1,2,true)]) 12 [.int .u32 0,.int .i32 0,.int .u32 0]
def aba:TD:=tc (.oh 9 4) 8 (.map none)
def abb:TD:=tg (.cr [(0,3,true),(3,1,false)]) 24 [.int .u32 0,.int .i32 0,.int .u32 0,.map none]
def abc:TD:=tg (.cr [(0,9,true),(9,1,false),(10,1,false),(11,4,true)]) 208 [mQ,nZ,nZ,mQ,mQ,nZ,nZ,mQ,mQ,.pointer none,mQ,.int .u32 0,.int .i32 0,.int .u32 0,.map none]
def abd:TD:=tf
def Ah:TD:=tg (.cr [(0,1,false),(1,1,false)]) 32 [mQ,nZ]
def abe:TD:=ts 48
def abf:TD:=tf
def abg:TD:=tf
def abh:TD:=tf
def abi:TD:=tc (.oh 3 3) 8 (.map none)
def abj:TD:=ts 192
def abk:TD:=tg (.cr [(0,3,true),(3,1,false)]) 40 [.int .u32 0,.int .i32 0,.int .u32 0,mQ]
def abl:TD:=tg (.cr []) 0 []
def abm:TD:=tg (.cr [(0,0,true),(0,0,true),(0,1,false)]) 8 [nZ]
def abn:TD:=tg (.cr [(0,1,false),(1,1,false),(2,1,false),(3,4,true),(7,1,true),(8,1,false)]) 112 [nZ,mQ,.map none,.int .u32 0,.int .i32 0,.int .u32 0,mQ,nZ,mQ]
def abo:TD:=tf
def abp:TD:=ts 249
def OP:TD:=ts 3
def abq:TD:=ts 262
def abr:TD:=tp 108
def abt:TD:=tp 200
def abu:TD:=ts 5
def abv:TD:=tg (.cr [(0,1,false),(1,1,false)]) 32 [.pointer none,mQ]
def abw:TD:=tf
def abx:TD:=tf
def aby:TD:=tf
def abz:TD:=tf
def abA:TD:=tf
def Xt:TD:=tg (.cr [(0,1,false),(1,1,false)]) 16 [nZ,nZ] true
def abB:TD:=tp 234
def abC:TD:=tg (.cr [(0,1,false),(1,1,false)]) 32 [.map none,mQ]
def abD:TD:=tg (.cr [(0,1,false)]) 8 [.pointer none]
def abE:TD:=ts 182
def Xu:TD:=tg (.cr [(0,1,false),(1,1,false),(2,1,false),(3,1,false)]) 80 [nZ,mQ,mQ,mQ]
def abF:TD:=ts 28
def abG:TD:=ts 297
def abH:TD:=ti .u64 8
def abI:TD:=tp 105
def abJ:TD:=tp 5
def abK:TD:=ts 42
def abL:TD:=tf
def abM:TD:=ti .u64 8
def abN:TD:=tp 2
def abO:TD:=tp 97
def abP:TD:=tf
def Xv:TD:=tg (.cr [(0,1,false),(1,1,false),(2,1,false),(3,1,false)]) 80 [nZ,mQ,mQ,mQ]
def abQ:TD:=ti .i64 8
def abR:TD:=tc (.oh 3 4) 8 (.map none)
def abS:TD:=ti .u64 8
def abT:TD:=tp 3
def abU:TD:=tp 101
def abV:TD:=tp 21
def abW:TD:=tg (.arr 20) 160 [.int .u64 0,.int .u64 0,.int .u64 0,.int .u64 0,.int .u64 0,.int .u64 0,.int .u64 0,.int .u64 0,.int .u64 0,.int .u64 0,.int .u64 0,.int .u64 0,.int .u64 0,.int .u64 0,.int .u64 0,.int .u64 0,.int .u64 0,.int .u64 0,.int .u64 0,.int .u64 0]
theorem Y7:fN Tryz.prog 28 LI:=mg (by kernel_rfl) (by kernel_rfl) (by rfl) rfl (by kernel_rfl) (by kernel_rfl) (by kernel_rfl) (by kernel_rfl)
theorem Y8:fN Tryz.prog 43 aa3:=mg (by kernel_rfl) (by kernel_rfl) (by rfl) rfl (by kernel_rfl) (by kernel_rfl) (by kernel_rfl) (by kernel_rfl)
theorem Y9:fN Tryz.prog 80 aa5:=mg (by kernel_rfl) (by kernel_rfl) (by rfl) rfl (by kernel_rfl) (by kernel_rfl) (by kernel_rfl) (by kernel_rfl)
theorem Za:fN Tryz.prog 81 TF:=mg (by kernel_rfl) (by kernel_rfl) (by rfl) rfl (by kernel_rfl) (by kernel_rfl) (by kernel_rfl) (by kernel_rfl)
theorem TG:fN Tryz.prog 227 Xt:=mg (by kernel_rfl) (by kernel_rfl) (by rfl) rfl (by kernel_rfl) (by kernel_rfl) (by kernel_rfl) (by kernel_rfl)
def TH:List (Nat×TD):=[(1,td1),(2,td2),(3,Dk),(4,td4),(5,td5),(9,td9),(21,afr),(22,afs),(23,aft),(25,afu),(26,afv),(29,afw),(31,LJ),(33,LK),(34,afx),(35,afy),(40,afz),(42,afA),(44,afB),(46,ss),(48,aa4),(59,afC),(63,afD),(66,afE),(78,afF),(84,afG),(88,BS),(90,aa6),(93,afH),(95,afI),(96,afJ),(97,afK),(99,afL),(101,aa7),(103,aa8),(105,aa9),(106,aba),(108,abb),(110,abc),(111,abd),(116,Ah),(128,abe),(134,abf),(136,abg),(138,abh),(140,abi),(142,abj),(144,abk),(145,abl),(147,abm),(149,abn),(159,abo),(179,abp),(182,OP),(192,abq),(194,abr),(197,abt),(198,abu),(200,abv),(207,abw),(208,abx),(209,aby),(217,abz),(222,abA),(232,abB),(234,abC),(236,abD),(242,abE),(249,Xu),(250,abF),(252,abG),(262,abH),(263,abI),(264,abJ),(267,abK),(272,abL),(281,abM),(284,abN),(287,abO),(292,abP),(297,Xv),(299,abQ),(314,abR),(317,abS),(321,abT),(323,abU),(325,abV),(330,abW)]
def abX:List (Nat×TD):=TH++[(28,LI),(43,aa3),(80,aa5),(81,TF),(227,Xt)]
def tab (T:Nat):Option TD:=(abX.find? (fun p=>p.1==T)).map (·.2)
def tyF (P:Program) (p:Nat×TD):Option (Nat×Nat×Option Value)×Option Bool×Bool×Bool:=((P.info? p.1).map (fun i=>(i.size,i.bytes,i.zero)),(P.underlying p.1).map (fun u=>iX P u p.2.kind),DN p.2,p.2.flat)
theorem TI:∀p∈TH,fN Tryz.prog p.1 p.2:=fun p hp=>by
 have h:TH.map (tyF Tryz.prog)=TH.map fun p=>(some (p.2.size,p.2.bytes,some p.2.zero),some true,true,false):=by kernel_rfl
 have h:=(List.map_inj_left.1 h) p hp;simp only[tyF,alx] at h;exact S9 h.1 h.2.1 h.2.2.1 h.2.2.2
theorem TJ:∀p∈abX,fN Tryz.prog p.1 p.2:=List.forall_mem_append.2 ⟨TI,anf.2 ⟨Y7,anf.2 ⟨Y8,anf.2 ⟨Y9,anf.2 ⟨Za,anf.2 ⟨TG,fun p h=>by cases h⟩⟩⟩⟩⟩⟩
theorem HW:aZ Tryz.prog tab:=Nu TJ
end Go.Proofs.YtdcikhleahfknaaGreatDoor
