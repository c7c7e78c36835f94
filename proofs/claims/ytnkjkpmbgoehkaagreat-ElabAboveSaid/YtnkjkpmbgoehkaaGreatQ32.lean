/- Texts of ours laid together for a claim: Tab. -/
import Derived.Test.YtnkjkpmbgoehkaaGreatProg
import Derived.KernelRfl
import Derived.Test.YtnkjkpmbgoehkaaGreatQ31
namespace Go.Proofs.YtnkjkpmbgoehkaaGreat
open Go
set_option linter.unusedSimpArgs false
set_option linter.unusedVariables false
def tc (k:TK) (b:Nat) (z:Value):TD:={ flat:=false,kind:=k,size:=1,bytes:=b,zero:=z }
def ti (k:IntKind) (b:Nat):TD:=tc (.int k) b (.int k 0)
def ts (e:Nat):TD:=tc (.kC e) 24 (.slice none 0 0)
def tp (e:Nat):TD:=tc (.ptr e) 8 (.pointer none)
def tf:TD:=tc .other 8 .nilFunc
def tg (k:TK) (b:Nat) (z:List Value) (f:Bool:=false) (g:Bool:=false):TD:={ flat:=f,four:=g,kind:=k,size:=z.length,bytes:=b,zero:=.agg z.toArray }
abbrev dq:Value:=.int .i64 0
abbrev eX:Value:=.slice none 0 0
abbrev GC:Value:=.string ⟨#[]⟩
def td1:TD:=tf
def td2:TD:=ti .i64 8
def OM:TD:=ti .i64 8
def td4:TD:=tc (.bool) 1 (.bool false)
def td5:TD:=ti .u8 1
def Ww:TD:=tc (.str) 16 (GC)
def aft:TD:=ti .i32 4
def afu:TD:=ts 9
def afv:TD:=ts 143
def afw:TD:=tg (.bj [(0,1,false),(1,1,false)]) 48 [eX,eX]
def afx:TD:=ts 66
def afy:TD:=ts 75
def afz:TD:=ts 130
def afA:TD:=ts 138
def afB:TD:=ts 126
def afC:TD:=tg (.bj [(0,2,true),(2,1,false),(3,1,false),(4,1,false),(5,1,false),(6,1,false),(7,1,false),(8,1,false)]) 216 [eX,eX,eX,eX,eX,eX,eX,eX,eX]
def afD:TD:=ti .i64 8
def ZZ:TD:=tg (.bj [(0,1,false),(1,1,false)]) 16 [dq,dq] true
def Z0:TD:=tg (.bj [(0,1,false),(1,2,true),(3,1,false)]) 40 [dq,dq,dq,GC] false true
def afE:TD:=ts 219
def afF:TD:=tg (.bj [(0,1,false),(1,1,false)]) 48 [eX,eX]
def afG:TD:=ts 87
def afH:TD:=ts 227
def afI:TD:=ts 132
def afJ:TD:=ts 134
def afK:TD:=tg (.bj [(0,2,true),(2,1,false),(3,1,false),(4,1,false),(5,1,false),(6,1,false),(7,1,false),(8,1,false)]) 216 [eX,eX,eX,eX,eX,eX,eX,eX,eX]
def Z1:TD:=tg (.bj [(0,1,false),(1,1,false)]) 16 [dq,dq] true
def Z2:TD:=tg (.bj [(0,1,false),(1,2,true),(3,1,false)]) 40 [dq,dq,dq,GC] false true
def afL:TD:=tg (.bj [(0,1,false),(1,1,false),(2,1,false)]) 56 [dq,eX,eX]
def qy:TD:=tg (.bj [(0,1,false),(1,1,false)]) 32 [eX,dq]
def Z3:TD:=tg (.bj [(0,1,false),(1,1,false)]) 16 [dq,dq] true
def afM:TD:=ts 73
def Eg:TD:=tg (.bj [(0,1,false),(1,2,true),(3,1,false)]) 64 [eX,dq,dq,eX]
def OO:TD:=tg (.bj [(0,1,false),(1,4,true),(5,4,true)]) 144 [GC,eX,dq,dq,eX,eX,dq,dq,eX]
def afN:TD:=ts 81
def afO:TD:=tg (.bj [(0,1,false),(1,2,true),(3,1,false),(4,1,false)]) 72 [dq,eX,dq,dq,eX]
def afP:TD:=tf
def afQ:TD:=tg (.bj [(0,1,false),(1,1,false)]) 32 [eX,dq]
def Z4:TD:=tg (.bj [(0,1,false),(1,1,false)]) 16 [dq,dq] true
def afR:TD:=ts 95
def Z5:TD:=tg (.bj [(0,1,false),(1,2,true),(3,1,false)]) 64 [eX,dq,dq,eX]
def Z6:TD:=ts 112
def Z7:TD:=tp 109
def Z8:TD:=tc (.oy 9 206) 8 (.map none)
def Z9:TD:=tg (.bj [(0,9,true),(9,1,false),(10,1,false),(11,4,true)]) 280 [eX,eX,eX,eX,eX,eX,eX,eX,eX,GC,.map none,dq,dq,dq,GC]
def aaa:TD:=ts 176
def Wx:TD:=tg (.bj [(0,1,false),(1,1,false),(2,1,false),(3,1,false),(4,1,false)]) 72 [dq,eX,eX,dq,dq]
def aab:TD:=ts 123
def aac:TD:=tp 48
def Wy:TD:=tg (.bj [(0,1,false),(1,1,false)]) 16 [dq,dq] true
def aad:TD:=ts 182
def aae:TD:=tg (.bj [(0,1,false),(1,1,false),(2,1,false),(3,1,false),(4,1,false)]) 72 [dq,eX,eX,dq,dq]
def Eh:TD:=tg (.bj [(0,1,false),(1,1,false),(2,4,true),(6,4,true),(10,1,false)]) 152 [dq,dq,eX,dq,dq,eX,eX,dq,dq,eX,dq]
def Wz:TD:=tg (.arr 2) 16 [dq,dq]
def WA:TD:=tg (.bj [(0,1,false),(1,1,false)]) 16 [dq,dq] true
def aaf:TD:=tg (.bj [(0,1,false),(1,1,false),(2,4,true),(6,4,true),(10,1,false)]) 152 [dq,dq,eX,dq,dq,eX,eX,dq,dq,eX,dq]
def OP:TD:=tg (.bj [(0,1,false),(1,1,false)]) 16 [dq,dq] true
def aag:TD:=tc (.oy 3 4) 8 (.map none)
def aah:TD:=ts 3
def OQ:TD:=tg (.bj [(0,1,false),(1,2,true)]) 48 [GC,eX,dq]
def aai:TD:=tf
def aaj:TD:=tf
def aak:TD:=tf
def aal:TD:=tf
def aam:TD:=tf
def aan:TD:=tp 262
def aao:TD:=tg (.bj [(0,1,false),(1,1,false),(2,1,false),(3,1,false)]) 56 [dq,GC,dq,eX]
def aap:TD:=tg (.bj [(0,1,false),(1,1,false),(2,1,false),(3,1,false)]) 56 [dq,GC,dq,eX]
def aaq:TD:=tp 200
def OS:TD:=tg (.bj [(0,1,false),(1,1,false),(2,1,false)]) 32 [dq,GC,dq]
def aar:TD:=tp 297
def aas:TD:=tg (.bj [(0,1,false),(1,1,false),(2,4,true)]) 56 [.pointer none,dq,dq,dq,dq,GC]
def aat:TD:=tf
def aau:TD:=tg (.bj [(0,1,false),(1,2,true)]) 24 [.bool false,dq,dq]
def aav:TD:=ts 230
def aaw:TD:=tp 214
def aax:TD:=tg (.bj [(0,1,false),(1,1,false),(2,1,false),(3,1,false),(4,1,false)]) 64 [eX,GC,dq,dq,dq]
def aay:TD:=tg (.bj [(0,1,false),(1,2,true)]) 48 [GC,eX,dq]
def aaz:TD:=ts 328
def aaA:TD:=tg (.bj [(0,1,false),(1,4,true),(5,4,true)]) 144 [GC,eX,dq,dq,eX,eX,dq,dq,eX]
def aaB:TD:=tg (.bj [(0,1,false),(1,1,false),(2,1,false)]) 32 [dq,GC,dq]
def aaC:TD:=ts 26
def WB:TD:=tg (.bj [(0,1,false),(1,1,false)]) 16 [dq,dq] true
def aaD:TD:=tg (.bj []) 0 []
def aaE:TD:=tg (.bj []) 0 []
def aaF:TD:=tg (.bj [(0,0,true),(0,0,true),(0,1,false)]) 8 [dq]
def aaG:TD:=tg (.bj []) 0 []
def aaH:TD:=ti .u32 4
def aaI:TD:=tg (.bj [(0,0,true),(0,1,false)]) 4 [.int .u32 0]
def aaJ:TD:=tg (.bj [(0,1,false),(1,1,false)]) 8 [.int .i32 0,.int .u32 0]
def aaK:TD:=tg (.bj [(0,0,true),(0,2,true)]) 8 [.int .i32 0,.int .u32 0]
def aaL:TD:=tg (.bj [(0,0,true),(0,1,true),(1,2,true)]) 12 [.int .u32 0,.int .i32 0,.int .u32 0]
def aaM:TD:=tg (.bj [(0,1,true),(1,1,true),(2,3,true),(5,1,true)]) 32 [dq,dq,.int .u32 0,.int .i32 0,.int .u32 0,.int .u32 0]
def aaN:TD:=tf
def aaO:TD:=tf
def aaP:TD:=tg (.bj [(0,1,false),(1,1,false),(2,1,false)]) 56 [dq,eX,eX]
def aaQ:TD:=tf
def aaR:TD:=ts 285
def aaS:TD:=tg (.bj [(0,1,false),(1,2,true),(3,1,false),(4,1,false)]) 72 [dq,eX,dq,dq,eX]
def aaT:TD:=ts 196
def aaU:TD:=tg (.bj [(0,1,false),(1,1,false),(2,1,false)]) 48 [eX,GC,dq]
def aaV:TD:=tf
def aaW:TD:=tf
def aaX:TD:=tf
def aaY:TD:=tf
def aaZ:TD:=ts 140
def aa0:TD:=tg (.bj [(0,1,false),(1,1,false),(2,1,false),(3,1,false)]) 80 [dq,eX,eX,eX]
def aa1:TD:=tf
def aa2:TD:=tf
def aa3:TD:=tp 336
def aa4:TD:=tg (.bj [(0,1,false),(1,1,false),(2,1,false)]) 24 [.pointer none,dq,dq]
def aa5:TD:=tp 2
def aa6:TD:=tc (.oy 9 4) 8 (.map none)
def aa7:TD:=ts 416
def aa8:TD:=tp 3
def aa9:TD:=tp 397
def aba:TD:=tg (.bj [(0,1,false),(1,1,false),(2,1,false)]) 24 [dq,dq,dq]
def abb:TD:=ts 5
def abc:TD:=tg (.bj [(0,1,false),(1,1,false),(2,1,false)]) 40 [.pointer none,eX,dq]
def WC:TD:=tg (.bj [(0,1,false),(1,1,false),(2,1,false),(3,1,false)]) 80 [dq,eX,eX,eX]
def abd:TD:=tp 252
def abe:TD:=tp 260
def abf:TD:=tp 256
def abg:TD:=tp 21
theorem X5:eZ Tryz.prog 35 ZZ:=gC (by kernel_rfl) (by kernel_rfl) (by rfl) rfl rfl (by kernel_rfl) (by kernel_rfl) (by kernel_rfl) (by kernel_rfl)
theorem X6:eZ Tryz.prog 37 Z0:=Aa (T2:=35) (t1:=33) (t3:=9) (by kernel_rfl) (by kernel_rfl) (by rfl) rfl (by kernel_rfl) (by kernel_rfl) (by kernel_rfl) (by kernel_rfl) (by kernel_rfl) (by kernel_rfl) (by kernel_rfl) (by kernel_rfl) (by kernel_rfl)
theorem X7:eZ Tryz.prog 49 Z1:=gC (by kernel_rfl) (by kernel_rfl) (by rfl) rfl rfl (by kernel_rfl) (by kernel_rfl) (by kernel_rfl) (by kernel_rfl)
theorem X8:eZ Tryz.prog 51 Z2:=Aa (T2:=49) (t1:=3) (t3:=9) (by kernel_rfl) (by kernel_rfl) (by rfl) rfl (by kernel_rfl) (by kernel_rfl) (by kernel_rfl) (by kernel_rfl) (by kernel_rfl) (by kernel_rfl) (by kernel_rfl) (by kernel_rfl) (by kernel_rfl)
theorem X9:eZ Tryz.prog 70 Z3:=gC (by kernel_rfl) (by kernel_rfl) (by rfl) rfl rfl (by kernel_rfl) (by kernel_rfl) (by kernel_rfl) (by kernel_rfl)
theorem Ya:eZ Tryz.prog 92 Z4:=gC (by kernel_rfl) (by kernel_rfl) (by rfl) rfl rfl (by kernel_rfl) (by kernel_rfl) (by kernel_rfl) (by kernel_rfl)
theorem T9:eZ Tryz.prog 119 Wy:=gC (by kernel_rfl) (by kernel_rfl) (by rfl) rfl rfl (by kernel_rfl) (by kernel_rfl) (by kernel_rfl) (by kernel_rfl)
theorem Ua:eZ Tryz.prog 132 WA:=gC (by kernel_rfl) (by kernel_rfl) (by rfl) rfl rfl (by kernel_rfl) (by kernel_rfl) (by kernel_rfl) (by kernel_rfl)
theorem Ub:eZ Tryz.prog 138 OP:=gC (by kernel_rfl) (by kernel_rfl) (by rfl) rfl rfl (by kernel_rfl) (by kernel_rfl) (by kernel_rfl) (by kernel_rfl)
theorem Uc:eZ Tryz.prog 243 WB:=gC (by kernel_rfl) (by kernel_rfl) (by rfl) rfl rfl (by kernel_rfl) (by kernel_rfl) (by kernel_rfl) (by kernel_rfl)
def Ud:List (Nat×TD):=[(1,td1),(2,td2),(3,OM),(4,td4),(5,td5),(9,Ww),(21,aft),(22,afu),(23,afv),(25,afw),(26,afx),(27,afy),(28,afz),(29,afA),(30,afB),(32,afC),(33,afD),(40,afE),(42,afF),(43,afG),(44,afH),(45,afI),(46,afJ),(48,afK),(62,afL),(66,qy),(71,afM),(73,Eg),(75,OO),(79,afN),(81,afO),(83,afP),(87,afQ),(93,afR),(95,Z5),(103,Z6),(106,Z7),(107,Z8),(109,Z9),(110,aaa),(112,Wx),(114,aab),(117,aac),(121,aad),(123,aae),(126,Eh),(130,Wz),(134,aaf),(139,aag),(140,aah),(143,OQ),(144,aai),(145,aaj),(150,aak),(154,aal),(159,aam),(166,aan),(176,aao),(182,aap),(194,aaq),(196,OS),(198,aar),(200,aas),(203,aat),(206,aau),(209,aav),(212,aaw),(214,aax),(219,aay),(223,aaz),(227,aaA),(230,aaB),(234,aaC),(247,aaD),(248,aaE),(250,aaF),(251,aaG),(252,aaH),(254,aaI),(256,aaJ),(258,aaK),(260,aaL),(262,aaM),(268,aaN),(269,aaO),(274,aaP),(282,aaQ),(283,aaR),(285,aaS),(292,aaT),(297,aaU),(308,aaV),(314,aaW),(316,aaX),(319,aaY),(321,aaZ),(328,aa0),(329,aa1),(331,aa2),(334,aa3),(336,aa4),(341,aa5),(343,aa6),(369,aa7),(387,aa8),(395,aa9),(397,aba),(403,abb),(407,abc),(416,WC),(430,abd),(433,abe),(438,abf),(440,abg)]
def abh:List (Nat×TD):=Ud++[(35,ZZ),(37,Z0),(49,Z1),(51,Z2),(70,Z3),(92,Z4),(119,Wy),(132,WA),(138,OP),(243,WB)]
def tab (T:Nat):Option TD:=(abh.find? (fun p=>p.1==T)).map (·.2)
def tyF (P:Program) (p:Nat×TD):Option (Nat×Nat×Option Value)×Option Bool×Bool×Bool:=((P.info? p.1).map (fun i=>(i.size,i.bytes,i.zero)),(P.underlying p.1).map (fun u=>iE P u p.2.kind),z8 p.2,p.2.flat||p.2.four)
theorem Ue:∀p∈Ud,eZ Tryz.prog p.1 p.2:=fun p hp=>by
 have h:Ud.map (tyF Tryz.prog)=Ud.map fun p=>(some (p.2.size,p.2.bytes,some p.2.zero),some true,true,false):=by kernel_rfl
 have h:=(List.map_inj_left.1 h) p hp;simp only[tyF,alk] at h;exact Tr h.1 h.2.1 h.2.2.1 h.2.2.2
theorem Uf:∀p∈abh,eZ Tryz.prog p.1 p.2:=List.forall_mem_append.2 ⟨Ue,amk.2 ⟨X5,amk.2 ⟨X6,amk.2 ⟨X7,amk.2 ⟨X8,amk.2 ⟨X9,amk.2 ⟨Ya,amk.2 ⟨T9,amk.2 ⟨Ua,amk.2 ⟨Ub,amk.2 ⟨Uc,fun p h=>by cases h⟩⟩⟩⟩⟩⟩⟩⟩⟩⟩⟩
theorem Yb:aL Tryz.prog tab:=Ns Uf
end Go.Proofs.YtnkjkpmbgoehkaaGreat
