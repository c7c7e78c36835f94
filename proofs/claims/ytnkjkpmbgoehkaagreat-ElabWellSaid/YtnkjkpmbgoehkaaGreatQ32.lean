/- Lemmas. -/
import Derived.Test.YtnkjkpmbgoehkaaGreatProg
import Derived.KernelRfl
import Derived.Test.YtnkjkpmbgoehkaaGreatQ31
namespace Go.Proofs.YtnkjkpmbgoehkaaGreat
open Go
open Go.Proofs.Tryz renaming prog->aj
set_option linter.unusedSimpArgs false
set_option linter.unusedVariables false
def tc (k:TK) (b:Nat) (z:Value):TD:={ flat:=false,kind:=k,size:=1,bytes:=b,zero:=z }
def ti (k:IntKind) (b:Nat):TD:=tc (.int k) b (.int k 0)
def ts (e:Nat):TD:=tc (.lU e) 24 (.slice none 0 0)
def tp (e:Nat):TD:=tc (.ptr e) 8 (.pointer none)
def tf:TD:=tc .other 8 .nilFunc
def tg (k:TK) (b:Nat) (z:List Value) (f:Bool:=false) (g:Bool:=false):TD:={ flat:=f,four:=g,kind:=k,size:=z.length,bytes:=b,zero:=.agg z.toArray }
abbrev dW:Value:=.int .i64 0
abbrev fK:Value:=.slice none 0 0
abbrev JB:Value:=.string ⟨#[]⟩
def td1:TD:=tf
def td2:TD:=ti .i64 8
def td3:TD:=ti .i64 8
def td4:TD:=tc (.bool) 1 (.bool false)
def td5:TD:=ti .u8 1
def td9:TD:=tc (.str) 16 (JB)
def ako:TD:=ti .i32 4
def akp:TD:=ts 9
def akq:TD:=ts 143
def akr:TD:=tg (.bH [(0,1,false),(1,1,false)]) 48 [fK,fK]
def aks:TD:=ts 66
def akt:TD:=ts 75
def aku:TD:=ts 130
def akv:TD:=ts 138
def akw:TD:=ts 126
def akx:TD:=tg (.bH [(0,2,true),(2,1,false),(3,1,false),(4,1,false),(5,1,false),(6,1,false),(7,1,false),(8,1,false)]) 216 [fK,fK,fK,fK,fK,fK,fK,fK,fK]
def aky:TD:=ti .i64 8
def aeQ:TD:=tg (.bH [(0,1,false),(1,1,false)]) 16 [dW,dW] true
def aeR:TD:=tg (.bH [(0,1,false),(1,2,true),(3,1,false)]) 40 [dW,dW,dW,JB] false true
def akz:TD:=ts 219
def akA:TD:=tg (.bH [(0,1,false),(1,1,false)]) 48 [fK,fK]
def akB:TD:=ts 87
def akC:TD:=ts 227
def akD:TD:=ts 132
def akE:TD:=ts 134
def akF:TD:=tg (.bH [(0,2,true),(2,1,false),(3,1,false),(4,1,false),(5,1,false),(6,1,false),(7,1,false),(8,1,false)]) 216 [fK,fK,fK,fK,fK,fK,fK,fK,fK]
def aeS:TD:=tg (.bH [(0,1,false),(1,1,false)]) 16 [dW,dW] true
def aeT:TD:=tg (.bH [(0,1,false),(1,2,true),(3,1,false)]) 40 [dW,dW,dW,JB] false true
def akG:TD:=tg (.bH [(0,1,false),(1,1,false),(2,1,false)]) 56 [dW,fK,fK]
def sA:TD:=tg (.bH [(0,1,false),(1,1,false)]) 32 [fK,dW]
def aeU:TD:=tg (.bH [(0,1,false),(1,1,false)]) 16 [dW,dW] true
def akH:TD:=ts 73
def G2:TD:=tg (.bH [(0,1,false),(1,2,true),(3,1,false)]) 64 [fK,dW,dW,fK]
def KD:TD:=tg (.bH [(0,1,false),(1,4,true),(5,4,true)]) 144 [JB,fK,dW,dW,fK,fK,dW,dW,fK]
def akI:TD:=ts 81
def acF:TD:=tg (.bH [(0,1,false),(1,2,true),(3,1,false),(4,1,false)]) 72 [dW,fK,dW,dW,fK]
def akJ:TD:=tf
def akK:TD:=tg (.bH [(0,1,false),(1,1,false)]) 32 [fK,dW]
def aeV:TD:=tg (.bH [(0,1,false),(1,1,false)]) 16 [dW,dW] true
def akL:TD:=ts 95
def aeW:TD:=tg (.bH [(0,1,false),(1,2,true),(3,1,false)]) 64 [fK,dW,dW,fK]
def aeX:TD:=ts 112
def aeY:TD:=tp 109
def aeZ:TD:=tc (.qo 9 206) 8 (.map none)
def ae0:TD:=tg (.bH [(0,9,true),(9,1,false),(10,1,false),(11,4,true)]) 280 [fK,fK,fK,fK,fK,fK,fK,fK,fK,JB,.map none,dW,dW,dW,JB]
def ae1:TD:=ts 176
def aa0:TD:=tg (.bH [(0,1,false),(1,1,false),(2,1,false),(3,1,false),(4,1,false)]) 72 [dW,fK,fK,dW,dW]
def ae2:TD:=ts 123
def ae3:TD:=tp 48
def aa1:TD:=tg (.bH [(0,1,false),(1,1,false)]) 16 [dW,dW] true
def ae4:TD:=ts 182
def ae5:TD:=tg (.bH [(0,1,false),(1,1,false),(2,1,false),(3,1,false),(4,1,false)]) 72 [dW,fK,fK,dW,dW]
def G3:TD:=tg (.bH [(0,1,false),(1,1,false),(2,4,true),(6,4,true),(10,1,false)]) 152 [dW,dW,fK,dW,dW,fK,fK,dW,dW,fK,dW]
def aa2:TD:=tg (.arr 2) 16 [dW,dW]
def aa3:TD:=tg (.bH [(0,1,false),(1,1,false)]) 16 [dW,dW] true
def ae6:TD:=tg (.bH [(0,1,false),(1,1,false),(2,4,true),(6,4,true),(10,1,false)]) 152 [dW,dW,fK,dW,dW,fK,fK,dW,dW,fK,dW]
def Sw:TD:=tg (.bH [(0,1,false),(1,1,false)]) 16 [dW,dW] true
def ae7:TD:=tc (.qo 3 4) 8 (.map none)
def ae8:TD:=ts 3
def Sx:TD:=tg (.bH [(0,1,false),(1,2,true)]) 48 [JB,fK,dW]
def ae9:TD:=tf
def afa:TD:=tf
def afb:TD:=tf
def afc:TD:=tf
def afd:TD:=tf
def afe:TD:=tp 262
def aff:TD:=tg (.bH [(0,1,false),(1,1,false),(2,1,false),(3,1,false)]) 56 [dW,JB,dW,fK]
def afg:TD:=tg (.bH [(0,1,false),(1,1,false),(2,1,false),(3,1,false)]) 56 [dW,JB,dW,fK]
def afh:TD:=tp 200
def Sy:TD:=tg (.bH [(0,1,false),(1,1,false),(2,1,false)]) 32 [dW,JB,dW]
def afi:TD:=tp 297
def afj:TD:=tg (.bH [(0,1,false),(1,1,false),(2,4,true)]) 56 [.pointer none,dW,dW,dW,dW,JB]
def afk:TD:=tf
def afl:TD:=tg (.bH [(0,1,false),(1,2,true)]) 24 [.bool false,dW,dW]
def afm:TD:=ts 230
def afn:TD:=tp 214
def afo:TD:=tg (.bH [(0,1,false),(1,1,false),(2,1,false),(3,1,false),(4,1,false)]) 64 [fK,JB,dW,dW,dW]
def afp:TD:=tg (.bH [(0,1,false),(1,2,true)]) 48 [JB,fK,dW]
def afq:TD:=ts 328
def afr:TD:=tg (.bH [(0,1,false),(1,4,true),(5,4,true)]) 144 [JB,fK,dW,dW,fK,fK,dW,dW,fK]
def afs:TD:=tg (.bH [(0,1,false),(1,1,false),(2,1,false)]) 32 [dW,JB,dW]
def aft:TD:=ts 26
def aa4:TD:=tg (.bH [(0,1,false),(1,1,false)]) 16 [dW,dW] true
def afu:TD:=tg (.bH []) 0 []
def afv:TD:=tg (.bH []) 0 []
def afw:TD:=tg (.bH [(0,0,true),(0,0,true),(0,1,false)]) 8 [dW]
def afx:TD:=tg (.bH []) 0 []
def afy:TD:=ti .u32 4
def afz:TD:=tg (.bH [(0,0,true),(0,1,false)]) 4 [.int .u32 0]
def afA:TD:=tg (.bH [(0,1,false),(1,1,false)]) 8 [.int .i32 0,.int .u32 0]
def afB:TD:=tg (.bH [(0,0,true),(0,2,true)]) 8 [.int .i32 0,.int .u32 0]
def afC:TD:=tg (.bH [(0,0,true),(0,1,true),(1,2,true)]) 12 [.int .u32 0,.int .i32 0,.int .u32 0]
def afD:TD:=tg (.bH [(0,1,true),(1,1,true),(2,3,true),(5,1,true)]) 32 [dW,dW,.int .u32 0,.int .i32 0,.int .u32 0,.int .u32 0]
def afE:TD:=tf
def afF:TD:=tf
def afG:TD:=tg (.bH [(0,1,false),(1,1,false),(2,1,false)]) 56 [dW,fK,fK]
def afH:TD:=tf
def afI:TD:=ts 285
def afJ:TD:=tg (.bH [(0,1,false),(1,2,true),(3,1,false),(4,1,false)]) 72 [dW,fK,dW,dW,fK]
def afK:TD:=ts 196
def afL:TD:=tg (.bH [(0,1,false),(1,1,false),(2,1,false)]) 48 [fK,JB,dW]
def afM:TD:=tf
def afN:TD:=tf
def afO:TD:=tf
def afP:TD:=tf
def afQ:TD:=ts 140
def afR:TD:=tg (.bH [(0,1,false),(1,1,false),(2,1,false),(3,1,false)]) 80 [dW,fK,fK,fK]
def afS:TD:=tf
def afT:TD:=tf
def afU:TD:=tp 336
def afV:TD:=tg (.bH [(0,1,false),(1,1,false),(2,1,false)]) 24 [.pointer none,dW,dW]
def afW:TD:=tp 2
def afX:TD:=tc (.qo 9 4) 8 (.map none)
def afY:TD:=ts 416
def afZ:TD:=tp 3
def af0:TD:=tp 397
def af1:TD:=tg (.bH [(0,1,false),(1,1,false),(2,1,false)]) 24 [dW,dW,dW]
def af2:TD:=ts 5
def af3:TD:=tg (.bH [(0,1,false),(1,1,false),(2,1,false)]) 40 [.pointer none,fK,dW]
def aa5:TD:=tg (.bH [(0,1,false),(1,1,false),(2,1,false),(3,1,false)]) 80 [dW,fK,fK,fK]
def af4:TD:=tp 252
def af5:TD:=tp 260
def af6:TD:=tp 256
def af7:TD:=tp 21
theorem acG:fM aj 35 aeQ:=iJ (by kernel_rfl) (by kernel_rfl) (by rfl) rfl rfl (by kernel_rfl) (by kernel_rfl) (by kernel_rfl) (by kernel_rfl)
theorem acH:fM aj 37 aeR:=Cu (T2:=35) (t1:=33) (t3:=9) (by kernel_rfl) (by kernel_rfl) (by rfl) rfl (by kernel_rfl) (by kernel_rfl) (by kernel_rfl) (by kernel_rfl) (by kernel_rfl) (by kernel_rfl) (by kernel_rfl) (by kernel_rfl) (by kernel_rfl)
theorem acI:fM aj 49 aeS:=iJ (by kernel_rfl) (by kernel_rfl) (by rfl) rfl rfl (by kernel_rfl) (by kernel_rfl) (by kernel_rfl) (by kernel_rfl)
theorem acJ:fM aj 51 aeT:=Cu (T2:=49) (t1:=3) (t3:=9) (by kernel_rfl) (by kernel_rfl) (by rfl) rfl (by kernel_rfl) (by kernel_rfl) (by kernel_rfl) (by kernel_rfl) (by kernel_rfl) (by kernel_rfl) (by kernel_rfl) (by kernel_rfl) (by kernel_rfl)
theorem acK:fM aj 70 aeU:=iJ (by kernel_rfl) (by kernel_rfl) (by rfl) rfl rfl (by kernel_rfl) (by kernel_rfl) (by kernel_rfl) (by kernel_rfl)
theorem acL:fM aj 92 aeV:=iJ (by kernel_rfl) (by kernel_rfl) (by rfl) rfl rfl (by kernel_rfl) (by kernel_rfl) (by kernel_rfl) (by kernel_rfl)
theorem X7:fM aj 119 aa1:=iJ (by kernel_rfl) (by kernel_rfl) (by rfl) rfl rfl (by kernel_rfl) (by kernel_rfl) (by kernel_rfl) (by kernel_rfl)
theorem X8:fM aj 132 aa3:=iJ (by kernel_rfl) (by kernel_rfl) (by rfl) rfl rfl (by kernel_rfl) (by kernel_rfl) (by kernel_rfl) (by kernel_rfl)
theorem X9:fM aj 138 Sw:=iJ (by kernel_rfl) (by kernel_rfl) (by rfl) rfl rfl (by kernel_rfl) (by kernel_rfl) (by kernel_rfl) (by kernel_rfl)
theorem Ya:fM aj 243 aa4:=iJ (by kernel_rfl) (by kernel_rfl) (by rfl) rfl rfl (by kernel_rfl) (by kernel_rfl) (by kernel_rfl) (by kernel_rfl)
def Yb:List (Nat×TD):=[(1,td1),(2,td2),(3,td3),(4,td4),(5,td5),(9,td9),(21,ako),(22,akp),(23,akq),(25,akr),(26,aks),(27,akt),(28,aku),(29,akv),(30,akw),(32,akx),(33,aky),(40,akz),(42,akA),(43,akB),(44,akC),(45,akD),(46,akE),(48,akF),(62,akG),(66,sA),(71,akH),(73,G2),(75,KD),(79,akI),(81,acF),(83,akJ),(87,akK),(93,akL),(95,aeW),(103,aeX),(106,aeY),(107,aeZ),(109,ae0),(110,ae1),(112,aa0),(114,ae2),(117,ae3),(121,ae4),(123,ae5),(126,G3),(130,aa2),(134,ae6),(139,ae7),(140,ae8),(143,Sx),(144,ae9),(145,afa),(150,afb),(154,afc),(159,afd),(166,afe),(176,aff),(182,afg),(194,afh),(196,Sy),(198,afi),(200,afj),(203,afk),(206,afl),(209,afm),(212,afn),(214,afo),(219,afp),(223,afq),(227,afr),(230,afs),(234,aft),(247,afu),(248,afv),(250,afw),(251,afx),(252,afy),(254,afz),(256,afA),(258,afB),(260,afC),(262,afD),(268,afE),(269,afF),(274,afG),(282,afH),(283,afI),(285,afJ),(292,afK),(297,afL),(308,afM),(314,afN),(316,afO),(319,afP),(321,afQ),(328,afR),(329,afS),(331,afT),(334,afU),(336,afV),(341,afW),(343,afX),(369,afY),(387,afZ),(395,af0),(397,af1),(403,af2),(407,af3),(416,aa5),(430,af4),(433,af5),(438,af6),(440,af7)]
def af8:List (Nat×TD):=Yb++[(35,aeQ),(37,aeR),(49,aeS),(51,aeT),(70,aeU),(92,aeV),(119,aa1),(132,aa3),(138,Sw),(243,aa4)]
def tab (T:Nat):Option TD:=(af8.find? (fun p=>p.1==T)).map (·.2)
def tyF (P:Program) (p:Nat×TD):Option (Nat×Nat×Option Value)×Option Bool×Bool×Bool:=((P.info? p.1).map (fun i=>(i.size,i.bytes,i.zero)),(P.underlying p.1).map (fun u=>jE P u p.2.kind),Ct p.2,p.2.flat||p.2.four)
theorem Yc:∀p∈Yb,fM aj p.1 p.2:=fun p hp=>by
 have h:Yb.map (tyF aj)=Yb.map fun p=>(some (p.2.size,p.2.bytes,some p.2.zero),some true,true,false):=by kernel_rfl
 have h:=(List.map_inj_left.1 h) p hp;simp only[tyF,aqt] at h;exact Xz h.1 h.2.1 h.2.2.1 h.2.2.2
theorem Yd:∀p∈af8,fM aj p.1 p.2:=List.forall_mem_append.2 ⟨Yc,arA.2 ⟨acG,arA.2 ⟨acH,arA.2 ⟨acI,arA.2 ⟨acJ,arA.2 ⟨acK,arA.2 ⟨acL,arA.2 ⟨X7,arA.2 ⟨X8,arA.2 ⟨X9,arA.2 ⟨Ya,fun p h=>by cases h⟩⟩⟩⟩⟩⟩⟩⟩⟩⟩⟩
theorem acM:bc aj tab:=Rf Yd
end Go.Proofs.YtnkjkpmbgoehkaaGreat
