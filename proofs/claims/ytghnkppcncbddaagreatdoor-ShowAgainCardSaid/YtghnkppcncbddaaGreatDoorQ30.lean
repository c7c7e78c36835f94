/- Texts of ours laid together for a claim: Tab. -/
import Derived.Test.YtghnkppcncbddaaGreatDoorProg
import Derived.KernelRfl
import Derived.Test.YtghnkppcncbddaaGreatDoorQ29
namespace Go.Proofs.YtghnkppcncbddaaGreatDoor
open Go
set_option linter.unusedSimpArgs false
set_option linter.unusedVariables false
def td2:TD:={ flat:=false,kind:=.int .i64,size:=1,bytes:=8,zero:=.int .i64 0 }
theorem tyok2:TyOk Tryz.prog 2 td2:=tyOk_mk (by kernel_rfl) (by kernel_rfl) (by rfl) rfl
def td3:TD:={ flat:=false,kind:=.int .i64,size:=1,bytes:=8,zero:=.int .i64 0 }
theorem tyok3:TyOk Tryz.prog 3 td3:=tyOk_mk (by kernel_rfl) (by kernel_rfl) (by rfl) rfl
def td4:TD:={ flat:=false,kind:=.bool,size:=1,bytes:=1,zero:=.bool false }
theorem tyok4:TyOk Tryz.prog 4 td4:=tyOk_mk (by kernel_rfl) (by kernel_rfl) (by rfl) rfl
def td5:TD:={ flat:=false,kind:=.int .u8,size:=1,bytes:=1,zero:=.int .u8 0 }
theorem tyok5:TyOk Tryz.prog 5 td5:=tyOk_mk (by kernel_rfl) (by kernel_rfl) (by rfl) rfl
def td9:TD:={ flat:=false,kind:=.str,size:=1,bytes:=16,zero:=.string ⟨#[]⟩ }
theorem tyok9:TyOk Tryz.prog 9 td9:=tyOk_mk (by kernel_rfl) (by kernel_rfl) (by rfl) rfl
def td22:TD:={ flat:=false,kind:=.slc 9,size:=1,bytes:=24,zero:=.slice none 0 0 }
theorem tyok22:TyOk Tryz.prog 22 td22:=tyOk_mk (by kernel_rfl) (by kernel_rfl) (by rfl) rfl
def td24:TD:={ flat:=false,kind:=.strct [(0,1,false),(1,1,false),(2,1,false)],size:=3,bytes:=72,zero:=.agg #[.slice none 0 0,.slice none 0 0,.slice none 0 0] }
theorem tyok24:TyOk Tryz.prog 24 td24:=tyOk_mk (by kernel_rfl) (by kernel_rfl) (by rfl) rfl
def td25:TD:={ flat:=false,kind:=.slc 32,size:=1,bytes:=24,zero:=.slice none 0 0 }
theorem tyok25:TyOk Tryz.prog 25 td25:=tyOk_mk (by kernel_rfl) (by kernel_rfl) (by rfl) rfl
def td27:TD:={ flat:=true,kind:=.strct [(0,1,false),(1,1,false)],size:=2,bytes:=16,zero:=.agg #[.int .i64 0,.int .i64 0] }
theorem tyok27:TyOk Tryz.prog 27 td27:=tyOk_flat (by kernel_rfl) (by kernel_rfl) (by rfl) rfl (by kernel_rfl) (by kernel_rfl) (by kernel_rfl) (by kernel_rfl)
def td28:TD:={ flat:=false,kind:=.slc 30,size:=1,bytes:=24,zero:=.slice none 0 0 }
theorem tyok28:TyOk Tryz.prog 28 td28:=tyOk_mk (by kernel_rfl) (by kernel_rfl) (by rfl) rfl
def td30:TD:={ flat:=false,kind:=.strct [(0,1,false),(1,2,true),(3,1,false)],size:=4,bytes:=64,zero:=.agg #[.slice none 0 0,.int .i64 0,.int .i64 0,.slice none 0 0] }
theorem tyok30:TyOk Tryz.prog 30 td30:=tyOk_mk (by kernel_rfl) (by kernel_rfl) (by rfl) rfl
def td32:TD:={ flat:=false,kind:=.strct [(0,1,false),(1,1,false)],size:=2,bytes:=32,zero:=.agg #[.slice none 0 0,.int .i64 0] }
theorem tyok32:TyOk Tryz.prog 32 td32:=tyOk_mk (by kernel_rfl) (by kernel_rfl) (by rfl) rfl
def td36:TD:={ flat:=false,kind:=.strct [(0,1,false),(1,1,false),(2,1,false)],size:=3,bytes:=72,zero:=.agg #[.slice none 0 0,.slice none 0 0,.slice none 0 0] }
theorem tyok36:TyOk Tryz.prog 36 td36:=tyOk_mk (by kernel_rfl) (by kernel_rfl) (by rfl) rfl
def td39:TD:={ flat:=false,kind:=.slc 41,size:=1,bytes:=24,zero:=.slice none 0 0 }
theorem tyok39:TyOk Tryz.prog 39 td39:=tyOk_mk (by kernel_rfl) (by kernel_rfl) (by rfl) rfl
def td41:TD:={ flat:=false,kind:=.strct [(0,1,false),(1,1,false),(2,1,false),(3,1,false)],size:=4,bytes:=56,zero:=.agg #[.int .i64 0,.string ⟨#[]⟩,.int .i64 0,.slice none 0 0] }
theorem tyok41:TyOk Tryz.prog 41 td41:=tyOk_mk (by kernel_rfl) (by kernel_rfl) (by rfl) rfl
def td42:TD:={ flat:=false,kind:=.int .i64,size:=1,bytes:=8,zero:=.int .i64 0 }
theorem tyok42:TyOk Tryz.prog 42 td42:=tyOk_mk (by kernel_rfl) (by kernel_rfl) (by rfl) rfl
def td45:TD:={ flat:=false,kind:=.slc 47,size:=1,bytes:=24,zero:=.slice none 0 0 }
theorem tyok45:TyOk Tryz.prog 45 td45:=tyOk_mk (by kernel_rfl) (by kernel_rfl) (by rfl) rfl
def td47:TD:={ flat:=false,kind:=.strct [(0,1,false),(1,1,false)],size:=2,bytes:=32,zero:=.agg #[.slice none 0 0,.int .i64 0] }
theorem tyok47:TyOk Tryz.prog 47 td47:=tyOk_mk (by kernel_rfl) (by kernel_rfl) (by rfl) rfl
def td49:TD:={ flat:=false,kind:=.slc 51,size:=1,bytes:=24,zero:=.slice none 0 0 }
theorem tyok49:TyOk Tryz.prog 49 td49:=tyOk_mk (by kernel_rfl) (by kernel_rfl) (by rfl) rfl
def td51:TD:={ flat:=false,kind:=.strct [(0,1,false),(1,1,false),(2,1,false),(3,1,false)],size:=4,bytes:=56,zero:=.agg #[.int .i64 0,.string ⟨#[]⟩,.int .i64 0,.slice none 0 0] }
theorem tyok51:TyOk Tryz.prog 51 td51:=tyOk_mk (by kernel_rfl) (by kernel_rfl) (by rfl) rfl
def td55:TD:={ flat:=true,kind:=.strct [(0,1,false),(1,1,false)],size:=2,bytes:=16,zero:=.agg #[.int .i64 0,.int .i64 0] }
theorem tyok55:TyOk Tryz.prog 55 td55:=tyOk_flat (by kernel_rfl) (by kernel_rfl) (by rfl) rfl (by kernel_rfl) (by kernel_rfl) (by kernel_rfl) (by kernel_rfl)
def td56:TD:={ flat:=false,kind:=.slc 58,size:=1,bytes:=24,zero:=.slice none 0 0 }
theorem tyok56:TyOk Tryz.prog 56 td56:=tyOk_mk (by kernel_rfl) (by kernel_rfl) (by rfl) rfl
def td58:TD:={ flat:=false,kind:=.strct [(0,1,false),(1,2,true),(3,1,false)],size:=4,bytes:=64,zero:=.agg #[.slice none 0 0,.int .i64 0,.int .i64 0,.slice none 0 0] }
theorem tyok58:TyOk Tryz.prog 58 td58:=tyOk_mk (by kernel_rfl) (by kernel_rfl) (by rfl) rfl
def td69:TD:={ flat:=false,kind:=.slc 73,size:=1,bytes:=24,zero:=.slice none 0 0 }
theorem tyok69:TyOk Tryz.prog 69 td69:=tyOk_mk (by kernel_rfl) (by kernel_rfl) (by rfl) rfl
def td70:TD:={ flat:=false,kind:=.slc 76,size:=1,bytes:=24,zero:=.slice none 0 0 }
theorem tyok70:TyOk Tryz.prog 70 td70:=tyOk_mk (by kernel_rfl) (by kernel_rfl) (by rfl) rfl
def td73:TD:={ flat:=false,kind:=.strct [(0,1,false),(1,1,false),(2,1,false),(3,1,false),(4,1,false)],size:=5,bytes:=72,zero:=.agg #[.int .i64 0,.slice none 0 0,.slice none 0 0,.int .i64 0,.int .i64 0] }
theorem tyok73:TyOk Tryz.prog 73 td73:=tyOk_mk (by kernel_rfl) (by kernel_rfl) (by rfl) rfl
def td76:TD:={ flat:=false,kind:=.strct [(0,1,false),(1,1,false),(2,1,false),(3,1,false),(4,1,false)],size:=5,bytes:=72,zero:=.agg #[.int .i64 0,.slice none 0 0,.slice none 0 0,.int .i64 0,.int .i64 0] }
theorem tyok76:TyOk Tryz.prog 76 td76:=tyOk_mk (by kernel_rfl) (by kernel_rfl) (by rfl) rfl
def td81:TD:={ flat:=true,kind:=.strct [(0,1,false),(1,1,false)],size:=2,bytes:=16,zero:=.agg #[.int .i64 0,.int .i64 0] }
theorem tyok81:TyOk Tryz.prog 81 td81:=tyOk_flat (by kernel_rfl) (by kernel_rfl) (by rfl) rfl (by kernel_rfl) (by kernel_rfl) (by kernel_rfl) (by kernel_rfl)
def td83:TD:={ flat:=false,kind:=.strct [(0,1,false),(1,2,true),(3,1,false)],size:=4,bytes:=40,zero:=.agg #[.int .i64 0,.int .i64 0,.int .i64 0,.string ⟨#[]⟩] }
theorem tyok83:TyOk Tryz.prog 83 td83:=tyOk_mk (by kernel_rfl) (by kernel_rfl) (by rfl) rfl
def td88:TD:={ flat:=false,kind:=.other,size:=1,bytes:=8,zero:=.nilFunc }
theorem tyok88:TyOk Tryz.prog 88 td88:=tyOk_mk (by kernel_rfl) (by kernel_rfl) (by rfl) rfl
def td102:TD:={ flat:=false,kind:=.other,size:=1,bytes:=8,zero:=.nilFunc }
theorem tyok102:TyOk Tryz.prog 102 td102:=tyOk_mk (by kernel_rfl) (by kernel_rfl) (by rfl) rfl
def td104:TD:={ flat:=false,kind:=.mapk 9 4,size:=1,bytes:=8,zero:=.map none }
theorem tyok104:TyOk Tryz.prog 104 td104:=tyOk_mk (by kernel_rfl) (by kernel_rfl) (by rfl) rfl
def td108:TD:={ flat:=false,kind:=.strct [(0,3,true),(3,1,false)],size:=4,bytes:=80,zero:=.agg #[.slice none 0 0,.slice none 0 0,.slice none 0 0,.map none] }
theorem tyok108:TyOk Tryz.prog 108 td108:=tyOk_mk (by kernel_rfl) (by kernel_rfl) (by rfl) rfl
def td112:TD:={ flat:=false,kind:=.slc 3,size:=1,bytes:=24,zero:=.slice none 0 0 }
theorem tyok112:TyOk Tryz.prog 112 td112:=tyOk_mk (by kernel_rfl) (by kernel_rfl) (by rfl) rfl
def td117:TD:={ flat:=false,kind:=.ptr 120,size:=1,bytes:=8,zero:=.pointer none }
theorem tyok117:TyOk Tryz.prog 117 td117:=tyOk_mk (by kernel_rfl) (by kernel_rfl) (by rfl) rfl
def td118:TD:={ flat:=false,kind:=.slc 5,size:=1,bytes:=24,zero:=.slice none 0 0 }
theorem tyok118:TyOk Tryz.prog 118 td118:=tyOk_mk (by kernel_rfl) (by kernel_rfl) (by rfl) rfl
def td120:TD:={ flat:=false,kind:=.strct [(0,1,false),(1,1,false)],size:=2,bytes:=32,zero:=.agg #[.pointer none,.slice none 0 0] }
theorem tyok120:TyOk Tryz.prog 120 td120:=tyOk_mk (by kernel_rfl) (by kernel_rfl) (by rfl) rfl
def td122:TD:={ flat:=false,kind:=.strct [(0,1,false)],size:=1,bytes:=8,zero:=.agg #[.pointer none] }
theorem tyok122:TyOk Tryz.prog 122 td122:=tyOk_mk (by kernel_rfl) (by kernel_rfl) (by rfl) rfl
def td127:TD:={ flat:=false,kind:=.ptr 133,size:=1,bytes:=8,zero:=.pointer none }
theorem tyok127:TyOk Tryz.prog 127 td127:=tyOk_mk (by kernel_rfl) (by kernel_rfl) (by rfl) rfl
def td129:TD:={ flat:=false,kind:=.strct [(0,1,false),(1,1,false),(2,1,false)],size:=3,bytes:=32,zero:=.agg #[.int .i64 0,.string ⟨#[]⟩,.int .i64 0] }
theorem tyok129:TyOk Tryz.prog 129 td129:=tyOk_mk (by kernel_rfl) (by kernel_rfl) (by rfl) rfl
def td131:TD:={ flat:=false,kind:=.ptr 179,size:=1,bytes:=8,zero:=.pointer none }
theorem tyok131:TyOk Tryz.prog 131 td131:=tyOk_mk (by kernel_rfl) (by kernel_rfl) (by rfl) rfl
def td133:TD:={ flat:=false,kind:=.strct [(0,1,false),(1,1,false),(2,4,true)],size:=6,bytes:=56,zero:=.agg #[.pointer none,.int .i64 0,.int .i64 0,.int .i64 0,.int .i64 0,.string ⟨#[]⟩] }
theorem tyok133:TyOk Tryz.prog 133 td133:=tyOk_mk (by kernel_rfl) (by kernel_rfl) (by rfl) rfl
def td136:TD:={ flat:=false,kind:=.other,size:=1,bytes:=8,zero:=.nilFunc }
theorem tyok136:TyOk Tryz.prog 136 td136:=tyOk_mk (by kernel_rfl) (by kernel_rfl) (by rfl) rfl
def td139:TD:={ flat:=false,kind:=.other,size:=1,bytes:=8,zero:=.nilFunc }
theorem tyok139:TyOk Tryz.prog 139 td139:=tyOk_mk (by kernel_rfl) (by kernel_rfl) (by rfl) rfl
def td143:TD:={ flat:=false,kind:=.other,size:=1,bytes:=8,zero:=.nilFunc }
theorem tyok143:TyOk Tryz.prog 143 td143:=tyOk_mk (by kernel_rfl) (by kernel_rfl) (by rfl) rfl
def td144:TD:={ flat:=false,kind:=.other,size:=1,bytes:=8,zero:=.nilFunc }
theorem tyok144:TyOk Tryz.prog 144 td144:=tyOk_mk (by kernel_rfl) (by kernel_rfl) (by rfl) rfl
def td151:TD:={ flat:=true,kind:=.strct [(0,1,false),(1,1,false)],size:=2,bytes:=16,zero:=.agg #[.int .i64 0,.int .i64 0] }
theorem tyok151:TyOk Tryz.prog 151 td151:=tyOk_flat (by kernel_rfl) (by kernel_rfl) (by rfl) rfl (by kernel_rfl) (by kernel_rfl) (by kernel_rfl) (by kernel_rfl)
def td152:TD:={ flat:=false,kind:=.slc 22,size:=1,bytes:=24,zero:=.slice none 0 0 }
theorem tyok152:TyOk Tryz.prog 152 td152:=tyOk_mk (by kernel_rfl) (by kernel_rfl) (by rfl) rfl
def td163:TD:={ flat:=false,kind:=.strct [(0,1,false),(1,1,false),(2,1,false),(3,1,false),(4,1,false),(5,1,false)],size:=6,bytes:=48,zero:=.agg #[.string ⟨#[]⟩,.int .i64 0,.int .i64 0,.int .i64 0,.bool false,.bool false] }
theorem tyok163:TyOk Tryz.prog 163 td163:=tyOk_mk (by kernel_rfl) (by kernel_rfl) (by rfl) rfl
def td173:TD:={ flat:=false,kind:=.ptr 5,size:=1,bytes:=8,zero:=.pointer none }
theorem tyok173:TyOk Tryz.prog 173 td173:=tyOk_mk (by kernel_rfl) (by kernel_rfl) (by rfl) rfl
def td174:TD:={ flat:=false,kind:=.slc 129,size:=1,bytes:=24,zero:=.slice none 0 0 }
theorem tyok174:TyOk Tryz.prog 174 td174:=tyOk_mk (by kernel_rfl) (by kernel_rfl) (by rfl) rfl
def td179:TD:={ flat:=false,kind:=.strct [(0,1,false),(1,1,false),(2,1,false)],size:=3,bytes:=48,zero:=.agg #[.slice none 0 0,.string ⟨#[]⟩,.int .i64 0] }
theorem tyok179:TyOk Tryz.prog 179 td179:=tyOk_mk (by kernel_rfl) (by kernel_rfl) (by rfl) rfl
def td184:TD:={ flat:=false,kind:=.other,size:=1,bytes:=8,zero:=.nilFunc }
theorem tyok184:TyOk Tryz.prog 184 td184:=tyOk_mk (by kernel_rfl) (by kernel_rfl) (by rfl) rfl
def td191:TD:={ flat:=false,kind:=.other,size:=1,bytes:=8,zero:=.nilFunc }
theorem tyok191:TyOk Tryz.prog 191 td191:=tyOk_mk (by kernel_rfl) (by kernel_rfl) (by rfl) rfl
def td195:TD:={ flat:=false,kind:=.slc 201,size:=1,bytes:=24,zero:=.slice none 0 0 }
theorem tyok195:TyOk Tryz.prog 195 td195:=tyOk_mk (by kernel_rfl) (by kernel_rfl) (by rfl) rfl
def td196:TD:={ flat:=true,kind:=.strct [(0,1,false),(1,1,false)],size:=2,bytes:=16,zero:=.agg #[.int .i64 0,.int .i64 0] }
theorem tyok196:TyOk Tryz.prog 196 td196:=tyOk_flat (by kernel_rfl) (by kernel_rfl) (by rfl) rfl (by kernel_rfl) (by kernel_rfl) (by kernel_rfl) (by kernel_rfl)
def td198:TD:={ flat:=false,kind:=.strct [(0,1,false),(1,2,true),(3,1,false)],size:=4,bytes:=40,zero:=.agg #[.int .i64 0,.int .i64 0,.int .i64 0,.string ⟨#[]⟩] }
theorem tyok198:TyOk Tryz.prog 198 td198:=tyOk_mk (by kernel_rfl) (by kernel_rfl) (by rfl) rfl
def td201:TD:={ flat:=false,kind:=.strct [(0,1,false),(1,1,false),(2,1,false)],size:=3,bytes:=32,zero:=.agg #[.int .i64 0,.string ⟨#[]⟩,.int .i64 0] }
theorem tyok201:TyOk Tryz.prog 201 td201:=tyOk_mk (by kernel_rfl) (by kernel_rfl) (by rfl) rfl
def td203:TD:={ flat:=false,kind:=.other,size:=1,bytes:=8,zero:=.nilFunc }
theorem tyok203:TyOk Tryz.prog 203 td203:=tyOk_mk (by kernel_rfl) (by kernel_rfl) (by rfl) rfl
def td223:TD:={ flat:=false,kind:=.slc 45,size:=1,bytes:=24,zero:=.slice none 0 0 }
theorem tyok223:TyOk Tryz.prog 223 td223:=tyOk_mk (by kernel_rfl) (by kernel_rfl) (by rfl) rfl
def td236:TD:={ flat:=false,kind:=.int .u64,size:=1,bytes:=8,zero:=.int .u64 0 }
theorem tyok236:TyOk Tryz.prog 236 td236:=tyOk_mk (by kernel_rfl) (by kernel_rfl) (by rfl) rfl
def td245:TD:={ flat:=false,kind:=.arr 20,size:=20,bytes:=160,zero:=.agg #[.int .u64 0,.int .u64 0,.int .u64 0,.int .u64 0,.int .u64 0,.int .u64 0,.int .u64 0,.int .u64 0,.int .u64 0,.int .u64 0,.int .u64 0,.int .u64 0,.int .u64 0,.int .u64 0,.int .u64 0,.int .u64 0,.int .u64 0,.int .u64 0,.int .u64 0,.int .u64 0] }
theorem tyok245:TyOk Tryz.prog 245 td245:=tyOk_mk (by kernel_rfl) (by kernel_rfl) (by rfl) rfl
def td246:TD:={ flat:=false,kind:=.int .u32,size:=1,bytes:=4,zero:=.int .u32 0 }
theorem tyok246:TyOk Tryz.prog 246 td246:=tyOk_mk (by kernel_rfl) (by kernel_rfl) (by rfl) rfl
def td249:TD:={ flat:=false,kind:=.int .u64,size:=1,bytes:=8,zero:=.int .u64 0 }
theorem tyok249:TyOk Tryz.prog 249 td249:=tyOk_mk (by kernel_rfl) (by kernel_rfl) (by rfl) rfl
def tabL:List (Nat×TD):=[(2,td2),(3,td3),(4,td4),(5,td5),(9,td9),(22,td22),(24,td24),(25,td25),(27,td27),(28,td28),(30,td30),(32,td32),(36,td36),(39,td39),(41,td41),(42,td42),(45,td45),(47,td47),(49,td49),(51,td51),(55,td55),(56,td56),(58,td58),(69,td69),(70,td70),(73,td73),(76,td76),(81,td81),(83,td83),(88,td88),(102,td102),(104,td104),(108,td108),(112,td112),(117,td117),(118,td118),(120,td120),(122,td122),(127,td127),(129,td129),(131,td131),(133,td133),(136,td136),(139,td139),(143,td143),(144,td144),(151,td151),(152,td152),(163,td163),(173,td173),(174,td174),(179,td179),(184,td184),(191,td191),(195,td195),(196,td196),(198,td198),(201,td201),(203,td203),(223,td223),(236,td236),(245,td245),(246,td246),(249,td249)]
def tab (T:Nat):Option TD:=(tabL.find? (fun p=>p.1==T)).map (·.2)
theorem tabL_ok:∀p∈tabL,TyOk Tryz.prog p.1 p.2:=List.forall_mem_cons.2 ⟨tyok2,List.forall_mem_cons.2 ⟨tyok3,List.forall_mem_cons.2 ⟨tyok4,List.forall_mem_cons.2 ⟨tyok5,List.forall_mem_cons.2 ⟨tyok9,List.forall_mem_cons.2 ⟨tyok22,List.forall_mem_cons.2 ⟨tyok24,List.forall_mem_cons.2 ⟨tyok25,List.forall_mem_cons.2 ⟨tyok27,List.forall_mem_cons.2 ⟨tyok28,List.forall_mem_cons.2 ⟨tyok30,List.forall_mem_cons.2 ⟨tyok32,List.forall_mem_cons.2 ⟨tyok36,List.forall_mem_cons.2 ⟨tyok39,List.forall_mem_cons.2 ⟨tyok41,List.forall_mem_cons.2 ⟨tyok42,List.forall_mem_cons.2 ⟨tyok45,List.forall_mem_cons.2 ⟨tyok47,List.forall_mem_cons.2 ⟨tyok49,List.forall_mem_cons.2 ⟨tyok51,List.forall_mem_cons.2 ⟨tyok55,List.forall_mem_cons.2 ⟨tyok56,List.forall_mem_cons.2 ⟨tyok58,List.forall_mem_cons.2 ⟨tyok69,List.forall_mem_cons.2 ⟨tyok70,List.forall_mem_cons.2 ⟨tyok73,List.forall_mem_cons.2 ⟨tyok76,List.forall_mem_cons.2 ⟨tyok81,List.forall_mem_cons.2 ⟨tyok83,List.forall_mem_cons.2 ⟨tyok88,List.forall_mem_cons.2 ⟨tyok102,List.forall_mem_cons.2 ⟨tyok104,List.forall_mem_cons.2 ⟨tyok108,List.forall_mem_cons.2 ⟨tyok112,List.forall_mem_cons.2 ⟨tyok117,List.forall_mem_cons.2 ⟨tyok118,List.forall_mem_cons.2 ⟨tyok120,List.forall_mem_cons.2 ⟨tyok122,List.forall_mem_cons.2 ⟨tyok127,List.forall_mem_cons.2 ⟨tyok129,List.forall_mem_cons.2 ⟨tyok131,List.forall_mem_cons.2 ⟨tyok133,List.forall_mem_cons.2 ⟨tyok136,List.forall_mem_cons.2 ⟨tyok139,List.forall_mem_cons.2 ⟨tyok143,List.forall_mem_cons.2 ⟨tyok144,List.forall_mem_cons.2 ⟨tyok151,List.forall_mem_cons.2 ⟨tyok152,List.forall_mem_cons.2 ⟨tyok163,List.forall_mem_cons.2 ⟨tyok173,List.forall_mem_cons.2 ⟨tyok174,List.forall_mem_cons.2 ⟨tyok179,List.forall_mem_cons.2 ⟨tyok184,List.forall_mem_cons.2 ⟨tyok191,List.forall_mem_cons.2 ⟨tyok195,List.forall_mem_cons.2 ⟨tyok196,List.forall_mem_cons.2 ⟨tyok198,List.forall_mem_cons.2 ⟨tyok201,List.forall_mem_cons.2 ⟨tyok203,List.forall_mem_cons.2 ⟨tyok223,List.forall_mem_cons.2 ⟨tyok236,List.forall_mem_cons.2 ⟨tyok245,List.forall_mem_cons.2 ⟨tyok246,List.forall_mem_cons.2 ⟨tyok249,fun p h=>by cases h⟩⟩⟩⟩⟩⟩⟩⟩⟩⟩⟩⟩⟩⟩⟩⟩⟩⟩⟩⟩⟩⟩⟩⟩⟩⟩⟩⟩⟩⟩⟩⟩⟩⟩⟩⟩⟩⟩⟩⟩⟩⟩⟩⟩⟩⟩⟩⟩⟩⟩⟩⟩⟩⟩⟩⟩⟩⟩⟩⟩⟩⟩⟩⟩
theorem tab_ok:TabOk Tryz.prog tab:=tabOk_of tabL_ok
theorem tab_2:tab 2=some { flat:=false,kind:=.int .i64,size:=1,bytes:=8,zero:=.int .i64 0 }:=rfl
theorem tab_3:tab 3=some { flat:=false,kind:=.int .i64,size:=1,bytes:=8,zero:=.int .i64 0 }:=rfl
theorem tab_4:tab 4=some { flat:=false,kind:=.bool,size:=1,bytes:=1,zero:=.bool false }:=rfl
theorem tab_5:tab 5=some { flat:=false,kind:=.int .u8,size:=1,bytes:=1,zero:=.int .u8 0 }:=rfl
theorem tab_9:tab 9=some { flat:=false,kind:=.str,size:=1,bytes:=16,zero:=.string ⟨#[]⟩ }:=rfl
theorem tab_22:tab 22=some { flat:=false,kind:=.slc 9,size:=1,bytes:=24,zero:=.slice none 0 0 }:=rfl
theorem tab_24:tab 24=some { flat:=false,kind:=.strct [(0,1,false),(1,1,false),(2,1,false)],size:=3,bytes:=72,zero:=.agg #[.slice none 0 0,.slice none 0 0,.slice none 0 0] }:=rfl
theorem tab_25:tab 25=some { flat:=false,kind:=.slc 32,size:=1,bytes:=24,zero:=.slice none 0 0 }:=rfl
theorem tab_27:tab 27=some { flat:=true,kind:=.strct [(0,1,false),(1,1,false)],size:=2,bytes:=16,zero:=.agg #[.int .i64 0,.int .i64 0] }:=rfl
theorem tab_28:tab 28=some { flat:=false,kind:=.slc 30,size:=1,bytes:=24,zero:=.slice none 0 0 }:=rfl
theorem tab_30:tab 30=some { flat:=false,kind:=.strct [(0,1,false),(1,2,true),(3,1,false)],size:=4,bytes:=64,zero:=.agg #[.slice none 0 0,.int .i64 0,.int .i64 0,.slice none 0 0] }:=rfl
theorem tab_32:tab 32=some { flat:=false,kind:=.strct [(0,1,false),(1,1,false)],size:=2,bytes:=32,zero:=.agg #[.slice none 0 0,.int .i64 0] }:=rfl
theorem tab_36:tab 36=some { flat:=false,kind:=.strct [(0,1,false),(1,1,false),(2,1,false)],size:=3,bytes:=72,zero:=.agg #[.slice none 0 0,.slice none 0 0,.slice none 0 0] }:=rfl
theorem tab_39:tab 39=some { flat:=false,kind:=.slc 41,size:=1,bytes:=24,zero:=.slice none 0 0 }:=rfl
theorem tab_41:tab 41=some { flat:=false,kind:=.strct [(0,1,false),(1,1,false),(2,1,false),(3,1,false)],size:=4,bytes:=56,zero:=.agg #[.int .i64 0,.string ⟨#[]⟩,.int .i64 0,.slice none 0 0] }:=rfl
theorem tab_42:tab 42=some { flat:=false,kind:=.int .i64,size:=1,bytes:=8,zero:=.int .i64 0 }:=rfl
theorem tab_45:tab 45=some { flat:=false,kind:=.slc 47,size:=1,bytes:=24,zero:=.slice none 0 0 }:=rfl
theorem tab_47:tab 47=some { flat:=false,kind:=.strct [(0,1,false),(1,1,false)],size:=2,bytes:=32,zero:=.agg #[.slice none 0 0,.int .i64 0] }:=rfl
theorem tab_49:tab 49=some { flat:=false,kind:=.slc 51,size:=1,bytes:=24,zero:=.slice none 0 0 }:=rfl
theorem tab_51:tab 51=some { flat:=false,kind:=.strct [(0,1,false),(1,1,false),(2,1,false),(3,1,false)],size:=4,bytes:=56,zero:=.agg #[.int .i64 0,.string ⟨#[]⟩,.int .i64 0,.slice none 0 0] }:=rfl
theorem tab_55:tab 55=some { flat:=true,kind:=.strct [(0,1,false),(1,1,false)],size:=2,bytes:=16,zero:=.agg #[.int .i64 0,.int .i64 0] }:=rfl
theorem tab_56:tab 56=some { flat:=false,kind:=.slc 58,size:=1,bytes:=24,zero:=.slice none 0 0 }:=rfl
theorem tab_58:tab 58=some { flat:=false,kind:=.strct [(0,1,false),(1,2,true),(3,1,false)],size:=4,bytes:=64,zero:=.agg #[.slice none 0 0,.int .i64 0,.int .i64 0,.slice none 0 0] }:=rfl
theorem tab_69:tab 69=some { flat:=false,kind:=.slc 73,size:=1,bytes:=24,zero:=.slice none 0 0 }:=rfl
theorem tab_70:tab 70=some { flat:=false,kind:=.slc 76,size:=1,bytes:=24,zero:=.slice none 0 0 }:=rfl
theorem tab_73:tab 73=some { flat:=false,kind:=.strct [(0,1,false),(1,1,false),(2,1,false),(3,1,false),(4,1,false)],size:=5,bytes:=72,zero:=.agg #[.int .i64 0,.slice none 0 0,.slice none 0 0,.int .i64 0,.int .i64 0] }:=rfl
theorem tab_76:tab 76=some { flat:=false,kind:=.strct [(0,1,false),(1,1,false),(2,1,false),(3,1,false),(4,1,false)],size:=5,bytes:=72,zero:=.agg #[.int .i64 0,.slice none 0 0,.slice none 0 0,.int .i64 0,.int .i64 0] }:=rfl
theorem tab_81:tab 81=some { flat:=true,kind:=.strct [(0,1,false),(1,1,false)],size:=2,bytes:=16,zero:=.agg #[.int .i64 0,.int .i64 0] }:=rfl
theorem tab_83:tab 83=some { flat:=false,kind:=.strct [(0,1,false),(1,2,true),(3,1,false)],size:=4,bytes:=40,zero:=.agg #[.int .i64 0,.int .i64 0,.int .i64 0,.string ⟨#[]⟩] }:=rfl
theorem tab_88:tab 88=some { flat:=false,kind:=.other,size:=1,bytes:=8,zero:=.nilFunc }:=rfl
theorem tab_102:tab 102=some { flat:=false,kind:=.other,size:=1,bytes:=8,zero:=.nilFunc }:=rfl
theorem tab_104:tab 104=some { flat:=false,kind:=.mapk 9 4,size:=1,bytes:=8,zero:=.map none }:=rfl
theorem tab_108:tab 108=some { flat:=false,kind:=.strct [(0,3,true),(3,1,false)],size:=4,bytes:=80,zero:=.agg #[.slice none 0 0,.slice none 0 0,.slice none 0 0,.map none] }:=rfl
theorem tab_112:tab 112=some { flat:=false,kind:=.slc 3,size:=1,bytes:=24,zero:=.slice none 0 0 }:=rfl
theorem tab_117:tab 117=some { flat:=false,kind:=.ptr 120,size:=1,bytes:=8,zero:=.pointer none }:=rfl
theorem tab_118:tab 118=some { flat:=false,kind:=.slc 5,size:=1,bytes:=24,zero:=.slice none 0 0 }:=rfl
theorem tab_120:tab 120=some { flat:=false,kind:=.strct [(0,1,false),(1,1,false)],size:=2,bytes:=32,zero:=.agg #[.pointer none,.slice none 0 0] }:=rfl
theorem tab_122:tab 122=some { flat:=false,kind:=.strct [(0,1,false)],size:=1,bytes:=8,zero:=.agg #[.pointer none] }:=rfl
theorem tab_127:tab 127=some { flat:=false,kind:=.ptr 133,size:=1,bytes:=8,zero:=.pointer none }:=rfl
theorem tab_129:tab 129=some { flat:=false,kind:=.strct [(0,1,false),(1,1,false),(2,1,false)],size:=3,bytes:=32,zero:=.agg #[.int .i64 0,.string ⟨#[]⟩,.int .i64 0] }:=rfl
theorem tab_131:tab 131=some { flat:=false,kind:=.ptr 179,size:=1,bytes:=8,zero:=.pointer none }:=rfl
theorem tab_133:tab 133=some { flat:=false,kind:=.strct [(0,1,false),(1,1,false),(2,4,true)],size:=6,bytes:=56,zero:=.agg #[.pointer none,.int .i64 0,.int .i64 0,.int .i64 0,.int .i64 0,.string ⟨#[]⟩] }:=rfl
theorem tab_136:tab 136=some { flat:=false,kind:=.other,size:=1,bytes:=8,zero:=.nilFunc }:=rfl
theorem tab_139:tab 139=some { flat:=false,kind:=.other,size:=1,bytes:=8,zero:=.nilFunc }:=rfl
theorem tab_143:tab 143=some { flat:=false,kind:=.other,size:=1,bytes:=8,zero:=.nilFunc }:=rfl
theorem tab_144:tab 144=some { flat:=false,kind:=.other,size:=1,bytes:=8,zero:=.nilFunc }:=rfl
theorem tab_151:tab 151=some { flat:=true,kind:=.strct [(0,1,false),(1,1,false)],size:=2,bytes:=16,zero:=.agg #[.int .i64 0,.int .i64 0] }:=rfl
theorem tab_152:tab 152=some { flat:=false,kind:=.slc 22,size:=1,bytes:=24,zero:=.slice none 0 0 }:=rfl
theorem tab_163:tab 163=some { flat:=false,kind:=.strct [(0,1,false),(1,1,false),(2,1,false),(3,1,false),(4,1,false),(5,1,false)],size:=6,bytes:=48,zero:=.agg #[.string ⟨#[]⟩,.int .i64 0,.int .i64 0,.int .i64 0,.bool false,.bool false] }:=rfl
theorem tab_173:tab 173=some { flat:=false,kind:=.ptr 5,size:=1,bytes:=8,zero:=.pointer none }:=rfl
theorem tab_174:tab 174=some { flat:=false,kind:=.slc 129,size:=1,bytes:=24,zero:=.slice none 0 0 }:=rfl
theorem tab_179:tab 179=some { flat:=false,kind:=.strct [(0,1,false),(1,1,false),(2,1,false)],size:=3,bytes:=48,zero:=.agg #[.slice none 0 0,.string ⟨#[]⟩,.int .i64 0] }:=rfl
theorem tab_184:tab 184=some { flat:=false,kind:=.other,size:=1,bytes:=8,zero:=.nilFunc }:=rfl
theorem tab_191:tab 191=some { flat:=false,kind:=.other,size:=1,bytes:=8,zero:=.nilFunc }:=rfl
theorem tab_195:tab 195=some { flat:=false,kind:=.slc 201,size:=1,bytes:=24,zero:=.slice none 0 0 }:=rfl
theorem tab_196:tab 196=some { flat:=true,kind:=.strct [(0,1,false),(1,1,false)],size:=2,bytes:=16,zero:=.agg #[.int .i64 0,.int .i64 0] }:=rfl
theorem tab_198:tab 198=some { flat:=false,kind:=.strct [(0,1,false),(1,2,true),(3,1,false)],size:=4,bytes:=40,zero:=.agg #[.int .i64 0,.int .i64 0,.int .i64 0,.string ⟨#[]⟩] }:=rfl
theorem tab_201:tab 201=some { flat:=false,kind:=.strct [(0,1,false),(1,1,false),(2,1,false)],size:=3,bytes:=32,zero:=.agg #[.int .i64 0,.string ⟨#[]⟩,.int .i64 0] }:=rfl
theorem tab_203:tab 203=some { flat:=false,kind:=.other,size:=1,bytes:=8,zero:=.nilFunc }:=rfl
theorem tab_223:tab 223=some { flat:=false,kind:=.slc 45,size:=1,bytes:=24,zero:=.slice none 0 0 }:=rfl
theorem tab_236:tab 236=some { flat:=false,kind:=.int .u64,size:=1,bytes:=8,zero:=.int .u64 0 }:=rfl
theorem tab_245:tab 245=some { flat:=false,kind:=.arr 20,size:=20,bytes:=160,zero:=.agg #[.int .u64 0,.int .u64 0,.int .u64 0,.int .u64 0,.int .u64 0,.int .u64 0,.int .u64 0,.int .u64 0,.int .u64 0,.int .u64 0,.int .u64 0,.int .u64 0,.int .u64 0,.int .u64 0,.int .u64 0,.int .u64 0,.int .u64 0,.int .u64 0,.int .u64 0,.int .u64 0] }:=rfl
theorem tab_246:tab 246=some { flat:=false,kind:=.int .u32,size:=1,bytes:=4,zero:=.int .u32 0 }:=rfl
theorem tab_249:tab 249=some { flat:=false,kind:=.int .u64,size:=1,bytes:=8,zero:=.int .u64 0 }:=rfl
theorem tabs:(tab 2=some { flat:=false,kind:=.int .i64,size:=1,bytes:=8,zero:=.int .i64 0 })∧(tab 3=some { flat:=false,kind:=.int .i64,size:=1,bytes:=8,zero:=.int .i64 0 })∧(tab 4=some { flat:=false,kind:=.bool,size:=1,bytes:=1,zero:=.bool false })∧(tab 5=some { flat:=false,kind:=.int .u8,size:=1,bytes:=1,zero:=.int .u8 0 })∧(tab 9=some { flat:=false,kind:=.str,size:=1,bytes:=16,zero:=.string ⟨#[]⟩ })∧(tab 22=some { flat:=false,kind:=.slc 9,size:=1,bytes:=24,zero:=.slice none 0 0 })∧(tab 24=some { flat:=false,kind:=.strct [(0,1,false),(1,1,false),(2,1,false)],size:=3,bytes:=72,zero:=.agg #[.slice none 0 0,.slice none 0 0,.slice none 0 0] })∧(tab 25=some { flat:=false,kind:=.slc 32,size:=1,bytes:=24,zero:=.slice none 0 0 })∧(tab 27=some { flat:=true,kind:=.strct [(0,1,false),(1,1,false)],size:=2,bytes:=16,zero:=.agg #[.int .i64 0,.int .i64 0] })∧(tab 28=some { flat:=false,kind:=.slc 30,size:=1,bytes:=24,zero:=.slice none 0 0 })∧(tab 30=some { flat:=false,kind:=.strct [(0,1,false),(1,2,true),(3,1,false)],size:=4,bytes:=64,zero:=.agg #[.slice none 0 0,.int .i64 0,.int .i64 0,.slice none 0 0] })∧(tab 32=some { flat:=false,kind:=.strct [(0,1,false),(1,1,false)],size:=2,bytes:=32,zero:=.agg #[.slice none 0 0,.int .i64 0] })∧(tab 36=some { flat:=false,kind:=.strct [(0,1,false),(1,1,false),(2,1,false)],size:=3,bytes:=72,zero:=.agg #[.slice none 0 0,.slice none 0 0,.slice none 0 0] })∧(tab 39=some { flat:=false,kind:=.slc 41,size:=1,bytes:=24,zero:=.slice none 0 0 })∧(tab 41=some { flat:=false,kind:=.strct [(0,1,false),(1,1,false),(2,1,false),(3,1,false)],size:=4,bytes:=56,zero:=.agg #[.int .i64 0,.string ⟨#[]⟩,.int .i64 0,.slice none 0 0] })∧(tab 42=some { flat:=false,kind:=.int .i64,size:=1,bytes:=8,zero:=.int .i64 0 })∧(tab 45=some { flat:=false,kind:=.slc 47,size:=1,bytes:=24,zero:=.slice none 0 0 })∧(tab 47=some { flat:=false,kind:=.strct [(0,1,false),(1,1,false)],size:=2,bytes:=32,zero:=.agg #[.slice none 0 0,.int .i64 0] })∧(tab 49=some { flat:=false,kind:=.slc 51,size:=1,bytes:=24,zero:=.slice none 0 0 })∧(tab 51=some { flat:=false,kind:=.strct [(0,1,false),(1,1,false),(2,1,false),(3,1,false)],size:=4,bytes:=56,zero:=.agg #[.int .i64 0,.string ⟨#[]⟩,.int .i64 0,.slice none 0 0] })∧(tab 55=some { flat:=true,kind:=.strct [(0,1,false),(1,1,false)],size:=2,bytes:=16,zero:=.agg #[.int .i64 0,.int .i64 0] })∧(tab 56=some { flat:=false,kind:=.slc 58,size:=1,bytes:=24,zero:=.slice none 0 0 })∧(tab 58=some { flat:=false,kind:=.strct [(0,1,false),(1,2,true),(3,1,false)],size:=4,bytes:=64,zero:=.agg #[.slice none 0 0,.int .i64 0,.int .i64 0,.slice none 0 0] })∧(tab 69=some { flat:=false,kind:=.slc 73,size:=1,bytes:=24,zero:=.slice none 0 0 })∧(tab 70=some { flat:=false,kind:=.slc 76,size:=1,bytes:=24,zero:=.slice none 0 0 })∧(tab 73=some { flat:=false,kind:=.strct [(0,1,false),(1,1,false),(2,1,false),(3,1,false),(4,1,false)],size:=5,bytes:=72,zero:=.agg #[.int .i64 0,.slice none 0 0,.slice none 0 0,.int .i64 0,.int .i64 0] })∧(tab 76=some { flat:=false,kind:=.strct [(0,1,false),(1,1,false),(2,1,false),(3,1,false),(4,1,false)],size:=5,bytes:=72,zero:=.agg #[.int .i64 0,.slice none 0 0,.slice none 0 0,.int .i64 0,.int .i64 0] })∧(tab 81=some { flat:=true,kind:=.strct [(0,1,false),(1,1,false)],size:=2,bytes:=16,zero:=.agg #[.int .i64 0,.int .i64 0] })∧(tab 83=some { flat:=false,kind:=.strct [(0,1,false),(1,2,true),(3,1,false)],size:=4,bytes:=40,zero:=.agg #[.int .i64 0,.int .i64 0,.int .i64 0,.string ⟨#[]⟩] })∧(tab 88=some { flat:=false,kind:=.other,size:=1,bytes:=8,zero:=.nilFunc })∧(tab 102=some { flat:=false,kind:=.other,size:=1,bytes:=8,zero:=.nilFunc })∧(tab 104=some { flat:=false,kind:=.mapk 9 4,size:=1,bytes:=8,zero:=.map none })∧(tab 108=some { flat:=false,kind:=.strct [(0,3,true),(3,1,false)],size:=4,bytes:=80,zero:=.agg #[.slice none 0 0,.slice none 0 0,.slice none 0 0,.map none] })∧(tab 112=some { flat:=false,kind:=.slc 3,size:=1,bytes:=24,zero:=.slice none 0 0 })∧(tab 117=some { flat:=false,kind:=.ptr 120,size:=1,bytes:=8,zero:=.pointer none })∧(tab 118=some { flat:=false,kind:=.slc 5,size:=1,bytes:=24,zero:=.slice none 0 0 })∧(tab 120=some { flat:=false,kind:=.strct [(0,1,false),(1,1,false)],size:=2,bytes:=32,zero:=.agg #[.pointer none,.slice none 0 0] })∧(tab 122=some { flat:=false,kind:=.strct [(0,1,false)],size:=1,bytes:=8,zero:=.agg #[.pointer none] })∧(tab 127=some { flat:=false,kind:=.ptr 133,size:=1,bytes:=8,zero:=.pointer none })∧(tab 129=some { flat:=false,kind:=.strct [(0,1,false),(1,1,false),(2,1,false)],size:=3,bytes:=32,zero:=.agg #[.int .i64 0,.string ⟨#[]⟩,.int .i64 0] })∧(tab 131=some { flat:=false,kind:=.ptr 179,size:=1,bytes:=8,zero:=.pointer none })∧(tab 133=some { flat:=false,kind:=.strct [(0,1,false),(1,1,false),(2,4,true)],size:=6,bytes:=56,zero:=.agg #[.pointer none,.int .i64 0,.int .i64 0,.int .i64 0,.int .i64 0,.string ⟨#[]⟩] })∧(tab 136=some { flat:=false,kind:=.other,size:=1,bytes:=8,zero:=.nilFunc })∧(tab 139=some { flat:=false,kind:=.other,size:=1,bytes:=8,zero:=.nilFunc })∧(tab 143=some { flat:=false,kind:=.other,size:=1,bytes:=8,zero:=.nilFunc })∧(tab 144=some { flat:=false,kind:=.other,size:=1,bytes:=8,zero:=.nilFunc })∧(tab 151=some { flat:=true,kind:=.strct [(0,1,false),(1,1,false)],size:=2,bytes:=16,zero:=.agg #[.int .i64 0,.int .i64 0] })∧(tab 152=some { flat:=false,kind:=.slc 22,size:=1,bytes:=24,zero:=.slice none 0 0 })∧(tab 163=some { flat:=false,kind:=.strct [(0,1,false),(1,1,false),(2,1,false),(3,1,false),(4,1,false),(5,1,false)],size:=6,bytes:=48,zero:=.agg #[.string ⟨#[]⟩,.int .i64 0,.int .i64 0,.int .i64 0,.bool false,.bool false] })∧(tab 173=some { flat:=false,kind:=.ptr 5,size:=1,bytes:=8,zero:=.pointer none })∧(tab 174=some { flat:=false,kind:=.slc 129,size:=1,bytes:=24,zero:=.slice none 0 0 })∧(tab 179=some { flat:=false,kind:=.strct [(0,1,false),(1,1,false),(2,1,false)],size:=3,bytes:=48,zero:=.agg #[.slice none 0 0,.string ⟨#[]⟩,.int .i64 0] })∧(tab 184=some { flat:=false,kind:=.other,size:=1,bytes:=8,zero:=.nilFunc })∧(tab 191=some { flat:=false,kind:=.other,size:=1,bytes:=8,zero:=.nilFunc })∧(tab 195=some { flat:=false,kind:=.slc 201,size:=1,bytes:=24,zero:=.slice none 0 0 })∧(tab 196=some { flat:=true,kind:=.strct [(0,1,false),(1,1,false)],size:=2,bytes:=16,zero:=.agg #[.int .i64 0,.int .i64 0] })∧(tab 198=some { flat:=false,kind:=.strct [(0,1,false),(1,2,true),(3,1,false)],size:=4,bytes:=40,zero:=.agg #[.int .i64 0,.int .i64 0,.int .i64 0,.string ⟨#[]⟩] })∧(tab 201=some { flat:=false,kind:=.strct [(0,1,false),(1,1,false),(2,1,false)],size:=3,bytes:=32,zero:=.agg #[.int .i64 0,.string ⟨#[]⟩,.int .i64 0] })∧(tab 203=some { flat:=false,kind:=.other,size:=1,bytes:=8,zero:=.nilFunc })∧(tab 223=some { flat:=false,kind:=.slc 45,size:=1,bytes:=24,zero:=.slice none 0 0 })∧(tab 236=some { flat:=false,kind:=.int .u64,size:=1,bytes:=8,zero:=.int .u64 0 })∧(tab 245=some { flat:=false,kind:=.arr 20,size:=20,bytes:=160,zero:=.agg #[.int .u64 0,.int .u64 0,.int .u64 0,.int .u64 0,.int .u64 0,.int .u64 0,.int .u64 0,.int .u64 0,.int .u64 0,.int .u64 0,.int .u64 0,.int .u64 0,.int .u64 0,.int .u64 0,.int .u64 0,.int .u64 0,.int .u64 0,.int .u64 0,.int .u64 0,.int .u64 0] })∧(tab 246=some { flat:=false,kind:=.int .u32,size:=1,bytes:=4,zero:=.int .u32 0 })∧(tab 249=some { flat:=false,kind:=.int .u64,size:=1,bytes:=8,zero:=.int .u64 0 }):=
 ⟨tab_2,tab_3,tab_4,tab_5,tab_9,tab_22,tab_24,tab_25,tab_27,tab_28,tab_30,tab_32,tab_36,tab_39,tab_41,tab_42,tab_45,tab_47,tab_49,tab_51,tab_55,tab_56,tab_58,tab_69,tab_70,tab_73,tab_76,tab_81,tab_83,tab_88,tab_102,tab_104,tab_108,tab_112,tab_117,tab_118,tab_120,tab_122,tab_127,tab_129,tab_131,tab_133,tab_136,tab_139,tab_143,tab_144,tab_151,tab_152,tab_163,tab_173,tab_174,tab_179,tab_184,tab_191,tab_195,tab_196,tab_198,tab_201,tab_203,tab_223,tab_236,tab_245,tab_246,tab_249⟩
end Go.Proofs.YtghnkppcncbddaaGreatDoor
