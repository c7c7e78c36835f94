/- Texts of ours laid together for a claim: Tab. -/
import Derived.Test.YtjhanogfpkbamaaDoorProg
import Derived.KernelRfl
import Derived.Test.YtjhanogfpkbamaaDoorQ28
namespace Go.Proofs.YtjhanogfpkbamaaDoor
open Go
set_option linter.unusedSimpArgs false
set_option linter.unusedVariables false
def td2:TD:={ flat:=false,kind:=.int .i64,size:=1,bytes:=8,zero:=.int .i64 0 }
theorem tyok2:TyOk Tryd.prog 2 td2:=tyOk_mk (by kernel_rfl) (by kernel_rfl) (by rfl) rfl
def td3:TD:={ flat:=false,kind:=.int .i64,size:=1,bytes:=8,zero:=.int .i64 0 }
theorem tyok3:TyOk Tryd.prog 3 td3:=tyOk_mk (by kernel_rfl) (by kernel_rfl) (by rfl) rfl
def td4:TD:={ flat:=false,kind:=.bool,size:=1,bytes:=1,zero:=.bool false }
theorem tyok4:TyOk Tryd.prog 4 td4:=tyOk_mk (by kernel_rfl) (by kernel_rfl) (by rfl) rfl
def td5:TD:={ flat:=false,kind:=.int .u8,size:=1,bytes:=1,zero:=.int .u8 0 }
theorem tyok5:TyOk Tryd.prog 5 td5:=tyOk_mk (by kernel_rfl) (by kernel_rfl) (by rfl) rfl
def td9:TD:={ flat:=false,kind:=.str,size:=1,bytes:=16,zero:=.string ⟨#[]⟩ }
theorem tyok9:TyOk Tryd.prog 9 td9:=tyOk_mk (by kernel_rfl) (by kernel_rfl) (by rfl) rfl
def td21:TD:={ flat:=false,kind:=.int .i32,size:=1,bytes:=4,zero:=.int .i32 0 }
theorem tyok21:TyOk Tryd.prog 21 td21:=tyOk_mk (by kernel_rfl) (by kernel_rfl) (by rfl) rfl
def td22:TD:={ flat:=false,kind:=.int .u64,size:=1,bytes:=8,zero:=.int .u64 0 }
theorem tyok22:TyOk Tryd.prog 22 td22:=tyOk_mk (by kernel_rfl) (by kernel_rfl) (by rfl) rfl
def td24:TD:={ flat:=true,kind:=.strct [(0,1,false),(1,1,false)],size:=2,bytes:=16,zero:=.agg #[.int .i64 0,.int .i64 0] }
theorem tyok24:TyOk Tryd.prog 24 td24:=tyOk_flat (by kernel_rfl) (by kernel_rfl) (by rfl) rfl (by kernel_rfl) (by kernel_rfl) (by kernel_rfl) (by kernel_rfl)
def td25:TD:={ flat:=false,kind:=.slc 57,size:=1,bytes:=24,zero:=.slice none 0 0 }
theorem tyok25:TyOk Tryd.prog 25 td25:=tyOk_mk (by kernel_rfl) (by kernel_rfl) (by rfl) rfl
def td26:TD:={ flat:=false,kind:=.slc 28,size:=1,bytes:=24,zero:=.slice none 0 0 }
theorem tyok26:TyOk Tryd.prog 26 td26:=tyOk_mk (by kernel_rfl) (by kernel_rfl) (by rfl) rfl
def td28:TD:={ flat:=false,kind:=.strct [(0,1,false),(1,2,true),(3,1,false)],size:=4,bytes:=64,zero:=.agg #[.slice none 0 0,.int .i64 0,.int .i64 0,.slice none 0 0] }
theorem tyok28:TyOk Tryd.prog 28 td28:=tyOk_mk (by kernel_rfl) (by kernel_rfl) (by rfl) rfl
def td30:TD:={ flat:=false,kind:=.strct [(0,4,true),(4,4,true),(8,1,false)],size:=9,bytes:=152,zero:=.agg #[.slice none 0 0,.int .i64 0,.int .i64 0,.slice none 0 0,.slice none 0 0,.int .i64 0,.int .i64 0,.slice none 0 0,.slice none 0 0] }
theorem tyok30:TyOk Tryd.prog 30 td30:=tyOk_mk (by kernel_rfl) (by kernel_rfl) (by rfl) rfl
def td31:TD:={ flat:=false,kind:=.int .i64,size:=1,bytes:=8,zero:=.int .i64 0 }
theorem tyok31:TyOk Tryd.prog 31 td31:=tyOk_mk (by kernel_rfl) (by kernel_rfl) (by rfl) rfl
def td34:TD:={ flat:=false,kind:=.slc 64,size:=1,bytes:=24,zero:=.slice none 0 0 }
theorem tyok34:TyOk Tryd.prog 34 td34:=tyOk_mk (by kernel_rfl) (by kernel_rfl) (by rfl) rfl
def td36:TD:={ flat:=false,kind:=.strct [(0,9,true),(9,1,false)],size:=10,bytes:=176,zero:=.agg #[.slice none 0 0,.int .i64 0,.int .i64 0,.slice none 0 0,.slice none 0 0,.int .i64 0,.int .i64 0,.slice none 0 0,.slice none 0 0,.slice none 0 0] }
theorem tyok36:TyOk Tryd.prog 36 td36:=tyOk_mk (by kernel_rfl) (by kernel_rfl) (by rfl) rfl
def td37:TD:={ flat:=false,kind:=.slc 36,size:=1,bytes:=24,zero:=.slice none 0 0 }
theorem tyok37:TyOk Tryd.prog 37 td37:=tyOk_mk (by kernel_rfl) (by kernel_rfl) (by rfl) rfl
def td39:TD:={ flat:=false,kind:=.strct [(0,1,false)],size:=1,bytes:=24,zero:=.agg #[.slice none 0 0] }
theorem tyok39:TyOk Tryd.prog 39 td39:=tyOk_mk (by kernel_rfl) (by kernel_rfl) (by rfl) rfl
def td41:TD:={ flat:=true,kind:=.strct [(0,1,false),(1,1,false)],size:=2,bytes:=16,zero:=.agg #[.int .i64 0,.int .i64 0] }
theorem tyok41:TyOk Tryd.prog 41 td41:=tyOk_flat (by kernel_rfl) (by kernel_rfl) (by rfl) rfl (by kernel_rfl) (by kernel_rfl) (by kernel_rfl) (by kernel_rfl)
def td43:TD:={ flat:=false,kind:=.strct [(0,1,false),(1,2,true),(3,1,false)],size:=4,bytes:=40,zero:=.agg #[.int .i64 0,.int .i64 0,.int .i64 0,.string ⟨#[]⟩] }
theorem tyok43:TyOk Tryd.prog 43 td43:=tyOk_mk (by kernel_rfl) (by kernel_rfl) (by rfl) rfl
def td48:TD:={ flat:=false,kind:=.ptr 54,size:=1,bytes:=8,zero:=.pointer none }
theorem tyok48:TyOk Tryd.prog 48 td48:=tyOk_mk (by kernel_rfl) (by kernel_rfl) (by rfl) rfl
def td49:TD:={ flat:=false,kind:=.ptr 52,size:=1,bytes:=8,zero:=.pointer none }
theorem tyok49:TyOk Tryd.prog 49 td49:=tyOk_mk (by kernel_rfl) (by kernel_rfl) (by rfl) rfl
def td50:TD:={ flat:=false,kind:=.slc 5,size:=1,bytes:=24,zero:=.slice none 0 0 }
theorem tyok50:TyOk Tryd.prog 50 td50:=tyOk_mk (by kernel_rfl) (by kernel_rfl) (by rfl) rfl
def td52:TD:={ flat:=false,kind:=.strct [(0,1,false),(1,1,false)],size:=2,bytes:=32,zero:=.agg #[.pointer none,.slice none 0 0] }
theorem tyok52:TyOk Tryd.prog 52 td52:=tyOk_mk (by kernel_rfl) (by kernel_rfl) (by rfl) rfl
def td54:TD:={ flat:=false,kind:=.strct [(0,1,false),(1,1,false)],size:=2,bytes:=16,zero:=.agg #[.pointer none,.int .i64 0] }
theorem tyok54:TyOk Tryd.prog 54 td54:=tyOk_mk (by kernel_rfl) (by kernel_rfl) (by rfl) rfl
def td57:TD:={ flat:=false,kind:=.strct [(0,1,false),(1,1,false)],size:=2,bytes:=32,zero:=.agg #[.slice none 0 0,.int .i64 0] }
theorem tyok57:TyOk Tryd.prog 57 td57:=tyOk_mk (by kernel_rfl) (by kernel_rfl) (by rfl) rfl
def td60:TD:={ flat:=false,kind:=.slc 3,size:=1,bytes:=24,zero:=.slice none 0 0 }
theorem tyok60:TyOk Tryd.prog 60 td60:=tyOk_mk (by kernel_rfl) (by kernel_rfl) (by rfl) rfl
def td61:TD:={ flat:=false,kind:=.slc 89,size:=1,bytes:=24,zero:=.slice none 0 0 }
theorem tyok61:TyOk Tryd.prog 61 td61:=tyOk_mk (by kernel_rfl) (by kernel_rfl) (by rfl) rfl
def td62:TD:={ flat:=false,kind:=.slc 89,size:=1,bytes:=24,zero:=.slice none 0 0 }
theorem tyok62:TyOk Tryd.prog 62 td62:=tyOk_mk (by kernel_rfl) (by kernel_rfl) (by rfl) rfl
def td64:TD:={ flat:=false,kind:=.strct [(0,1,false),(1,1,false),(2,1,false),(3,1,false)],size:=4,bytes:=64,zero:=.agg #[.int .i64 0,.bool false,.slice none 0 0,.slice none 0 0] }
theorem tyok64:TyOk Tryd.prog 64 td64:=tyOk_mk (by kernel_rfl) (by kernel_rfl) (by rfl) rfl
def td67:TD:={ flat:=false,kind:=.ifc,size:=1,bytes:=16,zero:=.nilIface }
theorem tyok67:TyOk Tryd.prog 67 td67:=tyOk_mk (by kernel_rfl) (by kernel_rfl) (by rfl) rfl
def td70:TD:={ flat:=false,kind:=.slc 79,size:=1,bytes:=24,zero:=.slice none 0 0 }
theorem tyok70:TyOk Tryd.prog 70 td70:=tyOk_mk (by kernel_rfl) (by kernel_rfl) (by rfl) rfl
def td73:TD:={ flat:=false,kind:=.ptr 77,size:=1,bytes:=8,zero:=.pointer none }
theorem tyok73:TyOk Tryd.prog 73 td73:=tyOk_mk (by kernel_rfl) (by kernel_rfl) (by rfl) rfl
def td74:TD:={ flat:=false,kind:=.ptr 102,size:=1,bytes:=8,zero:=.pointer none }
theorem tyok74:TyOk Tryd.prog 74 td74:=tyOk_mk (by kernel_rfl) (by kernel_rfl) (by rfl) rfl
def td77:TD:={ flat:=false,kind:=.strct [(0,1,false),(1,4,true)],size:=5,bytes:=48,zero:=.agg #[.pointer none,.int .i64 0,.int .i64 0,.int .i64 0,.string ⟨#[]⟩] }
theorem tyok77:TyOk Tryd.prog 77 td77:=tyOk_mk (by kernel_rfl) (by kernel_rfl) (by rfl) rfl
def td79:TD:={ flat:=false,kind:=.strct [(0,1,false),(1,1,false),(2,1,false)],size:=3,bytes:=32,zero:=.agg #[.int .i64 0,.string ⟨#[]⟩,.int .i64 0] }
theorem tyok79:TyOk Tryd.prog 79 td79:=tyOk_mk (by kernel_rfl) (by kernel_rfl) (by rfl) rfl
def td82:TD:={ flat:=false,kind:=.other,size:=1,bytes:=8,zero:=.nilFunc }
theorem tyok82:TyOk Tryd.prog 82 td82:=tyOk_mk (by kernel_rfl) (by kernel_rfl) (by rfl) rfl
def td83:TD:={ flat:=false,kind:=.slc 9,size:=1,bytes:=24,zero:=.slice none 0 0 }
theorem tyok83:TyOk Tryd.prog 83 td83:=tyOk_mk (by kernel_rfl) (by kernel_rfl) (by rfl) rfl
def td89:TD:={ flat:=false,kind:=.strct [(0,1,false),(1,4,true)],size:=5,bytes:=72,zero:=.agg #[.int .i64 0,.slice none 0 0,.int .i64 0,.int .i64 0,.slice none 0 0] }
theorem tyok89:TyOk Tryd.prog 89 td89:=tyOk_mk (by kernel_rfl) (by kernel_rfl) (by rfl) rfl
def td90:TD:={ flat:=false,kind:=.ptr 5,size:=1,bytes:=8,zero:=.pointer none }
theorem tyok90:TyOk Tryd.prog 90 td90:=tyOk_mk (by kernel_rfl) (by kernel_rfl) (by rfl) rfl
def td102:TD:={ flat:=false,kind:=.strct [(0,1,false),(1,1,false),(2,1,false)],size:=3,bytes:=48,zero:=.agg #[.slice none 0 0,.string ⟨#[]⟩,.int .i64 0] }
theorem tyok102:TyOk Tryd.prog 102 td102:=tyOk_mk (by kernel_rfl) (by kernel_rfl) (by rfl) rfl
def td105:TD:={ flat:=false,kind:=.other,size:=1,bytes:=8,zero:=.nilFunc }
theorem tyok105:TyOk Tryd.prog 105 td105:=tyOk_mk (by kernel_rfl) (by kernel_rfl) (by rfl) rfl
def td108:TD:={ flat:=false,kind:=.other,size:=1,bytes:=8,zero:=.nilFunc }
theorem tyok108:TyOk Tryd.prog 108 td108:=tyOk_mk (by kernel_rfl) (by kernel_rfl) (by rfl) rfl
def td110:TD:={ flat:=false,kind:=.other,size:=1,bytes:=8,zero:=.nilFunc }
theorem tyok110:TyOk Tryd.prog 110 td110:=tyOk_mk (by kernel_rfl) (by kernel_rfl) (by rfl) rfl
def td118:TD:={ flat:=false,kind:=.other,size:=1,bytes:=8,zero:=.nilFunc }
theorem tyok118:TyOk Tryd.prog 118 td118:=tyOk_mk (by kernel_rfl) (by kernel_rfl) (by rfl) rfl
def td124:TD:={ flat:=false,kind:=.other,size:=1,bytes:=8,zero:=.nilFunc }
theorem tyok124:TyOk Tryd.prog 124 td124:=tyOk_mk (by kernel_rfl) (by kernel_rfl) (by rfl) rfl
def td127:TD:={ flat:=false,kind:=.other,size:=1,bytes:=8,zero:=.nilFunc }
theorem tyok127:TyOk Tryd.prog 127 td127:=tyOk_mk (by kernel_rfl) (by kernel_rfl) (by rfl) rfl
def td130:TD:={ flat:=false,kind:=.other,size:=1,bytes:=8,zero:=.nilFunc }
theorem tyok130:TyOk Tryd.prog 130 td130:=tyOk_mk (by kernel_rfl) (by kernel_rfl) (by rfl) rfl
def td146:TD:={ flat:=false,kind:=.arr 20,size:=20,bytes:=160,zero:=.agg #[.int .u64 0,.int .u64 0,.int .u64 0,.int .u64 0,.int .u64 0,.int .u64 0,.int .u64 0,.int .u64 0,.int .u64 0,.int .u64 0,.int .u64 0,.int .u64 0,.int .u64 0,.int .u64 0,.int .u64 0,.int .u64 0,.int .u64 0,.int .u64 0,.int .u64 0,.int .u64 0] }
theorem tyok146:TyOk Tryd.prog 146 td146:=tyOk_mk (by kernel_rfl) (by kernel_rfl) (by rfl) rfl
def td147:TD:={ flat:=false,kind:=.int .u32,size:=1,bytes:=4,zero:=.int .u32 0 }
theorem tyok147:TyOk Tryd.prog 147 td147:=tyOk_mk (by kernel_rfl) (by kernel_rfl) (by rfl) rfl
def td149:TD:={ flat:=false,kind:=.int .u64,size:=1,bytes:=8,zero:=.int .u64 0 }
theorem tyok149:TyOk Tryd.prog 149 td149:=tyOk_mk (by kernel_rfl) (by kernel_rfl) (by rfl) rfl
def td161:TD:={ flat:=false,kind:=.strct [(0,1,false),(1,1,false),(2,1,false)],size:=3,bytes:=48,zero:=.agg #[.string ⟨#[]⟩,.string ⟨#[]⟩,.nilIface] }
theorem tyok161:TyOk Tryd.prog 161 td161:=tyOk_mk (by kernel_rfl) (by kernel_rfl) (by rfl) rfl
def td168:TD:={ flat:=false,kind:=.strct [(0,1,false)],size:=1,bytes:=16,zero:=.agg #[.string ⟨#[]⟩] }
theorem tyok168:TyOk Tryd.prog 168 td168:=tyOk_mk (by kernel_rfl) (by kernel_rfl) (by rfl) rfl
def tabL:List (Nat×TD):=[(2,td2),(3,td3),(4,td4),(5,td5),(9,td9),(21,td21),(22,td22),(24,td24),(25,td25),(26,td26),(28,td28),(30,td30),(31,td31),(34,td34),(36,td36),(37,td37),(39,td39),(41,td41),(43,td43),(48,td48),(49,td49),(50,td50),(52,td52),(54,td54),(57,td57),(60,td60),(61,td61),(62,td62),(64,td64),(67,td67),(70,td70),(73,td73),(74,td74),(77,td77),(79,td79),(82,td82),(83,td83),(89,td89),(90,td90),(102,td102),(105,td105),(108,td108),(110,td110),(118,td118),(124,td124),(127,td127),(130,td130),(146,td146),(147,td147),(149,td149),(161,td161),(168,td168)]
def tab (T:Nat):Option TD:=(tabL.find? (fun p=>p.1==T)).map (·.2)
theorem tabL_ok:∀p∈tabL,TyOk Tryd.prog p.1 p.2:=List.forall_mem_cons.2 ⟨tyok2,List.forall_mem_cons.2 ⟨tyok3,List.forall_mem_cons.2 ⟨tyok4,List.forall_mem_cons.2 ⟨tyok5,List.forall_mem_cons.2 ⟨tyok9,List.forall_mem_cons.2 ⟨tyok21,List.forall_mem_cons.2 ⟨tyok22,List.forall_mem_cons.2 ⟨tyok24,List.forall_mem_cons.2 ⟨tyok25,List.forall_mem_cons.2 ⟨tyok26,List.forall_mem_cons.2 ⟨tyok28,List.forall_mem_cons.2 ⟨tyok30,List.forall_mem_cons.2 ⟨tyok31,List.forall_mem_cons.2 ⟨tyok34,List.forall_mem_cons.2 ⟨tyok36,List.forall_mem_cons.2 ⟨tyok37,List.forall_mem_cons.2 ⟨tyok39,List.forall_mem_cons.2 ⟨tyok41,List.forall_mem_cons.2 ⟨tyok43,List.forall_mem_cons.2 ⟨tyok48,List.forall_mem_cons.2 ⟨tyok49,List.forall_mem_cons.2 ⟨tyok50,List.forall_mem_cons.2 ⟨tyok52,List.forall_mem_cons.2 ⟨tyok54,List.forall_mem_cons.2 ⟨tyok57,List.forall_mem_cons.2 ⟨tyok60,List.forall_mem_cons.2 ⟨tyok61,List.forall_mem_cons.2 ⟨tyok62,List.forall_mem_cons.2 ⟨tyok64,List.forall_mem_cons.2 ⟨tyok67,List.forall_mem_cons.2 ⟨tyok70,List.forall_mem_cons.2 ⟨tyok73,List.forall_mem_cons.2 ⟨tyok74,List.forall_mem_cons.2 ⟨tyok77,List.forall_mem_cons.2 ⟨tyok79,List.forall_mem_cons.2 ⟨tyok82,List.forall_mem_cons.2 ⟨tyok83,List.forall_mem_cons.2 ⟨tyok89,List.forall_mem_cons.2 ⟨tyok90,List.forall_mem_cons.2 ⟨tyok102,List.forall_mem_cons.2 ⟨tyok105,List.forall_mem_cons.2 ⟨tyok108,List.forall_mem_cons.2 ⟨tyok110,List.forall_mem_cons.2 ⟨tyok118,List.forall_mem_cons.2 ⟨tyok124,List.forall_mem_cons.2 ⟨tyok127,List.forall_mem_cons.2 ⟨tyok130,List.forall_mem_cons.2 ⟨tyok146,List.forall_mem_cons.2 ⟨tyok147,List.forall_mem_cons.2 ⟨tyok149,List.forall_mem_cons.2 ⟨tyok161,List.forall_mem_cons.2 ⟨tyok168,fun p h=>by cases h⟩⟩⟩⟩⟩⟩⟩⟩⟩⟩⟩⟩⟩⟩⟩⟩⟩⟩⟩⟩⟩⟩⟩⟩⟩⟩⟩⟩⟩⟩⟩⟩⟩⟩⟩⟩⟩⟩⟩⟩⟩⟩⟩⟩⟩⟩⟩⟩⟩⟩⟩⟩
theorem tab_ok:TabOk Tryd.prog tab:=tabOk_of tabL_ok
end Go.Proofs.YtjhanogfpkbamaaDoor
