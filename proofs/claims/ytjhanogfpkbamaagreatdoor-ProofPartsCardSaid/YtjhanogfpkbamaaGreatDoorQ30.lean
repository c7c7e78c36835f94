/- Texts of ours laid together for a claim: Tab. -/
import Derived.Test.YtjhanogfpkbamaaGreatDoorProg
import Derived.KernelRfl
import Derived.Test.YtjhanogfpkbamaaGreatDoorQ29
namespace Go.Proofs.YtjhanogfpkbamaaGreatDoor
open Go
set_option linter.unusedSimpArgs false
set_option linter.unusedVariables false
def td2:TD:={ flat:=false,kind:=.int .i64,size:=1,bytes:=8,zero:=.int .i64 0 }
theorem tyok2:TyOk Tryz.prog 2 td2:=tyOk_mk (by kernel_rfl) (by kernel_rfl) (by rfl) rfl
def td3:TD:={ flat:=false,kind:=.int .i64,size:=1,bytes:=8,zero:=.int .i64 0 }
theorem tyok3:TyOk Tryz.prog 3 td3:=tyOk_mk (by kernel_rfl) (by kernel_rfl) (by rfl) rfl
def td4:TD:={ flat:=false,kind:=.bool,size:=1,bytes:=1,zero:=.bool false }
theorem tyok4:TyOk Tryz.prog 4 td4:=tyOk_mk (by kernel_rfl) (by kernel_rfl) (by rfl) rfl
def td5:TD:={ flat:=false,kind:=.int .u8,size:=1,bytes:=1,zero:=.int .u8 0 }
theorem tyok5:TyOk Tryz.prog 5 td5:=tyOk_mk (by kernel_rfl) (by kernel_rfl) (by rfl) rfl
def td9:TD:={ flat:=false,kind:=.str,size:=1,bytes:=16,zero:=.string ⟨#[]⟩ }
theorem tyok9:TyOk Tryz.prog 9 td9:=tyOk_mk (by kernel_rfl) (by kernel_rfl) (by rfl) rfl
def td21:TD:={ flat:=false,kind:=.int .i32,size:=1,bytes:=4,zero:=.int .i32 0 }
theorem tyok21:TyOk Tryz.prog 21 td21:=tyOk_mk (by kernel_rfl) (by kernel_rfl) (by rfl) rfl
def td22:TD:={ flat:=false,kind:=.slc 63,size:=1,bytes:=24,zero:=.slice none 0 0 }
theorem tyok22:TyOk Tryz.prog 22 td22:=tyOk_mk (by kernel_rfl) (by kernel_rfl) (by rfl) rfl
def td25:TD:={ flat:=false,kind:=.slc 53,size:=1,bytes:=24,zero:=.slice none 0 0 }
theorem tyok25:TyOk Tryz.prog 25 td25:=tyOk_mk (by kernel_rfl) (by kernel_rfl) (by rfl) rfl
def td27:TD:={ flat:=false,kind:=.strct [(0,1,false)],size:=1,bytes:=24,zero:=.agg #[.slice none 0 0] }
theorem tyok27:TyOk Tryz.prog 27 td27:=tyOk_mk (by kernel_rfl) (by kernel_rfl) (by rfl) rfl
def td29:TD:={ flat:=false,kind:=.int .i64,size:=1,bytes:=8,zero:=.int .i64 0 }
theorem tyok29:TyOk Tryz.prog 29 td29:=tyOk_mk (by kernel_rfl) (by kernel_rfl) (by rfl) rfl
def td36:TD:={ flat:=true,kind:=.strct [(0,1,false),(1,1,false)],size:=2,bytes:=16,zero:=.agg #[.int .i64 0,.int .i64 0] }
theorem tyok36:TyOk Tryz.prog 36 td36:=tyOk_flat (by kernel_rfl) (by kernel_rfl) (by rfl) rfl (by kernel_rfl) (by kernel_rfl) (by kernel_rfl) (by kernel_rfl)
def td38:TD:={ flat:=false,kind:=.strct [(0,1,false),(1,2,true),(3,1,false)],size:=4,bytes:=40,zero:=.agg #[.int .i64 0,.int .i64 0,.int .i64 0,.string ⟨#[]⟩] }
theorem tyok38:TyOk Tryz.prog 38 td38:=tyOk_mk (by kernel_rfl) (by kernel_rfl) (by rfl) rfl
def td42:TD:={ flat:=false,kind:=.slc 3,size:=1,bytes:=24,zero:=.slice none 0 0 }
theorem tyok42:TyOk Tryz.prog 42 td42:=tyOk_mk (by kernel_rfl) (by kernel_rfl) (by rfl) rfl
def td43:TD:={ flat:=false,kind:=.slc 101,size:=1,bytes:=24,zero:=.slice none 0 0 }
theorem tyok43:TyOk Tryz.prog 43 td43:=tyOk_mk (by kernel_rfl) (by kernel_rfl) (by rfl) rfl
def td45:TD:={ flat:=true,kind:=.strct [(0,1,false),(1,1,false)],size:=2,bytes:=16,zero:=.agg #[.int .i64 0,.int .i64 0] }
theorem tyok45:TyOk Tryz.prog 45 td45:=tyOk_flat (by kernel_rfl) (by kernel_rfl) (by rfl) rfl (by kernel_rfl) (by kernel_rfl) (by kernel_rfl) (by kernel_rfl)
def td46:TD:={ flat:=false,kind:=.slc 48,size:=1,bytes:=24,zero:=.slice none 0 0 }
theorem tyok46:TyOk Tryz.prog 46 td46:=tyOk_mk (by kernel_rfl) (by kernel_rfl) (by rfl) rfl
def td48:TD:={ flat:=false,kind:=.strct [(0,1,false),(1,2,true),(3,1,false)],size:=4,bytes:=64,zero:=.agg #[.slice none 0 0,.int .i64 0,.int .i64 0,.slice none 0 0] }
theorem tyok48:TyOk Tryz.prog 48 td48:=tyOk_mk (by kernel_rfl) (by kernel_rfl) (by rfl) rfl
def td50:TD:={ flat:=false,kind:=.strct [(0,4,true),(4,4,true),(8,1,false)],size:=9,bytes:=152,zero:=.agg #[.slice none 0 0,.int .i64 0,.int .i64 0,.slice none 0 0,.slice none 0 0,.int .i64 0,.int .i64 0,.slice none 0 0,.slice none 0 0] }
theorem tyok50:TyOk Tryz.prog 50 td50:=tyOk_mk (by kernel_rfl) (by kernel_rfl) (by rfl) rfl
def td51:TD:={ flat:=false,kind:=.slc 107,size:=1,bytes:=24,zero:=.slice none 0 0 }
theorem tyok51:TyOk Tryz.prog 51 td51:=tyOk_mk (by kernel_rfl) (by kernel_rfl) (by rfl) rfl
def td53:TD:={ flat:=false,kind:=.strct [(0,9,true),(9,1,false)],size:=10,bytes:=176,zero:=.agg #[.slice none 0 0,.int .i64 0,.int .i64 0,.slice none 0 0,.slice none 0 0,.int .i64 0,.int .i64 0,.slice none 0 0,.slice none 0 0,.slice none 0 0] }
theorem tyok53:TyOk Tryz.prog 53 td53:=tyOk_mk (by kernel_rfl) (by kernel_rfl) (by rfl) rfl
def td54:TD:={ flat:=false,kind:=.slc 163,size:=1,bytes:=24,zero:=.slice none 0 0 }
theorem tyok54:TyOk Tryz.prog 54 td54:=tyOk_mk (by kernel_rfl) (by kernel_rfl) (by rfl) rfl
def td55:TD:={ flat:=true,kind:=.strct [(0,1,false),(1,1,false)],size:=2,bytes:=16,zero:=.agg #[.int .i64 0,.int .i64 0] }
theorem tyok55:TyOk Tryz.prog 55 td55:=tyOk_flat (by kernel_rfl) (by kernel_rfl) (by rfl) rfl (by kernel_rfl) (by kernel_rfl) (by kernel_rfl) (by kernel_rfl)
def td56:TD:={ flat:=false,kind:=.slc 58,size:=1,bytes:=24,zero:=.slice none 0 0 }
theorem tyok56:TyOk Tryz.prog 56 td56:=tyOk_mk (by kernel_rfl) (by kernel_rfl) (by rfl) rfl
def td58:TD:={ flat:=false,kind:=.strct [(0,1,false),(1,2,true),(3,1,false)],size:=4,bytes:=64,zero:=.agg #[.slice none 0 0,.int .i64 0,.int .i64 0,.slice none 0 0] }
theorem tyok58:TyOk Tryz.prog 58 td58:=tyOk_mk (by kernel_rfl) (by kernel_rfl) (by rfl) rfl
def td60:TD:={ flat:=false,kind:=.strct [(0,4,true),(4,4,true),(8,1,false)],size:=9,bytes:=152,zero:=.agg #[.slice none 0 0,.int .i64 0,.int .i64 0,.slice none 0 0,.slice none 0 0,.int .i64 0,.int .i64 0,.slice none 0 0,.slice none 0 0] }
theorem tyok60:TyOk Tryz.prog 60 td60:=tyOk_mk (by kernel_rfl) (by kernel_rfl) (by rfl) rfl
def td61:TD:={ flat:=false,kind:=.slc 121,size:=1,bytes:=24,zero:=.slice none 0 0 }
theorem tyok61:TyOk Tryz.prog 61 td61:=tyOk_mk (by kernel_rfl) (by kernel_rfl) (by rfl) rfl
def td63:TD:={ flat:=false,kind:=.strct [(0,9,true),(9,1,false)],size:=10,bytes:=176,zero:=.agg #[.slice none 0 0,.int .i64 0,.int .i64 0,.slice none 0 0,.slice none 0 0,.int .i64 0,.int .i64 0,.slice none 0 0,.slice none 0 0,.slice none 0 0] }
theorem tyok63:TyOk Tryz.prog 63 td63:=tyOk_mk (by kernel_rfl) (by kernel_rfl) (by rfl) rfl
def td87:TD:={ flat:=false,kind:=.strct [(0,1,false),(1,1,false),(2,1,false)],size:=3,bytes:=56,zero:=.agg #[.int .i64 0,.slice none 0 0,.slice none 0 0] }
theorem tyok87:TyOk Tryz.prog 87 td87:=tyOk_mk (by kernel_rfl) (by kernel_rfl) (by rfl) rfl
def td89:TD:={ flat:=false,kind:=.other,size:=1,bytes:=8,zero:=.nilFunc }
theorem tyok89:TyOk Tryz.prog 89 td89:=tyOk_mk (by kernel_rfl) (by kernel_rfl) (by rfl) rfl
def td92:TD:={ flat:=false,kind:=.ptr 98,size:=1,bytes:=8,zero:=.pointer none }
theorem tyok92:TyOk Tryz.prog 92 td92:=tyOk_mk (by kernel_rfl) (by kernel_rfl) (by rfl) rfl
def td93:TD:={ flat:=false,kind:=.ptr 96,size:=1,bytes:=8,zero:=.pointer none }
theorem tyok93:TyOk Tryz.prog 93 td93:=tyOk_mk (by kernel_rfl) (by kernel_rfl) (by rfl) rfl
def td94:TD:={ flat:=false,kind:=.slc 5,size:=1,bytes:=24,zero:=.slice none 0 0 }
theorem tyok94:TyOk Tryz.prog 94 td94:=tyOk_mk (by kernel_rfl) (by kernel_rfl) (by rfl) rfl
def td96:TD:={ flat:=false,kind:=.strct [(0,1,false),(1,1,false)],size:=2,bytes:=32,zero:=.agg #[.pointer none,.slice none 0 0] }
theorem tyok96:TyOk Tryz.prog 96 td96:=tyOk_mk (by kernel_rfl) (by kernel_rfl) (by rfl) rfl
def td98:TD:={ flat:=false,kind:=.strct [(0,1,false),(1,1,false)],size:=2,bytes:=16,zero:=.agg #[.pointer none,.int .i64 0] }
theorem tyok98:TyOk Tryz.prog 98 td98:=tyOk_mk (by kernel_rfl) (by kernel_rfl) (by rfl) rfl
def td101:TD:={ flat:=false,kind:=.strct [(0,1,false),(1,1,false)],size:=2,bytes:=32,zero:=.agg #[.slice none 0 0,.int .i64 0] }
theorem tyok101:TyOk Tryz.prog 101 td101:=tyOk_mk (by kernel_rfl) (by kernel_rfl) (by rfl) rfl
def td104:TD:={ flat:=false,kind:=.slc 177,size:=1,bytes:=24,zero:=.slice none 0 0 }
theorem tyok104:TyOk Tryz.prog 104 td104:=tyOk_mk (by kernel_rfl) (by kernel_rfl) (by rfl) rfl
def td105:TD:={ flat:=false,kind:=.slc 177,size:=1,bytes:=24,zero:=.slice none 0 0 }
theorem tyok105:TyOk Tryz.prog 105 td105:=tyOk_mk (by kernel_rfl) (by kernel_rfl) (by rfl) rfl
def td107:TD:={ flat:=false,kind:=.strct [(0,1,false),(1,1,false),(2,1,false),(3,1,false)],size:=4,bytes:=64,zero:=.agg #[.int .i64 0,.bool false,.slice none 0 0,.slice none 0 0] }
theorem tyok107:TyOk Tryz.prog 107 td107:=tyOk_mk (by kernel_rfl) (by kernel_rfl) (by rfl) rfl
def td110:TD:={ flat:=false,kind:=.ifc,size:=1,bytes:=16,zero:=.nilIface }
theorem tyok110:TyOk Tryz.prog 110 td110:=tyOk_mk (by kernel_rfl) (by kernel_rfl) (by rfl) rfl
def td113:TD:={ flat:=false,kind:=.ptr 115,size:=1,bytes:=8,zero:=.pointer none }
theorem tyok113:TyOk Tryz.prog 113 td113:=tyOk_mk (by kernel_rfl) (by kernel_rfl) (by rfl) rfl
def td115:TD:={ flat:=false,kind:=.strct [(0,1,false),(1,1,false)],size:=2,bytes:=24,zero:=.agg #[.string ⟨#[]⟩,.bool false] }
theorem tyok115:TyOk Tryz.prog 115 td115:=tyOk_mk (by kernel_rfl) (by kernel_rfl) (by rfl) rfl
def td119:TD:={ flat:=false,kind:=.slc 124,size:=1,bytes:=24,zero:=.slice none 0 0 }
theorem tyok119:TyOk Tryz.prog 119 td119:=tyOk_mk (by kernel_rfl) (by kernel_rfl) (by rfl) rfl
def td121:TD:={ flat:=false,kind:=.strct [(0,1,false),(1,1,false),(2,1,false),(3,1,false)],size:=4,bytes:=64,zero:=.agg #[.int .i64 0,.bool false,.slice none 0 0,.slice none 0 0] }
theorem tyok121:TyOk Tryz.prog 121 td121:=tyOk_mk (by kernel_rfl) (by kernel_rfl) (by rfl) rfl
def td124:TD:={ flat:=false,kind:=.strct [(0,1,false),(1,4,true)],size:=5,bytes:=72,zero:=.agg #[.int .i64 0,.slice none 0 0,.int .i64 0,.int .i64 0,.slice none 0 0] }
theorem tyok124:TyOk Tryz.prog 124 td124:=tyOk_mk (by kernel_rfl) (by kernel_rfl) (by rfl) rfl
def td125:TD:={ flat:=false,kind:=.slc 134,size:=1,bytes:=24,zero:=.slice none 0 0 }
theorem tyok125:TyOk Tryz.prog 125 td125:=tyOk_mk (by kernel_rfl) (by kernel_rfl) (by rfl) rfl
def td128:TD:={ flat:=false,kind:=.ptr 132,size:=1,bytes:=8,zero:=.pointer none }
theorem tyok128:TyOk Tryz.prog 128 td128:=tyOk_mk (by kernel_rfl) (by kernel_rfl) (by rfl) rfl
def td129:TD:={ flat:=false,kind:=.ptr 191,size:=1,bytes:=8,zero:=.pointer none }
theorem tyok129:TyOk Tryz.prog 129 td129:=tyOk_mk (by kernel_rfl) (by kernel_rfl) (by rfl) rfl
def td132:TD:={ flat:=false,kind:=.strct [(0,1,false),(1,4,true)],size:=5,bytes:=48,zero:=.agg #[.pointer none,.int .i64 0,.int .i64 0,.int .i64 0,.string ⟨#[]⟩] }
theorem tyok132:TyOk Tryz.prog 132 td132:=tyOk_mk (by kernel_rfl) (by kernel_rfl) (by rfl) rfl
def td134:TD:={ flat:=false,kind:=.strct [(0,1,false),(1,1,false),(2,1,false)],size:=3,bytes:=32,zero:=.agg #[.int .i64 0,.string ⟨#[]⟩,.int .i64 0] }
theorem tyok134:TyOk Tryz.prog 134 td134:=tyOk_mk (by kernel_rfl) (by kernel_rfl) (by rfl) rfl
def td139:TD:={ flat:=false,kind:=.other,size:=1,bytes:=8,zero:=.nilFunc }
theorem tyok139:TyOk Tryz.prog 139 td139:=tyOk_mk (by kernel_rfl) (by kernel_rfl) (by rfl) rfl
def td148:TD:={ flat:=false,kind:=.other,size:=1,bytes:=8,zero:=.nilFunc }
theorem tyok148:TyOk Tryz.prog 148 td148:=tyOk_mk (by kernel_rfl) (by kernel_rfl) (by rfl) rfl
def td155:TD:={ flat:=false,kind:=.mapk 3 3,size:=1,bytes:=8,zero:=.map none }
theorem tyok155:TyOk Tryz.prog 155 td155:=tyOk_mk (by kernel_rfl) (by kernel_rfl) (by rfl) rfl
def td157:TD:={ flat:=false,kind:=.mapk 3 4,size:=1,bytes:=8,zero:=.map none }
theorem tyok157:TyOk Tryz.prog 157 td157:=tyOk_mk (by kernel_rfl) (by kernel_rfl) (by rfl) rfl
def td158:TD:={ flat:=false,kind:=.slc 4,size:=1,bytes:=24,zero:=.slice none 0 0 }
theorem tyok158:TyOk Tryz.prog 158 td158:=tyOk_mk (by kernel_rfl) (by kernel_rfl) (by rfl) rfl
def td163:TD:={ flat:=false,kind:=.strct [(0,1,false),(1,1,false)],size:=2,bytes:=32,zero:=.agg #[.slice none 0 0,.int .i64 0] }
theorem tyok163:TyOk Tryz.prog 163 td163:=tyOk_mk (by kernel_rfl) (by kernel_rfl) (by rfl) rfl
def td166:TD:={ flat:=false,kind:=.other,size:=1,bytes:=8,zero:=.nilFunc }
theorem tyok166:TyOk Tryz.prog 166 td166:=tyOk_mk (by kernel_rfl) (by kernel_rfl) (by rfl) rfl
def td171:TD:={ flat:=false,kind:=.slc 9,size:=1,bytes:=24,zero:=.slice none 0 0 }
theorem tyok171:TyOk Tryz.prog 171 td171:=tyOk_mk (by kernel_rfl) (by kernel_rfl) (by rfl) rfl
def td177:TD:={ flat:=false,kind:=.strct [(0,1,false),(1,4,true)],size:=5,bytes:=72,zero:=.agg #[.int .i64 0,.slice none 0 0,.int .i64 0,.int .i64 0,.slice none 0 0] }
theorem tyok177:TyOk Tryz.prog 177 td177:=tyOk_mk (by kernel_rfl) (by kernel_rfl) (by rfl) rfl
def td178:TD:={ flat:=false,kind:=.ptr 5,size:=1,bytes:=8,zero:=.pointer none }
theorem tyok178:TyOk Tryz.prog 178 td178:=tyOk_mk (by kernel_rfl) (by kernel_rfl) (by rfl) rfl
def td179:TD:={ flat:=false,kind:=.arr 3,size:=3,bytes:=48,zero:=.agg #[.string ⟨#[]⟩,.string ⟨#[]⟩,.string ⟨#[]⟩] }
theorem tyok179:TyOk Tryz.prog 179 td179:=tyOk_mk (by kernel_rfl) (by kernel_rfl) (by rfl) rfl
def td191:TD:={ flat:=false,kind:=.strct [(0,1,false),(1,1,false),(2,1,false)],size:=3,bytes:=48,zero:=.agg #[.slice none 0 0,.string ⟨#[]⟩,.int .i64 0] }
theorem tyok191:TyOk Tryz.prog 191 td191:=tyOk_mk (by kernel_rfl) (by kernel_rfl) (by rfl) rfl
def td194:TD:={ flat:=false,kind:=.other,size:=1,bytes:=8,zero:=.nilFunc }
theorem tyok194:TyOk Tryz.prog 194 td194:=tyOk_mk (by kernel_rfl) (by kernel_rfl) (by rfl) rfl
def td197:TD:={ flat:=false,kind:=.other,size:=1,bytes:=8,zero:=.nilFunc }
theorem tyok197:TyOk Tryz.prog 197 td197:=tyOk_mk (by kernel_rfl) (by kernel_rfl) (by rfl) rfl
def td202:TD:={ flat:=false,kind:=.slc 42,size:=1,bytes:=24,zero:=.slice none 0 0 }
theorem tyok202:TyOk Tryz.prog 202 td202:=tyOk_mk (by kernel_rfl) (by kernel_rfl) (by rfl) rfl
def td216:TD:={ flat:=false,kind:=.other,size:=1,bytes:=8,zero:=.nilFunc }
theorem tyok216:TyOk Tryz.prog 216 td216:=tyOk_mk (by kernel_rfl) (by kernel_rfl) (by rfl) rfl
def td222:TD:={ flat:=false,kind:=.other,size:=1,bytes:=8,zero:=.nilFunc }
theorem tyok222:TyOk Tryz.prog 222 td222:=tyOk_mk (by kernel_rfl) (by kernel_rfl) (by rfl) rfl
def td225:TD:={ flat:=false,kind:=.other,size:=1,bytes:=8,zero:=.nilFunc }
theorem tyok225:TyOk Tryz.prog 225 td225:=tyOk_mk (by kernel_rfl) (by kernel_rfl) (by rfl) rfl
def td228:TD:={ flat:=false,kind:=.other,size:=1,bytes:=8,zero:=.nilFunc }
theorem tyok228:TyOk Tryz.prog 228 td228:=tyOk_mk (by kernel_rfl) (by kernel_rfl) (by rfl) rfl
def td230:TD:={ flat:=false,kind:=.other,size:=1,bytes:=8,zero:=.nilFunc }
theorem tyok230:TyOk Tryz.prog 230 td230:=tyOk_mk (by kernel_rfl) (by kernel_rfl) (by rfl) rfl
def td232:TD:={ flat:=false,kind:=.other,size:=1,bytes:=8,zero:=.nilFunc }
theorem tyok232:TyOk Tryz.prog 232 td232:=tyOk_mk (by kernel_rfl) (by kernel_rfl) (by rfl) rfl
def td245:TD:={ flat:=false,kind:=.int .u64,size:=1,bytes:=8,zero:=.int .u64 0 }
theorem tyok245:TyOk Tryz.prog 245 td245:=tyOk_mk (by kernel_rfl) (by kernel_rfl) (by rfl) rfl
def td251:TD:={ flat:=false,kind:=.slc 43,size:=1,bytes:=24,zero:=.slice none 0 0 }
theorem tyok251:TyOk Tryz.prog 251 td251:=tyOk_mk (by kernel_rfl) (by kernel_rfl) (by rfl) rfl
def td254:TD:={ flat:=false,kind:=.arr 20,size:=20,bytes:=160,zero:=.agg #[.int .u64 0,.int .u64 0,.int .u64 0,.int .u64 0,.int .u64 0,.int .u64 0,.int .u64 0,.int .u64 0,.int .u64 0,.int .u64 0,.int .u64 0,.int .u64 0,.int .u64 0,.int .u64 0,.int .u64 0,.int .u64 0,.int .u64 0,.int .u64 0,.int .u64 0,.int .u64 0] }
theorem tyok254:TyOk Tryz.prog 254 td254:=tyOk_mk (by kernel_rfl) (by kernel_rfl) (by rfl) rfl
def td255:TD:={ flat:=false,kind:=.int .u32,size:=1,bytes:=4,zero:=.int .u32 0 }
theorem tyok255:TyOk Tryz.prog 255 td255:=tyOk_mk (by kernel_rfl) (by kernel_rfl) (by rfl) rfl
def td257:TD:={ flat:=false,kind:=.int .u64,size:=1,bytes:=8,zero:=.int .u64 0 }
theorem tyok257:TyOk Tryz.prog 257 td257:=tyOk_mk (by kernel_rfl) (by kernel_rfl) (by rfl) rfl
def td269:TD:={ flat:=false,kind:=.strct [(0,1,false),(1,1,false),(2,1,false)],size:=3,bytes:=48,zero:=.agg #[.string ⟨#[]⟩,.string ⟨#[]⟩,.nilIface] }
theorem tyok269:TyOk Tryz.prog 269 td269:=tyOk_mk (by kernel_rfl) (by kernel_rfl) (by rfl) rfl
def td276:TD:={ flat:=false,kind:=.strct [(0,1,false)],size:=1,bytes:=16,zero:=.agg #[.string ⟨#[]⟩] }
theorem tyok276:TyOk Tryz.prog 276 td276:=tyOk_mk (by kernel_rfl) (by kernel_rfl) (by rfl) rfl
def tabL:List (Nat×TD):=[(2,td2),(3,td3),(4,td4),(5,td5),(9,td9),(21,td21),(22,td22),(25,td25),(27,td27),(29,td29),(36,td36),(38,td38),(42,td42),(43,td43),(45,td45),(46,td46),(48,td48),(50,td50),(51,td51),(53,td53),(54,td54),(55,td55),(56,td56),(58,td58),(60,td60),(61,td61),(63,td63),(87,td87),(89,td89),(92,td92),(93,td93),(94,td94),(96,td96),(98,td98),(101,td101),(104,td104),(105,td105),(107,td107),(110,td110),(113,td113),(115,td115),(119,td119),(121,td121),(124,td124),(125,td125),(128,td128),(129,td129),(132,td132),(134,td134),(139,td139),(148,td148),(155,td155),(157,td157),(158,td158),(163,td163),(166,td166),(171,td171),(177,td177),(178,td178),(179,td179),(191,td191),(194,td194),(197,td197),(202,td202),(216,td216),(222,td222),(225,td225),(228,td228),(230,td230),(232,td232),(245,td245),(251,td251),(254,td254),(255,td255),(257,td257),(269,td269),(276,td276)]
def tab (T:Nat):Option TD:=(tabL.find? (fun p=>p.1==T)).map (·.2)
theorem tabL_ok:∀p∈tabL,TyOk Tryz.prog p.1 p.2:=List.forall_mem_cons.2 ⟨tyok2,List.forall_mem_cons.2 ⟨tyok3,List.forall_mem_cons.2 ⟨tyok4,List.forall_mem_cons.2 ⟨tyok5,List.forall_mem_cons.2 ⟨tyok9,List.forall_mem_cons.2 ⟨tyok21,List.forall_mem_cons.2 ⟨tyok22,List.forall_mem_cons.2 ⟨tyok25,List.forall_mem_cons.2 ⟨tyok27,List.forall_mem_cons.2 ⟨tyok29,List.forall_mem_cons.2 ⟨tyok36,List.forall_mem_cons.2 ⟨tyok38,List.forall_mem_cons.2 ⟨tyok42,List.forall_mem_cons.2 ⟨tyok43,List.forall_mem_cons.2 ⟨tyok45,List.forall_mem_cons.2 ⟨tyok46,List.forall_mem_cons.2 ⟨tyok48,List.forall_mem_cons.2 ⟨tyok50,List.forall_mem_cons.2 ⟨tyok51,List.forall_mem_cons.2 ⟨tyok53,List.forall_mem_cons.2 ⟨tyok54,List.forall_mem_cons.2 ⟨tyok55,List.forall_mem_cons.2 ⟨tyok56,List.forall_mem_cons.2 ⟨tyok58,List.forall_mem_cons.2 ⟨tyok60,List.forall_mem_cons.2 ⟨tyok61,List.forall_mem_cons.2 ⟨tyok63,List.forall_mem_cons.2 ⟨tyok87,List.forall_mem_cons.2 ⟨tyok89,List.forall_mem_cons.2 ⟨tyok92,List.forall_mem_cons.2 ⟨tyok93,List.forall_mem_cons.2 ⟨tyok94,List.forall_mem_cons.2 ⟨tyok96,List.forall_mem_cons.2 ⟨tyok98,List.forall_mem_cons.2 ⟨tyok101,List.forall_mem_cons.2 ⟨tyok104,List.forall_mem_cons.2 ⟨tyok105,List.forall_mem_cons.2 ⟨tyok107,List.forall_mem_cons.2 ⟨tyok110,List.forall_mem_cons.2 ⟨tyok113,List.forall_mem_cons.2 ⟨tyok115,List.forall_mem_cons.2 ⟨tyok119,List.forall_mem_cons.2 ⟨tyok121,List.forall_mem_cons.2 ⟨tyok124,List.forall_mem_cons.2 ⟨tyok125,List.forall_mem_cons.2 ⟨tyok128,List.forall_mem_cons.2 ⟨tyok129,List.forall_mem_cons.2 ⟨tyok132,List.forall_mem_cons.2 ⟨tyok134,List.forall_mem_cons.2 ⟨tyok139,List.forall_mem_cons.2 ⟨tyok148,List.forall_mem_cons.2 ⟨tyok155,List.forall_mem_cons.2 ⟨tyok157,List.forall_mem_cons.2 ⟨tyok158,List.forall_mem_cons.2 ⟨tyok163,List.forall_mem_cons.2 ⟨tyok166,List.forall_mem_cons.2 ⟨tyok171,List.forall_mem_cons.2 ⟨tyok177,List.forall_mem_cons.2 ⟨tyok178,List.forall_mem_cons.2 ⟨tyok179,List.forall_mem_cons.2 ⟨tyok191,List.forall_mem_cons.2 ⟨tyok194,List.forall_mem_cons.2 ⟨tyok197,List.forall_mem_cons.2 ⟨tyok202,List.forall_mem_cons.2 ⟨tyok216,List.forall_mem_cons.2 ⟨tyok222,List.forall_mem_cons.2 ⟨tyok225,List.forall_mem_cons.2 ⟨tyok228,List.forall_mem_cons.2 ⟨tyok230,List.forall_mem_cons.2 ⟨tyok232,List.forall_mem_cons.2 ⟨tyok245,List.forall_mem_cons.2 ⟨tyok251,List.forall_mem_cons.2 ⟨tyok254,List.forall_mem_cons.2 ⟨tyok255,List.forall_mem_cons.2 ⟨tyok257,List.forall_mem_cons.2 ⟨tyok269,List.forall_mem_cons.2 ⟨tyok276,fun p h=>by cases h⟩⟩⟩⟩⟩⟩⟩⟩⟩⟩⟩⟩⟩⟩⟩⟩⟩⟩⟩⟩⟩⟩⟩⟩⟩⟩⟩⟩⟩⟩⟩⟩⟩⟩⟩⟩⟩⟩⟩⟩⟩⟩⟩⟩⟩⟩⟩⟩⟩⟩⟩⟩⟩⟩⟩⟩⟩⟩⟩⟩⟩⟩⟩⟩⟩⟩⟩⟩⟩⟩⟩⟩⟩⟩⟩⟩⟩
theorem tab_ok:TabOk Tryz.prog tab:=tabOk_of tabL_ok
theorem tab_2:tab 2=some { flat:=false,kind:=.int .i64,size:=1,bytes:=8,zero:=.int .i64 0 }:=rfl
theorem tab_3:tab 3=some { flat:=false,kind:=.int .i64,size:=1,bytes:=8,zero:=.int .i64 0 }:=rfl
theorem tab_4:tab 4=some { flat:=false,kind:=.bool,size:=1,bytes:=1,zero:=.bool false }:=rfl
theorem tab_5:tab 5=some { flat:=false,kind:=.int .u8,size:=1,bytes:=1,zero:=.int .u8 0 }:=rfl
theorem tab_9:tab 9=some { flat:=false,kind:=.str,size:=1,bytes:=16,zero:=.string ⟨#[]⟩ }:=rfl
theorem tab_21:tab 21=some { flat:=false,kind:=.int .i32,size:=1,bytes:=4,zero:=.int .i32 0 }:=rfl
theorem tab_22:tab 22=some { flat:=false,kind:=.slc 63,size:=1,bytes:=24,zero:=.slice none 0 0 }:=rfl
theorem tab_25:tab 25=some { flat:=false,kind:=.slc 53,size:=1,bytes:=24,zero:=.slice none 0 0 }:=rfl
theorem tab_27:tab 27=some { flat:=false,kind:=.strct [(0,1,false)],size:=1,bytes:=24,zero:=.agg #[.slice none 0 0] }:=rfl
theorem tab_29:tab 29=some { flat:=false,kind:=.int .i64,size:=1,bytes:=8,zero:=.int .i64 0 }:=rfl
theorem tab_36:tab 36=some { flat:=true,kind:=.strct [(0,1,false),(1,1,false)],size:=2,bytes:=16,zero:=.agg #[.int .i64 0,.int .i64 0] }:=rfl
theorem tab_38:tab 38=some { flat:=false,kind:=.strct [(0,1,false),(1,2,true),(3,1,false)],size:=4,bytes:=40,zero:=.agg #[.int .i64 0,.int .i64 0,.int .i64 0,.string ⟨#[]⟩] }:=rfl
theorem tab_42:tab 42=some { flat:=false,kind:=.slc 3,size:=1,bytes:=24,zero:=.slice none 0 0 }:=rfl
theorem tab_43:tab 43=some { flat:=false,kind:=.slc 101,size:=1,bytes:=24,zero:=.slice none 0 0 }:=rfl
theorem tab_45:tab 45=some { flat:=true,kind:=.strct [(0,1,false),(1,1,false)],size:=2,bytes:=16,zero:=.agg #[.int .i64 0,.int .i64 0] }:=rfl
theorem tab_46:tab 46=some { flat:=false,kind:=.slc 48,size:=1,bytes:=24,zero:=.slice none 0 0 }:=rfl
theorem tab_48:tab 48=some { flat:=false,kind:=.strct [(0,1,false),(1,2,true),(3,1,false)],size:=4,bytes:=64,zero:=.agg #[.slice none 0 0,.int .i64 0,.int .i64 0,.slice none 0 0] }:=rfl
theorem tab_50:tab 50=some { flat:=false,kind:=.strct [(0,4,true),(4,4,true),(8,1,false)],size:=9,bytes:=152,zero:=.agg #[.slice none 0 0,.int .i64 0,.int .i64 0,.slice none 0 0,.slice none 0 0,.int .i64 0,.int .i64 0,.slice none 0 0,.slice none 0 0] }:=rfl
theorem tab_51:tab 51=some { flat:=false,kind:=.slc 107,size:=1,bytes:=24,zero:=.slice none 0 0 }:=rfl
theorem tab_53:tab 53=some { flat:=false,kind:=.strct [(0,9,true),(9,1,false)],size:=10,bytes:=176,zero:=.agg #[.slice none 0 0,.int .i64 0,.int .i64 0,.slice none 0 0,.slice none 0 0,.int .i64 0,.int .i64 0,.slice none 0 0,.slice none 0 0,.slice none 0 0] }:=rfl
theorem tab_54:tab 54=some { flat:=false,kind:=.slc 163,size:=1,bytes:=24,zero:=.slice none 0 0 }:=rfl
theorem tab_55:tab 55=some { flat:=true,kind:=.strct [(0,1,false),(1,1,false)],size:=2,bytes:=16,zero:=.agg #[.int .i64 0,.int .i64 0] }:=rfl
theorem tab_56:tab 56=some { flat:=false,kind:=.slc 58,size:=1,bytes:=24,zero:=.slice none 0 0 }:=rfl
theorem tab_58:tab 58=some { flat:=false,kind:=.strct [(0,1,false),(1,2,true),(3,1,false)],size:=4,bytes:=64,zero:=.agg #[.slice none 0 0,.int .i64 0,.int .i64 0,.slice none 0 0] }:=rfl
theorem tab_60:tab 60=some { flat:=false,kind:=.strct [(0,4,true),(4,4,true),(8,1,false)],size:=9,bytes:=152,zero:=.agg #[.slice none 0 0,.int .i64 0,.int .i64 0,.slice none 0 0,.slice none 0 0,.int .i64 0,.int .i64 0,.slice none 0 0,.slice none 0 0] }:=rfl
theorem tab_61:tab 61=some { flat:=false,kind:=.slc 121,size:=1,bytes:=24,zero:=.slice none 0 0 }:=rfl
theorem tab_63:tab 63=some { flat:=false,kind:=.strct [(0,9,true),(9,1,false)],size:=10,bytes:=176,zero:=.agg #[.slice none 0 0,.int .i64 0,.int .i64 0,.slice none 0 0,.slice none 0 0,.int .i64 0,.int .i64 0,.slice none 0 0,.slice none 0 0,.slice none 0 0] }:=rfl
theorem tab_87:tab 87=some { flat:=false,kind:=.strct [(0,1,false),(1,1,false),(2,1,false)],size:=3,bytes:=56,zero:=.agg #[.int .i64 0,.slice none 0 0,.slice none 0 0] }:=rfl
theorem tab_89:tab 89=some { flat:=false,kind:=.other,size:=1,bytes:=8,zero:=.nilFunc }:=rfl
theorem tab_92:tab 92=some { flat:=false,kind:=.ptr 98,size:=1,bytes:=8,zero:=.pointer none }:=rfl
theorem tab_93:tab 93=some { flat:=false,kind:=.ptr 96,size:=1,bytes:=8,zero:=.pointer none }:=rfl
theorem tab_94:tab 94=some { flat:=false,kind:=.slc 5,size:=1,bytes:=24,zero:=.slice none 0 0 }:=rfl
theorem tab_96:tab 96=some { flat:=false,kind:=.strct [(0,1,false),(1,1,false)],size:=2,bytes:=32,zero:=.agg #[.pointer none,.slice none 0 0] }:=rfl
theorem tab_98:tab 98=some { flat:=false,kind:=.strct [(0,1,false),(1,1,false)],size:=2,bytes:=16,zero:=.agg #[.pointer none,.int .i64 0] }:=rfl
theorem tab_101:tab 101=some { flat:=false,kind:=.strct [(0,1,false),(1,1,false)],size:=2,bytes:=32,zero:=.agg #[.slice none 0 0,.int .i64 0] }:=rfl
theorem tab_104:tab 104=some { flat:=false,kind:=.slc 177,size:=1,bytes:=24,zero:=.slice none 0 0 }:=rfl
theorem tab_105:tab 105=some { flat:=false,kind:=.slc 177,size:=1,bytes:=24,zero:=.slice none 0 0 }:=rfl
theorem tab_107:tab 107=some { flat:=false,kind:=.strct [(0,1,false),(1,1,false),(2,1,false),(3,1,false)],size:=4,bytes:=64,zero:=.agg #[.int .i64 0,.bool false,.slice none 0 0,.slice none 0 0] }:=rfl
theorem tab_110:tab 110=some { flat:=false,kind:=.ifc,size:=1,bytes:=16,zero:=.nilIface }:=rfl
theorem tab_113:tab 113=some { flat:=false,kind:=.ptr 115,size:=1,bytes:=8,zero:=.pointer none }:=rfl
theorem tab_115:tab 115=some { flat:=false,kind:=.strct [(0,1,false),(1,1,false)],size:=2,bytes:=24,zero:=.agg #[.string ⟨#[]⟩,.bool false] }:=rfl
theorem tab_119:tab 119=some { flat:=false,kind:=.slc 124,size:=1,bytes:=24,zero:=.slice none 0 0 }:=rfl
theorem tab_121:tab 121=some { flat:=false,kind:=.strct [(0,1,false),(1,1,false),(2,1,false),(3,1,false)],size:=4,bytes:=64,zero:=.agg #[.int .i64 0,.bool false,.slice none 0 0,.slice none 0 0] }:=rfl
theorem tab_124:tab 124=some { flat:=false,kind:=.strct [(0,1,false),(1,4,true)],size:=5,bytes:=72,zero:=.agg #[.int .i64 0,.slice none 0 0,.int .i64 0,.int .i64 0,.slice none 0 0] }:=rfl
theorem tab_125:tab 125=some { flat:=false,kind:=.slc 134,size:=1,bytes:=24,zero:=.slice none 0 0 }:=rfl
theorem tab_128:tab 128=some { flat:=false,kind:=.ptr 132,size:=1,bytes:=8,zero:=.pointer none }:=rfl
theorem tab_129:tab 129=some { flat:=false,kind:=.ptr 191,size:=1,bytes:=8,zero:=.pointer none }:=rfl
theorem tab_132:tab 132=some { flat:=false,kind:=.strct [(0,1,false),(1,4,true)],size:=5,bytes:=48,zero:=.agg #[.pointer none,.int .i64 0,.int .i64 0,.int .i64 0,.string ⟨#[]⟩] }:=rfl
theorem tab_134:tab 134=some { flat:=false,kind:=.strct [(0,1,false),(1,1,false),(2,1,false)],size:=3,bytes:=32,zero:=.agg #[.int .i64 0,.string ⟨#[]⟩,.int .i64 0] }:=rfl
theorem tab_139:tab 139=some { flat:=false,kind:=.other,size:=1,bytes:=8,zero:=.nilFunc }:=rfl
theorem tab_148:tab 148=some { flat:=false,kind:=.other,size:=1,bytes:=8,zero:=.nilFunc }:=rfl
theorem tab_155:tab 155=some { flat:=false,kind:=.mapk 3 3,size:=1,bytes:=8,zero:=.map none }:=rfl
theorem tab_157:tab 157=some { flat:=false,kind:=.mapk 3 4,size:=1,bytes:=8,zero:=.map none }:=rfl
theorem tab_158:tab 158=some { flat:=false,kind:=.slc 4,size:=1,bytes:=24,zero:=.slice none 0 0 }:=rfl
theorem tab_163:tab 163=some { flat:=false,kind:=.strct [(0,1,false),(1,1,false)],size:=2,bytes:=32,zero:=.agg #[.slice none 0 0,.int .i64 0] }:=rfl
theorem tab_166:tab 166=some { flat:=false,kind:=.other,size:=1,bytes:=8,zero:=.nilFunc }:=rfl
theorem tab_171:tab 171=some { flat:=false,kind:=.slc 9,size:=1,bytes:=24,zero:=.slice none 0 0 }:=rfl
theorem tab_177:tab 177=some { flat:=false,kind:=.strct [(0,1,false),(1,4,true)],size:=5,bytes:=72,zero:=.agg #[.int .i64 0,.slice none 0 0,.int .i64 0,.int .i64 0,.slice none 0 0] }:=rfl
theorem tab_178:tab 178=some { flat:=false,kind:=.ptr 5,size:=1,bytes:=8,zero:=.pointer none }:=rfl
theorem tab_179:tab 179=some { flat:=false,kind:=.arr 3,size:=3,bytes:=48,zero:=.agg #[.string ⟨#[]⟩,.string ⟨#[]⟩,.string ⟨#[]⟩] }:=rfl
theorem tab_191:tab 191=some { flat:=false,kind:=.strct [(0,1,false),(1,1,false),(2,1,false)],size:=3,bytes:=48,zero:=.agg #[.slice none 0 0,.string ⟨#[]⟩,.int .i64 0] }:=rfl
theorem tab_194:tab 194=some { flat:=false,kind:=.other,size:=1,bytes:=8,zero:=.nilFunc }:=rfl
theorem tab_197:tab 197=some { flat:=false,kind:=.other,size:=1,bytes:=8,zero:=.nilFunc }:=rfl
theorem tab_202:tab 202=some { flat:=false,kind:=.slc 42,size:=1,bytes:=24,zero:=.slice none 0 0 }:=rfl
theorem tab_216:tab 216=some { flat:=false,kind:=.other,size:=1,bytes:=8,zero:=.nilFunc }:=rfl
theorem tab_222:tab 222=some { flat:=false,kind:=.other,size:=1,bytes:=8,zero:=.nilFunc }:=rfl
theorem tab_225:tab 225=some { flat:=false,kind:=.other,size:=1,bytes:=8,zero:=.nilFunc }:=rfl
theorem tab_228:tab 228=some { flat:=false,kind:=.other,size:=1,bytes:=8,zero:=.nilFunc }:=rfl
theorem tab_230:tab 230=some { flat:=false,kind:=.other,size:=1,bytes:=8,zero:=.nilFunc }:=rfl
theorem tab_232:tab 232=some { flat:=false,kind:=.other,size:=1,bytes:=8,zero:=.nilFunc }:=rfl
theorem tab_245:tab 245=some { flat:=false,kind:=.int .u64,size:=1,bytes:=8,zero:=.int .u64 0 }:=rfl
theorem tab_251:tab 251=some { flat:=false,kind:=.slc 43,size:=1,bytes:=24,zero:=.slice none 0 0 }:=rfl
theorem tab_254:tab 254=some { flat:=false,kind:=.arr 20,size:=20,bytes:=160,zero:=.agg #[.int .u64 0,.int .u64 0,.int .u64 0,.int .u64 0,.int .u64 0,.int .u64 0,.int .u64 0,.int .u64 0,.int .u64 0,.int .u64 0,.int .u64 0,.int .u64 0,.int .u64 0,.int .u64 0,.int .u64 0,.int .u64 0,.int .u64 0,.int .u64 0,.int .u64 0,.int .u64 0] }:=rfl
theorem tab_255:tab 255=some { flat:=false,kind:=.int .u32,size:=1,bytes:=4,zero:=.int .u32 0 }:=rfl
theorem tab_257:tab 257=some { flat:=false,kind:=.int .u64,size:=1,bytes:=8,zero:=.int .u64 0 }:=rfl
theorem tab_269:tab 269=some { flat:=false,kind:=.strct [(0,1,false),(1,1,false),(2,1,false)],size:=3,bytes:=48,zero:=.agg #[.string ⟨#[]⟩,.string ⟨#[]⟩,.nilIface] }:=rfl
theorem tab_276:tab 276=some { flat:=false,kind:=.strct [(0,1,false)],size:=1,bytes:=16,zero:=.agg #[.string ⟨#[]⟩] }:=rfl
theorem tabs:(tab 2=some { flat:=false,kind:=.int .i64,size:=1,bytes:=8,zero:=.int .i64 0 })∧(tab 3=some { flat:=false,kind:=.int .i64,size:=1,bytes:=8,zero:=.int .i64 0 })∧(tab 4=some { flat:=false,kind:=.bool,size:=1,bytes:=1,zero:=.bool false })∧(tab 5=some { flat:=false,kind:=.int .u8,size:=1,bytes:=1,zero:=.int .u8 0 })∧(tab 9=some { flat:=false,kind:=.str,size:=1,bytes:=16,zero:=.string ⟨#[]⟩ })∧(tab 21=some { flat:=false,kind:=.int .i32,size:=1,bytes:=4,zero:=.int .i32 0 })∧(tab 22=some { flat:=false,kind:=.slc 63,size:=1,bytes:=24,zero:=.slice none 0 0 })∧(tab 25=some { flat:=false,kind:=.slc 53,size:=1,bytes:=24,zero:=.slice none 0 0 })∧(tab 27=some { flat:=false,kind:=.strct [(0,1,false)],size:=1,bytes:=24,zero:=.agg #[.slice none 0 0] })∧(tab 29=some { flat:=false,kind:=.int .i64,size:=1,bytes:=8,zero:=.int .i64 0 })∧(tab 36=some { flat:=true,kind:=.strct [(0,1,false),(1,1,false)],size:=2,bytes:=16,zero:=.agg #[.int .i64 0,.int .i64 0] })∧(tab 38=some { flat:=false,kind:=.strct [(0,1,false),(1,2,true),(3,1,false)],size:=4,bytes:=40,zero:=.agg #[.int .i64 0,.int .i64 0,.int .i64 0,.string ⟨#[]⟩] })∧(tab 42=some { flat:=false,kind:=.slc 3,size:=1,bytes:=24,zero:=.slice none 0 0 })∧(tab 43=some { flat:=false,kind:=.slc 101,size:=1,bytes:=24,zero:=.slice none 0 0 })∧(tab 45=some { flat:=true,kind:=.strct [(0,1,false),(1,1,false)],size:=2,bytes:=16,zero:=.agg #[.int .i64 0,.int .i64 0] })∧(tab 46=some { flat:=false,kind:=.slc 48,size:=1,bytes:=24,zero:=.slice none 0 0 })∧(tab 48=some { flat:=false,kind:=.strct [(0,1,false),(1,2,true),(3,1,false)],size:=4,bytes:=64,zero:=.agg #[.slice none 0 0,.int .i64 0,.int .i64 0,.slice none 0 0] })∧(tab 50=some { flat:=false,kind:=.strct [(0,4,true),(4,4,true),(8,1,false)],size:=9,bytes:=152,zero:=.agg #[.slice none 0 0,.int .i64 0,.int .i64 0,.slice none 0 0,.slice none 0 0,.int .i64 0,.int .i64 0,.slice none 0 0,.slice none 0 0] })∧(tab 51=some { flat:=false,kind:=.slc 107,size:=1,bytes:=24,zero:=.slice none 0 0 })∧(tab 53=some { flat:=false,kind:=.strct [(0,9,true),(9,1,false)],size:=10,bytes:=176,zero:=.agg #[.slice none 0 0,.int .i64 0,.int .i64 0,.slice none 0 0,.slice none 0 0,.int .i64 0,.int .i64 0,.slice none 0 0,.slice none 0 0,.slice none 0 0] })∧(tab 54=some { flat:=false,kind:=.slc 163,size:=1,bytes:=24,zero:=.slice none 0 0 })∧(tab 55=some { flat:=true,kind:=.strct [(0,1,false),(1,1,false)],size:=2,bytes:=16,zero:=.agg #[.int .i64 0,.int .i64 0] })∧(tab 56=some { flat:=false,kind:=.slc 58,size:=1,bytes:=24,zero:=.slice none 0 0 })∧(tab 58=some { flat:=false,kind:=.strct [(0,1,false),(1,2,true),(3,1,false)],size:=4,bytes:=64,zero:=.agg #[.slice none 0 0,.int .i64 0,.int .i64 0,.slice none 0 0] })∧(tab 60=some { flat:=false,kind:=.strct [(0,4,true),(4,4,true),(8,1,false)],size:=9,bytes:=152,zero:=.agg #[.slice none 0 0,.int .i64 0,.int .i64 0,.slice none 0 0,.slice none 0 0,.int .i64 0,.int .i64 0,.slice none 0 0,.slice none 0 0] })∧(tab 61=some { flat:=false,kind:=.slc 121,size:=1,bytes:=24,zero:=.slice none 0 0 })∧(tab 63=some { flat:=false,kind:=.strct [(0,9,true),(9,1,false)],size:=10,bytes:=176,zero:=.agg #[.slice none 0 0,.int .i64 0,.int .i64 0,.slice none 0 0,.slice none 0 0,.int .i64 0,.int .i64 0,.slice none 0 0,.slice none 0 0,.slice none 0 0] })∧(tab 87=some { flat:=false,kind:=.strct [(0,1,false),(1,1,false),(2,1,false)],size:=3,bytes:=56,zero:=.agg #[.int .i64 0,.slice none 0 0,.slice none 0 0] })∧(tab 89=some { flat:=false,kind:=.other,size:=1,bytes:=8,zero:=.nilFunc })∧(tab 92=some { flat:=false,kind:=.ptr 98,size:=1,bytes:=8,zero:=.pointer none })∧(tab 93=some { flat:=false,kind:=.ptr 96,size:=1,bytes:=8,zero:=.pointer none })∧(tab 94=some { flat:=false,kind:=.slc 5,size:=1,bytes:=24,zero:=.slice none 0 0 })∧(tab 96=some { flat:=false,kind:=.strct [(0,1,false),(1,1,false)],size:=2,bytes:=32,zero:=.agg #[.pointer none,.slice none 0 0] })∧(tab 98=some { flat:=false,kind:=.strct [(0,1,false),(1,1,false)],size:=2,bytes:=16,zero:=.agg #[.pointer none,.int .i64 0] })∧(tab 101=some { flat:=false,kind:=.strct [(0,1,false),(1,1,false)],size:=2,bytes:=32,zero:=.agg #[.slice none 0 0,.int .i64 0] })∧(tab 104=some { flat:=false,kind:=.slc 177,size:=1,bytes:=24,zero:=.slice none 0 0 })∧(tab 105=some { flat:=false,kind:=.slc 177,size:=1,bytes:=24,zero:=.slice none 0 0 })∧(tab 107=some { flat:=false,kind:=.strct [(0,1,false),(1,1,false),(2,1,false),(3,1,false)],size:=4,bytes:=64,zero:=.agg #[.int .i64 0,.bool false,.slice none 0 0,.slice none 0 0] })∧(tab 110=some { flat:=false,kind:=.ifc,size:=1,bytes:=16,zero:=.nilIface })∧(tab 113=some { flat:=false,kind:=.ptr 115,size:=1,bytes:=8,zero:=.pointer none })∧(tab 115=some { flat:=false,kind:=.strct [(0,1,false),(1,1,false)],size:=2,bytes:=24,zero:=.agg #[.string ⟨#[]⟩,.bool false] })∧(tab 119=some { flat:=false,kind:=.slc 124,size:=1,bytes:=24,zero:=.slice none 0 0 })∧(tab 121=some { flat:=false,kind:=.strct [(0,1,false),(1,1,false),(2,1,false),(3,1,false)],size:=4,bytes:=64,zero:=.agg #[.int .i64 0,.bool false,.slice none 0 0,.slice none 0 0] })∧(tab 124=some { flat:=false,kind:=.strct [(0,1,false),(1,4,true)],size:=5,bytes:=72,zero:=.agg #[.int .i64 0,.slice none 0 0,.int .i64 0,.int .i64 0,.slice none 0 0] })∧(tab 125=some { flat:=false,kind:=.slc 134,size:=1,bytes:=24,zero:=.slice none 0 0 })∧(tab 128=some { flat:=false,kind:=.ptr 132,size:=1,bytes:=8,zero:=.pointer none })∧(tab 129=some { flat:=false,kind:=.ptr 191,size:=1,bytes:=8,zero:=.pointer none })∧(tab 132=some { flat:=false,kind:=.strct [(0,1,false),(1,4,true)],size:=5,bytes:=48,zero:=.agg #[.pointer none,.int .i64 0,.int .i64 0,.int .i64 0,.string ⟨#[]⟩] })∧(tab 134=some { flat:=false,kind:=.strct [(0,1,false),(1,1,false),(2,1,false)],size:=3,bytes:=32,zero:=.agg #[.int .i64 0,.string ⟨#[]⟩,.int .i64 0] })∧(tab 139=some { flat:=false,kind:=.other,size:=1,bytes:=8,zero:=.nilFunc })∧(tab 148=some { flat:=false,kind:=.other,size:=1,bytes:=8,zero:=.nilFunc })∧(tab 155=some { flat:=false,kind:=.mapk 3 3,size:=1,bytes:=8,zero:=.map none })∧(tab 157=some { flat:=false,kind:=.mapk 3 4,size:=1,bytes:=8,zero:=.map none })∧(tab 158=some { flat:=false,kind:=.slc 4,size:=1,bytes:=24,zero:=.slice none 0 0 })∧(tab 163=some { flat:=false,kind:=.strct [(0,1,false),(1,1,false)],size:=2,bytes:=32,zero:=.agg #[.slice none 0 0,.int .i64 0] })∧(tab 166=some { flat:=false,kind:=.other,size:=1,bytes:=8,zero:=.nilFunc })∧(tab 171=some { flat:=false,kind:=.slc 9,size:=1,bytes:=24,zero:=.slice none 0 0 })∧(tab 177=some { flat:=false,kind:=.strct [(0,1,false),(1,4,true)],size:=5,bytes:=72,zero:=.agg #[.int .i64 0,.slice none 0 0,.int .i64 0,.int .i64 0,.slice none 0 0] })∧(tab 178=some { flat:=false,kind:=.ptr 5,size:=1,bytes:=8,zero:=.pointer none })∧(tab 179=some { flat:=false,kind:=.arr 3,size:=3,bytes:=48,zero:=.agg #[.string ⟨#[]⟩,.string ⟨#[]⟩,.string ⟨#[]⟩] })∧(tab 191=some { flat:=false,kind:=.strct [(0,1,false),(1,1,false),(2,1,false)],size:=3,bytes:=48,zero:=.agg #[.slice none 0 0,.string ⟨#[]⟩,.int .i64 0] })∧(tab 194=some { flat:=false,kind:=.other,size:=1,bytes:=8,zero:=.nilFunc })∧(tab 197=some { flat:=false,kind:=.other,size:=1,bytes:=8,zero:=.nilFunc })∧(tab 202=some { flat:=false,kind:=.slc 42,size:=1,bytes:=24,zero:=.slice none 0 0 })∧(tab 216=some { flat:=false,kind:=.other,size:=1,bytes:=8,zero:=.nilFunc })∧(tab 222=some { flat:=false,kind:=.other,size:=1,bytes:=8,zero:=.nilFunc })∧(tab 225=some { flat:=false,kind:=.other,size:=1,bytes:=8,zero:=.nilFunc })∧(tab 228=some { flat:=false,kind:=.other,size:=1,bytes:=8,zero:=.nilFunc })∧(tab 230=some { flat:=false,kind:=.other,size:=1,bytes:=8,zero:=.nilFunc })∧(tab 232=some { flat:=false,kind:=.other,size:=1,bytes:=8,zero:=.nilFunc })∧(tab 245=some { flat:=false,kind:=.int .u64,size:=1,bytes:=8,zero:=.int .u64 0 })∧(tab 251=some { flat:=false,kind:=.slc 43,size:=1,bytes:=24,zero:=.slice none 0 0 })∧(tab 254=some { flat:=false,kind:=.arr 20,size:=20,bytes:=160,zero:=.agg #[.int .u64 0,.int .u64 0,.int .u64 0,.int .u64 0,.int .u64 0,.int .u64 0,.int .u64 0,.int .u64 0,.int .u64 0,.int .u64 0,.int .u64 0,.int .u64 0,.int .u64 0,.int .u64 0,.int .u64 0,.int .u64 0,.int .u64 0,.int .u64 0,.int .u64 0,.int .u64 0] })∧(tab 255=some { flat:=false,kind:=.int .u32,size:=1,bytes:=4,zero:=.int .u32 0 })∧(tab 257=some { flat:=false,kind:=.int .u64,size:=1,bytes:=8,zero:=.int .u64 0 })∧(tab 269=some { flat:=false,kind:=.strct [(0,1,false),(1,1,false),(2,1,false)],size:=3,bytes:=48,zero:=.agg #[.string ⟨#[]⟩,.string ⟨#[]⟩,.nilIface] })∧(tab 276=some { flat:=false,kind:=.strct [(0,1,false)],size:=1,bytes:=16,zero:=.agg #[.string ⟨#[]⟩] }):=
 ⟨tab_2,tab_3,tab_4,tab_5,tab_9,tab_21,tab_22,tab_25,tab_27,tab_29,tab_36,tab_38,tab_42,tab_43,tab_45,tab_46,tab_48,tab_50,tab_51,tab_53,tab_54,tab_55,tab_56,tab_58,tab_60,tab_61,tab_63,tab_87,tab_89,tab_92,tab_93,tab_94,tab_96,tab_98,tab_101,tab_104,tab_105,tab_107,tab_110,tab_113,tab_115,tab_119,tab_121,tab_124,tab_125,tab_128,tab_129,tab_132,tab_134,tab_139,tab_148,tab_155,tab_157,tab_158,tab_163,tab_166,tab_171,tab_177,tab_178,tab_179,tab_191,tab_194,tab_197,tab_202,tab_216,tab_222,tab_225,tab_228,tab_230,tab_232,tab_245,tab_251,tab_254,tab_255,tab_257,tab_269,tab_276⟩
end Go.Proofs.YtjhanogfpkbamaaGreatDoor
