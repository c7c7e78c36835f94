/- Texts of ours laid together for a claim: Tab. -/
import Derived.Test.YtjhanogfpkbamaaGreatDoorProg
import Derived.KernelRfl
import Derived.Test.YtjhanogfpkbamaaGreatDoorQ28
namespace Go.Proofs.YtjhanogfpkbamaaGreatDoor
open Go
set_option linter.unusedSimpArgs false
set_option linter.unusedVariables false
def td2:TD:={ flat:=false,kind:=.int .i64,size:=1,bytes:=8,zero:=.int .i64 0 }
theorem tyok2:TyOk Tryz.prog 2 td2:=tyOk_mk (by kernel_rfl) (by kernel_rfl) (by rfl) rfl
def td3:TD:={ flat:=false,kind:=.int .i64,size:=1,bytes:=8,zero:=.int .i64 0 }
theorem tyok3:TyOk Tryz.prog 3 td3:=tyOk_mk (by kernel_rfl) (by kernel_rfl) (by rfl) rfl
def td4:TD:={ flat:=false,kind:=.bool,size:=1,bytes:=1,zero:=.bool false }
theorem tyok4:TyOk Tryz.prog 4 td4:=tyOk_mk (by kernel_rfl) (by kernel_rfl) (by rfl) rfl
def td5:TD:={ flat:=false,kind:=.int .u8,size:=1,bytes:=1,zero:=.int .u8 0 }
theorem tyok5:TyOk Tryz.prog 5 td5:=tyOk_mk (by kernel_rfl) (by kernel_rfl) (by rfl) rfl
def td9:TD:={ flat:=false,kind:=.str,size:=1,bytes:=16,zero:=.string ⟨#[]⟩ }
theorem tyok9:TyOk Tryz.prog 9 td9:=tyOk_mk (by kernel_rfl) (by kernel_rfl) (by rfl) rfl
def td21:TD:={ flat:=false,kind:=.int .i32,size:=1,bytes:=4,zero:=.int .i32 0 }
theorem tyok21:TyOk Tryz.prog 21 td21:=tyOk_mk (by kernel_rfl) (by kernel_rfl) (by rfl) rfl
def td22:TD:={ flat:=false,kind:=.slc 63,size:=1,bytes:=24,zero:=.slice none 0 0 }
theorem tyok22:TyOk Tryz.prog 22 td22:=tyOk_mk (by kernel_rfl) (by kernel_rfl) (by rfl) rfl
def td25:TD:={ flat:=false,kind:=.slc 53,size:=1,bytes:=24,zero:=.slice none 0 0 }
theorem tyok25:TyOk Tryz.prog 25 td25:=tyOk_mk (by kernel_rfl) (by kernel_rfl) (by rfl) rfl
def td27:TD:={ flat:=false,kind:=.strct [(0,1,false)],size:=1,bytes:=24,zero:=.agg #[.slice none 0 0] }
theorem tyok27:TyOk Tryz.prog 27 td27:=tyOk_mk (by kernel_rfl) (by kernel_rfl) (by rfl) rfl
def td29:TD:={ flat:=false,kind:=.int .i64,size:=1,bytes:=8,zero:=.int .i64 0 }
theorem tyok29:TyOk Tryz.prog 29 td29:=tyOk_mk (by kernel_rfl) (by kernel_rfl) (by rfl) rfl
def td36:TD:={ flat:=true,kind:=.strct [(0,1,false),(1,1,false)],size:=2,bytes:=16,zero:=.agg #[.int .i64 0,.int .i64 0] }
theorem tyok36:TyOk Tryz.prog 36 td36:=tyOk_flat (by kernel_rfl) (by kernel_rfl) (by rfl) rfl (by kernel_rfl) (by kernel_rfl) (by kernel_rfl) (by kernel_rfl)
def td38:TD:={ flat:=false,kind:=.strct [(0,1,false),(1,2,true),(3,1,false)],size:=4,bytes:=40,zero:=.agg #[.int .i64 0,.int .i64 0,.int .i64 0,.string ⟨#[]⟩] }
theorem tyok38:TyOk Tryz.prog 38 td38:=tyOk_mk (by kernel_rfl) (by kernel_rfl) (by rfl) rfl
def td42:TD:={ flat:=false,kind:=.slc 3,size:=1,bytes:=24,zero:=.slice none 0 0 }
theorem tyok42:TyOk Tryz.prog 42 td42:=tyOk_mk (by kernel_rfl) (by kernel_rfl) (by rfl) rfl
def td43:TD:={ flat:=false,kind:=.slc 101,size:=1,bytes:=24,zero:=.slice none 0 0 }
theorem tyok43:TyOk Tryz.prog 43 td43:=tyOk_mk (by kernel_rfl) (by kernel_rfl) (by rfl) rfl
def td45:TD:={ flat:=true,kind:=.strct [(0,1,false),(1,1,false)],size:=2,bytes:=16,zero:=.agg #[.int .i64 0,.int .i64 0] }
theorem tyok45:TyOk Tryz.prog 45 td45:=tyOk_flat (by kernel_rfl) (by kernel_rfl) (by rfl) rfl (by kernel_rfl) (by kernel_rfl) (by kernel_rfl) (by kernel_rfl)
def td46:TD:={ flat:=false,kind:=.slc 48,size:=1,bytes:=24,zero:=.slice none 0 0 }
theorem tyok46:TyOk Tryz.prog 46 td46:=tyOk_mk (by kernel_rfl) (by kernel_rfl) (by rfl) rfl
def td48:TD:={ flat:=false,kind:=.strct [(0,1,false),(1,2,true),(3,1,false)],size:=4,bytes:=64,zero:=.agg #[.slice none 0 0,.int .i64 0,.int .i64 0,.slice none 0 0] }
theorem tyok48:TyOk Tryz.prog 48 td48:=tyOk_mk (by kernel_rfl) (by kernel_rfl) (by rfl) rfl
def td50:TD:={ flat:=false,kind:=.strct [(0,4,true),(4,4,true),(8,1,false)],size:=9,bytes:=152,zero:=.agg #[.slice none 0 0,.int .i64 0,.int .i64 0,.slice none 0 0,.slice none 0 0,.int .i64 0,.int .i64 0,.slice none 0 0,.slice none 0 0] }
theorem tyok50:TyOk Tryz.prog 50 td50:=tyOk_mk (by kernel_rfl) (by kernel_rfl) (by rfl) rfl
def td51:TD:={ flat:=false,kind:=.slc 107,size:=1,bytes:=24,zero:=.slice none 0 0 }
theorem tyok51:TyOk Tryz.prog 51 td51:=tyOk_mk (by kernel_rfl) (by kernel_rfl) (by rfl) rfl
def td53:TD:={ flat:=false,kind:=.strct [(0,9,true),(9,1,false)],size:=10,bytes:=176,zero:=.agg #[.slice none 0 0,.int .i64 0,.int .i64 0,.slice none 0 0,.slice none 0 0,.int .i64 0,.int .i64 0,.slice none 0 0,.slice none 0 0,.slice none 0 0] }
theorem tyok53:TyOk Tryz.prog 53 td53:=tyOk_mk (by kernel_rfl) (by kernel_rfl) (by rfl) rfl
def td54:TD:={ flat:=false,kind:=.slc 163,size:=1,bytes:=24,zero:=.slice none 0 0 }
theorem tyok54:TyOk Tryz.prog 54 td54:=tyOk_mk (by kernel_rfl) (by kernel_rfl) (by rfl) rfl
def td55:TD:={ flat:=true,kind:=.strct [(0,1,false),(1,1,false)],size:=2,bytes:=16,zero:=.agg #[.int .i64 0,.int .i64 0] }
theorem tyok55:TyOk Tryz.prog 55 td55:=tyOk_flat (by kernel_rfl) (by kernel_rfl) (by rfl) rfl (by kernel_rfl) (by kernel_rfl) (by kernel_rfl) (by kernel_rfl)
def td56:TD:={ flat:=false,kind:=.slc 58,size:=1,bytes:=24,zero:=.slice none 0 0 }
theorem tyok56:TyOk Tryz.prog 56 td56:=tyOk_mk (by kernel_rfl) (by kernel_rfl) (by rfl) rfl
def td58:TD:={ flat:=false,kind:=.strct [(0,1,false),(1,2,true),(3,1,false)],size:=4,bytes:=64,zero:=.agg #[.slice none 0 0,.int .i64 0,.int .i64 0,.slice none 0 0] }
theorem tyok58:TyOk Tryz.prog 58 td58:=tyOk_mk (by kernel_rfl) (by kernel_rfl) (by rfl) rfl
def td60:TD:={ flat:=false,kind:=.strct [(0,4,true),(4,4,true),(8,1,false)],size:=9,bytes:=152,zero:=.agg #[.slice none 0 0,.int .i64 0,.int .i64 0,.slice none 0 0,.slice none 0 0,.int .i64 0,.int .i64 0,.slice none 0 0,.slice none 0 0] }
theorem tyok60:TyOk Tryz.prog 60 td60:=tyOk_mk (by kernel_rfl) (by kernel_rfl) (by rfl) rfl
def td61:TD:={ flat:=false,kind:=.slc 121,size:=1,bytes:=24,zero:=.slice none 0 0 }
theorem tyok61:TyOk Tryz.prog 61 td61:=tyOk_mk (by kernel_rfl) (by kernel_rfl) (by rfl) rfl
def td63:TD:={ flat:=false,kind:=.strct [(0,9,true),(9,1,false)],size:=10,bytes:=176,zero:=.agg #[.slice none 0 0,.int .i64 0,.int .i64 0,.slice none 0 0,.slice none 0 0,.int .i64 0,.int .i64 0,.slice none 0 0,.slice none 0 0,.slice none 0 0] }
theorem tyok63:TyOk Tryz.prog 63 td63:=tyOk_mk (by kernel_rfl) (by kernel_rfl) (by rfl) rfl
def td87:TD:={ flat:=false,kind:=.strct [(0,1,false),(1,1,false),(2,1,false)],size:=3,bytes:=56,zero:=.agg #[.int .i64 0,.slice none 0 0,.slice none 0 0] }
theorem tyok87:TyOk Tryz.prog 87 td87:=tyOk_mk (by kernel_rfl) (by kernel_rfl) (by rfl) rfl
def td89:TD:={ flat:=false,kind:=.other,size:=1,bytes:=8,zero:=.nilFunc }
theorem tyok89:TyOk Tryz.prog 89 td89:=tyOk_mk (by kernel_rfl) (by kernel_rfl) (by rfl) rfl
def td92:TD:={ flat:=false,kind:=.ptr 98,size:=1,bytes:=8,zero:=.pointer none }
theorem tyok92:TyOk Tryz.prog 92 td92:=tyOk_mk (by kernel_rfl) (by kernel_rfl) (by rfl) rfl
def td93:TD:={ flat:=false,kind:=.ptr 96,size:=1,bytes:=8,zero:=.pointer none }
theorem tyok93:TyOk Tryz.prog 93 td93:=tyOk_mk (by kernel_rfl) (by kernel_rfl) (by rfl) rfl
def td94:TD:={ flat:=false,kind:=.slc 5,size:=1,bytes:=24,zero:=.slice none 0 0 }
theorem tyok94:TyOk Tryz.prog 94 td94:=tyOk_mk (by kernel_rfl) (by kernel_rfl) (by rfl) rfl
def td96:TD:={ flat:=false,kind:=.strct [(0,1,false),(1,1,false)],size:=2,bytes:=32,zero:=.agg #[.pointer none,.slice none 0 0] }
theorem tyok96:TyOk Tryz.prog 96 td96:=tyOk_mk (by kernel_rfl) (by kernel_rfl) (by rfl) rfl
def td98:TD:={ flat:=false,kind:=.strct [(0,1,false),(1,1,false)],size:=2,bytes:=16,zero:=.agg #[.pointer none,.int .i64 0] }
theorem tyok98:TyOk Tryz.prog 98 td98:=tyOk_mk (by kernel_rfl) (by kernel_rfl) (by rfl) rfl
def td101:TD:={ flat:=false,kind:=.strct [(0,1,false),(1,1,false)],size:=2,bytes:=32,zero:=.agg #[.slice none 0 0,.int .i64 0] }
theorem tyok101:TyOk Tryz.prog 101 td101:=tyOk_mk (by kernel_rfl) (by kernel_rfl) (by rfl) rfl
def td104:TD:={ flat:=false,kind:=.slc 177,size:=1,bytes:=24,zero:=.slice none 0 0 }
theorem tyok104:TyOk Tryz.prog 104 td104:=tyOk_mk (by kernel_rfl) (by kernel_rfl) (by rfl) rfl
def td105:TD:={ flat:=false,kind:=.slc 177,size:=1,bytes:=24,zero:=.slice none 0 0 }
theorem tyok105:TyOk Tryz.prog 105 td105:=tyOk_mk (by kernel_rfl) (by kernel_rfl) (by rfl) rfl
def td107:TD:={ flat:=false,kind:=.strct [(0,1,false),(1,1,false),(2,1,false),(3,1,false)],size:=4,bytes:=64,zero:=.agg #[.int .i64 0,.bool false,.slice none 0 0,.slice none 0 0] }
theorem tyok107:TyOk Tryz.prog 107 td107:=tyOk_mk (by kernel_rfl) (by kernel_rfl) (by rfl) rfl
def td110:TD:={ flat:=false,kind:=.ifc,size:=1,bytes:=16,zero:=.nilIface }
theorem tyok110:TyOk Tryz.prog 110 td110:=tyOk_mk (by kernel_rfl) (by kernel_rfl) (by rfl) rfl
def td113:TD:={ flat:=false,kind:=.ptr 115,size:=1,bytes:=8,zero:=.pointer none }
theorem tyok113:TyOk Tryz.prog 113 td113:=tyOk_mk (by kernel_rfl) (by kernel_rfl) (by rfl) rfl
def td115:TD:={ flat:=false,kind:=.strct [(0,1,false),(1,1,false)],size:=2,bytes:=24,zero:=.agg #[.string ⟨#[]⟩,.bool false] }
theorem tyok115:TyOk Tryz.prog 115 td115:=tyOk_mk (by kernel_rfl) (by kernel_rfl) (by rfl) rfl
def td119:TD:={ flat:=false,kind:=.slc 124,size:=1,bytes:=24,zero:=.slice none 0 0 }
theorem tyok119:TyOk Tryz.prog 119 td119:=tyOk_mk (by kernel_rfl) (by kernel_rfl) (by rfl) rfl
def td121:TD:={ flat:=false,kind:=.strct [(0,1,false),(1,1,false),(2,1,false),(3,1,false)],size:=4,bytes:=64,zero:=.agg #[.int .i64 0,.bool false,.slice none 0 0,.slice none 0 0] }
theorem tyok121:TyOk Tryz.prog 121 td121:=tyOk_mk (by kernel_rfl) (by kernel_rfl) (by rfl) rfl
def td124:TD:={ flat:=false,kind:=.strct [(0,1,false),(1,4,true)],size:=5,bytes:=72,zero:=.agg #[.int .i64 0,.slice none 0 0,.int .i64 0,.int .i64 0,.slice none 0 0] }
theorem tyok124:TyOk Tryz.prog 124 td124:=tyOk_mk (by kernel_rfl) (by kernel_rfl) (by rfl) rfl
def td125:TD:={ flat:=false,kind:=.slc 134,size:=1,bytes:=24,zero:=.slice none 0 0 }
theorem tyok125:TyOk Tryz.prog 125 td125:=tyOk_mk (by kernel_rfl) (by kernel_rfl) (by rfl) rfl
def td128:TD:={ flat:=false,kind:=.ptr 132,size:=1,bytes:=8,zero:=.pointer none }
theorem tyok128:TyOk Tryz.prog 128 td128:=tyOk_mk (by kernel_rfl) (by kernel_rfl) (by rfl) rfl
def td129:TD:={ flat:=false,kind:=.ptr 191,size:=1,bytes:=8,zero:=.pointer none }
theorem tyok129:TyOk Tryz.prog 129 td129:=tyOk_mk (by kernel_rfl) (by kernel_rfl) (by rfl) rfl
def td132:TD:={ flat:=false,kind:=.strct [(0,1,false),(1,4,true)],size:=5,bytes:=48,zero:=.agg #[.pointer none,.int .i64 0,.int .i64 0,.int .i64 0,.string ⟨#[]⟩] }
theorem tyok132:TyOk Tryz.prog 132 td132:=tyOk_mk (by kernel_rfl) (by kernel_rfl) (by rfl) rfl
def td134:TD:={ flat:=false,kind:=.strct [(0,1,false),(1,1,false),(2,1,false)],size:=3,bytes:=32,zero:=.agg #[.int .i64 0,.string ⟨#[]⟩,.int .i64 0] }
theorem tyok134:TyOk Tryz.prog 134 td134:=tyOk_mk (by kernel_rfl) (by kernel_rfl) (by rfl) rfl
def td139:TD:={ flat:=false,kind:=.other,size:=1,bytes:=8,zero:=.nilFunc }
theorem tyok139:TyOk Tryz.prog 139 td139:=tyOk_mk (by kernel_rfl) (by kernel_rfl) (by rfl) rfl
def td148:TD:={ flat:=false,kind:=.other,size:=1,bytes:=8,zero:=.nilFunc }
theorem tyok148:TyOk Tryz.prog 148 td148:=tyOk_mk (by kernel_rfl) (by kernel_rfl) (by rfl) rfl
def td155:TD:={ flat:=false,kind:=.mapk 3 3,size:=1,bytes:=8,zero:=.map none }
theorem tyok155:TyOk Tryz.prog 155 td155:=tyOk_mk (by kernel_rfl) (by kernel_rfl) (by rfl) rfl
def td157:TD:={ flat:=false,kind:=.mapk 3 4,size:=1,bytes:=8,zero:=.map none }
theorem tyok157:TyOk Tryz.prog 157 td157:=tyOk_mk (by kernel_rfl) (by kernel_rfl) (by rfl) rfl
def td158:TD:={ flat:=false,kind:=.slc 4,size:=1,bytes:=24,zero:=.slice none 0 0 }
theorem tyok158:TyOk Tryz.prog 158 td158:=tyOk_mk (by kernel_rfl) (by kernel_rfl) (by rfl) rfl
def td163:TD:={ flat:=false,kind:=.strct [(0,1,false),(1,1,false)],size:=2,bytes:=32,zero:=.agg #[.slice none 0 0,.int .i64 0] }
theorem tyok163:TyOk Tryz.prog 163 td163:=tyOk_mk (by kernel_rfl) (by kernel_rfl) (by rfl) rfl
def td166:TD:={ flat:=false,kind:=.other,size:=1,bytes:=8,zero:=.nilFunc }
theorem tyok166:TyOk Tryz.prog 166 td166:=tyOk_mk (by kernel_rfl) (by kernel_rfl) (by rfl) rfl
def td171:TD:={ flat:=false,kind:=.slc 9,size:=1,bytes:=24,zero:=.slice none 0 0 }
theorem tyok171:TyOk Tryz.prog 171 td171:=tyOk_mk (by kernel_rfl) (by kernel_rfl) (by rfl) rfl
def td177:TD:={ flat:=false,kind:=.strct [(0,1,false),(1,4,true)],size:=5,bytes:=72,zero:=.agg #[.int .i64 0,.slice none 0 0,.int .i64 0,.int .i64 0,.slice none 0 0] }
theorem tyok177:TyOk Tryz.prog 177 td177:=tyOk_mk (by kernel_rfl) (by kernel_rfl) (by rfl) rfl
def td178:TD:={ flat:=false,kind:=.ptr 5,size:=1,bytes:=8,zero:=.pointer none }
theorem tyok178:TyOk Tryz.prog 178 td178:=tyOk_mk (by kernel_rfl) (by kernel_rfl) (by rfl) rfl
def td179:TD:={ flat:=false,kind:=.arr 3,size:=3,bytes:=48,zero:=.agg #[.string ⟨#[]⟩,.string ⟨#[]⟩,.string ⟨#[]⟩] }
theorem tyok179:TyOk Tryz.prog 179 td179:=tyOk_mk (by kernel_rfl) (by kernel_rfl) (by rfl) rfl
def td191:TD:={ flat:=false,kind:=.strct [(0,1,false),(1,1,false),(2,1,false)],size:=3,bytes:=48,zero:=.agg #[.slice none 0 0,.string ⟨#[]⟩,.int .i64 0] }
theorem tyok191:TyOk Tryz.prog 191 td191:=tyOk_mk (by kernel_rfl) (by kernel_rfl) (by rfl) rfl
def td194:TD:={ flat:=false,kind:=.other,size:=1,bytes:=8,zero:=.nilFunc }
theorem tyok194:TyOk Tryz.prog 194 td194:=tyOk_mk (by kernel_rfl) (by kernel_rfl) (by rfl) rfl
def td197:TD:={ flat:=false,kind:=.other,size:=1,bytes:=8,zero:=.nilFunc }
theorem tyok197:TyOk Tryz.prog 197 td197:=tyOk_mk (by kernel_rfl) (by kernel_rfl) (by rfl) rfl
def td202:TD:={ flat:=false,kind:=.slc 42,size:=1,bytes:=24,zero:=.slice none 0 0 }
theorem tyok202:TyOk Tryz.prog 202 td202:=tyOk_mk (by kernel_rfl) (by kernel_rfl) (by rfl) rfl
def td216:TD:={ flat:=false,kind:=.other,size:=1,bytes:=8,zero:=.nilFunc }
theorem tyok216:TyOk Tryz.prog 216 td216:=tyOk_mk (by kernel_rfl) (by kernel_rfl) (by rfl) rfl
def td222:TD:={ flat:=false,kind:=.other,size:=1,bytes:=8,zero:=.nilFunc }
theorem tyok222:TyOk Tryz.prog 222 td222:=tyOk_mk (by kernel_rfl) (by kernel_rfl) (by rfl) rfl
def td225:TD:={ flat:=false,kind:=.other,size:=1,bytes:=8,zero:=.nilFunc }
theorem tyok225:TyOk Tryz.prog 225 td225:=tyOk_mk (by kernel_rfl) (by kernel_rfl) (by rfl) rfl
def td228:TD:={ flat:=false,kind:=.other,size:=1,bytes:=8,zero:=.nilFunc }
theorem tyok228:TyOk Tryz.prog 228 td228:=tyOk_mk (by kernel_rfl) (by kernel_rfl) (by rfl) rfl
def td230:TD:={ flat:=false,kind:=.other,size:=1,bytes:=8,zero:=.nilFunc }
theorem tyok230:TyOk Tryz.prog 230 td230:=tyOk_mk (by kernel_rfl) (by kernel_rfl) (by rfl) rfl
def td232:TD:={ flat:=false,kind:=.other,size:=1,bytes:=8,zero:=.nilFunc }
theorem tyok232:TyOk Tryz.prog 232 td232:=tyOk_mk (by kernel_rfl) (by kernel_rfl) (by rfl) rfl
def td245:TD:={ flat:=false,kind:=.int .u64,size:=1,bytes:=8,zero:=.int .u64 0 }
theorem tyok245:TyOk Tryz.prog 245 td245:=tyOk_mk (by kernel_rfl) (by kernel_rfl) (by rfl) rfl
def td251:TD:={ flat:=false,kind:=.slc 43,size:=1,bytes:=24,zero:=.slice none 0 0 }
theorem tyok251:TyOk Tryz.prog 251 td251:=tyOk_mk (by kernel_rfl) (by kernel_rfl) (by rfl) rfl
def td254:TD:={ flat:=false,kind:=.arr 20,size:=20,bytes:=160,zero:=.agg #[.int .u64 0,.int .u64 0,.int .u64 0,.int .u64 0,.int .u64 0,.int .u64 0,.int .u64 0,.int .u64 0,.int .u64 0,.int .u64 0,.int .u64 0,.int .u64 0,.int .u64 0,.int .u64 0,.int .u64 0,.int .u64 0,.int .u64 0,.int .u64 0,.int .u64 0,.int .u64 0] }
theorem tyok254:TyOk Tryz.prog 254 td254:=tyOk_mk (by kernel_rfl) (by kernel_rfl) (by rfl) rfl
def td255:TD:={ flat:=false,kind:=.int .u32,size:=1,bytes:=4,zero:=.int .u32 0 }
theorem tyok255:TyOk Tryz.prog 255 td255:=tyOk_mk (by kernel_rfl) (by kernel_rfl) (by rfl) rfl
def td257:TD:={ flat:=false,kind:=.int .u64,size:=1,bytes:=8,zero:=.int .u64 0 }
theorem tyok257:TyOk Tryz.prog 257 td257:=tyOk_mk (by kernel_rfl) (by kernel_rfl) (by rfl) rfl
def td269:TD:={ flat:=false,kind:=.strct [(0,1,false),(1,1,false),(2,1,false)],size:=3,bytes:=48,zero:=.agg #[.string ⟨#[]⟩,.string ⟨#[]⟩,.nilIface] }
theorem tyok269:TyOk Tryz.prog 269 td269:=tyOk_mk (by kernel_rfl) (by kernel_rfl) (by rfl) rfl
def td276:TD:={ flat:=false,kind:=.strct [(0,1,false)],size:=1,bytes:=16,zero:=.agg #[.string ⟨#[]⟩] }
theorem tyok276:TyOk Tryz.prog 276 td276:=tyOk_mk (by kernel_rfl) (by kernel_rfl) (by rfl) rfl
def tabL:List (Nat×TD):=[(2,td2),(3,td3),(4,td4),(5,td5),(9,td9),(21,td21),(22,td22),(25,td25),(27,td27),(29,td29),(36,td36),(38,td38),(42,td42),(43,td43),(45,td45),(46,td46),(48,td48),(50,td50),(51,td51),(53,td53),(54,td54),(55,td55),(56,td56),(58,td58),(60,td60),(61,td61),(63,td63),(87,td87),(89,td89),(92,td92),(93,td93),(94,td94),(96,td96),(98,td98),(101,td101),(104,td104),(105,td105),(107,td107),(110,td110),(113,td113),(115,td115),(119,td119),(121,td121),(124,td124),(125,td125),(128,td128),(129,td129),(132,td132),(134,td134),(139,td139),(148,td148),(155,td155),(157,td157),(158,td158),(163,td163),(166,td166),(171,td171),(177,td177),(178,td178),(179,td179),(191,td191),(194,td194),(197,td197),(202,td202),(216,td216),(222,td222),(225,td225),(228,td228),(230,td230),(232,td232),(245,td245),(251,td251),(254,td254),(255,td255),(257,td257),(269,td269),(276,td276)]
def tab (T:Nat):Option TD:=(tabL.find? (fun p=>p.1==T)).map (·.2)
theorem tabL_ok:∀p∈tabL,TyOk Tryz.prog p.1 p.2:=List.forall_mem_cons.2 ⟨tyok2,List.forall_mem_cons.2 ⟨tyok3,List.forall_mem_cons.2 ⟨tyok4,List.forall_mem_cons.2 ⟨tyok5,List.forall_mem_cons.2 ⟨tyok9,List.forall_mem_cons.2 ⟨tyok21,List.forall_mem_cons.2 ⟨tyok22,List.forall_mem_cons.2 ⟨tyok25,List.forall_mem_cons.2 ⟨tyok27,List.forall_mem_cons.2 ⟨tyok29,List.forall_mem_cons.2 ⟨tyok36,List.forall_mem_cons.2 ⟨tyok38,List.forall_mem_cons.2 ⟨tyok42,List.forall_mem_cons.2 ⟨tyok43,List.forall_mem_cons.2 ⟨tyok45,List.forall_mem_cons.2 ⟨tyok46,List.forall_mem_cons.2 ⟨tyok48,List.forall_mem_cons.2 ⟨tyok50,List.forall_mem_cons.2 ⟨tyok51,List.forall_mem_cons.2 ⟨tyok53,List.forall_mem_cons.2 ⟨tyok54,List.forall_mem_cons.2 ⟨tyok55,List.forall_mem_cons.2 ⟨tyok56,List.forall_mem_cons.2 ⟨tyok58,List.forall_mem_cons.2 ⟨tyok60,List.forall_mem_cons.2 ⟨tyok61,List.forall_mem_cons.2 ⟨tyok63,List.forall_mem_cons.2 ⟨tyok87,List.forall_mem_cons.2 ⟨tyok89,List.forall_mem_cons.2 ⟨tyok92,List.forall_mem_cons.2 ⟨tyok93,List.forall_mem_cons.2 ⟨tyok94,List.forall_mem_cons.2 ⟨tyok96,List.forall_mem_cons.2 ⟨tyok98,List.forall_mem_cons.2 ⟨tyok101,List.forall_mem_cons.2 ⟨tyok104,List.forall_mem_cons.2 ⟨tyok105,List.forall_mem_cons.2 ⟨tyok107,List.forall_mem_cons.2 ⟨tyok110,List.forall_mem_cons.2 ⟨tyok113,List.forall_mem_cons.2 ⟨tyok115,List.forall_mem_cons.2 ⟨tyok119,List.forall_mem_cons.2 ⟨tyok121,List.forall_mem_cons.2 ⟨tyok124,List.forall_mem_cons.2 ⟨tyok125,List.forall_mem_cons.2 ⟨tyok128,List.forall_mem_cons.2 ⟨tyok129,List.forall_mem_cons.2 ⟨tyok132,List.forall_mem_cons.2 ⟨tyok134,List.forall_mem_cons.2 ⟨tyok139,List.forall_mem_cons.2 ⟨tyok148,List.forall_mem_cons.2 ⟨tyok155,List.forall_mem_cons.2 ⟨tyok157,List.forall_mem_cons.2 ⟨tyok158,List.forall_mem_cons.2 ⟨tyok163,List.forall_mem_cons.2 ⟨tyok166,List.forall_mem_cons.2 ⟨tyok171,List.forall_mem_cons.2 ⟨tyok177,List.forall_mem_cons.2 ⟨tyok178,List.forall_mem_cons.2 ⟨tyok179,List.forall_mem_cons.2 ⟨tyok191,List.forall_mem_cons.2 ⟨tyok194,List.forall_mem_cons.2 ⟨tyok197,List.forall_mem_cons.2 ⟨tyok202,List.forall_mem_cons.2 ⟨tyok216,List.forall_mem_cons.2 ⟨tyok222,List.forall_mem_cons.2 ⟨tyok225,List.forall_mem_cons.2 ⟨tyok228,List.forall_mem_cons.2 ⟨tyok230,List.forall_mem_cons.2 ⟨tyok232,List.forall_mem_cons.2 ⟨tyok245,List.forall_mem_cons.2 ⟨tyok251,List.forall_mem_cons.2 ⟨tyok254,List.forall_mem_cons.2 ⟨tyok255,List.forall_mem_cons.2 ⟨tyok257,List.forall_mem_cons.2 ⟨tyok269,List.forall_mem_cons.2 ⟨tyok276,fun p h=>by cases h⟩⟩⟩⟩⟩⟩⟩⟩⟩⟩⟩⟩⟩⟩⟩⟩⟩⟩⟩⟩⟩⟩⟩⟩⟩⟩⟩⟩⟩⟩⟩⟩⟩⟩⟩⟩⟩⟩⟩⟩⟩⟩⟩⟩⟩⟩⟩⟩⟩⟩⟩⟩⟩⟩⟩⟩⟩⟩⟩⟩⟩⟩⟩⟩⟩⟩⟩⟩⟩⟩⟩⟩⟩⟩⟩⟩⟩
theorem tab_ok:TabOk Tryz.prog tab:=tabOk_of tabL_ok
end Go.Proofs.YtjhanogfpkbamaaGreatDoor
