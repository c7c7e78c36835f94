/- Texts of ours laid together for a claim: Tab. -/
import Derived.Test.YtghnkppcncbddaaDoorProg
import Derived.KernelRfl
import Derived.Test.YtghnkppcncbddaaDoorQ29
namespace Go.Proofs.YtghnkppcncbddaaDoor
open Go
set_option linter.unusedSimpArgs false
set_option linter.unusedVariables false
def td2 : TD := { flat := false, kind := .int .i64, size := 1, bytes := 8, zero := .int .i64 0 }
theorem tyok2 : TyOk Tryd.prog 2 td2 := tyOk_mk (by kernel_rfl) (by kernel_rfl) (by rfl) rfl
def td3 : TD := { flat := false, kind := .int .i64, size := 1, bytes := 8, zero := .int .i64 0 }
theorem tyok3 : TyOk Tryd.prog 3 td3 := tyOk_mk (by kernel_rfl) (by kernel_rfl) (by rfl) rfl
def td4 : TD := { flat := false, kind := .bool, size := 1, bytes := 1, zero := .bool false }
theorem tyok4 : TyOk Tryd.prog 4 td4 := tyOk_mk (by kernel_rfl) (by kernel_rfl) (by rfl) rfl
def td5 : TD := { flat := false, kind := .int .u8, size := 1, bytes := 1, zero := .int .u8 0 }
theorem tyok5 : TyOk Tryd.prog 5 td5 := tyOk_mk (by kernel_rfl) (by kernel_rfl) (by rfl) rfl
def td9 : TD := { flat := false, kind := .str, size := 1, bytes := 16, zero := .string ⟨#[]⟩ }
theorem tyok9 : TyOk Tryd.prog 9 td9 := tyOk_mk (by kernel_rfl) (by kernel_rfl) (by rfl) rfl
def td22 : TD := { flat := false, kind := .slc 24, size := 1, bytes := 24, zero := .slice none 0 0 }
theorem tyok22 : TyOk Tryd.prog 22 td22 := tyOk_mk (by kernel_rfl) (by kernel_rfl) (by rfl) rfl
def td24 : TD := { flat := false, kind := .strct [(0, 1, false), (1, 1, false), (2, 1, false), (3, 1, false)], size := 4, bytes := 56, zero := .agg #[.int .i64 0, .string ⟨#[]⟩, .int .i64 0, .slice none 0 0] }
theorem tyok24 : TyOk Tryd.prog 24 td24 := tyOk_mk (by kernel_rfl) (by kernel_rfl) (by rfl) rfl
def td27 : TD := { flat := false, kind := .slc 29, size := 1, bytes := 24, zero := .slice none 0 0 }
theorem tyok27 : TyOk Tryd.prog 27 td27 := tyOk_mk (by kernel_rfl) (by kernel_rfl) (by rfl) rfl
def td29 : TD := { flat := false, kind := .strct [(0, 1, false), (1, 1, false), (2, 1, false), (3, 1, false)], size := 4, bytes := 56, zero := .agg #[.int .i64 0, .string ⟨#[]⟩, .int .i64 0, .slice none 0 0] }
theorem tyok29 : TyOk Tryd.prog 29 td29 := tyOk_mk (by kernel_rfl) (by kernel_rfl) (by rfl) rfl
def td31 : TD := { flat := false, kind := .int .i64, size := 1, bytes := 8, zero := .int .i64 0 }
theorem tyok31 : TyOk Tryd.prog 31 td31 := tyOk_mk (by kernel_rfl) (by kernel_rfl) (by rfl) rfl
def td36 : TD := { flat := false, kind := .other, size := 1, bytes := 8, zero := .nilFunc }
theorem tyok36 : TyOk Tryd.prog 36 td36 := tyOk_mk (by kernel_rfl) (by kernel_rfl) (by rfl) rfl
def td37 : TD := { flat := false, kind := .slc 42, size := 1, bytes := 24, zero := .slice none 0 0 }
theorem tyok37 : TyOk Tryd.prog 37 td37 := tyOk_mk (by kernel_rfl) (by kernel_rfl) (by rfl) rfl
def td38 : TD := { flat := false, kind := .slc 44, size := 1, bytes := 24, zero := .slice none 0 0 }
theorem tyok38 : TyOk Tryd.prog 38 td38 := tyOk_mk (by kernel_rfl) (by kernel_rfl) (by rfl) rfl
def td40 : TD := { flat := false, kind := .slc 9, size := 1, bytes := 24, zero := .slice none 0 0 }
theorem tyok40 : TyOk Tryd.prog 40 td40 := tyOk_mk (by kernel_rfl) (by kernel_rfl) (by rfl) rfl
def td42 : TD := { flat := false, kind := .strct [(0, 1, false), (1, 1, false), (2, 1, false), (3, 1, false), (4, 1, false)], size := 5, bytes := 72, zero := .agg #[.int .i64 0, .slice none 0 0, .slice none 0 0, .int .i64 0, .int .i64 0] }
theorem tyok42 : TyOk Tryd.prog 42 td42 := tyOk_mk (by kernel_rfl) (by kernel_rfl) (by rfl) rfl
def td44 : TD := { flat := false, kind := .strct [(0, 1, false), (1, 1, false), (2, 1, false), (3, 1, false), (4, 1, false)], size := 5, bytes := 72, zero := .agg #[.int .i64 0, .slice none 0 0, .slice none 0 0, .int .i64 0, .int .i64 0] }
theorem tyok44 : TyOk Tryd.prog 44 td44 := tyOk_mk (by kernel_rfl) (by kernel_rfl) (by rfl) rfl
def td54 : TD := { flat := false, kind := .strct [(0, 1, false), (1, 1, false), (2, 1, false)], size := 3, bytes := 72, zero := .agg #[.slice none 0 0, .slice none 0 0, .slice none 0 0] }
theorem tyok54 : TyOk Tryd.prog 54 td54 := tyOk_mk (by kernel_rfl) (by kernel_rfl) (by rfl) rfl
def td55 : TD := { flat := false, kind := .slc 63, size := 1, bytes := 24, zero := .slice none 0 0 }
theorem tyok55 : TyOk Tryd.prog 55 td55 := tyOk_mk (by kernel_rfl) (by kernel_rfl) (by rfl) rfl
def td57 : TD := { flat := true, kind := .strct [(0, 1, false), (1, 1, false)], size := 2, bytes := 16, zero := .agg #[.int .i64 0, .int .i64 0] }
theorem tyok57 : TyOk Tryd.prog 57 td57 := tyOk_flat (by kernel_rfl) (by kernel_rfl) (by rfl) rfl (by kernel_rfl) (by kernel_rfl) (by kernel_rfl) (by kernel_rfl)
def td58 : TD := { flat := false, kind := .slc 60, size := 1, bytes := 24, zero := .slice none 0 0 }
theorem tyok58 : TyOk Tryd.prog 58 td58 := tyOk_mk (by kernel_rfl) (by kernel_rfl) (by rfl) rfl
def td60 : TD := { flat := false, kind := .strct [(0, 1, false), (1, 2, true), (3, 1, false)], size := 4, bytes := 64, zero := .agg #[.slice none 0 0, .int .i64 0, .int .i64 0, .slice none 0 0] }
theorem tyok60 : TyOk Tryd.prog 60 td60 := tyOk_mk (by kernel_rfl) (by kernel_rfl) (by rfl) rfl
def td63 : TD := { flat := false, kind := .strct [(0, 1, false), (1, 1, false)], size := 2, bytes := 32, zero := .agg #[.slice none 0 0, .int .i64 0] }
theorem tyok63 : TyOk Tryd.prog 63 td63 := tyOk_mk (by kernel_rfl) (by kernel_rfl) (by rfl) rfl
def td67 : TD := { flat := false, kind := .ptr 70, size := 1, bytes := 8, zero := .pointer none }
theorem tyok67 : TyOk Tryd.prog 67 td67 := tyOk_mk (by kernel_rfl) (by kernel_rfl) (by rfl) rfl
def td68 : TD := { flat := false, kind := .slc 5, size := 1, bytes := 24, zero := .slice none 0 0 }
theorem tyok68 : TyOk Tryd.prog 68 td68 := tyOk_mk (by kernel_rfl) (by kernel_rfl) (by rfl) rfl
def td70 : TD := { flat := false, kind := .strct [(0, 1, false), (1, 1, false)], size := 2, bytes := 32, zero := .agg #[.pointer none, .slice none 0 0] }
theorem tyok70 : TyOk Tryd.prog 70 td70 := tyOk_mk (by kernel_rfl) (by kernel_rfl) (by rfl) rfl
def td72 : TD := { flat := false, kind := .strct [(0, 1, false)], size := 1, bytes := 8, zero := .agg #[.pointer none] }
theorem tyok72 : TyOk Tryd.prog 72 td72 := tyOk_mk (by kernel_rfl) (by kernel_rfl) (by rfl) rfl
def td73 : TD := { flat := false, kind := .other, size := 1, bytes := 8, zero := .nilFunc }
theorem tyok73 : TyOk Tryd.prog 73 td73 := tyOk_mk (by kernel_rfl) (by kernel_rfl) (by rfl) rfl
def td75 : TD := { flat := false, kind := .other, size := 1, bytes := 8, zero := .nilFunc }
theorem tyok75 : TyOk Tryd.prog 75 td75 := tyOk_mk (by kernel_rfl) (by kernel_rfl) (by rfl) rfl
def td77 : TD := { flat := false, kind := .strct [(0, 1, false), (1, 1, false), (2, 1, false), (3, 1, false), (4, 1, false), (5, 1, false)], size := 6, bytes := 48, zero := .agg #[.string ⟨#[]⟩, .int .i64 0, .int .i64 0, .int .i64 0, .bool false, .bool false] }
theorem tyok77 : TyOk Tryd.prog 77 td77 := tyOk_mk (by kernel_rfl) (by kernel_rfl) (by rfl) rfl
def td93 : TD := { flat := false, kind := .ptr 5, size := 1, bytes := 8, zero := .pointer none }
theorem tyok93 : TyOk Tryd.prog 93 td93 := tyOk_mk (by kernel_rfl) (by kernel_rfl) (by rfl) rfl
def td95 : TD := { flat := false, kind := .other, size := 1, bytes := 8, zero := .nilFunc }
theorem tyok95 : TyOk Tryd.prog 95 td95 := tyOk_mk (by kernel_rfl) (by kernel_rfl) (by rfl) rfl
def td100 : TD := { flat := false, kind := .arr 13, size := 13, bytes := 208, zero := .agg #[.string ⟨#[]⟩, .string ⟨#[]⟩, .string ⟨#[]⟩, .string ⟨#[]⟩, .string ⟨#[]⟩, .string ⟨#[]⟩, .string ⟨#[]⟩, .string ⟨#[]⟩, .string ⟨#[]⟩, .string ⟨#[]⟩, .string ⟨#[]⟩, .string ⟨#[]⟩, .string ⟨#[]⟩] }
theorem tyok100 : TyOk Tryd.prog 100 td100 := tyOk_mk (by kernel_rfl) (by kernel_rfl) (by rfl) rfl
def td101 : TD := { flat := false, kind := .other, size := 1, bytes := 8, zero := .nilFunc }
theorem tyok101 : TyOk Tryd.prog 101 td101 := tyOk_mk (by kernel_rfl) (by kernel_rfl) (by rfl) rfl
def td103 : TD := { flat := false, kind := .mapk 9 4, size := 1, bytes := 8, zero := .map none }
theorem tyok103 : TyOk Tryd.prog 103 td103 := tyOk_mk (by kernel_rfl) (by kernel_rfl) (by rfl) rfl
def td107 : TD := { flat := false, kind := .strct [(0, 3, true), (3, 1, false)], size := 4, bytes := 80, zero := .agg #[.slice none 0 0, .slice none 0 0, .slice none 0 0, .map none] }
theorem tyok107 : TyOk Tryd.prog 107 td107 := tyOk_mk (by kernel_rfl) (by kernel_rfl) (by rfl) rfl
def td110 : TD := { flat := false, kind := .slc 118, size := 1, bytes := 24, zero := .slice none 0 0 }
theorem tyok110 : TyOk Tryd.prog 110 td110 := tyOk_mk (by kernel_rfl) (by kernel_rfl) (by rfl) rfl
def td112 : TD := { flat := true, kind := .strct [(0, 1, false), (1, 1, false)], size := 2, bytes := 16, zero := .agg #[.int .i64 0, .int .i64 0] }
theorem tyok112 : TyOk Tryd.prog 112 td112 := tyOk_flat (by kernel_rfl) (by kernel_rfl) (by rfl) rfl (by kernel_rfl) (by kernel_rfl) (by kernel_rfl) (by kernel_rfl)
def td114 : TD := { flat := false, kind := .strct [(0, 1, false), (1, 2, true), (3, 1, false)], size := 4, bytes := 40, zero := .agg #[.int .i64 0, .int .i64 0, .int .i64 0, .string ⟨#[]⟩] }
theorem tyok114 : TyOk Tryd.prog 114 td114 := tyOk_mk (by kernel_rfl) (by kernel_rfl) (by rfl) rfl
def td118 : TD := { flat := false, kind := .strct [(0, 1, false), (1, 1, false), (2, 1, false)], size := 3, bytes := 32, zero := .agg #[.int .i64 0, .string ⟨#[]⟩, .int .i64 0] }
theorem tyok118 : TyOk Tryd.prog 118 td118 := tyOk_mk (by kernel_rfl) (by kernel_rfl) (by rfl) rfl
def td124 : TD := { flat := true, kind := .strct [(0, 1, false), (1, 1, false)], size := 2, bytes := 16, zero := .agg #[.int .i64 0, .int .i64 0] }
theorem tyok124 : TyOk Tryd.prog 124 td124 := tyOk_flat (by kernel_rfl) (by kernel_rfl) (by rfl) rfl (by kernel_rfl) (by kernel_rfl) (by kernel_rfl) (by kernel_rfl)
def td125 : TD := { flat := false, kind := .slc 40, size := 1, bytes := 24, zero := .slice none 0 0 }
theorem tyok125 : TyOk Tryd.prog 125 td125 := tyOk_mk (by kernel_rfl) (by kernel_rfl) (by rfl) rfl
def td134 : TD := { flat := false, kind := .slc 55, size := 1, bytes := 24, zero := .slice none 0 0 }
theorem tyok134 : TyOk Tryd.prog 134 td134 := tyOk_mk (by kernel_rfl) (by kernel_rfl) (by rfl) rfl
def td142 : TD := { flat := false, kind := .other, size := 1, bytes := 8, zero := .nilFunc }
theorem tyok142 : TyOk Tryd.prog 142 td142 := tyOk_mk (by kernel_rfl) (by kernel_rfl) (by rfl) rfl
def td149 : TD := { flat := false, kind := .int .u64, size := 1, bytes := 8, zero := .int .u64 0 }
theorem tyok149 : TyOk Tryd.prog 149 td149 := tyOk_mk (by kernel_rfl) (by kernel_rfl) (by rfl) rfl
def td156 : TD := { flat := false, kind := .arr 20, size := 20, bytes := 160, zero := .agg #[.int .u64 0, .int .u64 0, .int .u64 0, .int .u64 0, .int .u64 0, .int .u64 0, .int .u64 0, .int .u64 0, .int .u64 0, .int .u64 0, .int .u64 0, .int .u64 0, .int .u64 0, .int .u64 0, .int .u64 0, .int .u64 0, .int .u64 0, .int .u64 0, .int .u64 0, .int .u64 0] }
theorem tyok156 : TyOk Tryd.prog 156 td156 := tyOk_mk (by kernel_rfl) (by kernel_rfl) (by rfl) rfl
def td157 : TD := { flat := false, kind := .int .u32, size := 1, bytes := 4, zero := .int .u32 0 }
theorem tyok157 : TyOk Tryd.prog 157 td157 := tyOk_mk (by kernel_rfl) (by kernel_rfl) (by rfl) rfl
def td160 : TD := { flat := false, kind := .int .u64, size := 1, bytes := 8, zero := .int .u64 0 }
theorem tyok160 : TyOk Tryd.prog 160 td160 := tyOk_mk (by kernel_rfl) (by kernel_rfl) (by rfl) rfl
def tabL : List (Nat × TD) := [(2, td2), (3, td3), (4, td4), (5, td5), (9, td9), (22, td22), (24, td24), (27, td27), (29, td29), (31, td31), (36, td36), (37, td37), (38, td38), (40, td40), (42, td42), (44, td44), (54, td54), (55, td55), (57, td57), (58, td58), (60, td60), (63, td63), (67, td67), (68, td68), (70, td70), (72, td72), (73, td73), (75, td75), (77, td77), (93, td93), (95, td95), (100, td100), (101, td101), (103, td103), (107, td107), (110, td110), (112, td112), (114, td114), (118, td118), (124, td124), (125, td125), (134, td134), (142, td142), (149, td149), (156, td156), (157, td157), (160, td160)]
def tab (T : Nat) : Option TD := (tabL.find? (fun p => p.1 == T)).map (·.2)
theorem tabL_ok : ∀ p ∈ tabL, TyOk Tryd.prog p.1 p.2 := List.forall_mem_cons.2 ⟨tyok2, List.forall_mem_cons.2 ⟨tyok3, List.forall_mem_cons.2 ⟨tyok4, List.forall_mem_cons.2 ⟨tyok5, List.forall_mem_cons.2 ⟨tyok9, List.forall_mem_cons.2 ⟨tyok22, List.forall_mem_cons.2 ⟨tyok24, List.forall_mem_cons.2 ⟨tyok27, List.forall_mem_cons.2 ⟨tyok29, List.forall_mem_cons.2 ⟨tyok31, List.forall_mem_cons.2 ⟨tyok36, List.forall_mem_cons.2 ⟨tyok37, List.forall_mem_cons.2 ⟨tyok38, List.forall_mem_cons.2 ⟨tyok40, List.forall_mem_cons.2 ⟨tyok42, List.forall_mem_cons.2 ⟨tyok44, List.forall_mem_cons.2 ⟨tyok54, List.forall_mem_cons.2 ⟨tyok55, List.forall_mem_cons.2 ⟨tyok57, List.forall_mem_cons.2 ⟨tyok58, List.forall_mem_cons.2 ⟨tyok60, List.forall_mem_cons.2 ⟨tyok63, List.forall_mem_cons.2 ⟨tyok67, List.forall_mem_cons.2 ⟨tyok68, List.forall_mem_cons.2 ⟨tyok70, List.forall_mem_cons.2 ⟨tyok72, List.forall_mem_cons.2 ⟨tyok73, List.forall_mem_cons.2 ⟨tyok75, List.forall_mem_cons.2 ⟨tyok77, List.forall_mem_cons.2 ⟨tyok93, List.forall_mem_cons.2 ⟨tyok95, List.forall_mem_cons.2 ⟨tyok100, List.forall_mem_cons.2 ⟨tyok101, List.forall_mem_cons.2 ⟨tyok103, List.forall_mem_cons.2 ⟨tyok107, List.forall_mem_cons.2 ⟨tyok110, List.forall_mem_cons.2 ⟨tyok112, List.forall_mem_cons.2 ⟨tyok114, List.forall_mem_cons.2 ⟨tyok118, List.forall_mem_cons.2 ⟨tyok124, List.forall_mem_cons.2 ⟨tyok125, List.forall_mem_cons.2 ⟨tyok134, List.forall_mem_cons.2 ⟨tyok142, List.forall_mem_cons.2 ⟨tyok149, List.forall_mem_cons.2 ⟨tyok156, List.forall_mem_cons.2 ⟨tyok157, List.forall_mem_cons.2 ⟨tyok160, fun p h => by cases h⟩⟩⟩⟩⟩⟩⟩⟩⟩⟩⟩⟩⟩⟩⟩⟩⟩⟩⟩⟩⟩⟩⟩⟩⟩⟩⟩⟩⟩⟩⟩⟩⟩⟩⟩⟩⟩⟩⟩⟩⟩⟩⟩⟩⟩⟩⟩
theorem tab_ok : TabOk Tryd.prog tab := tabOk_of tabL_ok
theorem tab_2 : tab 2 = some { flat := false, kind := .int .i64, size := 1, bytes := 8, zero := .int .i64 0 } := rfl
theorem tab_3 : tab 3 = some { flat := false, kind := .int .i64, size := 1, bytes := 8, zero := .int .i64 0 } := rfl
theorem tab_4 : tab 4 = some { flat := false, kind := .bool, size := 1, bytes := 1, zero := .bool false } := rfl
theorem tab_5 : tab 5 = some { flat := false, kind := .int .u8, size := 1, bytes := 1, zero := .int .u8 0 } := rfl
theorem tab_9 : tab 9 = some { flat := false, kind := .str, size := 1, bytes := 16, zero := .string ⟨#[]⟩ } := rfl
theorem tab_22 : tab 22 = some { flat := false, kind := .slc 24, size := 1, bytes := 24, zero := .slice none 0 0 } := rfl
theorem tab_24 : tab 24 = some { flat := false, kind := .strct [(0, 1, false), (1, 1, false), (2, 1, false), (3, 1, false)], size := 4, bytes := 56, zero := .agg #[.int .i64 0, .string ⟨#[]⟩, .int .i64 0, .slice none 0 0] } := rfl
theorem tab_27 : tab 27 = some { flat := false, kind := .slc 29, size := 1, bytes := 24, zero := .slice none 0 0 } := rfl
theorem tab_29 : tab 29 = some { flat := false, kind := .strct [(0, 1, false), (1, 1, false), (2, 1, false), (3, 1, false)], size := 4, bytes := 56, zero := .agg #[.int .i64 0, .string ⟨#[]⟩, .int .i64 0, .slice none 0 0] } := rfl
theorem tab_31 : tab 31 = some { flat := false, kind := .int .i64, size := 1, bytes := 8, zero := .int .i64 0 } := rfl
theorem tab_36 : tab 36 = some { flat := false, kind := .other, size := 1, bytes := 8, zero := .nilFunc } := rfl
theorem tab_37 : tab 37 = some { flat := false, kind := .slc 42, size := 1, bytes := 24, zero := .slice none 0 0 } := rfl
theorem tab_38 : tab 38 = some { flat := false, kind := .slc 44, size := 1, bytes := 24, zero := .slice none 0 0 } := rfl
theorem tab_40 : tab 40 = some { flat := false, kind := .slc 9, size := 1, bytes := 24, zero := .slice none 0 0 } := rfl
theorem tab_42 : tab 42 = some { flat := false, kind := .strct [(0, 1, false), (1, 1, false), (2, 1, false), (3, 1, false), (4, 1, false)], size := 5, bytes := 72, zero := .agg #[.int .i64 0, .slice none 0 0, .slice none 0 0, .int .i64 0, .int .i64 0] } := rfl
theorem tab_44 : tab 44 = some { flat := false, kind := .strct [(0, 1, false), (1, 1, false), (2, 1, false), (3, 1, false), (4, 1, false)], size := 5, bytes := 72, zero := .agg #[.int .i64 0, .slice none 0 0, .slice none 0 0, .int .i64 0, .int .i64 0] } := rfl
theorem tab_54 : tab 54 = some { flat := false, kind := .strct [(0, 1, false), (1, 1, false), (2, 1, false)], size := 3, bytes := 72, zero := .agg #[.slice none 0 0, .slice none 0 0, .slice none 0 0] } := rfl
theorem tab_55 : tab 55 = some { flat := false, kind := .slc 63, size := 1, bytes := 24, zero := .slice none 0 0 } := rfl
theorem tab_57 : tab 57 = some { flat := true, kind := .strct [(0, 1, false), (1, 1, false)], size := 2, bytes := 16, zero := .agg #[.int .i64 0, .int .i64 0] } := rfl
theorem tab_58 : tab 58 = some { flat := false, kind := .slc 60, size := 1, bytes := 24, zero := .slice none 0 0 } := rfl
theorem tab_60 : tab 60 = some { flat := false, kind := .strct [(0, 1, false), (1, 2, true), (3, 1, false)], size := 4, bytes := 64, zero := .agg #[.slice none 0 0, .int .i64 0, .int .i64 0, .slice none 0 0] } := rfl
theorem tab_63 : tab 63 = some { flat := false, kind := .strct [(0, 1, false), (1, 1, false)], size := 2, bytes := 32, zero := .agg #[.slice none 0 0, .int .i64 0] } := rfl
theorem tab_67 : tab 67 = some { flat := false, kind := .ptr 70, size := 1, bytes := 8, zero := .pointer none } := rfl
theorem tab_68 : tab 68 = some { flat := false, kind := .slc 5, size := 1, bytes := 24, zero := .slice none 0 0 } := rfl
theorem tab_70 : tab 70 = some { flat := false, kind := .strct [(0, 1, false), (1, 1, false)], size := 2, bytes := 32, zero := .agg #[.pointer none, .slice none 0 0] } := rfl
theorem tab_72 : tab 72 = some { flat := false, kind := .strct [(0, 1, false)], size := 1, bytes := 8, zero := .agg #[.pointer none] } := rfl
theorem tab_73 : tab 73 = some { flat := false, kind := .other, size := 1, bytes := 8, zero := .nilFunc } := rfl
theorem tab_75 : tab 75 = some { flat := false, kind := .other, size := 1, bytes := 8, zero := .nilFunc } := rfl
theorem tab_77 : tab 77 = some { flat := false, kind := .strct [(0, 1, false), (1, 1, false), (2, 1, false), (3, 1, false), (4, 1, false), (5, 1, false)], size := 6, bytes := 48, zero := .agg #[.string ⟨#[]⟩, .int .i64 0, .int .i64 0, .int .i64 0, .bool false, .bool false] } := rfl
theorem tab_93 : tab 93 = some { flat := false, kind := .ptr 5, size := 1, bytes := 8, zero := .pointer none } := rfl
theorem tab_95 : tab 95 = some { flat := false, kind := .other, size := 1, bytes := 8, zero := .nilFunc } := rfl
theorem tab_100 : tab 100 = some { flat := false, kind := .arr 13, size := 13, bytes := 208, zero := .agg #[.string ⟨#[]⟩, .string ⟨#[]⟩, .string ⟨#[]⟩, .string ⟨#[]⟩, .string ⟨#[]⟩, .string ⟨#[]⟩, .string ⟨#[]⟩, .string ⟨#[]⟩, .string ⟨#[]⟩, .string ⟨#[]⟩, .string ⟨#[]⟩, .string ⟨#[]⟩, .string ⟨#[]⟩] } := rfl
theorem tab_101 : tab 101 = some { flat := false, kind := .other, size := 1, bytes := 8, zero := .nilFunc } := rfl
theorem tab_103 : tab 103 = some { flat := false, kind := .mapk 9 4, size := 1, bytes := 8, zero := .map none } := rfl
theorem tab_107 : tab 107 = some { flat := false, kind := .strct [(0, 3, true), (3, 1, false)], size := 4, bytes := 80, zero := .agg #[.slice none 0 0, .slice none 0 0, .slice none 0 0, .map none] } := rfl
theorem tab_110 : tab 110 = some { flat := false, kind := .slc 118, size := 1, bytes := 24, zero := .slice none 0 0 } := rfl
theorem tab_112 : tab 112 = some { flat := true, kind := .strct [(0, 1, false), (1, 1, false)], size := 2, bytes := 16, zero := .agg #[.int .i64 0, .int .i64 0] } := rfl
theorem tab_114 : tab 114 = some { flat := false, kind := .strct [(0, 1, false), (1, 2, true), (3, 1, false)], size := 4, bytes := 40, zero := .agg #[.int .i64 0, .int .i64 0, .int .i64 0, .string ⟨#[]⟩] } := rfl
theorem tab_118 : tab 118 = some { flat := false, kind := .strct [(0, 1, false), (1, 1, false), (2, 1, false)], size := 3, bytes := 32, zero := .agg #[.int .i64 0, .string ⟨#[]⟩, .int .i64 0] } := rfl
theorem tab_124 : tab 124 = some { flat := true, kind := .strct [(0, 1, false), (1, 1, false)], size := 2, bytes := 16, zero := .agg #[.int .i64 0, .int .i64 0] } := rfl
theorem tab_125 : tab 125 = some { flat := false, kind := .slc 40, size := 1, bytes := 24, zero := .slice none 0 0 } := rfl
theorem tab_134 : tab 134 = some { flat := false, kind := .slc 55, size := 1, bytes := 24, zero := .slice none 0 0 } := rfl
theorem tab_142 : tab 142 = some { flat := false, kind := .other, size := 1, bytes := 8, zero := .nilFunc } := rfl
theorem tab_149 : tab 149 = some { flat := false, kind := .int .u64, size := 1, bytes := 8, zero := .int .u64 0 } := rfl
theorem tab_156 : tab 156 = some { flat := false, kind := .arr 20, size := 20, bytes := 160, zero := .agg #[.int .u64 0, .int .u64 0, .int .u64 0, .int .u64 0, .int .u64 0, .int .u64 0, .int .u64 0, .int .u64 0, .int .u64 0, .int .u64 0, .int .u64 0, .int .u64 0, .int .u64 0, .int .u64 0, .int .u64 0, .int .u64 0, .int .u64 0, .int .u64 0, .int .u64 0, .int .u64 0] } := rfl
theorem tab_157 : tab 157 = some { flat := false, kind := .int .u32, size := 1, bytes := 4, zero := .int .u32 0 } := rfl
theorem tab_160 : tab 160 = some { flat := false, kind := .int .u64, size := 1, bytes := 8, zero := .int .u64 0 } := rfl
theorem tabs : (tab 2 = some { flat := false, kind := .int .i64, size := 1, bytes := 8, zero := .int .i64 0 }) ∧ (tab 3 = some { flat := false, kind := .int .i64, size := 1, bytes := 8, zero := .int .i64 0 }) ∧ (tab 4 = some { flat := false, kind := .bool, size := 1, bytes := 1, zero := .bool false }) ∧ (tab 5 = some { flat := false, kind := .int .u8, size := 1, bytes := 1, zero := .int .u8 0 }) ∧ (tab 9 = some { flat := false, kind := .str, size := 1, bytes := 16, zero := .string ⟨#[]⟩ }) ∧ (tab 22 = some { flat := false, kind := .slc 24, size := 1, bytes := 24, zero := .slice none 0 0 }) ∧ (tab 24 = some { flat := false, kind := .strct [(0, 1, false), (1, 1, false), (2, 1, false), (3, 1, false)], size := 4, bytes := 56, zero := .agg #[.int .i64 0, .string ⟨#[]⟩, .int .i64 0, .slice none 0 0] }) ∧ (tab 27 = some { flat := false, kind := .slc 29, size := 1, bytes := 24, zero := .slice none 0 0 }) ∧ (tab 29 = some { flat := false, kind := .strct [(0, 1, false), (1, 1, false), (2, 1, false), (3, 1, false)], size := 4, bytes := 56, zero := .agg #[.int .i64 0, .string ⟨#[]⟩, .int .i64 0, .slice none 0 0] }) ∧ (tab 31 = some { flat := false, kind := .int .i64, size := 1, bytes := 8, zero := .int .i64 0 }) ∧ (tab 36 = some { flat := false, kind := .other, size := 1, bytes := 8, zero := .nilFunc }) ∧ (tab 37 = some { flat := false, kind := .slc 42, size := 1, bytes := 24, zero := .slice none 0 0 }) ∧ (tab 38 = some { flat := false, kind := .slc 44, size := 1, bytes := 24, zero := .slice none 0 0 }) ∧ (tab 40 = some { flat := false, kind := .slc 9, size := 1, bytes := 24, zero := .slice none 0 0 }) ∧ (tab 42 = some { flat := false, kind := .strct [(0, 1, false), (1, 1, false), (2, 1, false), (3, 1, false), (4, 1, false)], size := 5, bytes := 72, zero := .agg #[.int .i64 0, .slice none 0 0, .slice none 0 0, .int .i64 0, .int .i64 0] }) ∧ (tab 44 = some { flat := false, kind := .strct [(0, 1, false), (1, 1, false), (2, 1, false), (3, 1, false), (4, 1, false)], size := 5, bytes := 72, zero := .agg #[.int .i64 0, .slice none 0 0, .slice none 0 0, .int .i64 0, .int .i64 0] }) ∧ (tab 54 = some { flat := false, kind := .strct [(0, 1, false), (1, 1, false), (2, 1, false)], size := 3, bytes := 72, zero := .agg #[.slice none 0 0, .slice none 0 0, .slice none 0 0] }) ∧ (tab 55 = some { flat := false, kind := .slc 63, size := 1, bytes := 24, zero := .slice none 0 0 }) ∧ (tab 57 = some { flat := true, kind := .strct [(0, 1, false), (1, 1, false)], size := 2, bytes := 16, zero := .agg #[.int .i64 0, .int .i64 0] }) ∧ (tab 58 = some { flat := false, kind := .slc 60, size := 1, bytes := 24, zero := .slice none 0 0 }) ∧ (tab 60 = some { flat := false, kind := .strct [(0, 1, false), (1, 2, true), (3, 1, false)], size := 4, bytes := 64, zero := .agg #[.slice none 0 0, .int .i64 0, .int .i64 0, .slice none 0 0] }) ∧ (tab 63 = some { flat := false, kind := .strct [(0, 1, false), (1, 1, false)], size := 2, bytes := 32, zero := .agg #[.slice none 0 0, .int .i64 0] }) ∧ (tab 67 = some { flat := false, kind := .ptr 70, size := 1, bytes := 8, zero := .pointer none }) ∧ (tab 68 = some { flat := false, kind := .slc 5, size := 1, bytes := 24, zero := .slice none 0 0 }) ∧ (tab 70 = some { flat := false, kind := .strct [(0, 1, false), (1, 1, false)], size := 2, bytes := 32, zero := .agg #[.pointer none, .slice none 0 0] }) ∧ (tab 72 = some { flat := false, kind := .strct [(0, 1, false)], size := 1, bytes := 8, zero := .agg #[.pointer none] }) ∧ (tab 73 = some { flat := false, kind := .other, size := 1, bytes := 8, zero := .nilFunc }) ∧ (tab 75 = some { flat := false, kind := .other, size := 1, bytes := 8, zero := .nilFunc }) ∧ (tab 77 = some { flat := false, kind := .strct [(0, 1, false), (1, 1, false), (2, 1, false), (3, 1, false), (4, 1, false), (5, 1, false)], size := 6, bytes := 48, zero := .agg #[.string ⟨#[]⟩, .int .i64 0, .int .i64 0, .int .i64 0, .bool false, .bool false] }) ∧ (tab 93 = some { flat := false, kind := .ptr 5, size := 1, bytes := 8, zero := .pointer none }) ∧ (tab 95 = some { flat := false, kind := .other, size := 1, bytes := 8, zero := .nilFunc }) ∧ (tab 100 = some { flat := false, kind := .arr 13, size := 13, bytes := 208, zero := .agg #[.string ⟨#[]⟩, .string ⟨#[]⟩, .string ⟨#[]⟩, .string ⟨#[]⟩, .string ⟨#[]⟩, .string ⟨#[]⟩, .string ⟨#[]⟩, .string ⟨#[]⟩, .string ⟨#[]⟩, .string ⟨#[]⟩, .string ⟨#[]⟩, .string ⟨#[]⟩, .string ⟨#[]⟩] }) ∧ (tab 101 = some { flat := false, kind := .other, size := 1, bytes := 8, zero := .nilFunc }) ∧ (tab 103 = some { flat := false, kind := .mapk 9 4, size := 1, bytes := 8, zero := .map none }) ∧ (tab 107 = some { flat := false, kind := .strct [(0, 3, true), (3, 1, false)], size := 4, bytes := 80, zero := .agg #[.slice none 0 0, .slice none 0 0, .slice none 0 0, .map none] }) ∧ (tab 110 = some { flat := false, kind := .slc 118, size := 1, bytes := 24, zero := .slice none 0 0 }) ∧ (tab 112 = some { flat := true, kind := .strct [(0, 1, false), (1, 1, false)], size := 2, bytes := 16, zero := .agg #[.int .i64 0, .int .i64 0] }) ∧ (tab 114 = some { flat := false, kind := .strct [(0, 1, false), (1, 2, true), (3, 1, false)], size := 4, bytes := 40, zero := .agg #[.int .i64 0, .int .i64 0, .int .i64 0, .string ⟨#[]⟩] }) ∧ (tab 118 = some { flat := false, kind := .strct [(0, 1, false), (1, 1, false), (2, 1, false)], size := 3, bytes := 32, zero := .agg #[.int .i64 0, .string ⟨#[]⟩, .int .i64 0] }) ∧ (tab 124 = some { flat := true, kind := .strct [(0, 1, false), (1, 1, false)], size := 2, bytes := 16, zero := .agg #[.int .i64 0, .int .i64 0] }) ∧ (tab 125 = some { flat := false, kind := .slc 40, size := 1, bytes := 24, zero := .slice none 0 0 }) ∧ (tab 134 = some { flat := false, kind := .slc 55, size := 1, bytes := 24, zero := .slice none 0 0 }) ∧ (tab 142 = some { flat := false, kind := .other, size := 1, bytes := 8, zero := .nilFunc }) ∧ (tab 149 = some { flat := false, kind := .int .u64, size := 1, bytes := 8, zero := .int .u64 0 }) ∧ (tab 156 = some { flat := false, kind := .arr 20, size := 20, bytes := 160, zero := .agg #[.int .u64 0, .int .u64 0, .int .u64 0, .int .u64 0, .int .u64 0, .int .u64 0, .int .u64 0, .int .u64 0, .int .u64 0, .int .u64 0, .int .u64 0, .int .u64 0, .int .u64 0, .int .u64 0, .int .u64 0, .int .u64 0, .int .u64 0, .int .u64 0, .int .u64 0, .int .u64 0] }) ∧ (tab 157 = some { flat := false, kind := .int .u32, size := 1, bytes := 4, zero := .int .u32 0 }) ∧ (tab 160 = some { flat := false, kind := .int .u64, size := 1, bytes := 8, zero := .int .u64 0 }) :=
 ⟨tab_2, tab_3, tab_4, tab_5, tab_9, tab_22, tab_24, tab_27, tab_29, tab_31, tab_36, tab_37, tab_38, tab_40, tab_42, tab_44, tab_54, tab_55, tab_57, tab_58, tab_60, tab_63, tab_67, tab_68, tab_70, tab_72, tab_73, tab_75, tab_77, tab_93, tab_95, tab_100, tab_101, tab_103, tab_107, tab_110, tab_112, tab_114, tab_118, tab_124, tab_125, tab_134, tab_142, tab_149, tab_156, tab_157, tab_160⟩
end Go.Proofs.YtghnkppcncbddaaDoor
