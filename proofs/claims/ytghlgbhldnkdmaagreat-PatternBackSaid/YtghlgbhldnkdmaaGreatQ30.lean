/- Texts of ours laid together for a claim: Tab. -/
import Derived.Test.YtghlgbhldnkdmaaGreatProg
import Derived.KernelRfl
import Derived.Test.YtghlgbhldnkdmaaGreatQ29
namespace Go.Proofs.YtghlgbhldnkdmaaGreat
open Go
set_option linter.unusedSimpArgs false
set_option linter.unusedVariables false
def td1 : TD := { flat := false, kind := .other, size := 1, bytes := 8, zero := .nilFunc }
theorem tyok1 : TyOk Tryz.prog 1 td1 := tyOk_mk (by kernel_rfl) (by kernel_rfl) (by rfl) rfl
def td2 : TD := { flat := false, kind := .int .i64, size := 1, bytes := 8, zero := .int .i64 0 }
theorem tyok2 : TyOk Tryz.prog 2 td2 := tyOk_mk (by kernel_rfl) (by kernel_rfl) (by rfl) rfl
def td3 : TD := { flat := false, kind := .int .i64, size := 1, bytes := 8, zero := .int .i64 0 }
theorem tyok3 : TyOk Tryz.prog 3 td3 := tyOk_mk (by kernel_rfl) (by kernel_rfl) (by rfl) rfl
def td4 : TD := { flat := false, kind := .bool, size := 1, bytes := 1, zero := .bool false }
theorem tyok4 : TyOk Tryz.prog 4 td4 := tyOk_mk (by kernel_rfl) (by kernel_rfl) (by rfl) rfl
def td9 : TD := { flat := false, kind := .str, size := 1, bytes := 16, zero := .string ⟨#[]⟩ }
theorem tyok9 : TyOk Tryz.prog 9 td9 := tyOk_mk (by kernel_rfl) (by kernel_rfl) (by rfl) rfl
def td21 : TD := { flat := false, kind := .int .i32, size := 1, bytes := 4, zero := .int .i32 0 }
theorem tyok21 : TyOk Tryz.prog 21 td21 := tyOk_mk (by kernel_rfl) (by kernel_rfl) (by rfl) rfl
def td22 : TD := { flat := false, kind := .slc 26, size := 1, bytes := 24, zero := .slice none 0 0 }
theorem tyok22 : TyOk Tryz.prog 22 td22 := tyOk_mk (by kernel_rfl) (by kernel_rfl) (by rfl) rfl
def td24 : TD := { flat := false, kind := .strct [(0, 1, false), (1, 1, false), (2, 1, false)], size := 3, bytes := 56, zero := .agg #[.int .i64 0, .slice none 0 0, .slice none 0 0] }
theorem tyok24 : TyOk Tryz.prog 24 td24 := tyOk_mk (by kernel_rfl) (by kernel_rfl) (by rfl) rfl
def td26 : TD := { flat := false, kind := .strct [(0, 1, false), (1, 1, false)], size := 2, bytes := 32, zero := .agg #[.slice none 0 0, .int .i64 0] }
theorem tyok26 : TyOk Tryz.prog 26 td26 := tyOk_mk (by kernel_rfl) (by kernel_rfl) (by rfl) rfl
def td27 : TD := { flat := false, kind := .slc 29, size := 1, bytes := 24, zero := .slice none 0 0 }
theorem tyok27 : TyOk Tryz.prog 27 td27 := tyOk_mk (by kernel_rfl) (by kernel_rfl) (by rfl) rfl
def td29 : TD := { flat := false, kind := .strct [(0, 1, false), (1, 2, true), (3, 1, false), (4, 1, false)], size := 5, bytes := 72, zero := .agg #[.int .i64 0, .slice none 0 0, .int .i64 0, .int .i64 0, .slice none 0 0] }
theorem tyok29 : TyOk Tryz.prog 29 td29 := tyOk_mk (by kernel_rfl) (by kernel_rfl) (by rfl) rfl
def td33 : TD := { flat := false, kind := .slc 39, size := 1, bytes := 24, zero := .slice none 0 0 }
theorem tyok33 : TyOk Tryz.prog 33 td33 := tyOk_mk (by kernel_rfl) (by kernel_rfl) (by rfl) rfl
def td35 : TD := { flat := false, kind := .strct [(0, 1, false), (1, 1, false), (2, 1, false)], size := 3, bytes := 56, zero := .agg #[.int .i64 0, .slice none 0 0, .slice none 0 0] }
theorem tyok35 : TyOk Tryz.prog 35 td35 := tyOk_mk (by kernel_rfl) (by kernel_rfl) (by rfl) rfl
def td39 : TD := { flat := false, kind := .strct [(0, 1, false), (1, 1, false)], size := 2, bytes := 32, zero := .agg #[.slice none 0 0, .int .i64 0] }
theorem tyok39 : TyOk Tryz.prog 39 td39 := tyOk_mk (by kernel_rfl) (by kernel_rfl) (by rfl) rfl
def td40 : TD := { flat := false, kind := .slc 42, size := 1, bytes := 24, zero := .slice none 0 0 }
theorem tyok40 : TyOk Tryz.prog 40 td40 := tyOk_mk (by kernel_rfl) (by kernel_rfl) (by rfl) rfl
def td42 : TD := { flat := false, kind := .strct [(0, 1, false), (1, 2, true), (3, 1, false), (4, 1, false)], size := 5, bytes := 72, zero := .agg #[.int .i64 0, .slice none 0 0, .int .i64 0, .int .i64 0, .slice none 0 0] }
theorem tyok42 : TyOk Tryz.prog 42 td42 := tyOk_mk (by kernel_rfl) (by kernel_rfl) (by rfl) rfl
def td44 : TD := { flat := false, kind := .ptr 129, size := 1, bytes := 8, zero := .pointer none }
theorem tyok44 : TyOk Tryz.prog 44 td44 := tyOk_mk (by kernel_rfl) (by kernel_rfl) (by rfl) rfl
def td48 : TD := { flat := true, kind := .strct [(0, 1, false), (1, 1, false)], size := 2, bytes := 16, zero := .agg #[.int .i64 0, .int .i64 0] }
theorem tyok48 : TyOk Tryz.prog 48 td48 := tyOk_flat (by kernel_rfl) (by kernel_rfl) (by rfl) rfl (by kernel_rfl) (by kernel_rfl) (by kernel_rfl) (by kernel_rfl)
def td49 : TD := { flat := false, kind := .slc 51, size := 1, bytes := 24, zero := .slice none 0 0 }
theorem tyok49 : TyOk Tryz.prog 49 td49 := tyOk_mk (by kernel_rfl) (by kernel_rfl) (by rfl) rfl
def td51 : TD := { flat := false, kind := .strct [(0, 1, false), (1, 2, true), (3, 1, false)], size := 4, bytes := 64, zero := .agg #[.slice none 0 0, .int .i64 0, .int .i64 0, .slice none 0 0] }
theorem tyok51 : TyOk Tryz.prog 51 td51 := tyOk_mk (by kernel_rfl) (by kernel_rfl) (by rfl) rfl
def td52 : TD := { flat := false, kind := .int .i64, size := 1, bytes := 8, zero := .int .i64 0 }
theorem tyok52 : TyOk Tryz.prog 52 td52 := tyOk_mk (by kernel_rfl) (by kernel_rfl) (by rfl) rfl
def td55 : TD := { flat := true, kind := .strct [(0, 1, false), (1, 1, false)], size := 2, bytes := 16, zero := .agg #[.int .i64 0, .int .i64 0] }
theorem tyok55 : TyOk Tryz.prog 55 td55 := tyOk_flat (by kernel_rfl) (by kernel_rfl) (by rfl) rfl (by kernel_rfl) (by kernel_rfl) (by kernel_rfl) (by kernel_rfl)
def td56 : TD := { flat := false, kind := .slc 58, size := 1, bytes := 24, zero := .slice none 0 0 }
theorem tyok56 : TyOk Tryz.prog 56 td56 := tyOk_mk (by kernel_rfl) (by kernel_rfl) (by rfl) rfl
def td58 : TD := { flat := false, kind := .strct [(0, 1, false), (1, 2, true), (3, 1, false)], size := 4, bytes := 64, zero := .agg #[.slice none 0 0, .int .i64 0, .int .i64 0, .slice none 0 0] }
theorem tyok58 : TyOk Tryz.prog 58 td58 := tyOk_mk (by kernel_rfl) (by kernel_rfl) (by rfl) rfl
def td72 : TD := { flat := false, kind := .slc 3, size := 1, bytes := 24, zero := .slice none 0 0 }
theorem tyok72 : TyOk Tryz.prog 72 td72 := tyOk_mk (by kernel_rfl) (by kernel_rfl) (by rfl) rfl
def td84 : TD := { flat := false, kind := .other, size := 1, bytes := 8, zero := .nilFunc }
theorem tyok84 : TyOk Tryz.prog 84 td84 := tyOk_mk (by kernel_rfl) (by kernel_rfl) (by rfl) rfl
def td100 : TD := { flat := false, kind := .int .u64, size := 1, bytes := 8, zero := .int .u64 0 }
theorem tyok100 : TyOk Tryz.prog 100 td100 := tyOk_mk (by kernel_rfl) (by kernel_rfl) (by rfl) rfl
def td105 : TD := { flat := false, kind := .ptr 107, size := 1, bytes := 8, zero := .pointer none }
theorem tyok105 : TyOk Tryz.prog 105 td105 := tyOk_mk (by kernel_rfl) (by kernel_rfl) (by rfl) rfl
def td107 : TD := { flat := false, kind := .strct [(0, 1, false), (1, 1, false), (2, 1, false)], size := 3, bytes := 24, zero := .agg #[.int .i64 0, .int .i64 0, .int .i64 0] }
theorem tyok107 : TyOk Tryz.prog 107 td107 := tyOk_mk (by kernel_rfl) (by kernel_rfl) (by rfl) rfl
def td114 : TD := { flat := false, kind := .strct [], size := 0, bytes := 0, zero := .agg #[] }
theorem tyok114 : TyOk Tryz.prog 114 td114 := tyOk_mk (by kernel_rfl) (by kernel_rfl) (by rfl) rfl
def td115 : TD := { flat := false, kind := .strct [], size := 0, bytes := 0, zero := .agg #[] }
theorem tyok115 : TyOk Tryz.prog 115 td115 := tyOk_mk (by kernel_rfl) (by kernel_rfl) (by rfl) rfl
def td117 : TD := { flat := false, kind := .strct [(0, 0, true), (0, 0, true), (0, 1, false)], size := 1, bytes := 8, zero := .agg #[.int .i64 0] }
theorem tyok117 : TyOk Tryz.prog 117 td117 := tyOk_mk (by kernel_rfl) (by kernel_rfl) (by rfl) rfl
def td118 : TD := { flat := false, kind := .strct [], size := 0, bytes := 0, zero := .agg #[] }
theorem tyok118 : TyOk Tryz.prog 118 td118 := tyOk_mk (by kernel_rfl) (by kernel_rfl) (by rfl) rfl
def td119 : TD := { flat := false, kind := .int .u32, size := 1, bytes := 4, zero := .int .u32 0 }
theorem tyok119 : TyOk Tryz.prog 119 td119 := tyOk_mk (by kernel_rfl) (by kernel_rfl) (by rfl) rfl
def td121 : TD := { flat := false, kind := .strct [(0, 0, true), (0, 1, false)], size := 1, bytes := 4, zero := .agg #[.int .u32 0] }
theorem tyok121 : TyOk Tryz.prog 121 td121 := tyOk_mk (by kernel_rfl) (by kernel_rfl) (by rfl) rfl
def td123 : TD := { flat := false, kind := .strct [(0, 1, false), (1, 1, false)], size := 2, bytes := 8, zero := .agg #[.int .i32 0, .int .u32 0] }
theorem tyok123 : TyOk Tryz.prog 123 td123 := tyOk_mk (by kernel_rfl) (by kernel_rfl) (by rfl) rfl
def td125 : TD := { flat := false, kind := .strct [(0, 0, true), (0, 2, true)], size := 2, bytes := 8, zero := .agg #[.int .i32 0, .int .u32 0] }
theorem tyok125 : TyOk Tryz.prog 125 td125 := tyOk_mk (by kernel_rfl) (by kernel_rfl) (by rfl) rfl
def td127 : TD := { flat := false, kind := .strct [(0, 0, true), (0, 1, true), (1, 2, true)], size := 3, bytes := 12, zero := .agg #[.int .u32 0, .int .i32 0, .int .u32 0] }
theorem tyok127 : TyOk Tryz.prog 127 td127 := tyOk_mk (by kernel_rfl) (by kernel_rfl) (by rfl) rfl
def td129 : TD := { flat := false, kind := .strct [(0, 1, true), (1, 1, true), (2, 3, true), (5, 1, true)], size := 6, bytes := 32, zero := .agg #[.int .i64 0, .int .i64 0, .int .u32 0, .int .i32 0, .int .u32 0, .int .u32 0] }
theorem tyok129 : TyOk Tryz.prog 129 td129 := tyOk_mk (by kernel_rfl) (by kernel_rfl) (by rfl) rfl
def td137 : TD := { flat := false, kind := .slc 142, size := 1, bytes := 24, zero := .slice none 0 0 }
theorem tyok137 : TyOk Tryz.prog 137 td137 := tyOk_mk (by kernel_rfl) (by kernel_rfl) (by rfl) rfl
def td142 : TD := { flat := false, kind := .strct [(0, 1, false), (1, 1, false), (2, 1, false), (3, 1, false)], size := 4, bytes := 80, zero := .agg #[.int .i64 0, .slice none 0 0, .slice none 0 0, .slice none 0 0] }
theorem tyok142 : TyOk Tryz.prog 142 td142 := tyOk_mk (by kernel_rfl) (by kernel_rfl) (by rfl) rfl
def td147 : TD := { flat := false, kind := .mapk 3 3, size := 1, bytes := 8, zero := .map none }
theorem tyok147 : TyOk Tryz.prog 147 td147 := tyOk_mk (by kernel_rfl) (by kernel_rfl) (by rfl) rfl
def td152 : TD := { flat := false, kind := .other, size := 1, bytes := 8, zero := .nilFunc }
theorem tyok152 : TyOk Tryz.prog 152 td152 := tyOk_mk (by kernel_rfl) (by kernel_rfl) (by rfl) rfl
def td158 : TD := { flat := false, kind := .other, size := 1, bytes := 8, zero := .nilFunc }
theorem tyok158 : TyOk Tryz.prog 158 td158 := tyOk_mk (by kernel_rfl) (by kernel_rfl) (by rfl) rfl
def td161 : TD := { flat := false, kind := .other, size := 1, bytes := 8, zero := .nilFunc }
theorem tyok161 : TyOk Tryz.prog 161 td161 := tyOk_mk (by kernel_rfl) (by kernel_rfl) (by rfl) rfl
def td162 : TD := { flat := false, kind := .ptr 164, size := 1, bytes := 8, zero := .pointer none }
theorem tyok162 : TyOk Tryz.prog 162 td162 := tyOk_mk (by kernel_rfl) (by kernel_rfl) (by rfl) rfl
def td164 : TD := { flat := false, kind := .strct [(0, 1, false), (1, 1, false), (2, 1, false)], size := 3, bytes := 24, zero := .agg #[.pointer none, .int .i64 0, .int .i64 0] }
theorem tyok164 : TyOk Tryz.prog 164 td164 := tyOk_mk (by kernel_rfl) (by kernel_rfl) (by rfl) rfl
def td169 : TD := { flat := false, kind := .other, size := 1, bytes := 8, zero := .nilFunc }
theorem tyok169 : TyOk Tryz.prog 169 td169 := tyOk_mk (by kernel_rfl) (by kernel_rfl) (by rfl) rfl
def td175 : TD := { flat := true, kind := .strct [(0, 1, false), (1, 1, false)], size := 2, bytes := 16, zero := .agg #[.int .i64 0, .int .i64 0] }
theorem tyok175 : TyOk Tryz.prog 175 td175 := tyOk_flat (by kernel_rfl) (by kernel_rfl) (by rfl) rfl (by kernel_rfl) (by kernel_rfl) (by kernel_rfl) (by kernel_rfl)
def td196 : TD := { flat := false, kind := .ptr 2, size := 1, bytes := 8, zero := .pointer none }
theorem tyok196 : TyOk Tryz.prog 196 td196 := tyOk_mk (by kernel_rfl) (by kernel_rfl) (by rfl) rfl
def td199 : TD := { flat := false, kind := .ptr 119, size := 1, bytes := 8, zero := .pointer none }
theorem tyok199 : TyOk Tryz.prog 199 td199 := tyOk_mk (by kernel_rfl) (by kernel_rfl) (by rfl) rfl
def td201 : TD := { flat := false, kind := .slc 33, size := 1, bytes := 24, zero := .slice none 0 0 }
theorem tyok201 : TyOk Tryz.prog 201 td201 := tyOk_mk (by kernel_rfl) (by kernel_rfl) (by rfl) rfl
def td206 : TD := { flat := false, kind := .strct [(0, 1, false), (1, 1, false), (2, 1, false)], size := 3, bytes := 40, zero := .agg #[.pointer none, .slice none 0 0, .int .i64 0] }
theorem tyok206 : TyOk Tryz.prog 206 td206 := tyOk_mk (by kernel_rfl) (by kernel_rfl) (by rfl) rfl
def td209 : TD := { flat := false, kind := .other, size := 1, bytes := 8, zero := .nilFunc }
theorem tyok209 : TyOk Tryz.prog 209 td209 := tyOk_mk (by kernel_rfl) (by kernel_rfl) (by rfl) rfl
def td212 : TD := { flat := false, kind := .ptr 3, size := 1, bytes := 8, zero := .pointer none }
theorem tyok212 : TyOk Tryz.prog 212 td212 := tyOk_mk (by kernel_rfl) (by kernel_rfl) (by rfl) rfl
def td219 : TD := { flat := false, kind := .other, size := 1, bytes := 8, zero := .nilFunc }
theorem tyok219 : TyOk Tryz.prog 219 td219 := tyOk_mk (by kernel_rfl) (by kernel_rfl) (by rfl) rfl
def td231 : TD := { flat := false, kind := .other, size := 1, bytes := 8, zero := .nilFunc }
theorem tyok231 : TyOk Tryz.prog 231 td231 := tyOk_mk (by kernel_rfl) (by kernel_rfl) (by rfl) rfl
def td234 : TD := { flat := false, kind := .mapk 3 4, size := 1, bytes := 8, zero := .map none }
theorem tyok234 : TyOk Tryz.prog 234 td234 := tyOk_mk (by kernel_rfl) (by kernel_rfl) (by rfl) rfl
def td244 : TD := { flat := false, kind := .ptr 127, size := 1, bytes := 8, zero := .pointer none }
theorem tyok244 : TyOk Tryz.prog 244 td244 := tyOk_mk (by kernel_rfl) (by kernel_rfl) (by rfl) rfl
def td248 : TD := { flat := false, kind := .ptr 123, size := 1, bytes := 8, zero := .pointer none }
theorem tyok248 : TyOk Tryz.prog 248 td248 := tyOk_mk (by kernel_rfl) (by kernel_rfl) (by rfl) rfl
def td250 : TD := { flat := false, kind := .ptr 21, size := 1, bytes := 8, zero := .pointer none }
theorem tyok250 : TyOk Tryz.prog 250 td250 := tyOk_mk (by kernel_rfl) (by kernel_rfl) (by rfl) rfl
def tabL : List (Nat × TD) := [(1, td1), (2, td2), (3, td3), (4, td4), (9, td9), (21, td21), (22, td22), (24, td24), (26, td26), (27, td27), (29, td29), (33, td33), (35, td35), (39, td39), (40, td40), (42, td42), (44, td44), (48, td48), (49, td49), (51, td51), (52, td52), (55, td55), (56, td56), (58, td58), (72, td72), (84, td84), (100, td100), (105, td105), (107, td107), (114, td114), (115, td115), (117, td117), (118, td118), (119, td119), (121, td121), (123, td123), (125, td125), (127, td127), (129, td129), (137, td137), (142, td142), (147, td147), (152, td152), (158, td158), (161, td161), (162, td162), (164, td164), (169, td169), (175, td175), (196, td196), (199, td199), (201, td201), (206, td206), (209, td209), (212, td212), (219, td219), (231, td231), (234, td234), (244, td244), (248, td248), (250, td250)]
def tab (T : Nat) : Option TD := (tabL.find? (fun p => p.1 == T)).map (·.2)
theorem tabL_ok : ∀ p ∈ tabL, TyOk Tryz.prog p.1 p.2 := List.forall_mem_cons.2 ⟨tyok1, List.forall_mem_cons.2 ⟨tyok2, List.forall_mem_cons.2 ⟨tyok3, List.forall_mem_cons.2 ⟨tyok4, List.forall_mem_cons.2 ⟨tyok9, List.forall_mem_cons.2 ⟨tyok21, List.forall_mem_cons.2 ⟨tyok22, List.forall_mem_cons.2 ⟨tyok24, List.forall_mem_cons.2 ⟨tyok26, List.forall_mem_cons.2 ⟨tyok27, List.forall_mem_cons.2 ⟨tyok29, List.forall_mem_cons.2 ⟨tyok33, List.forall_mem_cons.2 ⟨tyok35, List.forall_mem_cons.2 ⟨tyok39, List.forall_mem_cons.2 ⟨tyok40, List.forall_mem_cons.2 ⟨tyok42, List.forall_mem_cons.2 ⟨tyok44, List.forall_mem_cons.2 ⟨tyok48, List.forall_mem_cons.2 ⟨tyok49, List.forall_mem_cons.2 ⟨tyok51, List.forall_mem_cons.2 ⟨tyok52, List.forall_mem_cons.2 ⟨tyok55, List.forall_mem_cons.2 ⟨tyok56, List.forall_mem_cons.2 ⟨tyok58, List.forall_mem_cons.2 ⟨tyok72, List.forall_mem_cons.2 ⟨tyok84, List.forall_mem_cons.2 ⟨tyok100, List.forall_mem_cons.2 ⟨tyok105, List.forall_mem_cons.2 ⟨tyok107, List.forall_mem_cons.2 ⟨tyok114, List.forall_mem_cons.2 ⟨tyok115, List.forall_mem_cons.2 ⟨tyok117, List.forall_mem_cons.2 ⟨tyok118, List.forall_mem_cons.2 ⟨tyok119, List.forall_mem_cons.2 ⟨tyok121, List.forall_mem_cons.2 ⟨tyok123, List.forall_mem_cons.2 ⟨tyok125, List.forall_mem_cons.2 ⟨tyok127, List.forall_mem_cons.2 ⟨tyok129, List.forall_mem_cons.2 ⟨tyok137, List.forall_mem_cons.2 ⟨tyok142, List.forall_mem_cons.2 ⟨tyok147, List.forall_mem_cons.2 ⟨tyok152, List.forall_mem_cons.2 ⟨tyok158, List.forall_mem_cons.2 ⟨tyok161, List.forall_mem_cons.2 ⟨tyok162, List.forall_mem_cons.2 ⟨tyok164, List.forall_mem_cons.2 ⟨tyok169, List.forall_mem_cons.2 ⟨tyok175, List.forall_mem_cons.2 ⟨tyok196, List.forall_mem_cons.2 ⟨tyok199, List.forall_mem_cons.2 ⟨tyok201, List.forall_mem_cons.2 ⟨tyok206, List.forall_mem_cons.2 ⟨tyok209, List.forall_mem_cons.2 ⟨tyok212, List.forall_mem_cons.2 ⟨tyok219, List.forall_mem_cons.2 ⟨tyok231, List.forall_mem_cons.2 ⟨tyok234, List.forall_mem_cons.2 ⟨tyok244, List.forall_mem_cons.2 ⟨tyok248, List.forall_mem_cons.2 ⟨tyok250, fun p h => by cases h⟩⟩⟩⟩⟩⟩⟩⟩⟩⟩⟩⟩⟩⟩⟩⟩⟩⟩⟩⟩⟩⟩⟩⟩⟩⟩⟩⟩⟩⟩⟩⟩⟩⟩⟩⟩⟩⟩⟩⟩⟩⟩⟩⟩⟩⟩⟩⟩⟩⟩⟩⟩⟩⟩⟩⟩⟩⟩⟩⟩⟩
theorem tab_ok : TabOk Tryz.prog tab := tabOk_of tabL_ok
theorem tab_1 : tab 1 = some { flat := false, kind := .other, size := 1, bytes := 8, zero := .nilFunc } := rfl
theorem tab_2 : tab 2 = some { flat := false, kind := .int .i64, size := 1, bytes := 8, zero := .int .i64 0 } := rfl
theorem tab_3 : tab 3 = some { flat := false, kind := .int .i64, size := 1, bytes := 8, zero := .int .i64 0 } := rfl
theorem tab_4 : tab 4 = some { flat := false, kind := .bool, size := 1, bytes := 1, zero := .bool false } := rfl
theorem tab_9 : tab 9 = some { flat := false, kind := .str, size := 1, bytes := 16, zero := .string ⟨#[]⟩ } := rfl
theorem tab_21 : tab 21 = some { flat := false, kind := .int .i32, size := 1, bytes := 4, zero := .int .i32 0 } := rfl
theorem tab_22 : tab 22 = some { flat := false, kind := .slc 26, size := 1, bytes := 24, zero := .slice none 0 0 } := rfl
theorem tab_24 : tab 24 = some { flat := false, kind := .strct [(0, 1, false), (1, 1, false), (2, 1, false)], size := 3, bytes := 56, zero := .agg #[.int .i64 0, .slice none 0 0, .slice none 0 0] } := rfl
theorem tab_26 : tab 26 = some { flat := false, kind := .strct [(0, 1, false), (1, 1, false)], size := 2, bytes := 32, zero := .agg #[.slice none 0 0, .int .i64 0] } := rfl
theorem tab_27 : tab 27 = some { flat := false, kind := .slc 29, size := 1, bytes := 24, zero := .slice none 0 0 } := rfl
theorem tab_29 : tab 29 = some { flat := false, kind := .strct [(0, 1, false), (1, 2, true), (3, 1, false), (4, 1, false)], size := 5, bytes := 72, zero := .agg #[.int .i64 0, .slice none 0 0, .int .i64 0, .int .i64 0, .slice none 0 0] } := rfl
theorem tab_33 : tab 33 = some { flat := false, kind := .slc 39, size := 1, bytes := 24, zero := .slice none 0 0 } := rfl
theorem tab_35 : tab 35 = some { flat := false, kind := .strct [(0, 1, false), (1, 1, false), (2, 1, false)], size := 3, bytes := 56, zero := .agg #[.int .i64 0, .slice none 0 0, .slice none 0 0] } := rfl
theorem tab_39 : tab 39 = some { flat := false, kind := .strct [(0, 1, false), (1, 1, false)], size := 2, bytes := 32, zero := .agg #[.slice none 0 0, .int .i64 0] } := rfl
theorem tab_40 : tab 40 = some { flat := false, kind := .slc 42, size := 1, bytes := 24, zero := .slice none 0 0 } := rfl
theorem tab_42 : tab 42 = some { flat := false, kind := .strct [(0, 1, false), (1, 2, true), (3, 1, false), (4, 1, false)], size := 5, bytes := 72, zero := .agg #[.int .i64 0, .slice none 0 0, .int .i64 0, .int .i64 0, .slice none 0 0] } := rfl
theorem tab_44 : tab 44 = some { flat := false, kind := .ptr 129, size := 1, bytes := 8, zero := .pointer none } := rfl
theorem tab_48 : tab 48 = some { flat := true, kind := .strct [(0, 1, false), (1, 1, false)], size := 2, bytes := 16, zero := .agg #[.int .i64 0, .int .i64 0] } := rfl
theorem tab_49 : tab 49 = some { flat := false, kind := .slc 51, size := 1, bytes := 24, zero := .slice none 0 0 } := rfl
theorem tab_51 : tab 51 = some { flat := false, kind := .strct [(0, 1, false), (1, 2, true), (3, 1, false)], size := 4, bytes := 64, zero := .agg #[.slice none 0 0, .int .i64 0, .int .i64 0, .slice none 0 0] } := rfl
theorem tab_52 : tab 52 = some { flat := false, kind := .int .i64, size := 1, bytes := 8, zero := .int .i64 0 } := rfl
theorem tab_55 : tab 55 = some { flat := true, kind := .strct [(0, 1, false), (1, 1, false)], size := 2, bytes := 16, zero := .agg #[.int .i64 0, .int .i64 0] } := rfl
theorem tab_56 : tab 56 = some { flat := false, kind := .slc 58, size := 1, bytes := 24, zero := .slice none 0 0 } := rfl
theorem tab_58 : tab 58 = some { flat := false, kind := .strct [(0, 1, false), (1, 2, true), (3, 1, false)], size := 4, bytes := 64, zero := .agg #[.slice none 0 0, .int .i64 0, .int .i64 0, .slice none 0 0] } := rfl
theorem tab_72 : tab 72 = some { flat := false, kind := .slc 3, size := 1, bytes := 24, zero := .slice none 0 0 } := rfl
theorem tab_84 : tab 84 = some { flat := false, kind := .other, size := 1, bytes := 8, zero := .nilFunc } := rfl
theorem tab_100 : tab 100 = some { flat := false, kind := .int .u64, size := 1, bytes := 8, zero := .int .u64 0 } := rfl
theorem tab_105 : tab 105 = some { flat := false, kind := .ptr 107, size := 1, bytes := 8, zero := .pointer none } := rfl
theorem tab_107 : tab 107 = some { flat := false, kind := .strct [(0, 1, false), (1, 1, false), (2, 1, false)], size := 3, bytes := 24, zero := .agg #[.int .i64 0, .int .i64 0, .int .i64 0] } := rfl
theorem tab_114 : tab 114 = some { flat := false, kind := .strct [], size := 0, bytes := 0, zero := .agg #[] } := rfl
theorem tab_115 : tab 115 = some { flat := false, kind := .strct [], size := 0, bytes := 0, zero := .agg #[] } := rfl
theorem tab_117 : tab 117 = some { flat := false, kind := .strct [(0, 0, true), (0, 0, true), (0, 1, false)], size := 1, bytes := 8, zero := .agg #[.int .i64 0] } := rfl
theorem tab_118 : tab 118 = some { flat := false, kind := .strct [], size := 0, bytes := 0, zero := .agg #[] } := rfl
theorem tab_119 : tab 119 = some { flat := false, kind := .int .u32, size := 1, bytes := 4, zero := .int .u32 0 } := rfl
theorem tab_121 : tab 121 = some { flat := false, kind := .strct [(0, 0, true), (0, 1, false)], size := 1, bytes := 4, zero := .agg #[.int .u32 0] } := rfl
theorem tab_123 : tab 123 = some { flat := false, kind := .strct [(0, 1, false), (1, 1, false)], size := 2, bytes := 8, zero := .agg #[.int .i32 0, .int .u32 0] } := rfl
theorem tab_125 : tab 125 = some { flat := false, kind := .strct [(0, 0, true), (0, 2, true)], size := 2, bytes := 8, zero := .agg #[.int .i32 0, .int .u32 0] } := rfl
theorem tab_127 : tab 127 = some { flat := false, kind := .strct [(0, 0, true), (0, 1, true), (1, 2, true)], size := 3, bytes := 12, zero := .agg #[.int .u32 0, .int .i32 0, .int .u32 0] } := rfl
theorem tab_129 : tab 129 = some { flat := false, kind := .strct [(0, 1, true), (1, 1, true), (2, 3, true), (5, 1, true)], size := 6, bytes := 32, zero := .agg #[.int .i64 0, .int .i64 0, .int .u32 0, .int .i32 0, .int .u32 0, .int .u32 0] } := rfl
theorem tab_137 : tab 137 = some { flat := false, kind := .slc 142, size := 1, bytes := 24, zero := .slice none 0 0 } := rfl
theorem tab_142 : tab 142 = some { flat := false, kind := .strct [(0, 1, false), (1, 1, false), (2, 1, false), (3, 1, false)], size := 4, bytes := 80, zero := .agg #[.int .i64 0, .slice none 0 0, .slice none 0 0, .slice none 0 0] } := rfl
theorem tab_147 : tab 147 = some { flat := false, kind := .mapk 3 3, size := 1, bytes := 8, zero := .map none } := rfl
theorem tab_152 : tab 152 = some { flat := false, kind := .other, size := 1, bytes := 8, zero := .nilFunc } := rfl
theorem tab_158 : tab 158 = some { flat := false, kind := .other, size := 1, bytes := 8, zero := .nilFunc } := rfl
theorem tab_161 : tab 161 = some { flat := false, kind := .other, size := 1, bytes := 8, zero := .nilFunc } := rfl
theorem tab_162 : tab 162 = some { flat := false, kind := .ptr 164, size := 1, bytes := 8, zero := .pointer none } := rfl
theorem tab_164 : tab 164 = some { flat := false, kind := .strct [(0, 1, false), (1, 1, false), (2, 1, false)], size := 3, bytes := 24, zero := .agg #[.pointer none, .int .i64 0, .int .i64 0] } := rfl
theorem tab_169 : tab 169 = some { flat := false, kind := .other, size := 1, bytes := 8, zero := .nilFunc } := rfl
theorem tab_175 : tab 175 = some { flat := true, kind := .strct [(0, 1, false), (1, 1, false)], size := 2, bytes := 16, zero := .agg #[.int .i64 0, .int .i64 0] } := rfl
theorem tab_196 : tab 196 = some { flat := false, kind := .ptr 2, size := 1, bytes := 8, zero := .pointer none } := rfl
theorem tab_199 : tab 199 = some { flat := false, kind := .ptr 119, size := 1, bytes := 8, zero := .pointer none } := rfl
theorem tab_201 : tab 201 = some { flat := false, kind := .slc 33, size := 1, bytes := 24, zero := .slice none 0 0 } := rfl
theorem tab_206 : tab 206 = some { flat := false, kind := .strct [(0, 1, false), (1, 1, false), (2, 1, false)], size := 3, bytes := 40, zero := .agg #[.pointer none, .slice none 0 0, .int .i64 0] } := rfl
theorem tab_209 : tab 209 = some { flat := false, kind := .other, size := 1, bytes := 8, zero := .nilFunc } := rfl
theorem tab_212 : tab 212 = some { flat := false, kind := .ptr 3, size := 1, bytes := 8, zero := .pointer none } := rfl
theorem tab_219 : tab 219 = some { flat := false, kind := .other, size := 1, bytes := 8, zero := .nilFunc } := rfl
theorem tab_231 : tab 231 = some { flat := false, kind := .other, size := 1, bytes := 8, zero := .nilFunc } := rfl
theorem tab_234 : tab 234 = some { flat := false, kind := .mapk 3 4, size := 1, bytes := 8, zero := .map none } := rfl
theorem tab_244 : tab 244 = some { flat := false, kind := .ptr 127, size := 1, bytes := 8, zero := .pointer none } := rfl
theorem tab_248 : tab 248 = some { flat := false, kind := .ptr 123, size := 1, bytes := 8, zero := .pointer none } := rfl
theorem tab_250 : tab 250 = some { flat := false, kind := .ptr 21, size := 1, bytes := 8, zero := .pointer none } := rfl
theorem tabs : (tab 1 = some { flat := false, kind := .other, size := 1, bytes := 8, zero := .nilFunc }) ∧ (tab 2 = some { flat := false, kind := .int .i64, size := 1, bytes := 8, zero := .int .i64 0 }) ∧ (tab 3 = some { flat := false, kind := .int .i64, size := 1, bytes := 8, zero := .int .i64 0 }) ∧ (tab 4 = some { flat := false, kind := .bool, size := 1, bytes := 1, zero := .bool false }) ∧ (tab 9 = some { flat := false, kind := .str, size := 1, bytes := 16, zero := .string ⟨#[]⟩ }) ∧ (tab 21 = some { flat := false, kind := .int .i32, size := 1, bytes := 4, zero := .int .i32 0 }) ∧ (tab 22 = some { flat := false, kind := .slc 26, size := 1, bytes := 24, zero := .slice none 0 0 }) ∧ (tab 24 = some { flat := false, kind := .strct [(0, 1, false), (1, 1, false), (2, 1, false)], size := 3, bytes := 56, zero := .agg #[.int .i64 0, .slice none 0 0, .slice none 0 0] }) ∧ (tab 26 = some { flat := false, kind := .strct [(0, 1, false), (1, 1, false)], size := 2, bytes := 32, zero := .agg #[.slice none 0 0, .int .i64 0] }) ∧ (tab 27 = some { flat := false, kind := .slc 29, size := 1, bytes := 24, zero := .slice none 0 0 }) ∧ (tab 29 = some { flat := false, kind := .strct [(0, 1, false), (1, 2, true), (3, 1, false), (4, 1, false)], size := 5, bytes := 72, zero := .agg #[.int .i64 0, .slice none 0 0, .int .i64 0, .int .i64 0, .slice none 0 0] }) ∧ (tab 33 = some { flat := false, kind := .slc 39, size := 1, bytes := 24, zero := .slice none 0 0 }) ∧ (tab 35 = some { flat := false, kind := .strct [(0, 1, false), (1, 1, false), (2, 1, false)], size := 3, bytes := 56, zero := .agg #[.int .i64 0, .slice none 0 0, .slice none 0 0] }) ∧ (tab 39 = some { flat := false, kind := .strct [(0, 1, false), (1, 1, false)], size := 2, bytes := 32, zero := .agg #[.slice none 0 0, .int .i64 0] }) ∧ (tab 40 = some { flat := false, kind := .slc 42, size := 1, bytes := 24, zero := .slice none 0 0 }) ∧ (tab 42 = some { flat := false, kind := .strct [(0, 1, false), (1, 2, true), (3, 1, false), (4, 1, false)], size := 5, bytes := 72, zero := .agg #[.int .i64 0, .slice none 0 0, .int .i64 0, .int .i64 0, .slice none 0 0] }) ∧ (tab 44 = some { flat := false, kind := .ptr 129, size := 1, bytes := 8, zero := .pointer none }) ∧ (tab 48 = some { flat := true, kind := .strct [(0, 1, false), (1, 1, false)], size := 2, bytes := 16, zero := .agg #[.int .i64 0, .int .i64 0] }) ∧ (tab 49 = some { flat := false, kind := .slc 51, size := 1, bytes := 24, zero := .slice none 0 0 }) ∧ (tab 51 = some { flat := false, kind := .strct [(0, 1, false), (1, 2, true), (3, 1, false)], size := 4, bytes := 64, zero := .agg #[.slice none 0 0, .int .i64 0, .int .i64 0, .slice none 0 0] }) ∧ (tab 52 = some { flat := false, kind := .int .i64, size := 1, bytes := 8, zero := .int .i64 0 }) ∧ (tab 55 = some { flat := true, kind := .strct [(0, 1, false), (1, 1, false)], size := 2, bytes := 16, zero := .agg #[.int .i64 0, .int .i64 0] }) ∧ (tab 56 = some { flat := false, kind := .slc 58, size := 1, bytes := 24, zero := .slice none 0 0 }) ∧ (tab 58 = some { flat := false, kind := .strct [(0, 1, false), (1, 2, true), (3, 1, false)], size := 4, bytes := 64, zero := .agg #[.slice none 0 0, .int .i64 0, .int .i64 0, .slice none 0 0] }) ∧ (tab 72 = some { flat := false, kind := .slc 3, size := 1, bytes := 24, zero := .slice none 0 0 }) ∧ (tab 84 = some { flat := false, kind := .other, size := 1, bytes := 8, zero := .nilFunc }) ∧ (tab 100 = some { flat := false, kind := .int .u64, size := 1, bytes := 8, zero := .int .u64 0 }) ∧ (tab 105 = some { flat := false, kind := .ptr 107, size := 1, bytes := 8, zero := .pointer none }) ∧ (tab 107 = some { flat := false, kind := .strct [(0, 1, false), (1, 1, false), (2, 1, false)], size := 3, bytes := 24, zero := .agg #[.int .i64 0, .int .i64 0, .int .i64 0] }) ∧ (tab 114 = some { flat := false, kind := .strct [], size := 0, bytes := 0, zero := .agg #[] }) ∧ (tab 115 = some { flat := false, kind := .strct [], size := 0, bytes := 0, zero := .agg #[] }) ∧ (tab 117 = some { flat := false, kind := .strct [(0, 0, true), (0, 0, true), (0, 1, false)], size := 1, bytes := 8, zero := .agg #[.int .i64 0] }) ∧ (tab 118 = some { flat := false, kind := .strct [], size := 0, bytes := 0, zero := .agg #[] }) ∧ (tab 119 = some { flat := false, kind := .int .u32, size := 1, bytes := 4, zero := .int .u32 0 }) ∧ (tab 121 = some { flat := false, kind := .strct [(0, 0, true), (0, 1, false)], size := 1, bytes := 4, zero := .agg #[.int .u32 0] }) ∧ (tab 123 = some { flat := false, kind := .strct [(0, 1, false), (1, 1, false)], size := 2, bytes := 8, zero := .agg #[.int .i32 0, .int .u32 0] }) ∧ (tab 125 = some { flat := false, kind := .strct [(0, 0, true), (0, 2, true)], size := 2, bytes := 8, zero := .agg #[.int .i32 0, .int .u32 0] }) ∧ (tab 127 = some { flat := false, kind := .strct [(0, 0, true), (0, 1, true), (1, 2, true)], size := 3, bytes := 12, zero := .agg #[.int .u32 0, .int .i32 0, .int .u32 0] }) ∧ (tab 129 = some { flat := false, kind := .strct [(0, 1, true), (1, 1, true), (2, 3, true), (5, 1, true)], size := 6, bytes := 32, zero := .agg #[.int .i64 0, .int .i64 0, .int .u32 0, .int .i32 0, .int .u32 0, .int .u32 0] }) ∧ (tab 137 = some { flat := false, kind := .slc 142, size := 1, bytes := 24, zero := .slice none 0 0 }) ∧ (tab 142 = some { flat := false, kind := .strct [(0, 1, false), (1, 1, false), (2, 1, false), (3, 1, false)], size := 4, bytes := 80, zero := .agg #[.int .i64 0, .slice none 0 0, .slice none 0 0, .slice none 0 0] }) ∧ (tab 147 = some { flat := false, kind := .mapk 3 3, size := 1, bytes := 8, zero := .map none }) ∧ (tab 152 = some { flat := false, kind := .other, size := 1, bytes := 8, zero := .nilFunc }) ∧ (tab 158 = some { flat := false, kind := .other, size := 1, bytes := 8, zero := .nilFunc }) ∧ (tab 161 = some { flat := false, kind := .other, size := 1, bytes := 8, zero := .nilFunc }) ∧ (tab 162 = some { flat := false, kind := .ptr 164, size := 1, bytes := 8, zero := .pointer none }) ∧ (tab 164 = some { flat := false, kind := .strct [(0, 1, false), (1, 1, false), (2, 1, false)], size := 3, bytes := 24, zero := .agg #[.pointer none, .int .i64 0, .int .i64 0] }) ∧ (tab 169 = some { flat := false, kind := .other, size := 1, bytes := 8, zero := .nilFunc }) ∧ (tab 175 = some { flat := true, kind := .strct [(0, 1, false), (1, 1, false)], size := 2, bytes := 16, zero := .agg #[.int .i64 0, .int .i64 0] }) ∧ (tab 196 = some { flat := false, kind := .ptr 2, size := 1, bytes := 8, zero := .pointer none }) ∧ (tab 199 = some { flat := false, kind := .ptr 119, size := 1, bytes := 8, zero := .pointer none }) ∧ (tab 201 = some { flat := false, kind := .slc 33, size := 1, bytes := 24, zero := .slice none 0 0 }) ∧ (tab 206 = some { flat := false, kind := .strct [(0, 1, false), (1, 1, false), (2, 1, false)], size := 3, bytes := 40, zero := .agg #[.pointer none, .slice none 0 0, .int .i64 0] }) ∧ (tab 209 = some { flat := false, kind := .other, size := 1, bytes := 8, zero := .nilFunc }) ∧ (tab 212 = some { flat := false, kind := .ptr 3, size := 1, bytes := 8, zero := .pointer none }) ∧ (tab 219 = some { flat := false, kind := .other, size := 1, bytes := 8, zero := .nilFunc }) ∧ (tab 231 = some { flat := false, kind := .other, size := 1, bytes := 8, zero := .nilFunc }) ∧ (tab 234 = some { flat := false, kind := .mapk 3 4, size := 1, bytes := 8, zero := .map none }) ∧ (tab 244 = some { flat := false, kind := .ptr 127, size := 1, bytes := 8, zero := .pointer none }) ∧ (tab 248 = some { flat := false, kind := .ptr 123, size := 1, bytes := 8, zero := .pointer none }) ∧ (tab 250 = some { flat := false, kind := .ptr 21, size := 1, bytes := 8, zero := .pointer none }) :=
 ⟨tab_1, tab_2, tab_3, tab_4, tab_9, tab_21, tab_22, tab_24, tab_26, tab_27, tab_29, tab_33, tab_35, tab_39, tab_40, tab_42, tab_44, tab_48, tab_49, tab_51, tab_52, tab_55, tab_56, tab_58, tab_72, tab_84, tab_100, tab_105, tab_107, tab_114, tab_115, tab_117, tab_118, tab_119, tab_121, tab_123, tab_125, tab_127, tab_129, tab_137, tab_142, tab_147, tab_152, tab_158, tab_161, tab_162, tab_164, tab_169, tab_175, tab_196, tab_199, tab_201, tab_206, tab_209, tab_212, tab_219, tab_231, tab_234, tab_244, tab_248, tab_250⟩
end Go.Proofs.YtghlgbhldnkdmaaGreat
