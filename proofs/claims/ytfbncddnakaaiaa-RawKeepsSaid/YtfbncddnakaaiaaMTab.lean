/- The types that the walks name: each row of the table is the loaded program's own, by the kernel. Laid by a program of ours. -/
import Derived.Test.YtfbncddnakaaiaaMFilR
import Derived.Test.YtfbncddnakaaiaaProg
import Derived.KernelRfl
namespace Go.Proofs.Ytfbncddnakaaiaa
open Go
set_option linter.unusedSimpArgs false
set_option linter.unusedVariables false

/-- int -/
def td3 : TD := { flat := false, kind := .int .i64, size := 1, bytes := 8, zero := .int .i64 0 }
theorem tyok3 : TyOk Try.prog 3 td3 := tyOk_mk (by kernel_rfl) (by kernel_rfl) (by rfl) rfl
/-- bool -/
def td4 : TD := { flat := false, kind := .bool, size := 1, bytes := 1, zero := .bool false }
theorem tyok4 : TyOk Try.prog 4 td4 := tyOk_mk (by kernel_rfl) (by kernel_rfl) (by rfl) rfl
/-- []filigreeref04.Type -/
def td22 : TD := { flat := false, kind := .slc 72, size := 1, bytes := 24, zero := .slice none 0 0 }
theorem tyok22 : TyOk Try.prog 22 td22 := tyOk_mk (by kernel_rfl) (by kernel_rfl) (by rfl) rfl
/-- filigreeref06.Head -/
def td24 : TD := { flat := true, kind := .strct [(0, 1, false), (1, 1, false)], size := 2, bytes := 16, zero := .agg #[.int .i64 0, .int .i64 0] }
theorem tyok24 : TyOk Try.prog 24 td24 := tyOk_flat (by kernel_rfl) (by kernel_rfl) (by rfl) rfl (by kernel_rfl) (by kernel_rfl) (by kernel_rfl) (by kernel_rfl)
/-- []filigreeref06.Term -/
def td25 : TD := { flat := false, kind := .slc 27, size := 1, bytes := 24, zero := .slice none 0 0 }
theorem tyok25 : TyOk Try.prog 25 td25 := tyOk_mk (by kernel_rfl) (by kernel_rfl) (by rfl) rfl
/-- filigreeref06.Term -/
def td27 : TD := { flat := false, kind := .strct [(0, 1, false), (1, 2, true), (3, 1, false)], size := 4, bytes := 64, zero := .agg #[.slice none 0 0, .int .i64 0, .int .i64 0, .slice none 0 0] }
theorem tyok27 : TyOk Try.prog 27 td27 := tyOk_mk (by kernel_rfl) (by kernel_rfl) (by rfl) rfl
/-- []int -/
def td28 : TD := { flat := false, kind := .slc 3, size := 1, bytes := 24, zero := .slice none 0 0 }
theorem tyok28 : TyOk Try.prog 28 td28 := tyOk_mk (by kernel_rfl) (by kernel_rfl) (by rfl) rfl
/-- filigreeref06.World -/
def td32 : TD := { flat := false, kind := .strct [(0, 1, false), (1, 1, false), (2, 1, false)], size := 3, bytes := 56, zero := .agg #[.int .i64 0, .slice none 0 0, .slice none 0 0] }
theorem tyok32 : TyOk Try.prog 32 td32 := tyOk_mk (by kernel_rfl) (by kernel_rfl) (by rfl) rfl
/-- []kind.Type -/
def td34 : TD := { flat := false, kind := .slc 79, size := 1, bytes := 24, zero := .slice none 0 0 }
theorem tyok34 : TyOk Try.prog 34 td34 := tyOk_mk (by kernel_rfl) (by kernel_rfl) (by rfl) rfl
/-- term.Head -/
def td35 : TD := { flat := true, kind := .strct [(0, 1, false), (1, 1, false)], size := 2, bytes := 16, zero := .agg #[.int .i64 0, .int .i64 0] }
theorem tyok35 : TyOk Try.prog 35 td35 := tyOk_flat (by kernel_rfl) (by kernel_rfl) (by rfl) rfl (by kernel_rfl) (by kernel_rfl) (by kernel_rfl) (by kernel_rfl)
/-- []term.Term -/
def td36 : TD := { flat := false, kind := .slc 38, size := 1, bytes := 24, zero := .slice none 0 0 }
theorem tyok36 : TyOk Try.prog 36 td36 := tyOk_mk (by kernel_rfl) (by kernel_rfl) (by rfl) rfl
/-- term.Term -/
def td38 : TD := { flat := false, kind := .strct [(0, 1, false), (1, 2, true), (3, 1, false)], size := 4, bytes := 64, zero := .agg #[.slice none 0 0, .int .i64 0, .int .i64 0, .slice none 0 0] }
theorem tyok38 : TyOk Try.prog 38 td38 := tyOk_mk (by kernel_rfl) (by kernel_rfl) (by rfl) rfl
/-- api.Errno -/
def td39 : TD := { flat := false, kind := .int .i64, size := 1, bytes := 8, zero := .int .i64 0 }
theorem tyok39 : TyOk Try.prog 39 td39 := tyOk_mk (by kernel_rfl) (by kernel_rfl) (by rfl) rfl
/-- []pattern.Use -/
def td54 : TD := { flat := false, kind := .slc 63, size := 1, bytes := 24, zero := .slice none 0 0 }
theorem tyok54 : TyOk Try.prog 54 td54 := tyOk_mk (by kernel_rfl) (by kernel_rfl) (by rfl) rfl
/-- []filigreeref11.Use -/
def td57 : TD := { flat := false, kind := .slc 65, size := 1, bytes := 24, zero := .slice none 0 0 }
theorem tyok57 : TyOk Try.prog 57 td57 := tyOk_mk (by kernel_rfl) (by kernel_rfl) (by rfl) rfl
/-- pattern.Use -/
def td63 : TD := { flat := false, kind := .strct [(0, 1, false), (1, 1, false), (2, 1, false), (3, 1, false)], size := 4, bytes := 80, zero := .agg #[.int .i64 0, .slice none 0 0, .slice none 0 0, .slice none 0 0] }
theorem tyok63 : TyOk Try.prog 63 td63 := tyOk_mk (by kernel_rfl) (by kernel_rfl) (by rfl) rfl
/-- filigreeref11.Use -/
def td65 : TD := { flat := false, kind := .strct [(0, 1, false), (1, 1, false), (2, 1, false), (3, 1, false)], size := 4, bytes := 80, zero := .agg #[.int .i64 0, .slice none 0 0, .slice none 0 0, .slice none 0 0] }
theorem tyok65 : TyOk Try.prog 65 td65 := tyOk_mk (by kernel_rfl) (by kernel_rfl) (by rfl) rfl
/-- filigreeref04.Type -/
def td72 : TD := { flat := false, kind := .strct [(0, 1, false), (1, 1, false)], size := 2, bytes := 32, zero := .agg #[.slice none 0 0, .int .i64 0] }
theorem tyok72 : TyOk Try.prog 72 td72 := tyOk_mk (by kernel_rfl) (by kernel_rfl) (by rfl) rfl
/-- []filigreeref07.Raw -/
def td73 : TD := { flat := false, kind := .slc 75, size := 1, bytes := 24, zero := .slice none 0 0 }
theorem tyok73 : TyOk Try.prog 73 td73 := tyOk_mk (by kernel_rfl) (by kernel_rfl) (by rfl) rfl
/-- filigreeref07.Raw -/
def td75 : TD := { flat := false, kind := .strct [(0, 1, false), (1, 2, true), (3, 1, false), (4, 1, false)], size := 5, bytes := 72, zero := .agg #[.int .i64 0, .slice none 0 0, .int .i64 0, .int .i64 0, .slice none 0 0] }
theorem tyok75 : TyOk Try.prog 75 td75 := tyOk_mk (by kernel_rfl) (by kernel_rfl) (by rfl) rfl
/-- []raw.Raw -/
def td77 : TD := { flat := false, kind := .slc 81, size := 1, bytes := 24, zero := .slice none 0 0 }
theorem tyok77 : TyOk Try.prog 77 td77 := tyOk_mk (by kernel_rfl) (by kernel_rfl) (by rfl) rfl
/-- kind.Type -/
def td79 : TD := { flat := false, kind := .strct [(0, 1, false), (1, 1, false)], size := 2, bytes := 32, zero := .agg #[.slice none 0 0, .int .i64 0] }
theorem tyok79 : TyOk Try.prog 79 td79 := tyOk_mk (by kernel_rfl) (by kernel_rfl) (by rfl) rfl
/-- raw.Raw -/
def td81 : TD := { flat := false, kind := .strct [(0, 1, false), (1, 2, true), (3, 1, false), (4, 1, false)], size := 5, bytes := 72, zero := .agg #[.int .i64 0, .slice none 0 0, .int .i64 0, .int .i64 0, .slice none 0 0] }
theorem tyok81 : TyOk Try.prog 81 td81 := tyOk_mk (by kernel_rfl) (by kernel_rfl) (by rfl) rfl
/-- term.World -/
def td92 : TD := { flat := false, kind := .strct [(0, 1, false), (1, 1, false), (2, 1, false)], size := 3, bytes := 56, zero := .agg #[.int .i64 0, .slice none 0 0, .slice none 0 0] }
theorem tyok92 : TyOk Try.prog 92 td92 := tyOk_mk (by kernel_rfl) (by kernel_rfl) (by rfl) rfl
/-- func(kind.Type, kind.Type) bool -/
def td102 : TD := { flat := false, kind := .other, size := 1, bytes := 8, zero := .nilFunc }
theorem tyok102 : TyOk Try.prog 102 td102 := tyOk_mk (by kernel_rfl) (by kernel_rfl) (by rfl) rfl
/-- func(raw.Raw, raw.Raw) bool -/
def td107 : TD := { flat := false, kind := .other, size := 1, bytes := 8, zero := .nilFunc }
theorem tyok107 : TyOk Try.prog 107 td107 := tyOk_mk (by kernel_rfl) (by kernel_rfl) (by rfl) rfl
/-- map[int]int -/
def td119 : TD := { flat := false, kind := .mapk 3 3, size := 1, bytes := 8, zero := .map none }
theorem tyok119 : TyOk Try.prog 119 td119 := tyOk_mk (by kernel_rfl) (by kernel_rfl) (by rfl) rfl
/-- func(int) int -/
def td124 : TD := { flat := false, kind := .other, size := 1, bytes := 8, zero := .nilFunc }
theorem tyok124 : TyOk Try.prog 124 td124 := tyOk_mk (by kernel_rfl) (by kernel_rfl) (by rfl) rfl
/-- map[int]bool -/
def td135 : TD := { flat := false, kind := .mapk 3 4, size := 1, bytes := 8, zero := .map none }
theorem tyok135 : TyOk Try.prog 135 td135 := tyOk_mk (by kernel_rfl) (by kernel_rfl) (by rfl) rfl
/-- [][]int -/
def td142 : TD := { flat := false, kind := .slc 28, size := 1, bytes := 24, zero := .slice none 0 0 }
theorem tyok142 : TyOk Try.prog 142 td142 := tyOk_mk (by kernel_rfl) (by kernel_rfl) (by rfl) rfl
/-- *int -/
def td156 : TD := { flat := false, kind := .other, size := 1, bytes := 8, zero := .pointer none }
theorem tyok156 : TyOk Try.prog 156 td156 := tyOk_mk (by kernel_rfl) (by kernel_rfl) (by rfl) rfl
/-- func(raw.Raw, int) raw.Raw -/
def td159 : TD := { flat := false, kind := .other, size := 1, bytes := 8, zero := .nilFunc }
theorem tyok159 : TyOk Try.prog 159 td159 := tyOk_mk (by kernel_rfl) (by kernel_rfl) (by rfl) rfl
/-- func(kind.Type) bool -/
def td167 : TD := { flat := false, kind := .other, size := 1, bytes := 8, zero := .nilFunc }
theorem tyok167 : TyOk Try.prog 167 td167 := tyOk_mk (by kernel_rfl) (by kernel_rfl) (by rfl) rfl
/-- [][]kind.Type -/
def td170 : TD := { flat := false, kind := .slc 34, size := 1, bytes := 24, zero := .slice none 0 0 }
theorem tyok170 : TyOk Try.prog 170 td170 := tyOk_mk (by kernel_rfl) (by kernel_rfl) (by rfl) rfl
/-- func(int, kind.Type) bool -/
def td175 : TD := { flat := false, kind := .other, size := 1, bytes := 8, zero := .nilFunc }
theorem tyok175 : TyOk Try.prog 175 td175 := tyOk_mk (by kernel_rfl) (by kernel_rfl) (by rfl) rfl
/-- term.spot -/
def td192 : TD := { flat := true, kind := .strct [(0, 1, false), (1, 1, false)], size := 2, bytes := 16, zero := .agg #[.int .i64 0, .int .i64 0] }
theorem tyok192 : TyOk Try.prog 192 td192 := tyOk_flat (by kernel_rfl) (by kernel_rfl) (by rfl) rfl (by kernel_rfl) (by kernel_rfl) (by kernel_rfl) (by kernel_rfl)
/-- func(term.spot, term.Term) bool -/
def td195 : TD := { flat := false, kind := .other, size := 1, bytes := 8, zero := .nilFunc }
theorem tyok195 : TyOk Try.prog 195 td195 := tyOk_mk (by kernel_rfl) (by kernel_rfl) (by rfl) rfl

def tabL : List (Nat × TD) := [(3, td3), (4, td4), (22, td22), (24, td24), (25, td25), (27, td27), (28, td28), (32, td32), (34, td34), (35, td35), (36, td36), (38, td38), (39, td39), (54, td54), (57, td57), (63, td63), (65, td65), (72, td72), (73, td73), (75, td75), (77, td77), (79, td79), (81, td81), (92, td92), (102, td102), (107, td107), (119, td119), (124, td124), (135, td135), (142, td142), (156, td156), (159, td159), (167, td167), (170, td170), (175, td175), (192, td192), (195, td195)]
def tab (T : Nat) : Option TD := (tabL.find? (fun p => p.1 == T)).map (·.2)
theorem tabL_ok : ∀ p ∈ tabL, TyOk Try.prog p.1 p.2 := List.forall_mem_cons.2 ⟨tyok3, List.forall_mem_cons.2 ⟨tyok4, List.forall_mem_cons.2 ⟨tyok22, List.forall_mem_cons.2 ⟨tyok24, List.forall_mem_cons.2 ⟨tyok25, List.forall_mem_cons.2 ⟨tyok27, List.forall_mem_cons.2 ⟨tyok28, List.forall_mem_cons.2 ⟨tyok32, List.forall_mem_cons.2 ⟨tyok34, List.forall_mem_cons.2 ⟨tyok35, List.forall_mem_cons.2 ⟨tyok36, List.forall_mem_cons.2 ⟨tyok38, List.forall_mem_cons.2 ⟨tyok39, List.forall_mem_cons.2 ⟨tyok54, List.forall_mem_cons.2 ⟨tyok57, List.forall_mem_cons.2 ⟨tyok63, List.forall_mem_cons.2 ⟨tyok65, List.forall_mem_cons.2 ⟨tyok72, List.forall_mem_cons.2 ⟨tyok73, List.forall_mem_cons.2 ⟨tyok75, List.forall_mem_cons.2 ⟨tyok77, List.forall_mem_cons.2 ⟨tyok79, List.forall_mem_cons.2 ⟨tyok81, List.forall_mem_cons.2 ⟨tyok92, List.forall_mem_cons.2 ⟨tyok102, List.forall_mem_cons.2 ⟨tyok107, List.forall_mem_cons.2 ⟨tyok119, List.forall_mem_cons.2 ⟨tyok124, List.forall_mem_cons.2 ⟨tyok135, List.forall_mem_cons.2 ⟨tyok142, List.forall_mem_cons.2 ⟨tyok156, List.forall_mem_cons.2 ⟨tyok159, List.forall_mem_cons.2 ⟨tyok167, List.forall_mem_cons.2 ⟨tyok170, List.forall_mem_cons.2 ⟨tyok175, List.forall_mem_cons.2 ⟨tyok192, List.forall_mem_cons.2 ⟨tyok195, fun p h => by cases h⟩⟩⟩⟩⟩⟩⟩⟩⟩⟩⟩⟩⟩⟩⟩⟩⟩⟩⟩⟩⟩⟩⟩⟩⟩⟩⟩⟩⟩⟩⟩⟩⟩⟩⟩⟩⟩
theorem tab_ok : TabOk Try.prog tab := tabOk_of tabL_ok
theorem tab_3 : tab 3 = some { flat := false, kind := .int .i64, size := 1, bytes := 8, zero := .int .i64 0 } := rfl
theorem tab_4 : tab 4 = some { flat := false, kind := .bool, size := 1, bytes := 1, zero := .bool false } := rfl
theorem tab_22 : tab 22 = some { flat := false, kind := .slc 72, size := 1, bytes := 24, zero := .slice none 0 0 } := rfl
theorem tab_24 : tab 24 = some { flat := true, kind := .strct [(0, 1, false), (1, 1, false)], size := 2, bytes := 16, zero := .agg #[.int .i64 0, .int .i64 0] } := rfl
theorem tab_25 : tab 25 = some { flat := false, kind := .slc 27, size := 1, bytes := 24, zero := .slice none 0 0 } := rfl
theorem tab_27 : tab 27 = some { flat := false, kind := .strct [(0, 1, false), (1, 2, true), (3, 1, false)], size := 4, bytes := 64, zero := .agg #[.slice none 0 0, .int .i64 0, .int .i64 0, .slice none 0 0] } := rfl
theorem tab_28 : tab 28 = some { flat := false, kind := .slc 3, size := 1, bytes := 24, zero := .slice none 0 0 } := rfl
theorem tab_32 : tab 32 = some { flat := false, kind := .strct [(0, 1, false), (1, 1, false), (2, 1, false)], size := 3, bytes := 56, zero := .agg #[.int .i64 0, .slice none 0 0, .slice none 0 0] } := rfl
theorem tab_34 : tab 34 = some { flat := false, kind := .slc 79, size := 1, bytes := 24, zero := .slice none 0 0 } := rfl
theorem tab_35 : tab 35 = some { flat := true, kind := .strct [(0, 1, false), (1, 1, false)], size := 2, bytes := 16, zero := .agg #[.int .i64 0, .int .i64 0] } := rfl
theorem tab_36 : tab 36 = some { flat := false, kind := .slc 38, size := 1, bytes := 24, zero := .slice none 0 0 } := rfl
theorem tab_38 : tab 38 = some { flat := false, kind := .strct [(0, 1, false), (1, 2, true), (3, 1, false)], size := 4, bytes := 64, zero := .agg #[.slice none 0 0, .int .i64 0, .int .i64 0, .slice none 0 0] } := rfl
theorem tab_39 : tab 39 = some { flat := false, kind := .int .i64, size := 1, bytes := 8, zero := .int .i64 0 } := rfl
theorem tab_54 : tab 54 = some { flat := false, kind := .slc 63, size := 1, bytes := 24, zero := .slice none 0 0 } := rfl
theorem tab_57 : tab 57 = some { flat := false, kind := .slc 65, size := 1, bytes := 24, zero := .slice none 0 0 } := rfl
theorem tab_63 : tab 63 = some { flat := false, kind := .strct [(0, 1, false), (1, 1, false), (2, 1, false), (3, 1, false)], size := 4, bytes := 80, zero := .agg #[.int .i64 0, .slice none 0 0, .slice none 0 0, .slice none 0 0] } := rfl
theorem tab_65 : tab 65 = some { flat := false, kind := .strct [(0, 1, false), (1, 1, false), (2, 1, false), (3, 1, false)], size := 4, bytes := 80, zero := .agg #[.int .i64 0, .slice none 0 0, .slice none 0 0, .slice none 0 0] } := rfl
theorem tab_72 : tab 72 = some { flat := false, kind := .strct [(0, 1, false), (1, 1, false)], size := 2, bytes := 32, zero := .agg #[.slice none 0 0, .int .i64 0] } := rfl
theorem tab_73 : tab 73 = some { flat := false, kind := .slc 75, size := 1, bytes := 24, zero := .slice none 0 0 } := rfl
theorem tab_75 : tab 75 = some { flat := false, kind := .strct [(0, 1, false), (1, 2, true), (3, 1, false), (4, 1, false)], size := 5, bytes := 72, zero := .agg #[.int .i64 0, .slice none 0 0, .int .i64 0, .int .i64 0, .slice none 0 0] } := rfl
theorem tab_77 : tab 77 = some { flat := false, kind := .slc 81, size := 1, bytes := 24, zero := .slice none 0 0 } := rfl
theorem tab_79 : tab 79 = some { flat := false, kind := .strct [(0, 1, false), (1, 1, false)], size := 2, bytes := 32, zero := .agg #[.slice none 0 0, .int .i64 0] } := rfl
theorem tab_81 : tab 81 = some { flat := false, kind := .strct [(0, 1, false), (1, 2, true), (3, 1, false), (4, 1, false)], size := 5, bytes := 72, zero := .agg #[.int .i64 0, .slice none 0 0, .int .i64 0, .int .i64 0, .slice none 0 0] } := rfl
theorem tab_92 : tab 92 = some { flat := false, kind := .strct [(0, 1, false), (1, 1, false), (2, 1, false)], size := 3, bytes := 56, zero := .agg #[.int .i64 0, .slice none 0 0, .slice none 0 0] } := rfl
theorem tab_102 : tab 102 = some { flat := false, kind := .other, size := 1, bytes := 8, zero := .nilFunc } := rfl
theorem tab_107 : tab 107 = some { flat := false, kind := .other, size := 1, bytes := 8, zero := .nilFunc } := rfl
theorem tab_119 : tab 119 = some { flat := false, kind := .mapk 3 3, size := 1, bytes := 8, zero := .map none } := rfl
theorem tab_124 : tab 124 = some { flat := false, kind := .other, size := 1, bytes := 8, zero := .nilFunc } := rfl
theorem tab_135 : tab 135 = some { flat := false, kind := .mapk 3 4, size := 1, bytes := 8, zero := .map none } := rfl
theorem tab_142 : tab 142 = some { flat := false, kind := .slc 28, size := 1, bytes := 24, zero := .slice none 0 0 } := rfl
theorem tab_156 : tab 156 = some { flat := false, kind := .other, size := 1, bytes := 8, zero := .pointer none } := rfl
theorem tab_159 : tab 159 = some { flat := false, kind := .other, size := 1, bytes := 8, zero := .nilFunc } := rfl
theorem tab_167 : tab 167 = some { flat := false, kind := .other, size := 1, bytes := 8, zero := .nilFunc } := rfl
theorem tab_170 : tab 170 = some { flat := false, kind := .slc 34, size := 1, bytes := 24, zero := .slice none 0 0 } := rfl
theorem tab_175 : tab 175 = some { flat := false, kind := .other, size := 1, bytes := 8, zero := .nilFunc } := rfl
theorem tab_192 : tab 192 = some { flat := true, kind := .strct [(0, 1, false), (1, 1, false)], size := 2, bytes := 16, zero := .agg #[.int .i64 0, .int .i64 0] } := rfl
theorem tab_195 : tab 195 = some { flat := false, kind := .other, size := 1, bytes := 8, zero := .nilFunc } := rfl
theorem tabs : (tab 3 = some { flat := false, kind := .int .i64, size := 1, bytes := 8, zero := .int .i64 0 }) ∧ (tab 4 = some { flat := false, kind := .bool, size := 1, bytes := 1, zero := .bool false }) ∧ (tab 22 = some { flat := false, kind := .slc 72, size := 1, bytes := 24, zero := .slice none 0 0 }) ∧ (tab 24 = some { flat := true, kind := .strct [(0, 1, false), (1, 1, false)], size := 2, bytes := 16, zero := .agg #[.int .i64 0, .int .i64 0] }) ∧ (tab 25 = some { flat := false, kind := .slc 27, size := 1, bytes := 24, zero := .slice none 0 0 }) ∧ (tab 27 = some { flat := false, kind := .strct [(0, 1, false), (1, 2, true), (3, 1, false)], size := 4, bytes := 64, zero := .agg #[.slice none 0 0, .int .i64 0, .int .i64 0, .slice none 0 0] }) ∧ (tab 28 = some { flat := false, kind := .slc 3, size := 1, bytes := 24, zero := .slice none 0 0 }) ∧ (tab 32 = some { flat := false, kind := .strct [(0, 1, false), (1, 1, false), (2, 1, false)], size := 3, bytes := 56, zero := .agg #[.int .i64 0, .slice none 0 0, .slice none 0 0] }) ∧ (tab 34 = some { flat := false, kind := .slc 79, size := 1, bytes := 24, zero := .slice none 0 0 }) ∧ (tab 35 = some { flat := true, kind := .strct [(0, 1, false), (1, 1, false)], size := 2, bytes := 16, zero := .agg #[.int .i64 0, .int .i64 0] }) ∧ (tab 36 = some { flat := false, kind := .slc 38, size := 1, bytes := 24, zero := .slice none 0 0 }) ∧ (tab 38 = some { flat := false, kind := .strct [(0, 1, false), (1, 2, true), (3, 1, false)], size := 4, bytes := 64, zero := .agg #[.slice none 0 0, .int .i64 0, .int .i64 0, .slice none 0 0] }) ∧ (tab 39 = some { flat := false, kind := .int .i64, size := 1, bytes := 8, zero := .int .i64 0 }) ∧ (tab 54 = some { flat := false, kind := .slc 63, size := 1, bytes := 24, zero := .slice none 0 0 }) ∧ (tab 57 = some { flat := false, kind := .slc 65, size := 1, bytes := 24, zero := .slice none 0 0 }) ∧ (tab 63 = some { flat := false, kind := .strct [(0, 1, false), (1, 1, false), (2, 1, false), (3, 1, false)], size := 4, bytes := 80, zero := .agg #[.int .i64 0, .slice none 0 0, .slice none 0 0, .slice none 0 0] }) ∧ (tab 65 = some { flat := false, kind := .strct [(0, 1, false), (1, 1, false), (2, 1, false), (3, 1, false)], size := 4, bytes := 80, zero := .agg #[.int .i64 0, .slice none 0 0, .slice none 0 0, .slice none 0 0] }) ∧ (tab 72 = some { flat := false, kind := .strct [(0, 1, false), (1, 1, false)], size := 2, bytes := 32, zero := .agg #[.slice none 0 0, .int .i64 0] }) ∧ (tab 73 = some { flat := false, kind := .slc 75, size := 1, bytes := 24, zero := .slice none 0 0 }) ∧ (tab 75 = some { flat := false, kind := .strct [(0, 1, false), (1, 2, true), (3, 1, false), (4, 1, false)], size := 5, bytes := 72, zero := .agg #[.int .i64 0, .slice none 0 0, .int .i64 0, .int .i64 0, .slice none 0 0] }) ∧ (tab 77 = some { flat := false, kind := .slc 81, size := 1, bytes := 24, zero := .slice none 0 0 }) ∧ (tab 79 = some { flat := false, kind := .strct [(0, 1, false), (1, 1, false)], size := 2, bytes := 32, zero := .agg #[.slice none 0 0, .int .i64 0] }) ∧ (tab 81 = some { flat := false, kind := .strct [(0, 1, false), (1, 2, true), (3, 1, false), (4, 1, false)], size := 5, bytes := 72, zero := .agg #[.int .i64 0, .slice none 0 0, .int .i64 0, .int .i64 0, .slice none 0 0] }) ∧ (tab 92 = some { flat := false, kind := .strct [(0, 1, false), (1, 1, false), (2, 1, false)], size := 3, bytes := 56, zero := .agg #[.int .i64 0, .slice none 0 0, .slice none 0 0] }) ∧ (tab 102 = some { flat := false, kind := .other, size := 1, bytes := 8, zero := .nilFunc }) ∧ (tab 107 = some { flat := false, kind := .other, size := 1, bytes := 8, zero := .nilFunc }) ∧ (tab 119 = some { flat := false, kind := .mapk 3 3, size := 1, bytes := 8, zero := .map none }) ∧ (tab 124 = some { flat := false, kind := .other, size := 1, bytes := 8, zero := .nilFunc }) ∧ (tab 135 = some { flat := false, kind := .mapk 3 4, size := 1, bytes := 8, zero := .map none }) ∧ (tab 142 = some { flat := false, kind := .slc 28, size := 1, bytes := 24, zero := .slice none 0 0 }) ∧ (tab 156 = some { flat := false, kind := .other, size := 1, bytes := 8, zero := .pointer none }) ∧ (tab 159 = some { flat := false, kind := .other, size := 1, bytes := 8, zero := .nilFunc }) ∧ (tab 167 = some { flat := false, kind := .other, size := 1, bytes := 8, zero := .nilFunc }) ∧ (tab 170 = some { flat := false, kind := .slc 34, size := 1, bytes := 24, zero := .slice none 0 0 }) ∧ (tab 175 = some { flat := false, kind := .other, size := 1, bytes := 8, zero := .nilFunc }) ∧ (tab 192 = some { flat := true, kind := .strct [(0, 1, false), (1, 1, false)], size := 2, bytes := 16, zero := .agg #[.int .i64 0, .int .i64 0] }) ∧ (tab 195 = some { flat := false, kind := .other, size := 1, bytes := 8, zero := .nilFunc }) :=
  ⟨tab_3, tab_4, tab_22, tab_24, tab_25, tab_27, tab_28, tab_32, tab_34, tab_35, tab_36, tab_38, tab_39, tab_54, tab_57, tab_63, tab_65, tab_72, tab_73, tab_75, tab_77, tab_79, tab_81, tab_92, tab_102, tab_107, tab_119, tab_124, tab_135, tab_142, tab_156, tab_159, tab_167, tab_170, tab_175, tab_192, tab_195⟩

end Go.Proofs.Ytfbncddnakaaiaa
