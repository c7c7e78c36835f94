/- What elements and results are opened as, out of the types; laid by a program of ours. -/
import Derived.Test.YtfbncddnakaaiaaMVcJ
import Derived.Test.YtfbncddnakaaiaaMTab
namespace Go.Proofs.Ytfbncddnakaaiaa
open Go
set_option linter.unusedSimpArgs false
set_option linter.unusedVariables false

def findN {α : Type} : List (Nat × α) → Nat → Option α
  | [], _ => none
  | p :: l, k => (match Nat.beq p.1 k with | true => some p.2 | false => findN l k)
def shtL : List (Nat × ShV) := [(3, .c (.i .i64)), (27, .a [.l, .i .i64, .i .i64, .l]), (28, .c (.l)), (34, .c (.l)), (38, .a [.l, .i .i64, .i .i64, .l]), (63, .a [.i .i64, .l, .l, .l]), (65, .a [.i .i64, .l, .l, .l]), (72, .a [.l, .i .i64]), (75, .a [.i .i64, .l, .i .i64, .i .i64, .l]), (79, .a [.l, .i .i64]), (81, .a [.i .i64, .l, .i .i64, .i .i64, .l])]
def sht (T : Nat) : ShV := (match findN shtL T with | some x => x | none => .c (.k .top))
def rshL : List (Nat × Sh) := [(3, .v (.c (.i .i64))), (4, .v (.c (.b))), (22, .v (.c (.l))), (25, .v (.c (.l))), (27, .v (.a [.l, .i .i64, .i .i64, .l])), (28, .v (.c (.l))), (34, .v (.c (.l))), (36, .v (.c (.l))), (38, .v (.a [.l, .i .i64, .i .i64, .l])), (39, .v (.c (.i .i64))), (40, .t [.a [.l, .i .i64, .i .i64, .l], .c (.i .i64)]), (44, .t [.a [.l, .i .i64, .i .i64, .l], .c (.i .i64)]), (50, .t [.c (.l), .c (.i .i64)]), (52, .t [.c (.l), .c (.i .i64)]), (54, .v (.c (.l))), (55, .t [.c (.l), .c (.i .i64)]), (57, .v (.c (.l))), (58, .t [.c (.l), .c (.b)]), (72, .v (.a [.l, .i .i64])), (73, .v (.c (.l))), (75, .v (.a [.i .i64, .l, .i .i64, .i .i64, .l])), (77, .v (.c (.l))), (79, .v (.a [.l, .i .i64])), (81, .v (.a [.i .i64, .l, .i .i64, .i .i64, .l])), (89, .t [.a [.l, .i .i64], .c (.i .i64)]), (92, .v (.a [.i .i64, .l, .l])), (94, .t [.a [.l, .i .i64], .c (.i .i64)]), (99, .t [.a [.i .i64, .l, .i .i64, .i .i64, .l], .c (.b)]), (120, .t [.c (.m), .c (.b)]), (130, .t [.a [.l, .i .i64, .i .i64, .l], .c (.b)]), (136, .t [.a [.i .i64, .i .i64], .c (.b)]), (138, .t [.a [.i .i64, .i .i64], .c (.b)]), (142, .v (.c (.l))), (144, .t [.a [.l, .i .i64, .i .i64, .l], .c (.l), .c (.b)]), (161, .t [.a [.l, .i .i64], .c (.b)]), (180, .t [.a [.l, .i .i64], .c (.b)])]
def rsh (T : Nat) : Sh := (match findN rshL T with | some x => x | none => .v (.c (.k .top)))
def sigL : List (Nat × Sig) := [(118, .one (.v (.c .c))), (122, .one (.v (.c .c)))]
def sig (f T : Nat) : Sig := (match findN sigL f with | some x => x | none => .one (rsh T))
noncomputable def cfg (nt : Nat) (dr : List (Nat × List (Option (List Nat)) × List (Option (List Nat))) := []) (sg : List (Nat × Sig) := []) (hc : List (Nat × List Nat) := []) (br : List (Nat × Plan) := []) : VCfg := { P := Try.prog, tab := tab, sht := sht, sig := (fun f T => match findN sg f with | some x => x | none => sig f T), nt := nt, dr := dr, hc := hc, br := br }
theorem cfg_tab (nt : Nat) (dr : List (Nat × List (Option (List Nat)) × List (Option (List Nat)))) (sg : List (Nat × Sig)) (hc : List (Nat × List Nat)) (br : List (Nat × Plan)) : TabOk (cfg nt dr sg hc br).P (cfg nt dr sg hc br).tab := tab_ok
theorem cfg_ord (nt : Nat) (dr : List (Nat × List (Option (List Nat)) × List (Option (List Nat)))) (sg : List (Nat × Sig)) (hc : List (Nat × List Nat)) (br : List (Nat × Plan)) : (cfg nt dr sg hc br).P.follows .mixedOrders = true := by show Try.prog.follows .mixedOrders = true; kernel_rfl

end Go.Proofs.Ytfbncddnakaaiaa
