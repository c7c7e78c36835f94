/- Texts of ours laid together for a claim: Sig. -/
import Derived.Test.YtghnkppcncbddaaDoorQ30
namespace Go.Proofs.YtghnkppcncbddaaDoor
open Go
set_option linter.unusedSimpArgs false
set_option linter.unusedVariables false
def findN {α : Type} : List (Nat × α) → Nat → Option α
 | [], _ => none
 | p :: l, k => (match Nat.beq p.1 k with | true => some p.2 | false => findN l k)
def shtL : List (Nat × ShV) := [(5, .c (.i .u8)), (9, .c (.s)), (24, .a [.i .i64, .s, .i .i64, .l]), (29, .a [.i .i64, .s, .i .i64, .l]), (40, .c (.l)), (42, .a [.i .i64, .l, .l, .i .i64, .i .i64]), (44, .a [.i .i64, .l, .l, .i .i64, .i .i64]), (55, .c (.l)), (60, .a [.l, .i .i64, .i .i64, .l]), (63, .a [.l, .i .i64]), (118, .a [.i .i64, .s, .i .i64])]
def sht (T : Nat) : ShV := (match findN shtL T with | some x => x | none => .c (.k .top))
def rshL : List (Nat × Sh) := [(0, .t []), (3, .v (.c (.i .i64))), (4, .v (.c (.b))), (9, .v (.c (.s))), (27, .v (.c (.l))), (29, .v (.a [.i .i64, .s, .i .i64, .l])), (32, .t [.c (.s), .c (.i .i64)]), (38, .v (.c (.l))), (40, .v (.c (.l))), (44, .v (.a [.i .i64, .l, .l, .i .i64, .i .i64])), (55, .v (.c (.l))), (58, .v (.c (.l))), (60, .v (.a [.l, .i .i64, .i .i64, .l])), (63, .v (.a [.l, .i .i64])), (68, .v (.c (.l))), (78, .t [.a [.s, .i .i64, .i .i64, .i .i64, .b, .b], .c (.b)]), (84, .t [.a [.i .i64, .s, .i .i64, .l], .c (.i .i64)]), (90, .t [.c (.i .i64), .c (.k .top)]), (93, .v (.c (.k .top))), (110, .v (.c (.l))), (112, .v (.a [.i .i64, .i .i64])), (115, .t [.c (.l), .a [.i .i64, .i .i64, .i .i64, .s]]), (128, .t [.a [.i .i64, .s, .i .i64, .l], .c (.b)]), (136, .v (.c (.k .top))), (152, .t [.c (.l), .c (.s)])]
def rsh (T : Nat) : Sh := (match findN rshL T with | some x => x | none => .v (.c (.k .top)))
def sigL : List (Nat × Sig) := []
def sig (f T : Nat) : Sig := (match findN sigL f with | some x => x | none => .one (rsh T))
def extN : Nat → Option XOp
 | 76 => some (.same)
 | _ => none
theorem ext_ok : ∀ f x, extN f = some x → XOk Tryd.prog f x := by
 intro f x h
 unfold extN at h
 split at h
 ·obtain rfl := Option.some.inj h; exact ⟨_, Tryd.func76, by kernel_rfl, by kernel_rfl, by kernel_rfl, by kernel_rfl⟩
 ·cases h
noncomputable def cfg (nt : Nat) (dr : List (Nat × List (Option (List Nat)) × List (Option (List Nat))) := []) (sg : List (Nat × Sig) := []) (hc : List (Nat × List Nat) := []) (br : List (Nat × Plan) := []) : VCfg := { P := Tryd.prog, tab := tab, sht := sht, sig := (fun f T => match findN sg f with | some x => x | none => sig f T), nt := nt, dr := dr, hc := hc, br := br, sgd := (fun d => findN sg (1000000 + d)), ext := ⟨extN, ext_ok⟩ }
theorem cfg_tab (nt : Nat) (dr : List (Nat × List (Option (List Nat)) × List (Option (List Nat)))) (sg : List (Nat × Sig)) (hc : List (Nat × List Nat)) (br : List (Nat × Plan)) : TabOk (cfg nt dr sg hc br).P (cfg nt dr sg hc br).tab := tab_ok
theorem cfg_ord (nt : Nat) (dr : List (Nat × List (Option (List Nat)) × List (Option (List Nat)))) (sg : List (Nat × Sig)) (hc : List (Nat × List Nat)) (br : List (Nat × Plan)) : (cfg nt dr sg hc br).P.follows .mixedOrders = true := by show Tryd.prog.follows .mixedOrders = true; kernel_rfl
end Go.Proofs.YtghnkppcncbddaaDoor
