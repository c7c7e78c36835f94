/- Texts of ours laid together for a claim: Sig. -/
import Derived.Test.YtghlgbhldnkdmaaGreatQ30
namespace Go.Proofs.YtghlgbhldnkdmaaGreat
open Go
set_option linter.unusedSimpArgs false
set_option linter.unusedVariables false
def findN {α : Type} : List (Nat × α) → Nat → Option α
 | [], _ => none
 | p :: l, k => (match Nat.beq p.1 k with | true => some p.2 | false => findN l k)
def shtL : List (Nat × ShV) := [(3, .c (.i .i64)), (26, .a [.l, .i .i64]), (29, .a [.i .i64, .l, .i .i64, .i .i64, .l]), (33, .c (.l)), (39, .a [.l, .i .i64]), (42, .a [.i .i64, .l, .i .i64, .i .i64, .l]), (51, .a [.l, .i .i64, .i .i64, .l]), (58, .a [.l, .i .i64, .i .i64, .l]), (142, .a [.i .i64, .l, .l, .l])]
def sht (T : Nat) : ShV := (match findN shtL T with | some x => x | none => .c (.k .top))
def rshL : List (Nat × Sh) := [(0, .t []), (2, .v (.c (.i .i64))), (3, .v (.c (.i .i64))), (4, .v (.c (.b))), (21, .v (.c (.i .i32))), (22, .v (.c (.l))), (26, .v (.a [.l, .i .i64])), (27, .v (.c (.l))), (29, .v (.a [.i .i64, .l, .i .i64, .i .i64, .l])), (33, .v (.c (.l))), (35, .v (.a [.i .i64, .l, .l])), (39, .v (.a [.l, .i .i64])), (40, .v (.c (.l))), (42, .v (.a [.i .i64, .l, .i .i64, .i .i64, .l])), (44, .v (.c (.k .top))), (45, .t [.c (.k .top), .c (.i .i64)]), (49, .v (.c (.l))), (51, .v (.a [.l, .i .i64, .i .i64, .l])), (52, .v (.c (.i .i64))), (53, .t [.a [.l, .i .i64, .i .i64, .l], .c (.i .i64)]), (56, .v (.c (.l))), (58, .v (.a [.l, .i .i64, .i .i64, .l])), (59, .t [.a [.l, .i .i64, .i .i64, .l], .c (.i .i64), .c (.i .i64)]), (69, .t [.c (.i .i64), .c (.i .i64)]), (72, .v (.c (.l))), (75, .t [.a [.l, .i .i64], .c (.i .i64)]), (92, .t [.a [.i .i64, .l, .i .i64, .i .i64, .l], .c (.b)]), (101, .t [.a [.l, .i .i64, .i .i64, .l], .c (.i .i64), .c (.i .i64)]), (103, .t [.a [.l, .i .i64], .c (.i .i64)]), (108, .t [.a [.l, .i .i64, .i .i64, .l], .c (.i .i64)]), (119, .v (.c (.i .u32))), (137, .v (.c (.l))), (138, .t [.c (.l), .c (.i .i64)]), (144, .t [.a [.l, .i .i64], .c (.b)]), (148, .t [.c (.m), .c (.b)]), (190, .t [.a [.l, .i .i64], .c (.b)]), (226, .t [.c (.l), .c (.i .i64)]), (235, .t [.a [.i .i64, .i .i64], .c (.b)])]
def rsh (T : Nat) : Sh := (match findN rshL T with | some x => x | none => .v (.c (.k .top)))
def sigL : List (Nat × Sig) := [(149, .one (.v (.c .c))), (127, .one (.v (.c .c)))]
def sig (f T : Nat) : Sig := (match findN sigL f with | some x => x | none => .one (rsh T))
def extN : Nat → Option XOp
 | 112 => some (.load .i64)
 | 113 => some (.load .u32)
 | 122 => some (.store)
 | 170 => some (.add .i64)
 | 172 => some (.store)
 | 179 => some (.cas .i32)
 | 184 => some (.add .i32)
 | _ => none
theorem ext_ok : ∀ f x, extN f = some x → XOk Tryz.prog f x := by
 intro f x h
 unfold extN at h
 split at h
 ·obtain rfl := Option.some.inj h; exact ⟨_, Tryz.func112, by kernel_rfl, by kernel_rfl, by kernel_rfl, by kernel_rfl⟩
 ·obtain rfl := Option.some.inj h; exact ⟨_, Tryz.func113, by kernel_rfl, by kernel_rfl, by kernel_rfl, by kernel_rfl⟩
 ·obtain rfl := Option.some.inj h; exact ⟨_, Tryz.func122, by kernel_rfl, by kernel_rfl, by kernel_rfl, by kernel_rfl⟩
 ·obtain rfl := Option.some.inj h; exact ⟨_, Tryz.func170, by kernel_rfl, by kernel_rfl, by kernel_rfl, by kernel_rfl⟩
 ·obtain rfl := Option.some.inj h; exact ⟨_, Tryz.func172, by kernel_rfl, by kernel_rfl, by kernel_rfl, by kernel_rfl⟩
 ·obtain rfl := Option.some.inj h; exact ⟨_, Tryz.func179, by kernel_rfl, by kernel_rfl, by kernel_rfl, by kernel_rfl⟩
 ·obtain rfl := Option.some.inj h; exact ⟨_, Tryz.func184, by kernel_rfl, by kernel_rfl, by kernel_rfl, by kernel_rfl⟩
 ·cases h
noncomputable def cfg (nt : Nat) (dr : List (Nat × List (Option (List Nat)) × List (Option (List Nat))) := []) (sg : List (Nat × Sig) := []) (hc : List (Nat × List Nat) := []) (br : List (Nat × Plan) := []) : VCfg := { P := Tryz.prog, tab := tab, sht := sht, sig := (fun f T => match findN sg f with | some x => x | none => sig f T), nt := nt, dr := dr, hc := hc, br := br, sgd := (fun d => findN sg (1000000 + d)), ext := ⟨extN, ext_ok⟩ }
theorem cfg_tab (nt : Nat) (dr : List (Nat × List (Option (List Nat)) × List (Option (List Nat)))) (sg : List (Nat × Sig)) (hc : List (Nat × List Nat)) (br : List (Nat × Plan)) : TabOk (cfg nt dr sg hc br).P (cfg nt dr sg hc br).tab := tab_ok
theorem cfg_ord (nt : Nat) (dr : List (Nat × List (Option (List Nat)) × List (Option (List Nat)))) (sg : List (Nat × Sig)) (hc : List (Nat × List Nat)) (br : List (Nat × Plan)) : (cfg nt dr sg hc br).P.follows .mixedOrders = true := by show Tryz.prog.follows .mixedOrders = true; kernel_rfl
end Go.Proofs.YtghlgbhldnkdmaaGreat
