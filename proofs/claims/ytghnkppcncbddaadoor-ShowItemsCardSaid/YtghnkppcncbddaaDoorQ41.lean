/- Texts of ours laid together for a claim: Vd2. -/
import Derived.Test.YtghnkppcncbddaaDoorQ40
namespace Go.Proofs.YtghnkppcncbddaaDoor
open Go
set_option linter.unusedSimpArgs false
set_option linter.unusedVariables false
set_option maxRecDepth 100000
def vc42_L7 (p0 : (Int × ByteArray × Unit) × (Unit)) (R : AV → Prop) : Prop :=
 LoopP _ p0 fun z51 ag52 =>
 ITE (decide (z51.1.1 > 0))
 (¬ (10 : Int) = 0 ∧
 ByteArray.size (strOfNums [(IntKind.wrap .u8 (IntKind.wrap .i64 (48 + (Int.tmod z51.1.1 10))))]) + ByteArray.size z51.1.2.1 ≤ 9223372036854775807 ∧
 ¬ (10 : Int) = 0 ∧
 ag52 ((IntKind.wrap .i64 (Int.tdiv z51.1.1 10), (strOfNums [(IntKind.wrap .u8 (IntKind.wrap .i64 (48 + (Int.tmod z51.1.1 10))))]) ++ z51.1.2.1, ()), ()))
 (R (nS z51.1.2.1))
def vc42 (a0 : Int) (R : AV → Prop) : Prop :=
 ITE (a0 == (-9223372036854775808))
 (R (nS (⟨#[45, 57, 50, 50, 51, 51, 55, 50, 48, 51, 54, 56, 53, 52, 55, 55, 53, 56, 48, 56]⟩ : ByteArray)))
 (ITE (decide (a0 < 0))
 (∃ (s1 : ByteArray),
 PureIs Tryd.prog 42 [nI (IntKind.wrap .i64 (0 - a0))] (nS s1) ∧
 ByteArray.size (⟨#[45]⟩ : ByteArray) + ByteArray.size s1 ≤ 9223372036854775807 ∧
 R (nS ((⟨#[45]⟩ : ByteArray) ++ s1)))
 (¬ (10 : Int) = 0 ∧
 ¬ (10 : Int) = 0 ∧
 vc42_L7 ((IntKind.wrap .i64 (Int.tdiv a0 10), strOfNums [(IntKind.wrap .u8 (IntKind.wrap .i64 (48 + (Int.tmod a0 10))))], ()), ()) R))
theorem vc42_ok {a0 : Int} {R : AV → Prop} (h : vc42 a0 R) : Pure Tryd.prog 42 [nI a0] R :=
 pure_of_code (C := cfg (Func.ntmps Tryd.f42)) (cfg_tab _ _ _ _ _) (cfg_ord _ _ _ _ _) (L := [{ key := 7, live := [(0, none), (3, none)] }]) (fn := Tryd.f42) Tryd.func42 (by exact rfl) (by kernel_rfl) (by kernel_rfl) (by rfl) (of_eq (by kernel_rfl) h)
end Go.Proofs.YtghnkppcncbddaaDoor
