/- Texts of ours laid together for a claim: Vd2. -/
import Derived.Test.YtjhanogfpkbamaaGreatDoorQ41
namespace Go.Proofs.YtjhanogfpkbamaaGreatDoor
open Go
set_option linter.unusedSimpArgs false
set_option linter.unusedVariables false
set_option maxRecDepth 100000
def vc83_L7 (p0:(Int×ByteArray×Unit)×(Unit)) (R:AV→Prop):Prop :=LoopP _ p0 fun z51 ag52=>ITE (decide (z51.1.1>0)) (¬(10:Int)=0 ∧ByteArray.size (strOfNums [(IntKind.wrap .u8 (IntKind.wrap .i64 (48+(Int.tmod z51.1.1 10))))])+ByteArray.size z51.1.2.1≤9223372036854775807 ∧¬(10:Int)=0 ∧ag52 ((IntKind.wrap .i64 (Int.tdiv z51.1.1 10),(strOfNums [(IntKind.wrap .u8 (IntKind.wrap .i64 (48+(Int.tmod z51.1.1 10))))])++z51.1.2.1,()),())) (R (nS z51.1.2.1))
def vc83 (a0:Int) (R:AV→Prop):Prop :=ITE (a0==(-9223372036854775808)) (R (nS (⟨#[45,57,50,50,51,51,55,50,48,51,54,56,53,52,55,55,53,56,48,56]⟩:ByteArray))) (ITE (decide (a0<0)) (∃(s1:ByteArray),PureIs Tryz.prog 83 [nI (IntKind.wrap .i64 (0-a0))] (nS s1) ∧ByteArray.size (⟨#[45]⟩:ByteArray)+ByteArray.size s1≤9223372036854775807 ∧R (nS ((⟨#[45]⟩:ByteArray)++s1))) (¬(10:Int)=0 ∧¬(10:Int)=0 ∧vc83_L7 ((IntKind.wrap .i64 (Int.tdiv a0 10),strOfNums [(IntKind.wrap .u8 (IntKind.wrap .i64 (48+(Int.tmod a0 10))))],()),()) R))
theorem vc83_ok {a0:Int} {R:AV→Prop} (h:vc83 a0 R):Pure Tryz.prog 83 [nI a0] R:=
 pure_of_code (C:=cfg (Func.ntmps Tryz.f83)) (cfg_tab _ _ _ _ _) (cfg_ord _ _ _ _ _) (L:=[{ key:=7,live:=[(0,none),(3,none)] }]) (fn:=Tryz.f83) Tryz.func83 (by exact rfl) (by kernel_rfl) (by kernel_rfl) (by rfl) (of_eq (by kernel_rfl) h)
end Go.Proofs.YtjhanogfpkbamaaGreatDoor
