/-
  No cell of these rows narrows 'for every input' (looked for: loops, veiled, ifaces, maps, wideKeys, modest, calm, conditions, laid).
  DERIVED. THE GIVEN ROWS OF THIS SEAT. 4 by the template 'for every input the law returns true; each argument reads behind the call as it read before'; 0 by the template 'total and deterministic' (their statements: YtnkjkpmbgoehkaaGreatTotals.lean).
  GIVEN WITH THE SEED: the statements are not yours to turn. If you find one false, say at which input.
  Laid BY PROGRAM, IN A SANDBOX (cutbox-rows.mjs): the forced cells as the released guide's own fill.sh prints them over the translation e5a389f888b76f4b… (all of the seat's roots in one cut). By AI agents, Wed Nov 11 2026. No macro, syntax, notation, axiom, sorry.
-/
import Derived.Test.YtnkjkpmbgoehkaaGreatChecked
import GoSem.Claim
import GoSem.ClaimJoined
import GoSem.ClaimMapViews
import Derived.JoinedTies
import Derived.KernelRfl
namespace Go.Proofs.YtnkjkpmbgoehkaaGreat
/- THE CELL 'sum', in the pinned program and in every row, IS THE sha256 OF THE DUMP (.gsa) THAT YtnkjkpmbgoehkaaGreatProg.lean LOADS. Nothing in Lean hashes anything: it is a label: what it is worth is what the hold of that sum in a sandbox is worth. -/
noncomputable def Tryz.pinned : Pinned := { name := "ytnkjkpmbgoehkaagreat", sum := "e5a389f888b76f4bf041c971b894c92ac2c47bea3bf87bb5c5a5bf56a91aa8b7", checked := Tryz.checked }
namespace Rows
def none {H : Type} : Left H := { results := [], args := [] }

/-- 'filigreelaw16.ElabTexts': WHATEVER THE INPUT: true; the input reads as it did. -/
def elabTextsSpec : ChangeSpec := { name := "elabTexts", fn := fun _ => fun
  | [d] => { results := [.lit (.bool true)], args := [d] }
  | _ => none }
def elabTextsRow : OpenClaim := { program := "ytnkjkpmbgoehkaagreat", sum := "e5a389f888b76f4bf041c971b894c92ac2c47bea3bf87bb5c5a5bf56a91aa8b7", func := "filigree/filigreelaw16.ElabTexts", spec := "elabTexts", inPlace := ["internal/bytealg.IndexByteString", "sync/atomic.StoreInt64", "sync/atomic.LoadUint32", "sync/atomic.LoadInt64", "sync/atomic.AddInt64", "sync/atomic.StoreUint32", "(*internal/sync.Mutex).Lock", "internal/race.Disable", "sync/atomic.CompareAndSwapInt32", "internal/race.Enable", "internal/race.Acquire", "(*internal/sync.Mutex).lockSlow", "internal/sync.runtime_canSpin", "internal/sync.runtime_doSpin", "internal/sync.throw", "internal/sync.runtime_nanotime", "internal/sync.runtime_SemacquireMutex", "sync/atomic.AddInt32", "(*internal/sync.Mutex).Unlock", "internal/race.ReleaseMerge", "(*internal/sync.Mutex).unlockSlow", "internal/sync.fatal", "internal/sync.runtime_Semrelease"], unfollowed := true, recurses := true, apart := false }
def ElabTextsSaid : Prop := elabTextsRow.holds Tryz.pinned (OpenSpec.ofChange elabTextsSpec)

/-- ITS FALSE NEIGHBOUR: 'it returns false'. Refute it at one input. -/
def elabTextsWrong : ChangeSpec := { name := "elabTexts", fn := fun _ => fun
  | [d] => { results := [.lit (.bool false)], args := [d] }
  | _ => none }
def ElabTextsWrongFalsely : Prop := elabTextsRow.holds Tryz.pinned (OpenSpec.ofChange elabTextsWrong)

/-- 'filigreelaw16.ElabAbove': WHATEVER THE INPUT: true; the input reads as it did. -/
def elabAboveSpec : ChangeSpec := { name := "elabAbove", fn := fun _ => fun
  | [d1, d2, d3] => { results := [.lit (.bool true)], args := [d1, d2, d3] }
  | _ => none }
def elabAboveRow : OpenClaim := { program := "ytnkjkpmbgoehkaagreat", sum := "e5a389f888b76f4bf041c971b894c92ac2c47bea3bf87bb5c5a5bf56a91aa8b7", func := "filigree/filigreelaw16.ElabAbove", spec := "elabAbove", inPlace := ["internal/bytealg.IndexByteString", "sync/atomic.StoreInt64", "sync/atomic.LoadUint32", "sync/atomic.LoadInt64", "sync/atomic.AddInt64", "sync/atomic.StoreUint32", "(*internal/sync.Mutex).Lock", "internal/race.Disable", "sync/atomic.CompareAndSwapInt32", "internal/race.Enable", "internal/race.Acquire", "(*internal/sync.Mutex).lockSlow", "internal/sync.runtime_canSpin", "internal/sync.runtime_doSpin", "internal/sync.throw", "internal/sync.runtime_nanotime", "internal/sync.runtime_SemacquireMutex", "sync/atomic.AddInt32", "(*internal/sync.Mutex).Unlock", "internal/race.ReleaseMerge", "(*internal/sync.Mutex).unlockSlow", "internal/sync.fatal", "internal/sync.runtime_Semrelease"], unfollowed := true, recurses := true, apart := false }
def ElabAboveSaid : Prop := elabAboveRow.holds Tryz.pinned (OpenSpec.ofChange elabAboveSpec)

/-- ITS FALSE NEIGHBOUR: 'it returns false'. Refute it at one input. -/
def elabAboveWrong : ChangeSpec := { name := "elabAbove", fn := fun _ => fun
  | [d1, d2, d3] => { results := [.lit (.bool false)], args := [d1, d2, d3] }
  | _ => none }
def ElabAboveWrongFalsely : Prop := elabAboveRow.holds Tryz.pinned (OpenSpec.ofChange elabAboveWrong)

/-- 'filigreelaw16.ElabWell': WHATEVER THE INPUT: true; the input reads as it did. -/
def elabWellSpec : ChangeSpec := { name := "elabWell", fn := fun _ => fun
  | [d] => { results := [.lit (.bool true)], args := [d] }
  | _ => none }
def elabWellRow : OpenClaim := { program := "ytnkjkpmbgoehkaagreat", sum := "e5a389f888b76f4bf041c971b894c92ac2c47bea3bf87bb5c5a5bf56a91aa8b7", func := "filigree/filigreelaw16.ElabWell", spec := "elabWell", inPlace := ["internal/bytealg.IndexByteString", "sync/atomic.StoreInt64", "sync/atomic.LoadUint32", "sync/atomic.LoadInt64", "sync/atomic.AddInt64", "sync/atomic.StoreUint32", "(*internal/sync.Mutex).Lock", "internal/race.Disable", "sync/atomic.CompareAndSwapInt32", "internal/race.Enable", "internal/race.Acquire", "(*internal/sync.Mutex).lockSlow", "internal/sync.runtime_canSpin", "internal/sync.runtime_doSpin", "internal/sync.throw", "internal/sync.runtime_nanotime", "internal/sync.runtime_SemacquireMutex", "sync/atomic.AddInt32", "(*internal/sync.Mutex).Unlock", "internal/race.ReleaseMerge", "(*internal/sync.Mutex).unlockSlow", "internal/sync.fatal", "internal/sync.runtime_Semrelease"], unfollowed := true, recurses := true, apart := false }
def ElabWellSaid : Prop := elabWellRow.holds Tryz.pinned (OpenSpec.ofChange elabWellSpec)

/-- ITS FALSE NEIGHBOUR: 'it returns false'. Refute it at one input. -/
def elabWellWrong : ChangeSpec := { name := "elabWell", fn := fun _ => fun
  | [d] => { results := [.lit (.bool false)], args := [d] }
  | _ => none }
def ElabWellWrongFalsely : Prop := elabWellRow.holds Tryz.pinned (OpenSpec.ofChange elabWellWrong)

/-- 'filigreelaw16.ElabOnes': WHATEVER THE INPUT: true; the input reads as it did. -/
def elabOnesSpec : ChangeSpec := { name := "elabOnes", fn := fun _ => fun
  | [d1, d2] => { results := [.lit (.bool true)], args := [d1, d2] }
  | _ => none }
def elabOnesRow : OpenClaim := { program := "ytnkjkpmbgoehkaagreat", sum := "e5a389f888b76f4bf041c971b894c92ac2c47bea3bf87bb5c5a5bf56a91aa8b7", func := "filigree/filigreelaw16.ElabOnes", spec := "elabOnes", inPlace := ["internal/bytealg.IndexByteString", "sync/atomic.StoreInt64", "sync/atomic.LoadUint32", "sync/atomic.LoadInt64", "sync/atomic.AddInt64", "sync/atomic.StoreUint32", "(*internal/sync.Mutex).Lock", "internal/race.Disable", "sync/atomic.CompareAndSwapInt32", "internal/race.Enable", "internal/race.Acquire", "(*internal/sync.Mutex).lockSlow", "internal/sync.runtime_canSpin", "internal/sync.runtime_doSpin", "internal/sync.throw", "internal/sync.runtime_nanotime", "internal/sync.runtime_SemacquireMutex", "sync/atomic.AddInt32", "(*internal/sync.Mutex).Unlock", "internal/race.ReleaseMerge", "(*internal/sync.Mutex).unlockSlow", "internal/sync.fatal", "internal/sync.runtime_Semrelease"], unfollowed := true, recurses := true, apart := false }
def ElabOnesSaid : Prop := elabOnesRow.holds Tryz.pinned (OpenSpec.ofChange elabOnesSpec)

/-- ITS FALSE NEIGHBOUR: 'it returns false'. Refute it at one input. -/
def elabOnesWrong : ChangeSpec := { name := "elabOnes", fn := fun _ => fun
  | [d1, d2] => { results := [.lit (.bool false)], args := [d1, d2] }
  | _ => none }
def ElabOnesWrongFalsely : Prop := elabOnesRow.holds Tryz.pinned (OpenSpec.ofChange elabOnesWrong)

/- THE SECOND FORM. 'bulk': how many values and letters a reading holds, each counted each time it is reached (what is shared counts as often as it is met; a slice's spare places count too). A statement '..UptoSaid' is the law's where the arguments, and the package variables that the reading takes, are together of bulk at most 1048576: NARROWER than '..Said'. Prove '..Said' where nothing that the law and all that it calls make is longer than what came in: it says more and counts as full. Else prove '..UptoSaid'. A law counts once. -/
mutual
def uptoBulk {H : Type} : DataW H → Nat
  | .lit (.string bytes) => bytes.length + 1
  | .lit _ => 1
  | .nil => 1
  | .ptr d => uptoBulk d + 1
  | .slice elems spare => uptoBulkAll elems + uptoBulkAll spare + 1
  | .agg parts => uptoBulkAll parts + 1
  | .iface _ d => uptoBulk d + 1
  | .map entries => uptoBulkEntries entries + 1
  | .held _ => 1
def uptoBulkAll {H : Type} : List (DataW H) → Nat
  | [] => 0
  | d :: r => uptoBulk d + uptoBulkAll r
def uptoBulkEntries {H : Type} : List (Lit × DataW H) → Nat
  | [] => 0
  | x :: r => uptoBulkEntry x + uptoBulkEntries r
def uptoBulkEntry {H : Type} : Lit × DataW H → Nat
  | (.string bytes, d) => bytes.length + uptoBulk d + 1
  | (_, d) => uptoBulk d + 1
 end
def uptoSmall : (H : Type) → List (DataW H) → Bool := fun _ ds => decide (uptoBulkAll ds ≤ 1048576)
def OpenSpec.upto (s : _root_.Go.ChangeSpec) : _root_.Go.OpenSpec := { _root_.Go.OpenSpec.ofChange s with cond := some uptoSmall }

/-- 'filigreelaw16.ElabTexts', WHERE WHAT IT READS IS OF BULK AT MOST 1048576: true; the input reads as it did. -/
def elabTextsUptoRow : OpenClaim := { program := "ytnkjkpmbgoehkaagreat", sum := "e5a389f888b76f4bf041c971b894c92ac2c47bea3bf87bb5c5a5bf56a91aa8b7", func := "filigree/filigreelaw16.ElabTexts", spec := "elabTexts", inPlace := ["internal/bytealg.IndexByteString", "sync/atomic.StoreInt64", "sync/atomic.LoadUint32", "sync/atomic.LoadInt64", "sync/atomic.AddInt64", "sync/atomic.StoreUint32", "(*internal/sync.Mutex).Lock", "internal/race.Disable", "sync/atomic.CompareAndSwapInt32", "internal/race.Enable", "internal/race.Acquire", "(*internal/sync.Mutex).lockSlow", "internal/sync.runtime_canSpin", "internal/sync.runtime_doSpin", "internal/sync.throw", "internal/sync.runtime_nanotime", "internal/sync.runtime_SemacquireMutex", "sync/atomic.AddInt32", "(*internal/sync.Mutex).Unlock", "internal/race.ReleaseMerge", "(*internal/sync.Mutex).unlockSlow", "internal/sync.fatal", "internal/sync.runtime_Semrelease"], unfollowed := true, recurses := true, apart := false, narrowed := true }
def ElabTextsUptoSaid : Prop := elabTextsUptoRow.holds Tryz.pinned (OpenSpec.upto elabTextsSpec)

/-- 'filigreelaw16.ElabAbove', WHERE WHAT IT READS IS OF BULK AT MOST 1048576: true; the input reads as it did. -/
def elabAboveUptoRow : OpenClaim := { program := "ytnkjkpmbgoehkaagreat", sum := "e5a389f888b76f4bf041c971b894c92ac2c47bea3bf87bb5c5a5bf56a91aa8b7", func := "filigree/filigreelaw16.ElabAbove", spec := "elabAbove", inPlace := ["internal/bytealg.IndexByteString", "sync/atomic.StoreInt64", "sync/atomic.LoadUint32", "sync/atomic.LoadInt64", "sync/atomic.AddInt64", "sync/atomic.StoreUint32", "(*internal/sync.Mutex).Lock", "internal/race.Disable", "sync/atomic.CompareAndSwapInt32", "internal/race.Enable", "internal/race.Acquire", "(*internal/sync.Mutex).lockSlow", "internal/sync.runtime_canSpin", "internal/sync.runtime_doSpin", "internal/sync.throw", "internal/sync.runtime_nanotime", "internal/sync.runtime_SemacquireMutex", "sync/atomic.AddInt32", "(*internal/sync.Mutex).Unlock", "internal/race.ReleaseMerge", "(*internal/sync.Mutex).unlockSlow", "internal/sync.fatal", "internal/sync.runtime_Semrelease"], unfollowed := true, recurses := true, apart := false, narrowed := true }
def ElabAboveUptoSaid : Prop := elabAboveUptoRow.holds Tryz.pinned (OpenSpec.upto elabAboveSpec)

/-- 'filigreelaw16.ElabWell', WHERE WHAT IT READS IS OF BULK AT MOST 1048576: true; the input reads as it did. -/
def elabWellUptoRow : OpenClaim := { program := "ytnkjkpmbgoehkaagreat", sum := "e5a389f888b76f4bf041c971b894c92ac2c47bea3bf87bb5c5a5bf56a91aa8b7", func := "filigree/filigreelaw16.ElabWell", spec := "elabWell", inPlace := ["internal/bytealg.IndexByteString", "sync/atomic.StoreInt64", "sync/atomic.LoadUint32", "sync/atomic.LoadInt64", "sync/atomic.AddInt64", "sync/atomic.StoreUint32", "(*internal/sync.Mutex).Lock", "internal/race.Disable", "sync/atomic.CompareAndSwapInt32", "internal/race.Enable", "internal/race.Acquire", "(*internal/sync.Mutex).lockSlow", "internal/sync.runtime_canSpin", "internal/sync.runtime_doSpin", "internal/sync.throw", "internal/sync.runtime_nanotime", "internal/sync.runtime_SemacquireMutex", "sync/atomic.AddInt32", "(*internal/sync.Mutex).Unlock", "internal/race.ReleaseMerge", "(*internal/sync.Mutex).unlockSlow", "internal/sync.fatal", "internal/sync.runtime_Semrelease"], unfollowed := true, recurses := true, apart := false, narrowed := true }
def ElabWellUptoSaid : Prop := elabWellUptoRow.holds Tryz.pinned (OpenSpec.upto elabWellSpec)

/-- 'filigreelaw16.ElabOnes', WHERE WHAT IT READS IS OF BULK AT MOST 1048576: true; the input reads as it did. -/
def elabOnesUptoRow : OpenClaim := { program := "ytnkjkpmbgoehkaagreat", sum := "e5a389f888b76f4bf041c971b894c92ac2c47bea3bf87bb5c5a5bf56a91aa8b7", func := "filigree/filigreelaw16.ElabOnes", spec := "elabOnes", inPlace := ["internal/bytealg.IndexByteString", "sync/atomic.StoreInt64", "sync/atomic.LoadUint32", "sync/atomic.LoadInt64", "sync/atomic.AddInt64", "sync/atomic.StoreUint32", "(*internal/sync.Mutex).Lock", "internal/race.Disable", "sync/atomic.CompareAndSwapInt32", "internal/race.Enable", "internal/race.Acquire", "(*internal/sync.Mutex).lockSlow", "internal/sync.runtime_canSpin", "internal/sync.runtime_doSpin", "internal/sync.throw", "internal/sync.runtime_nanotime", "internal/sync.runtime_SemacquireMutex", "sync/atomic.AddInt32", "(*internal/sync.Mutex).Unlock", "internal/race.ReleaseMerge", "(*internal/sync.Mutex).unlockSlow", "internal/sync.fatal", "internal/sync.runtime_Semrelease"], unfollowed := true, recurses := true, apart := false, narrowed := true }
def ElabOnesUptoSaid : Prop := elabOnesUptoRow.holds Tryz.pinned (OpenSpec.upto elabOnesSpec)

end Rows
end Go.Proofs.YtnkjkpmbgoehkaaGreat
