/-
  NARROWER THAN 'FOR EVERY INPUT', by the rows' own cells (each row's printed sentence says how): NormLongs: loops · NormCosts: loops · PatternBack: loops · NormApps: loops · NormKeeps: loops.
  DERIVED. THE GIVEN ROWS OF THIS SEAT. 5 by the template 'for every input the law returns true; each argument reads behind the call as it read before'; 0 by the template 'total and deterministic' (their statements: YtghlgbhldnkdmaaGreatTotals.lean).
  GIVEN WITH THE SEED: the statements are not yours to turn. If you find one false, say at which input.
  Laid BY PROGRAM, IN A SANDBOX (cutbox-rows.mjs): the forced cells as the released guide's own fill.sh prints them over the translation fd68e34c587dc632… (all of the seat's roots in one cut). By AI agents, Wed Nov 11 2026. No macro, syntax, notation, axiom, sorry.
-/
import Derived.Test.YtghlgbhldnkdmaaGreatChecked
import GoSem.Claim
import GoSem.ClaimJoined
import GoSem.ClaimMapViews
import Derived.JoinedTies
import Derived.KernelRfl
namespace Go.Proofs.YtghlgbhldnkdmaaGreat
/- THE CELL 'sum', in the pinned program and in every row, IS THE sha256 OF THE DUMP (.gsa) THAT YtghlgbhldnkdmaaGreatProg.lean LOADS. Nothing in Lean hashes anything: it is a label: what it is worth is what the hold of that sum in a sandbox is worth. -/
noncomputable def Tryz.pinned : Pinned := { name := "ytghlgbhldnkdmaagreat", sum := "fd68e34c587dc63232aefa134568bac7f93bacdbe98c78285946a5f8497aa1c5", checked := Tryz.checked }
namespace Rows
def none {H : Type} : Left H := { results := [], args := [] }

/-- 'filigreelaw08.NormLongs': WHATEVER THE INPUT: true; the input reads as it did. -/
def normLongsSpec : ChangeSpec := { name := "normLongs", fn := fun _ => fun
  | [d1, d2, d3, d4] => { results := [.lit (.bool true)], args := [d1, d2, d3, d4] }
  | _ => none }
def normLongsRow : OpenClaim := { program := "ytghlgbhldnkdmaagreat", sum := "fd68e34c587dc63232aefa134568bac7f93bacdbe98c78285946a5f8497aa1c5", func := "filigree/filigreelaw08.NormLongs", spec := "normLongs", inPlace := ["sync/atomic.StoreInt64", "sync/atomic.LoadUint32", "sync/atomic.LoadInt64", "sync/atomic.AddInt64", "sync/atomic.StoreUint32", "(*internal/sync.Mutex).Lock", "internal/race.Disable", "sync/atomic.CompareAndSwapInt32", "internal/race.Enable", "internal/race.Acquire", "(*internal/sync.Mutex).lockSlow", "internal/sync.runtime_canSpin", "internal/sync.runtime_doSpin", "internal/sync.throw", "internal/sync.runtime_nanotime", "internal/sync.runtime_SemacquireMutex", "sync/atomic.AddInt32", "(*internal/sync.Mutex).Unlock", "internal/race.ReleaseMerge", "(*internal/sync.Mutex).unlockSlow", "internal/sync.fatal", "internal/sync.runtime_Semrelease"], unfollowed := true, recurses := true, loops := true, apart := false }
def NormLongsSaid : Prop := normLongsRow.holds Tryz.pinned (OpenSpec.ofChange normLongsSpec)

/-- ITS FALSE NEIGHBOUR: 'it returns false'. Refute it at one input. -/
def normLongsWrong : ChangeSpec := { name := "normLongs", fn := fun _ => fun
  | [d1, d2, d3, d4] => { results := [.lit (.bool false)], args := [d1, d2, d3, d4] }
  | _ => none }
def NormLongsWrongFalsely : Prop := normLongsRow.holds Tryz.pinned (OpenSpec.ofChange normLongsWrong)

/-- 'filigreelaw08.NormCosts': WHATEVER THE INPUT: true; the input reads as it did. -/
def normCostsSpec : ChangeSpec := { name := "normCosts", fn := fun _ => fun
  | [d1, d2, d3] => { results := [.lit (.bool true)], args := [d1, d2, d3] }
  | _ => none }
def normCostsRow : OpenClaim := { program := "ytghlgbhldnkdmaagreat", sum := "fd68e34c587dc63232aefa134568bac7f93bacdbe98c78285946a5f8497aa1c5", func := "filigree/filigreelaw08.NormCosts", spec := "normCosts", inPlace := ["sync/atomic.StoreInt64", "sync/atomic.LoadUint32", "sync/atomic.LoadInt64", "sync/atomic.AddInt64", "sync/atomic.StoreUint32", "(*internal/sync.Mutex).Lock", "internal/race.Disable", "sync/atomic.CompareAndSwapInt32", "internal/race.Enable", "internal/race.Acquire", "(*internal/sync.Mutex).lockSlow", "internal/sync.runtime_canSpin", "internal/sync.runtime_doSpin", "internal/sync.throw", "internal/sync.runtime_nanotime", "internal/sync.runtime_SemacquireMutex", "sync/atomic.AddInt32", "(*internal/sync.Mutex).Unlock", "internal/race.ReleaseMerge", "(*internal/sync.Mutex).unlockSlow", "internal/sync.fatal", "internal/sync.runtime_Semrelease"], unfollowed := true, recurses := true, loops := true, apart := false }
def NormCostsSaid : Prop := normCostsRow.holds Tryz.pinned (OpenSpec.ofChange normCostsSpec)

/-- ITS FALSE NEIGHBOUR: 'it returns false'. Refute it at one input. -/
def normCostsWrong : ChangeSpec := { name := "normCosts", fn := fun _ => fun
  | [d1, d2, d3] => { results := [.lit (.bool false)], args := [d1, d2, d3] }
  | _ => none }
def NormCostsWrongFalsely : Prop := normCostsRow.holds Tryz.pinned (OpenSpec.ofChange normCostsWrong)

/-- 'filigreelaw11.PatternBack': WHATEVER THE INPUT: true; the input reads as it did. -/
def patternBackSpec : ChangeSpec := { name := "patternBack", fn := fun _ => fun
  | [d1, d2, d3, d4] => { results := [.lit (.bool true)], args := [d1, d2, d3, d4] }
  | _ => none }
def patternBackRow : OpenClaim := { program := "ytghlgbhldnkdmaagreat", sum := "fd68e34c587dc63232aefa134568bac7f93bacdbe98c78285946a5f8497aa1c5", func := "filigree/filigreelaw11.PatternBack", spec := "patternBack", inPlace := ["sync/atomic.StoreInt64", "sync/atomic.LoadUint32", "sync/atomic.LoadInt64", "sync/atomic.AddInt64", "sync/atomic.StoreUint32", "(*internal/sync.Mutex).Lock", "internal/race.Disable", "sync/atomic.CompareAndSwapInt32", "internal/race.Enable", "internal/race.Acquire", "(*internal/sync.Mutex).lockSlow", "internal/sync.runtime_canSpin", "internal/sync.runtime_doSpin", "internal/sync.throw", "internal/sync.runtime_nanotime", "internal/sync.runtime_SemacquireMutex", "sync/atomic.AddInt32", "(*internal/sync.Mutex).Unlock", "internal/race.ReleaseMerge", "(*internal/sync.Mutex).unlockSlow", "internal/sync.fatal", "internal/sync.runtime_Semrelease"], unfollowed := true, recurses := true, loops := true, apart := false }
def PatternBackSaid : Prop := patternBackRow.holds Tryz.pinned (OpenSpec.ofChange patternBackSpec)

/-- ITS FALSE NEIGHBOUR: 'it returns false'. Refute it at one input. -/
def patternBackWrong : ChangeSpec := { name := "patternBack", fn := fun _ => fun
  | [d1, d2, d3, d4] => { results := [.lit (.bool false)], args := [d1, d2, d3, d4] }
  | _ => none }
def PatternBackWrongFalsely : Prop := patternBackRow.holds Tryz.pinned (OpenSpec.ofChange patternBackWrong)

/-- 'filigreelaw08.NormApps': WHATEVER THE INPUT: true; the input reads as it did. -/
def normAppsSpec : ChangeSpec := { name := "normApps", fn := fun _ => fun
  | [d1, d2, d3, d4] => { results := [.lit (.bool true)], args := [d1, d2, d3, d4] }
  | _ => none }
def normAppsRow : OpenClaim := { program := "ytghlgbhldnkdmaagreat", sum := "fd68e34c587dc63232aefa134568bac7f93bacdbe98c78285946a5f8497aa1c5", func := "filigree/filigreelaw08.NormApps", spec := "normApps", inPlace := ["sync/atomic.StoreInt64", "sync/atomic.LoadUint32", "sync/atomic.LoadInt64", "sync/atomic.AddInt64", "sync/atomic.StoreUint32", "(*internal/sync.Mutex).Lock", "internal/race.Disable", "sync/atomic.CompareAndSwapInt32", "internal/race.Enable", "internal/race.Acquire", "(*internal/sync.Mutex).lockSlow", "internal/sync.runtime_canSpin", "internal/sync.runtime_doSpin", "internal/sync.throw", "internal/sync.runtime_nanotime", "internal/sync.runtime_SemacquireMutex", "sync/atomic.AddInt32", "(*internal/sync.Mutex).Unlock", "internal/race.ReleaseMerge", "(*internal/sync.Mutex).unlockSlow", "internal/sync.fatal", "internal/sync.runtime_Semrelease"], unfollowed := true, recurses := true, loops := true, apart := false }
def NormAppsSaid : Prop := normAppsRow.holds Tryz.pinned (OpenSpec.ofChange normAppsSpec)

/-- ITS FALSE NEIGHBOUR: 'it returns false'. Refute it at one input. -/
def normAppsWrong : ChangeSpec := { name := "normApps", fn := fun _ => fun
  | [d1, d2, d3, d4] => { results := [.lit (.bool false)], args := [d1, d2, d3, d4] }
  | _ => none }
def NormAppsWrongFalsely : Prop := normAppsRow.holds Tryz.pinned (OpenSpec.ofChange normAppsWrong)

/-- 'filigreelaw08.NormKeeps': WHATEVER THE INPUT: true; the input reads as it did. -/
def normKeepsSpec : ChangeSpec := { name := "normKeeps", fn := fun _ => fun
  | [d1, d2, d3] => { results := [.lit (.bool true)], args := [d1, d2, d3] }
  | _ => none }
def normKeepsRow : OpenClaim := { program := "ytghlgbhldnkdmaagreat", sum := "fd68e34c587dc63232aefa134568bac7f93bacdbe98c78285946a5f8497aa1c5", func := "filigree/filigreelaw08.NormKeeps", spec := "normKeeps", inPlace := ["sync/atomic.StoreInt64", "sync/atomic.LoadUint32", "sync/atomic.LoadInt64", "sync/atomic.AddInt64", "sync/atomic.StoreUint32", "(*internal/sync.Mutex).Lock", "internal/race.Disable", "sync/atomic.CompareAndSwapInt32", "internal/race.Enable", "internal/race.Acquire", "(*internal/sync.Mutex).lockSlow", "internal/sync.runtime_canSpin", "internal/sync.runtime_doSpin", "internal/sync.throw", "internal/sync.runtime_nanotime", "internal/sync.runtime_SemacquireMutex", "sync/atomic.AddInt32", "(*internal/sync.Mutex).Unlock", "internal/race.ReleaseMerge", "(*internal/sync.Mutex).unlockSlow", "internal/sync.fatal", "internal/sync.runtime_Semrelease"], unfollowed := true, recurses := true, loops := true, apart := false }
def NormKeepsSaid : Prop := normKeepsRow.holds Tryz.pinned (OpenSpec.ofChange normKeepsSpec)

/-- ITS FALSE NEIGHBOUR: 'it returns false'. Refute it at one input. -/
def normKeepsWrong : ChangeSpec := { name := "normKeeps", fn := fun _ => fun
  | [d1, d2, d3] => { results := [.lit (.bool false)], args := [d1, d2, d3] }
  | _ => none }
def NormKeepsWrongFalsely : Prop := normKeepsRow.holds Tryz.pinned (OpenSpec.ofChange normKeepsWrong)

/- THE SECOND FORM. 'bulk': how many values and letters a reading holds, each counted each time it is reached (what is shared counts as often as it is met; a slice's spare places count too). A statement '..UptoSaid' is the law's where the arguments, and the package variables that the reading takes, are together of bulk at most 1048576: NARROWER than '..Said'. Prove '..Said' where nothing that the law and all that it calls make is longer than what came in: it says more and counts as full. Else prove '..UptoSaid'. A law counts once. -/
mutual
def uptoBulk {H : Type} : DataW H → Nat
  | .lit (.string bytes) => bytes.length + 1
  | .lit _ => 1
  | .nil => 1
  | .ptr d => uptoBulk d + 1
  | .slice elems spare => uptoBulkAll elems + uptoBulkAll spare + 1
  | .agg parts => uptoBulkAll parts + 1
  | .iface _ d => uptoBulk d + 1
  | .map entries => uptoBulkEntries entries + 1
  | .held _ => 1
def uptoBulkAll {H : Type} : List (DataW H) → Nat
  | [] => 0
  | d :: r => uptoBulk d + uptoBulkAll r
def uptoBulkEntries {H : Type} : List (Lit × DataW H) → Nat
  | [] => 0
  | x :: r => uptoBulkEntry x + uptoBulkEntries r
def uptoBulkEntry {H : Type} : Lit × DataW H → Nat
  | (.string bytes, d) => bytes.length + uptoBulk d + 1
  | (_, d) => uptoBulk d + 1
 end
def uptoSmall : (H : Type) → List (DataW H) → Bool := fun _ ds => decide (uptoBulkAll ds ≤ 1048576)
def OpenSpec.upto (s : _root_.Go.ChangeSpec) : _root_.Go.OpenSpec := { _root_.Go.OpenSpec.ofChange s with cond := some uptoSmall }

/-- 'filigreelaw08.NormLongs', WHERE WHAT IT READS IS OF BULK AT MOST 1048576: true; the input reads as it did. -/
def normLongsUptoRow : OpenClaim := { program := "ytghlgbhldnkdmaagreat", sum := "fd68e34c587dc63232aefa134568bac7f93bacdbe98c78285946a5f8497aa1c5", func := "filigree/filigreelaw08.NormLongs", spec := "normLongs", inPlace := ["sync/atomic.StoreInt64", "sync/atomic.LoadUint32", "sync/atomic.LoadInt64", "sync/atomic.AddInt64", "sync/atomic.StoreUint32", "(*internal/sync.Mutex).Lock", "internal/race.Disable", "sync/atomic.CompareAndSwapInt32", "internal/race.Enable", "internal/race.Acquire", "(*internal/sync.Mutex).lockSlow", "internal/sync.runtime_canSpin", "internal/sync.runtime_doSpin", "internal/sync.throw", "internal/sync.runtime_nanotime", "internal/sync.runtime_SemacquireMutex", "sync/atomic.AddInt32", "(*internal/sync.Mutex).Unlock", "internal/race.ReleaseMerge", "(*internal/sync.Mutex).unlockSlow", "internal/sync.fatal", "internal/sync.runtime_Semrelease"], unfollowed := true, recurses := true, loops := true, apart := false, narrowed := true }
def NormLongsUptoSaid : Prop := normLongsUptoRow.holds Tryz.pinned (OpenSpec.upto normLongsSpec)

/-- 'filigreelaw08.NormCosts', WHERE WHAT IT READS IS OF BULK AT MOST 1048576: true; the input reads as it did. -/
def normCostsUptoRow : OpenClaim := { program := "ytghlgbhldnkdmaagreat", sum := "fd68e34c587dc63232aefa134568bac7f93bacdbe98c78285946a5f8497aa1c5", func := "filigree/filigreelaw08.NormCosts", spec := "normCosts", inPlace := ["sync/atomic.StoreInt64", "sync/atomic.LoadUint32", "sync/atomic.LoadInt64", "sync/atomic.AddInt64", "sync/atomic.StoreUint32", "(*internal/sync.Mutex).Lock", "internal/race.Disable", "sync/atomic.CompareAndSwapInt32", "internal/race.Enable", "internal/race.Acquire", "(*internal/sync.Mutex).lockSlow", "internal/sync.runtime_canSpin", "internal/sync.runtime_doSpin", "internal/sync.throw", "internal/sync.runtime_nanotime", "internal/sync.runtime_SemacquireMutex", "sync/atomic.AddInt32", "(*internal/sync.Mutex).Unlock", "internal/race.ReleaseMerge", "(*internal/sync.Mutex).unlockSlow", "internal/sync.fatal", "internal/sync.runtime_Semrelease"], unfollowed := true, recurses := true, loops := true, apart := false, narrowed := true }
def NormCostsUptoSaid : Prop := normCostsUptoRow.holds Tryz.pinned (OpenSpec.upto normCostsSpec)

/-- 'filigreelaw11.PatternBack', WHERE WHAT IT READS IS OF BULK AT MOST 1048576: true; the input reads as it did. -/
def patternBackUptoRow : OpenClaim := { program := "ytghlgbhldnkdmaagreat", sum := "fd68e34c587dc63232aefa134568bac7f93bacdbe98c78285946a5f8497aa1c5", func := "filigree/filigreelaw11.PatternBack", spec := "patternBack", inPlace := ["sync/atomic.StoreInt64", "sync/atomic.LoadUint32", "sync/atomic.LoadInt64", "sync/atomic.AddInt64", "sync/atomic.StoreUint32", "(*internal/sync.Mutex).Lock", "internal/race.Disable", "sync/atomic.CompareAndSwapInt32", "internal/race.Enable", "internal/race.Acquire", "(*internal/sync.Mutex).lockSlow", "internal/sync.runtime_canSpin", "internal/sync.runtime_doSpin", "internal/sync.throw", "internal/sync.runtime_nanotime", "internal/sync.runtime_SemacquireMutex", "sync/atomic.AddInt32", "(*internal/sync.Mutex).Unlock", "internal/race.ReleaseMerge", "(*internal/sync.Mutex).unlockSlow", "internal/sync.fatal", "internal/sync.runtime_Semrelease"], unfollowed := true, recurses := true, loops := true, apart := false, narrowed := true }
def PatternBackUptoSaid : Prop := patternBackUptoRow.holds Tryz.pinned (OpenSpec.upto patternBackSpec)

/-- 'filigreelaw08.NormApps', WHERE WHAT IT READS IS OF BULK AT MOST 1048576: true; the input reads as it did. -/
def normAppsUptoRow : OpenClaim := { program := "ytghlgbhldnkdmaagreat", sum := "fd68e34c587dc63232aefa134568bac7f93bacdbe98c78285946a5f8497aa1c5", func := "filigree/filigreelaw08.NormApps", spec := "normApps", inPlace := ["sync/atomic.StoreInt64", "sync/atomic.LoadUint32", "sync/atomic.LoadInt64", "sync/atomic.AddInt64", "sync/atomic.StoreUint32", "(*internal/sync.Mutex).Lock", "internal/race.Disable", "sync/atomic.CompareAndSwapInt32", "internal/race.Enable", "internal/race.Acquire", "(*internal/sync.Mutex).lockSlow", "internal/sync.runtime_canSpin", "internal/sync.runtime_doSpin", "internal/sync.throw", "internal/sync.runtime_nanotime", "internal/sync.runtime_SemacquireMutex", "sync/atomic.AddInt32", "(*internal/sync.Mutex).Unlock", "internal/race.ReleaseMerge", "(*internal/sync.Mutex).unlockSlow", "internal/sync.fatal", "internal/sync.runtime_Semrelease"], unfollowed := true, recurses := true, loops := true, apart := false, narrowed := true }
def NormAppsUptoSaid : Prop := normAppsUptoRow.holds Tryz.pinned (OpenSpec.upto normAppsSpec)

/-- 'filigreelaw08.NormKeeps', WHERE WHAT IT READS IS OF BULK AT MOST 1048576: true; the input reads as it did. -/
def normKeepsUptoRow : OpenClaim := { program := "ytghlgbhldnkdmaagreat", sum := "fd68e34c587dc63232aefa134568bac7f93bacdbe98c78285946a5f8497aa1c5", func := "filigree/filigreelaw08.NormKeeps", spec := "normKeeps", inPlace := ["sync/atomic.StoreInt64", "sync/atomic.LoadUint32", "sync/atomic.LoadInt64", "sync/atomic.AddInt64", "sync/atomic.StoreUint32", "(*internal/sync.Mutex).Lock", "internal/race.Disable", "sync/atomic.CompareAndSwapInt32", "internal/race.Enable", "internal/race.Acquire", "(*internal/sync.Mutex).lockSlow", "internal/sync.runtime_canSpin", "internal/sync.runtime_doSpin", "internal/sync.throw", "internal/sync.runtime_nanotime", "internal/sync.runtime_SemacquireMutex", "sync/atomic.AddInt32", "(*internal/sync.Mutex).Unlock", "internal/race.ReleaseMerge", "(*internal/sync.Mutex).unlockSlow", "internal/sync.fatal", "internal/sync.runtime_Semrelease"], unfollowed := true, recurses := true, loops := true, apart := false, narrowed := true }
def NormKeepsUptoSaid : Prop := normKeepsUptoRow.holds Tryz.pinned (OpenSpec.upto normKeepsSpec)

end Rows
end Go.Proofs.YtghlgbhldnkdmaaGreat
