/-
  No cell of these rows narrows 'for every input' (looked for: loops, veiled, ifaces, maps, wideKeys, modest, calm, conditions, laid).
  DERIVED. THE GIVEN ROWS OF THIS SEAT. 9 by the template 'for every input the law returns true; each argument reads behind the call as it read before'; 0 by the template 'total and deterministic' (their statements: YtbkkfkbgcklkgaaGreatTotals.lean).
  GIVEN WITH THE SEED: the statements are not yours to turn. If you find one false, say at which input.
  Laid BY PROGRAM, IN A SANDBOX (cutbox-rows.mjs): the forced cells as the released guide's own fill.sh prints them over the translation c1842df8dc25cdf4… (all of the seat's roots in one cut). By AI agents, Wed Nov 11 2026. No macro, syntax, notation, axiom, sorry.
-/
import Derived.Test.YtbkkfkbgcklkgaaGreatChecked
import GoSem.Claim
import GoSem.ClaimJoined
import GoSem.ClaimMapViews
import Derived.JoinedTies
import Derived.KernelRfl
namespace Go.Proofs.YtbkkfkbgcklkgaaGreat
/- THE CELL 'sum', in the pinned program and in every row, IS THE sha256 OF THE DUMP (.gsa) THAT YtbkkfkbgcklkgaaGreatProg.lean LOADS. Nothing in Lean hashes anything: it is a label: what it is worth is what the hold of that sum in a sandbox is worth. -/
noncomputable def Tryz.pinned : Pinned := { name := "ytbkkfkbgcklkgaagreat", sum := "c1842df8dc25cdf44d67179b49c0dc3e25a3d8983cc5093be3ea48a1efd4fb73", checked := Tryz.checked }
namespace Rows
def none {H : Type} : Left H := { results := [], args := [] }

/-- 'parapetlaw13.DeviceRepeats': WHATEVER THE INPUT: true; the input reads as it did. -/
def deviceRepeatsSpec : ChangeSpec := { name := "deviceRepeats", fn := fun _ => fun
  | [d1, d2] => { results := [.lit (.bool true)], args := [d1, d2] }
  | _ => none }
def deviceRepeatsRow : OpenClaim := { program := "ytbkkfkbgcklkgaagreat", sum := "c1842df8dc25cdf44d67179b49c0dc3e25a3d8983cc5093be3ea48a1efd4fb73", func := "parapet/parapetlaw13.DeviceRepeats", spec := "deviceRepeats", inPlace := ["sync/atomic.LoadUint32", "sync/atomic.StoreUint32", "sync/atomic.AddInt64", "(*internal/sync.Mutex).Lock", "internal/race.Disable", "sync/atomic.CompareAndSwapInt32", "internal/race.Enable", "internal/race.Acquire", "(*internal/sync.Mutex).lockSlow", "internal/sync.runtime_canSpin", "internal/sync.runtime_doSpin", "internal/sync.throw", "internal/sync.runtime_nanotime", "internal/sync.runtime_SemacquireMutex", "sync/atomic.AddInt32", "(*internal/sync.Mutex).Unlock", "internal/race.ReleaseMerge", "(*internal/sync.Mutex).unlockSlow", "internal/sync.fatal", "internal/sync.runtime_Semrelease", "sync/atomic.LoadUint64", "sync/atomic.CompareAndSwapUint64", "sync/atomic.SwapPointer", "sync/atomic.StoreInt32", "sync/atomic.LoadInt32"], unfollowed := true, recurses := true, apart := false }
def DeviceRepeatsSaid : Prop := deviceRepeatsRow.holds Tryz.pinned (OpenSpec.ofChange deviceRepeatsSpec)

/-- ITS FALSE NEIGHBOUR: 'it returns false'. Refute it at one input. -/
def deviceRepeatsWrong : ChangeSpec := { name := "deviceRepeats", fn := fun _ => fun
  | [d1, d2] => { results := [.lit (.bool false)], args := [d1, d2] }
  | _ => none }
def DeviceRepeatsWrongFalsely : Prop := deviceRepeatsRow.holds Tryz.pinned (OpenSpec.ofChange deviceRepeatsWrong)

/-- 'parapetlaw13.DeviceOwn': WHATEVER THE INPUT: true; the input reads as it did. -/
def deviceOwnSpec : ChangeSpec := { name := "deviceOwn", fn := fun _ => fun
  | [d1, d2] => { results := [.lit (.bool true)], args := [d1, d2] }
  | _ => none }
def deviceOwnRow : OpenClaim := { program := "ytbkkfkbgcklkgaagreat", sum := "c1842df8dc25cdf44d67179b49c0dc3e25a3d8983cc5093be3ea48a1efd4fb73", func := "parapet/parapetlaw13.DeviceOwn", spec := "deviceOwn", inPlace := ["sync/atomic.LoadUint32", "sync/atomic.StoreUint32", "sync/atomic.AddInt64", "(*internal/sync.Mutex).Lock", "internal/race.Disable", "sync/atomic.CompareAndSwapInt32", "internal/race.Enable", "internal/race.Acquire", "(*internal/sync.Mutex).lockSlow", "internal/sync.runtime_canSpin", "internal/sync.runtime_doSpin", "internal/sync.throw", "internal/sync.runtime_nanotime", "internal/sync.runtime_SemacquireMutex", "sync/atomic.AddInt32", "(*internal/sync.Mutex).Unlock", "internal/race.ReleaseMerge", "(*internal/sync.Mutex).unlockSlow", "internal/sync.fatal", "internal/sync.runtime_Semrelease", "sync/atomic.LoadUint64", "sync/atomic.CompareAndSwapUint64", "sync/atomic.SwapPointer", "sync/atomic.StoreInt32", "sync/atomic.LoadInt32"], unfollowed := true, recurses := true, apart := false }
def DeviceOwnSaid : Prop := deviceOwnRow.holds Tryz.pinned (OpenSpec.ofChange deviceOwnSpec)

/-- ITS FALSE NEIGHBOUR: 'it returns false'. Refute it at one input. -/
def deviceOwnWrong : ChangeSpec := { name := "deviceOwn", fn := fun _ => fun
  | [d1, d2] => { results := [.lit (.bool false)], args := [d1, d2] }
  | _ => none }
def DeviceOwnWrongFalsely : Prop := deviceOwnRow.holds Tryz.pinned (OpenSpec.ofChange deviceOwnWrong)

/-- 'parapetlaw13.DeviceSessions': WHATEVER THE INPUT: true; the input reads as it did. -/
def deviceSessionsSpec : ChangeSpec := { name := "deviceSessions", fn := fun _ => fun
  | [d1, d2] => { results := [.lit (.bool true)], args := [d1, d2] }
  | _ => none }
def deviceSessionsRow : OpenClaim := { program := "ytbkkfkbgcklkgaagreat", sum := "c1842df8dc25cdf44d67179b49c0dc3e25a3d8983cc5093be3ea48a1efd4fb73", func := "parapet/parapetlaw13.DeviceSessions", spec := "deviceSessions", inPlace := ["sync/atomic.LoadUint32", "sync/atomic.StoreUint32", "sync/atomic.AddInt64", "(*internal/sync.Mutex).Lock", "internal/race.Disable", "sync/atomic.CompareAndSwapInt32", "internal/race.Enable", "internal/race.Acquire", "(*internal/sync.Mutex).lockSlow", "internal/sync.runtime_canSpin", "internal/sync.runtime_doSpin", "internal/sync.throw", "internal/sync.runtime_nanotime", "internal/sync.runtime_SemacquireMutex", "sync/atomic.AddInt32", "(*internal/sync.Mutex).Unlock", "internal/race.ReleaseMerge", "(*internal/sync.Mutex).unlockSlow", "internal/sync.fatal", "internal/sync.runtime_Semrelease", "sync/atomic.LoadUint64", "sync/atomic.CompareAndSwapUint64", "sync/atomic.SwapPointer", "sync/atomic.StoreInt32", "sync/atomic.LoadInt32"], unfollowed := true, recurses := true, apart := false }
def DeviceSessionsSaid : Prop := deviceSessionsRow.holds Tryz.pinned (OpenSpec.ofChange deviceSessionsSpec)

/-- ITS FALSE NEIGHBOUR: 'it returns false'. Refute it at one input. -/
def deviceSessionsWrong : ChangeSpec := { name := "deviceSessions", fn := fun _ => fun
  | [d1, d2] => { results := [.lit (.bool false)], args := [d1, d2] }
  | _ => none }
def DeviceSessionsWrongFalsely : Prop := deviceSessionsRow.holds Tryz.pinned (OpenSpec.ofChange deviceSessionsWrong)

/-- 'parapetlaw13.DeviceRises': WHATEVER THE INPUT: true; the input reads as it did. -/
def deviceRisesSpec : ChangeSpec := { name := "deviceRises", fn := fun _ => fun
  | [d1, d2] => { results := [.lit (.bool true)], args := [d1, d2] }
  | _ => none }
def deviceRisesRow : OpenClaim := { program := "ytbkkfkbgcklkgaagreat", sum := "c1842df8dc25cdf44d67179b49c0dc3e25a3d8983cc5093be3ea48a1efd4fb73", func := "parapet/parapetlaw13.DeviceRises", spec := "deviceRises", inPlace := ["sync/atomic.LoadUint32", "sync/atomic.StoreUint32", "sync/atomic.AddInt64", "(*internal/sync.Mutex).Lock", "internal/race.Disable", "sync/atomic.CompareAndSwapInt32", "internal/race.Enable", "internal/race.Acquire", "(*internal/sync.Mutex).lockSlow", "internal/sync.runtime_canSpin", "internal/sync.runtime_doSpin", "internal/sync.throw", "internal/sync.runtime_nanotime", "internal/sync.runtime_SemacquireMutex", "sync/atomic.AddInt32", "(*internal/sync.Mutex).Unlock", "internal/race.ReleaseMerge", "(*internal/sync.Mutex).unlockSlow", "internal/sync.fatal", "internal/sync.runtime_Semrelease", "sync/atomic.LoadUint64", "sync/atomic.CompareAndSwapUint64", "sync/atomic.SwapPointer", "sync/atomic.StoreInt32", "sync/atomic.LoadInt32", "sync/atomic.StoreInt64"], unfollowed := true, recurses := true, apart := false }
def DeviceRisesSaid : Prop := deviceRisesRow.holds Tryz.pinned (OpenSpec.ofChange deviceRisesSpec)

/-- ITS FALSE NEIGHBOUR: 'it returns false'. Refute it at one input. -/
def deviceRisesWrong : ChangeSpec := { name := "deviceRises", fn := fun _ => fun
  | [d1, d2] => { results := [.lit (.bool false)], args := [d1, d2] }
  | _ => none }
def DeviceRisesWrongFalsely : Prop := deviceRisesRow.holds Tryz.pinned (OpenSpec.ofChange deviceRisesWrong)

/-- 'parapetlaw13.DeviceGivesUp': WHATEVER THE INPUT: true; the input reads as it did. -/
def deviceGivesUpSpec : ChangeSpec := { name := "deviceGivesUp", fn := fun _ => fun
  | [d1, d2] => { results := [.lit (.bool true)], args := [d1, d2] }
  | _ => none }
def deviceGivesUpRow : OpenClaim := { program := "ytbkkfkbgcklkgaagreat", sum := "c1842df8dc25cdf44d67179b49c0dc3e25a3d8983cc5093be3ea48a1efd4fb73", func := "parapet/parapetlaw13.DeviceGivesUp", spec := "deviceGivesUp", inPlace := ["sync/atomic.LoadUint32", "sync/atomic.StoreUint32", "sync/atomic.AddInt64", "(*internal/sync.Mutex).Lock", "internal/race.Disable", "sync/atomic.CompareAndSwapInt32", "internal/race.Enable", "internal/race.Acquire", "(*internal/sync.Mutex).lockSlow", "internal/sync.runtime_canSpin", "internal/sync.runtime_doSpin", "internal/sync.throw", "internal/sync.runtime_nanotime", "internal/sync.runtime_SemacquireMutex", "sync/atomic.AddInt32", "(*internal/sync.Mutex).Unlock", "internal/race.ReleaseMerge", "(*internal/sync.Mutex).unlockSlow", "internal/sync.fatal", "internal/sync.runtime_Semrelease", "sync/atomic.LoadUint64", "sync/atomic.CompareAndSwapUint64", "sync/atomic.SwapPointer", "sync/atomic.StoreInt32", "sync/atomic.LoadInt32", "sync/atomic.StoreInt64"], unfollowed := true, recurses := true, apart := false }
def DeviceGivesUpSaid : Prop := deviceGivesUpRow.holds Tryz.pinned (OpenSpec.ofChange deviceGivesUpSpec)

/-- ITS FALSE NEIGHBOUR: 'it returns false'. Refute it at one input. -/
def deviceGivesUpWrong : ChangeSpec := { name := "deviceGivesUp", fn := fun _ => fun
  | [d1, d2] => { results := [.lit (.bool false)], args := [d1, d2] }
  | _ => none }
def DeviceGivesUpWrongFalsely : Prop := deviceGivesUpRow.holds Tryz.pinned (OpenSpec.ofChange deviceGivesUpWrong)

/-- 'parapetlaw13.DeviceFlags': WHATEVER THE INPUT: true; the input reads as it did. -/
def deviceFlagsSpec : ChangeSpec := { name := "deviceFlags", fn := fun _ => fun
  | [d] => { results := [.lit (.bool true)], args := [d] }
  | _ => none }
def deviceFlagsRow : OpenClaim := { program := "ytbkkfkbgcklkgaagreat", sum := "c1842df8dc25cdf44d67179b49c0dc3e25a3d8983cc5093be3ea48a1efd4fb73", func := "parapet/parapetlaw13.DeviceFlags", spec := "deviceFlags", inPlace := ["sync/atomic.LoadUint32", "sync/atomic.StoreUint32", "sync/atomic.AddInt64", "(*internal/sync.Mutex).Lock", "internal/race.Disable", "sync/atomic.CompareAndSwapInt32", "internal/race.Enable", "internal/race.Acquire", "(*internal/sync.Mutex).lockSlow", "internal/sync.runtime_canSpin", "internal/sync.runtime_doSpin", "internal/sync.throw", "internal/sync.runtime_nanotime", "internal/sync.runtime_SemacquireMutex", "sync/atomic.AddInt32", "(*internal/sync.Mutex).Unlock", "internal/race.ReleaseMerge", "(*internal/sync.Mutex).unlockSlow", "internal/sync.fatal", "internal/sync.runtime_Semrelease", "sync/atomic.LoadUint64", "sync/atomic.CompareAndSwapUint64", "sync/atomic.SwapPointer", "sync/atomic.StoreInt32", "sync/atomic.LoadInt32", "sync/atomic.StoreInt64"], unfollowed := true, recurses := true, apart := false }
def DeviceFlagsSaid : Prop := deviceFlagsRow.holds Tryz.pinned (OpenSpec.ofChange deviceFlagsSpec)

/-- ITS FALSE NEIGHBOUR: 'it returns false'. Refute it at one input. -/
def deviceFlagsWrong : ChangeSpec := { name := "deviceFlags", fn := fun _ => fun
  | [d] => { results := [.lit (.bool false)], args := [d] }
  | _ => none }
def DeviceFlagsWrongFalsely : Prop := deviceFlagsRow.holds Tryz.pinned (OpenSpec.ofChange deviceFlagsWrong)

/-- 'parapetlaw13.DeviceSpoilt': WHATEVER THE INPUT: true; the input reads as it did. -/
def deviceSpoiltSpec : ChangeSpec := { name := "deviceSpoilt", fn := fun _ => fun
  | [d1, d2, d3, d4] => { results := [.lit (.bool true)], args := [d1, d2, d3, d4] }
  | _ => none }
def deviceSpoiltRow : OpenClaim := { program := "ytbkkfkbgcklkgaagreat", sum := "c1842df8dc25cdf44d67179b49c0dc3e25a3d8983cc5093be3ea48a1efd4fb73", func := "parapet/parapetlaw13.DeviceSpoilt", spec := "deviceSpoilt", inPlace := ["sync/atomic.LoadUint32", "sync/atomic.StoreUint32", "sync/atomic.AddInt64", "(*internal/sync.Mutex).Lock", "internal/race.Disable", "sync/atomic.CompareAndSwapInt32", "internal/race.Enable", "internal/race.Acquire", "(*internal/sync.Mutex).lockSlow", "internal/sync.runtime_canSpin", "internal/sync.runtime_doSpin", "internal/sync.throw", "internal/sync.runtime_nanotime", "internal/sync.runtime_SemacquireMutex", "sync/atomic.AddInt32", "(*internal/sync.Mutex).Unlock", "internal/race.ReleaseMerge", "(*internal/sync.Mutex).unlockSlow", "internal/sync.fatal", "internal/sync.runtime_Semrelease", "sync/atomic.LoadUint64", "sync/atomic.CompareAndSwapUint64", "sync/atomic.SwapPointer", "sync/atomic.StoreInt32", "sync/atomic.LoadInt32", "sync/atomic.StoreInt64"], unfollowed := true, recurses := true, apart := false }
def DeviceSpoiltSaid : Prop := deviceSpoiltRow.holds Tryz.pinned (OpenSpec.ofChange deviceSpoiltSpec)

/-- ITS FALSE NEIGHBOUR: 'it returns false'. Refute it at one input. -/
def deviceSpoiltWrong : ChangeSpec := { name := "deviceSpoilt", fn := fun _ => fun
  | [d1, d2, d3, d4] => { results := [.lit (.bool false)], args := [d1, d2, d3, d4] }
  | _ => none }
def DeviceSpoiltWrongFalsely : Prop := deviceSpoiltRow.holds Tryz.pinned (OpenSpec.ofChange deviceSpoiltWrong)

/-- 'parapetlaw13.DeviceNil': WHATEVER THE INPUT: true; the input reads as it did. -/
def deviceNilSpec : ChangeSpec := { name := "deviceNil", fn := fun _ => fun
  | [d1, d2, d3] => { results := [.lit (.bool true)], args := [d1, d2, d3] }
  | _ => none }
def deviceNilRow : OpenClaim := { program := "ytbkkfkbgcklkgaagreat", sum := "c1842df8dc25cdf44d67179b49c0dc3e25a3d8983cc5093be3ea48a1efd4fb73", func := "parapet/parapetlaw13.DeviceNil", spec := "deviceNil", inPlace := ["sync/atomic.LoadUint32", "sync/atomic.StoreUint32", "sync/atomic.AddInt64", "(*internal/sync.Mutex).Lock", "internal/race.Disable", "sync/atomic.CompareAndSwapInt32", "internal/race.Enable", "internal/race.Acquire", "(*internal/sync.Mutex).lockSlow", "internal/sync.runtime_canSpin", "internal/sync.runtime_doSpin", "internal/sync.throw", "internal/sync.runtime_nanotime", "internal/sync.runtime_SemacquireMutex", "sync/atomic.AddInt32", "(*internal/sync.Mutex).Unlock", "internal/race.ReleaseMerge", "(*internal/sync.Mutex).unlockSlow", "internal/sync.fatal", "internal/sync.runtime_Semrelease", "sync/atomic.LoadUint64", "sync/atomic.CompareAndSwapUint64", "sync/atomic.SwapPointer", "sync/atomic.StoreInt32", "sync/atomic.LoadInt32", "sync/atomic.StoreInt64"], unfollowed := true, recurses := true, apart := false }
def DeviceNilSaid : Prop := deviceNilRow.holds Tryz.pinned (OpenSpec.ofChange deviceNilSpec)

/-- ITS FALSE NEIGHBOUR: 'it returns false'. Refute it at one input. -/
def deviceNilWrong : ChangeSpec := { name := "deviceNil", fn := fun _ => fun
  | [d1, d2, d3] => { results := [.lit (.bool false)], args := [d1, d2, d3] }
  | _ => none }
def DeviceNilWrongFalsely : Prop := deviceNilRow.holds Tryz.pinned (OpenSpec.ofChange deviceNilWrong)

/-- 'parapetlaw13.DevicePlays': WHATEVER THE INPUT: true; the input reads as it did. -/
def devicePlaysSpec : ChangeSpec := { name := "devicePlays", fn := fun _ => fun
  | [d1, d2, d3, d4] => { results := [.lit (.bool true)], args := [d1, d2, d3, d4] }
  | _ => none }
def devicePlaysRow : OpenClaim := { program := "ytbkkfkbgcklkgaagreat", sum := "c1842df8dc25cdf44d67179b49c0dc3e25a3d8983cc5093be3ea48a1efd4fb73", func := "parapet/parapetlaw13.DevicePlays", spec := "devicePlays", inPlace := ["sync/atomic.LoadUint32", "sync/atomic.StoreUint32", "sync/atomic.AddInt64", "(*internal/sync.Mutex).Lock", "internal/race.Disable", "sync/atomic.CompareAndSwapInt32", "internal/race.Enable", "internal/race.Acquire", "(*internal/sync.Mutex).lockSlow", "internal/sync.runtime_canSpin", "internal/sync.runtime_doSpin", "internal/sync.throw", "internal/sync.runtime_nanotime", "internal/sync.runtime_SemacquireMutex", "sync/atomic.AddInt32", "(*internal/sync.Mutex).Unlock", "internal/race.ReleaseMerge", "(*internal/sync.Mutex).unlockSlow", "internal/sync.fatal", "internal/sync.runtime_Semrelease", "sync/atomic.LoadUint64", "sync/atomic.CompareAndSwapUint64", "sync/atomic.SwapPointer", "sync/atomic.StoreInt32", "sync/atomic.LoadInt32", "sync/atomic.StoreInt64"], unfollowed := true, recurses := true, apart := false }
def DevicePlaysSaid : Prop := devicePlaysRow.holds Tryz.pinned (OpenSpec.ofChange devicePlaysSpec)

/-- ITS FALSE NEIGHBOUR: 'it returns false'. Refute it at one input. -/
def devicePlaysWrong : ChangeSpec := { name := "devicePlays", fn := fun _ => fun
  | [d1, d2, d3, d4] => { results := [.lit (.bool false)], args := [d1, d2, d3, d4] }
  | _ => none }
def DevicePlaysWrongFalsely : Prop := devicePlaysRow.holds Tryz.pinned (OpenSpec.ofChange devicePlaysWrong)

/- THE SECOND FORM. 'bulk': how many values and letters a reading holds, each counted each time it is reached (what is shared counts as often as it is met; a slice's spare places count too). A statement '..UptoSaid' is the law's where the arguments, and the package variables that the reading takes, are together of bulk at most 1048576: NARROWER than '..Said'. Prove '..Said' where nothing that the law and all that it calls make is longer than what came in: it says more and counts as full. Else prove '..UptoSaid'. A law counts once. -/
mutual
def uptoBulk {H : Type} : DataW H → Nat
  | .lit (.string bytes) => bytes.length + 1
  | .lit _ => 1
  | .nil => 1
  | .ptr d => uptoBulk d + 1
  | .slice elems spare => uptoBulkAll elems + uptoBulkAll spare + 1
  | .agg parts => uptoBulkAll parts + 1
  | .iface _ d => uptoBulk d + 1
  | .map entries => uptoBulkEntries entries + 1
  | .held _ => 1
def uptoBulkAll {H : Type} : List (DataW H) → Nat
  | [] => 0
  | d :: r => uptoBulk d + uptoBulkAll r
def uptoBulkEntries {H : Type} : List (Lit × DataW H) → Nat
  | [] => 0
  | x :: r => uptoBulkEntry x + uptoBulkEntries r
def uptoBulkEntry {H : Type} : Lit × DataW H → Nat
  | (.string bytes, d) => bytes.length + uptoBulk d + 1
  | (_, d) => uptoBulk d + 1
 end
def uptoSmall : (H : Type) → List (DataW H) → Bool := fun _ ds => decide (uptoBulkAll ds ≤ 1048576)
def OpenSpec.upto (s : _root_.Go.ChangeSpec) : _root_.Go.OpenSpec := { _root_.Go.OpenSpec.ofChange s with cond := some uptoSmall }

/-- 'parapetlaw13.DeviceRepeats', WHERE WHAT IT READS IS OF BULK AT MOST 1048576: true; the input reads as it did. -/
def deviceRepeatsUptoRow : OpenClaim := { program := "ytbkkfkbgcklkgaagreat", sum := "c1842df8dc25cdf44d67179b49c0dc3e25a3d8983cc5093be3ea48a1efd4fb73", func := "parapet/parapetlaw13.DeviceRepeats", spec := "deviceRepeats", inPlace := ["sync/atomic.LoadUint32", "sync/atomic.StoreUint32", "sync/atomic.AddInt64", "(*internal/sync.Mutex).Lock", "internal/race.Disable", "sync/atomic.CompareAndSwapInt32", "internal/race.Enable", "internal/race.Acquire", "(*internal/sync.Mutex).lockSlow", "internal/sync.runtime_canSpin", "internal/sync.runtime_doSpin", "internal/sync.throw", "internal/sync.runtime_nanotime", "internal/sync.runtime_SemacquireMutex", "sync/atomic.AddInt32", "(*internal/sync.Mutex).Unlock", "internal/race.ReleaseMerge", "(*internal/sync.Mutex).unlockSlow", "internal/sync.fatal", "internal/sync.runtime_Semrelease", "sync/atomic.LoadUint64", "sync/atomic.CompareAndSwapUint64", "sync/atomic.SwapPointer", "sync/atomic.StoreInt32", "sync/atomic.LoadInt32"], unfollowed := true, recurses := true, apart := false, narrowed := true }
def DeviceRepeatsUptoSaid : Prop := deviceRepeatsUptoRow.holds Tryz.pinned (OpenSpec.upto deviceRepeatsSpec)

/-- 'parapetlaw13.DeviceOwn', WHERE WHAT IT READS IS OF BULK AT MOST 1048576: true; the input reads as it did. -/
def deviceOwnUptoRow : OpenClaim := { program := "ytbkkfkbgcklkgaagreat", sum := "c1842df8dc25cdf44d67179b49c0dc3e25a3d8983cc5093be3ea48a1efd4fb73", func := "parapet/parapetlaw13.DeviceOwn", spec := "deviceOwn", inPlace := ["sync/atomic.LoadUint32", "sync/atomic.StoreUint32", "sync/atomic.AddInt64", "(*internal/sync.Mutex).Lock", "internal/race.Disable", "sync/atomic.CompareAndSwapInt32", "internal/race.Enable", "internal/race.Acquire", "(*internal/sync.Mutex).lockSlow", "internal/sync.runtime_canSpin", "internal/sync.runtime_doSpin", "internal/sync.throw", "internal/sync.runtime_nanotime", "internal/sync.runtime_SemacquireMutex", "sync/atomic.AddInt32", "(*internal/sync.Mutex).Unlock", "internal/race.ReleaseMerge", "(*internal/sync.Mutex).unlockSlow", "internal/sync.fatal", "internal/sync.runtime_Semrelease", "sync/atomic.LoadUint64", "sync/atomic.CompareAndSwapUint64", "sync/atomic.SwapPointer", "sync/atomic.StoreInt32", "sync/atomic.LoadInt32"], unfollowed := true, recurses := true, apart := false, narrowed := true }
def DeviceOwnUptoSaid : Prop := deviceOwnUptoRow.holds Tryz.pinned (OpenSpec.upto deviceOwnSpec)

/-- 'parapetlaw13.DeviceSessions', WHERE WHAT IT READS IS OF BULK AT MOST 1048576: true; the input reads as it did. -/
def deviceSessionsUptoRow : OpenClaim := { program := "ytbkkfkbgcklkgaagreat", sum := "c1842df8dc25cdf44d67179b49c0dc3e25a3d8983cc5093be3ea48a1efd4fb73", func := "parapet/parapetlaw13.DeviceSessions", spec := "deviceSessions", inPlace := ["sync/atomic.LoadUint32", "sync/atomic.StoreUint32", "sync/atomic.AddInt64", "(*internal/sync.Mutex).Lock", "internal/race.Disable", "sync/atomic.CompareAndSwapInt32", "internal/race.Enable", "internal/race.Acquire", "(*internal/sync.Mutex).lockSlow", "internal/sync.runtime_canSpin", "internal/sync.runtime_doSpin", "internal/sync.throw", "internal/sync.runtime_nanotime", "internal/sync.runtime_SemacquireMutex", "sync/atomic.AddInt32", "(*internal/sync.Mutex).Unlock", "internal/race.ReleaseMerge", "(*internal/sync.Mutex).unlockSlow", "internal/sync.fatal", "internal/sync.runtime_Semrelease", "sync/atomic.LoadUint64", "sync/atomic.CompareAndSwapUint64", "sync/atomic.SwapPointer", "sync/atomic.StoreInt32", "sync/atomic.LoadInt32"], unfollowed := true, recurses := true, apart := false, narrowed := true }
def DeviceSessionsUptoSaid : Prop := deviceSessionsUptoRow.holds Tryz.pinned (OpenSpec.upto deviceSessionsSpec)

/-- 'parapetlaw13.DeviceRises', WHERE WHAT IT READS IS OF BULK AT MOST 1048576: true; the input reads as it did. -/
def deviceRisesUptoRow : OpenClaim := { program := "ytbkkfkbgcklkgaagreat", sum := "c1842df8dc25cdf44d67179b49c0dc3e25a3d8983cc5093be3ea48a1efd4fb73", func := "parapet/parapetlaw13.DeviceRises", spec := "deviceRises", inPlace := ["sync/atomic.LoadUint32", "sync/atomic.StoreUint32", "sync/atomic.AddInt64", "(*internal/sync.Mutex).Lock", "internal/race.Disable", "sync/atomic.CompareAndSwapInt32", "internal/race.Enable", "internal/race.Acquire", "(*internal/sync.Mutex).lockSlow", "internal/sync.runtime_canSpin", "internal/sync.runtime_doSpin", "internal/sync.throw", "internal/sync.runtime_nanotime", "internal/sync.runtime_SemacquireMutex", "sync/atomic.AddInt32", "(*internal/sync.Mutex).Unlock", "internal/race.ReleaseMerge", "(*internal/sync.Mutex).unlockSlow", "internal/sync.fatal", "internal/sync.runtime_Semrelease", "sync/atomic.LoadUint64", "sync/atomic.CompareAndSwapUint64", "sync/atomic.SwapPointer", "sync/atomic.StoreInt32", "sync/atomic.LoadInt32", "sync/atomic.StoreInt64"], unfollowed := true, recurses := true, apart := false, narrowed := true }
def DeviceRisesUptoSaid : Prop := deviceRisesUptoRow.holds Tryz.pinned (OpenSpec.upto deviceRisesSpec)

/-- 'parapetlaw13.DeviceGivesUp', WHERE WHAT IT READS IS OF BULK AT MOST 1048576: true; the input reads as it did. -/
def deviceGivesUpUptoRow : OpenClaim := { program := "ytbkkfkbgcklkgaagreat", sum := "c1842df8dc25cdf44d67179b49c0dc3e25a3d8983cc5093be3ea48a1efd4fb73", func := "parapet/parapetlaw13.DeviceGivesUp", spec := "deviceGivesUp", inPlace := ["sync/atomic.LoadUint32", "sync/atomic.StoreUint32", "sync/atomic.AddInt64", "(*internal/sync.Mutex).Lock", "internal/race.Disable", "sync/atomic.CompareAndSwapInt32", "internal/race.Enable", "internal/race.Acquire", "(*internal/sync.Mutex).lockSlow", "internal/sync.runtime_canSpin", "internal/sync.runtime_doSpin", "internal/sync.throw", "internal/sync.runtime_nanotime", "internal/sync.runtime_SemacquireMutex", "sync/atomic.AddInt32", "(*internal/sync.Mutex).Unlock", "internal/race.ReleaseMerge", "(*internal/sync.Mutex).unlockSlow", "internal/sync.fatal", "internal/sync.runtime_Semrelease", "sync/atomic.LoadUint64", "sync/atomic.CompareAndSwapUint64", "sync/atomic.SwapPointer", "sync/atomic.StoreInt32", "sync/atomic.LoadInt32", "sync/atomic.StoreInt64"], unfollowed := true, recurses := true, apart := false, narrowed := true }
def DeviceGivesUpUptoSaid : Prop := deviceGivesUpUptoRow.holds Tryz.pinned (OpenSpec.upto deviceGivesUpSpec)

/-- 'parapetlaw13.DeviceFlags', WHERE WHAT IT READS IS OF BULK AT MOST 1048576: true; the input reads as it did. -/
def deviceFlagsUptoRow : OpenClaim := { program := "ytbkkfkbgcklkgaagreat", sum := "c1842df8dc25cdf44d67179b49c0dc3e25a3d8983cc5093be3ea48a1efd4fb73", func := "parapet/parapetlaw13.DeviceFlags", spec := "deviceFlags", inPlace := ["sync/atomic.LoadUint32", "sync/atomic.StoreUint32", "sync/atomic.AddInt64", "(*internal/sync.Mutex).Lock", "internal/race.Disable", "sync/atomic.CompareAndSwapInt32", "internal/race.Enable", "internal/race.Acquire", "(*internal/sync.Mutex).lockSlow", "internal/sync.runtime_canSpin", "internal/sync.runtime_doSpin", "internal/sync.throw", "internal/sync.runtime_nanotime", "internal/sync.runtime_SemacquireMutex", "sync/atomic.AddInt32", "(*internal/sync.Mutex).Unlock", "internal/race.ReleaseMerge", "(*internal/sync.Mutex).unlockSlow", "internal/sync.fatal", "internal/sync.runtime_Semrelease", "sync/atomic.LoadUint64", "sync/atomic.CompareAndSwapUint64", "sync/atomic.SwapPointer", "sync/atomic.StoreInt32", "sync/atomic.LoadInt32", "sync/atomic.StoreInt64"], unfollowed := true, recurses := true, apart := false, narrowed := true }
def DeviceFlagsUptoSaid : Prop := deviceFlagsUptoRow.holds Tryz.pinned (OpenSpec.upto deviceFlagsSpec)

/-- 'parapetlaw13.DeviceSpoilt', WHERE WHAT IT READS IS OF BULK AT MOST 1048576: true; the input reads as it did. -/
def deviceSpoiltUptoRow : OpenClaim := { program := "ytbkkfkbgcklkgaagreat", sum := "c1842df8dc25cdf44d67179b49c0dc3e25a3d8983cc5093be3ea48a1efd4fb73", func := "parapet/parapetlaw13.DeviceSpoilt", spec := "deviceSpoilt", inPlace := ["sync/atomic.LoadUint32", "sync/atomic.StoreUint32", "sync/atomic.AddInt64", "(*internal/sync.Mutex).Lock", "internal/race.Disable", "sync/atomic.CompareAndSwapInt32", "internal/race.Enable", "internal/race.Acquire", "(*internal/sync.Mutex).lockSlow", "internal/sync.runtime_canSpin", "internal/sync.runtime_doSpin", "internal/sync.throw", "internal/sync.runtime_nanotime", "internal/sync.runtime_SemacquireMutex", "sync/atomic.AddInt32", "(*internal/sync.Mutex).Unlock", "internal/race.ReleaseMerge", "(*internal/sync.Mutex).unlockSlow", "internal/sync.fatal", "internal/sync.runtime_Semrelease", "sync/atomic.LoadUint64", "sync/atomic.CompareAndSwapUint64", "sync/atomic.SwapPointer", "sync/atomic.StoreInt32", "sync/atomic.LoadInt32", "sync/atomic.StoreInt64"], unfollowed := true, recurses := true, apart := false, narrowed := true }
def DeviceSpoiltUptoSaid : Prop := deviceSpoiltUptoRow.holds Tryz.pinned (OpenSpec.upto deviceSpoiltSpec)

/-- 'parapetlaw13.DeviceNil', WHERE WHAT IT READS IS OF BULK AT MOST 1048576: true; the input reads as it did. -/
def deviceNilUptoRow : OpenClaim := { program := "ytbkkfkbgcklkgaagreat", sum := "c1842df8dc25cdf44d67179b49c0dc3e25a3d8983cc5093be3ea48a1efd4fb73", func := "parapet/parapetlaw13.DeviceNil", spec := "deviceNil", inPlace := ["sync/atomic.LoadUint32", "sync/atomic.StoreUint32", "sync/atomic.AddInt64", "(*internal/sync.Mutex).Lock", "internal/race.Disable", "sync/atomic.CompareAndSwapInt32", "internal/race.Enable", "internal/race.Acquire", "(*internal/sync.Mutex).lockSlow", "internal/sync.runtime_canSpin", "internal/sync.runtime_doSpin", "internal/sync.throw", "internal/sync.runtime_nanotime", "internal/sync.runtime_SemacquireMutex", "sync/atomic.AddInt32", "(*internal/sync.Mutex).Unlock", "internal/race.ReleaseMerge", "(*internal/sync.Mutex).unlockSlow", "internal/sync.fatal", "internal/sync.runtime_Semrelease", "sync/atomic.LoadUint64", "sync/atomic.CompareAndSwapUint64", "sync/atomic.SwapPointer", "sync/atomic.StoreInt32", "sync/atomic.LoadInt32", "sync/atomic.StoreInt64"], unfollowed := true, recurses := true, apart := false, narrowed := true }
def DeviceNilUptoSaid : Prop := deviceNilUptoRow.holds Tryz.pinned (OpenSpec.upto deviceNilSpec)

/-- 'parapetlaw13.DevicePlays', WHERE WHAT IT READS IS OF BULK AT MOST 1048576: true; the input reads as it did. -/
def devicePlaysUptoRow : OpenClaim := { program := "ytbkkfkbgcklkgaagreat", sum := "c1842df8dc25cdf44d67179b49c0dc3e25a3d8983cc5093be3ea48a1efd4fb73", func := "parapet/parapetlaw13.DevicePlays", spec := "devicePlays", inPlace := ["sync/atomic.LoadUint32", "sync/atomic.StoreUint32", "sync/atomic.AddInt64", "(*internal/sync.Mutex).Lock", "internal/race.Disable", "sync/atomic.CompareAndSwapInt32", "internal/race.Enable", "internal/race.Acquire", "(*internal/sync.Mutex).lockSlow", "internal/sync.runtime_canSpin", "internal/sync.runtime_doSpin", "internal/sync.throw", "internal/sync.runtime_nanotime", "internal/sync.runtime_SemacquireMutex", "sync/atomic.AddInt32", "(*internal/sync.Mutex).Unlock", "internal/race.ReleaseMerge", "(*internal/sync.Mutex).unlockSlow", "internal/sync.fatal", "internal/sync.runtime_Semrelease", "sync/atomic.LoadUint64", "sync/atomic.CompareAndSwapUint64", "sync/atomic.SwapPointer", "sync/atomic.StoreInt32", "sync/atomic.LoadInt32", "sync/atomic.StoreInt64"], unfollowed := true, recurses := true, apart := false, narrowed := true }
def DevicePlaysUptoSaid : Prop := devicePlaysUptoRow.holds Tryz.pinned (OpenSpec.upto devicePlaysSpec)

end Rows
end Go.Proofs.YtbkkfkbgcklkgaaGreat
