/-
  No cell of these rows narrows 'for every input' (looked for: loops, veiled, ifaces, maps, wideKeys, modest, calm, conditions, laid).
  DERIVED. THE GIVEN ROWS OF THIS SEAT. 6 by the template 'for every input the law returns true; each argument reads behind the call as it read before'; 0 by the template 'total and deterministic' (their statements: YtlldgfejcjnpkaaGreatTotals.lean).
  GIVEN WITH THE SEED: the statements are not yours to turn. If you find one false, say at which input.
  Laid BY PROGRAM, IN A SANDBOX (cutbox-rows.mjs): the forced cells as the released guide's own fill.sh prints them over the translation ca6178a66fbb2379… (all of the seat's roots in one cut). By AI agents, Wed Nov 11 2026. No macro, syntax, notation, axiom, sorry.
-/
import Derived.Test.YtlldgfejcjnpkaaGreatChecked
import GoSem.Claim
import GoSem.ClaimJoined
import GoSem.ClaimMapViews
import Derived.JoinedTies
import Derived.KernelRfl
namespace Go.Proofs.YtlldgfejcjnpkaaGreat
/- THE CELL 'sum', in the pinned program and in every row, IS THE sha256 OF THE DUMP (.gsa) THAT YtlldgfejcjnpkaaGreatProg.lean LOADS. Nothing in Lean hashes anything: it is a label: what it is worth is what the hold of that sum in a sandbox is worth. -/
noncomputable def Tryz.pinned : Pinned := { name := "ytlldgfejcjnpkaagreat", sum := "ca6178a66fbb23791e288e3ea19fd2d9e1b5f734750526deff80080ecafec7e0", checked := Tryz.checked }
namespace Rows
def none {H : Type} : Left H := { results := [], args := [] }

/-- 'parapetlaw13.DeviceOwn': WHATEVER THE INPUT: true; the input reads as it did. -/
def deviceOwnSpec : ChangeSpec := { name := "deviceOwn", fn := fun _ => fun
  | [d1, d2] => { results := [.lit (.bool true)], args := [d1, d2] }
  | _ => none }
def deviceOwnRow : OpenClaim := { program := "ytlldgfejcjnpkaagreat", sum := "ca6178a66fbb23791e288e3ea19fd2d9e1b5f734750526deff80080ecafec7e0", func := "parapet/parapetlaw13.DeviceOwn", spec := "deviceOwn", inPlace := ["sync/atomic.LoadUint32", "sync/atomic.StoreUint32", "sync/atomic.AddInt64", "(*internal/sync.Mutex).Lock", "internal/race.Disable", "sync/atomic.CompareAndSwapInt32", "internal/race.Enable", "internal/race.Acquire", "(*internal/sync.Mutex).lockSlow", "internal/sync.runtime_canSpin", "internal/sync.runtime_doSpin", "internal/sync.throw", "internal/sync.runtime_nanotime", "internal/sync.runtime_SemacquireMutex", "sync/atomic.AddInt32", "(*internal/sync.Mutex).Unlock", "internal/race.ReleaseMerge", "(*internal/sync.Mutex).unlockSlow", "internal/sync.fatal", "internal/sync.runtime_Semrelease", "sync/atomic.LoadUint64", "sync/atomic.CompareAndSwapUint64", "sync/atomic.SwapPointer", "sync/atomic.StoreInt32", "sync/atomic.LoadInt32"], unfollowed := true, recurses := true, apart := false }
def DeviceOwnSaid : Prop := deviceOwnRow.holds Tryz.pinned (OpenSpec.ofChange deviceOwnSpec)

/-- ITS FALSE NEIGHBOUR: 'it returns false'. Refute it at one input. -/
def deviceOwnWrong : ChangeSpec := { name := "deviceOwn", fn := fun _ => fun
  | [d1, d2] => { results := [.lit (.bool false)], args := [d1, d2] }
  | _ => none }
def DeviceOwnWrongFalsely : Prop := deviceOwnRow.holds Tryz.pinned (OpenSpec.ofChange deviceOwnWrong)

/-- 'parapetlaw13.DeviceFlags': WHATEVER THE INPUT: true; the input reads as it did. -/
def deviceFlagsSpec : ChangeSpec := { name := "deviceFlags", fn := fun _ => fun
  | [d] => { results := [.lit (.bool true)], args := [d] }
  | _ => none }
def deviceFlagsRow : OpenClaim := { program := "ytlldgfejcjnpkaagreat", sum := "ca6178a66fbb23791e288e3ea19fd2d9e1b5f734750526deff80080ecafec7e0", func := "parapet/parapetlaw13.DeviceFlags", spec := "deviceFlags", inPlace := ["sync/atomic.LoadUint32", "sync/atomic.StoreUint32", "sync/atomic.AddInt64", "(*internal/sync.Mutex).Lock", "internal/race.Disable", "sync/atomic.CompareAndSwapInt32", "internal/race.Enable", "internal/race.Acquire", "(*internal/sync.Mutex).lockSlow", "internal/sync.runtime_canSpin", "internal/sync.runtime_doSpin", "internal/sync.throw", "internal/sync.runtime_nanotime", "internal/sync.runtime_SemacquireMutex", "sync/atomic.AddInt32", "(*internal/sync.Mutex).Unlock", "internal/race.ReleaseMerge", "(*internal/sync.Mutex).unlockSlow", "internal/sync.fatal", "internal/sync.runtime_Semrelease", "sync/atomic.LoadUint64", "sync/atomic.CompareAndSwapUint64", "sync/atomic.SwapPointer", "sync/atomic.StoreInt32", "sync/atomic.LoadInt32", "sync/atomic.StoreInt64"], unfollowed := true, recurses := true, apart := false }
def DeviceFlagsSaid : Prop := deviceFlagsRow.holds Tryz.pinned (OpenSpec.ofChange deviceFlagsSpec)

/-- ITS FALSE NEIGHBOUR: 'it returns false'. Refute it at one input. -/
def deviceFlagsWrong : ChangeSpec := { name := "deviceFlags", fn := fun _ => fun
  | [d] => { results := [.lit (.bool false)], args := [d] }
  | _ => none }
def DeviceFlagsWrongFalsely : Prop := deviceFlagsRow.holds Tryz.pinned (OpenSpec.ofChange deviceFlagsWrong)

/-- 'parapetlaw16.MuxOwn': WHATEVER THE INPUT: true; the input reads as it did. -/
def muxOwnSpec : ChangeSpec := { name := "muxOwn", fn := fun _ => fun
  | [d] => { results := [.lit (.bool true)], args := [d] }
  | _ => none }
def muxOwnRow : OpenClaim := { program := "ytlldgfejcjnpkaagreat", sum := "ca6178a66fbb23791e288e3ea19fd2d9e1b5f734750526deff80080ecafec7e0", func := "parapet/parapetlaw16.MuxOwn", spec := "muxOwn", inPlace := ["sync/atomic.LoadUint32", "sync/atomic.StoreUint32", "sync/atomic.LoadUint64", "sync/atomic.CompareAndSwapUint64", "sync/atomic.AddInt64", "(*internal/sync.Mutex).Lock", "internal/race.Disable", "sync/atomic.CompareAndSwapInt32", "internal/race.Enable", "internal/race.Acquire", "(*internal/sync.Mutex).lockSlow", "internal/sync.runtime_canSpin", "internal/sync.runtime_doSpin", "internal/sync.throw", "internal/sync.runtime_nanotime", "internal/sync.runtime_SemacquireMutex", "sync/atomic.AddInt32", "(*internal/sync.Mutex).Unlock", "internal/race.ReleaseMerge", "(*internal/sync.Mutex).unlockSlow", "internal/sync.fatal", "internal/sync.runtime_Semrelease", "sync/atomic.SwapPointer", "sync/atomic.StoreInt32"], unfollowed := true, recurses := true, apart := false }
def MuxOwnSaid : Prop := muxOwnRow.holds Tryz.pinned (OpenSpec.ofChange muxOwnSpec)

/-- ITS FALSE NEIGHBOUR: 'it returns false'. Refute it at one input. -/
def muxOwnWrong : ChangeSpec := { name := "muxOwn", fn := fun _ => fun
  | [d] => { results := [.lit (.bool false)], args := [d] }
  | _ => none }
def MuxOwnWrongFalsely : Prop := muxOwnRow.holds Tryz.pinned (OpenSpec.ofChange muxOwnWrong)

/-- 'parapetlaw16.MuxApart': WHATEVER THE INPUT: true; the input reads as it did. -/
def muxApartSpec : ChangeSpec := { name := "muxApart", fn := fun _ => fun
  | [d1, d2] => { results := [.lit (.bool true)], args := [d1, d2] }
  | _ => none }
def muxApartRow : OpenClaim := { program := "ytlldgfejcjnpkaagreat", sum := "ca6178a66fbb23791e288e3ea19fd2d9e1b5f734750526deff80080ecafec7e0", func := "parapet/parapetlaw16.MuxApart", spec := "muxApart", inPlace := ["sync/atomic.LoadUint32", "sync/atomic.StoreUint32", "sync/atomic.LoadUint64", "sync/atomic.CompareAndSwapUint64", "sync/atomic.AddInt64", "(*internal/sync.Mutex).Lock", "internal/race.Disable", "sync/atomic.CompareAndSwapInt32", "internal/race.Enable", "internal/race.Acquire", "(*internal/sync.Mutex).lockSlow", "internal/sync.runtime_canSpin", "internal/sync.runtime_doSpin", "internal/sync.throw", "internal/sync.runtime_nanotime", "internal/sync.runtime_SemacquireMutex", "sync/atomic.AddInt32", "(*internal/sync.Mutex).Unlock", "internal/race.ReleaseMerge", "(*internal/sync.Mutex).unlockSlow", "internal/sync.fatal", "internal/sync.runtime_Semrelease", "sync/atomic.SwapPointer", "sync/atomic.StoreInt32", "sync/atomic.LoadInt32"], unfollowed := true, recurses := true, apart := false }
def MuxApartSaid : Prop := muxApartRow.holds Tryz.pinned (OpenSpec.ofChange muxApartSpec)

/-- ITS FALSE NEIGHBOUR: 'it returns false'. Refute it at one input. -/
def muxApartWrong : ChangeSpec := { name := "muxApart", fn := fun _ => fun
  | [d1, d2] => { results := [.lit (.bool false)], args := [d1, d2] }
  | _ => none }
def MuxApartWrongFalsely : Prop := muxApartRow.holds Tryz.pinned (OpenSpec.ofChange muxApartWrong)

/-- 'parapetlaw16.MuxNil': WHATEVER THE INPUT: true; the input reads as it did. -/
def muxNilSpec : ChangeSpec := { name := "muxNil", fn := fun _ => fun
  | [d1, d2, d3] => { results := [.lit (.bool true)], args := [d1, d2, d3] }
  | _ => none }
def muxNilRow : OpenClaim := { program := "ytlldgfejcjnpkaagreat", sum := "ca6178a66fbb23791e288e3ea19fd2d9e1b5f734750526deff80080ecafec7e0", func := "parapet/parapetlaw16.MuxNil", spec := "muxNil", inPlace := ["sync/atomic.LoadUint32", "sync/atomic.StoreUint32", "sync/atomic.LoadUint64", "sync/atomic.CompareAndSwapUint64", "sync/atomic.AddInt64", "(*internal/sync.Mutex).Lock", "internal/race.Disable", "sync/atomic.CompareAndSwapInt32", "internal/race.Enable", "internal/race.Acquire", "(*internal/sync.Mutex).lockSlow", "internal/sync.runtime_canSpin", "internal/sync.runtime_doSpin", "internal/sync.throw", "internal/sync.runtime_nanotime", "internal/sync.runtime_SemacquireMutex", "sync/atomic.AddInt32", "(*internal/sync.Mutex).Unlock", "internal/race.ReleaseMerge", "(*internal/sync.Mutex).unlockSlow", "internal/sync.fatal", "internal/sync.runtime_Semrelease", "sync/atomic.SwapPointer", "sync/atomic.StoreInt32", "sync/atomic.LoadInt32"], unfollowed := true, recurses := true, apart := false }
def MuxNilSaid : Prop := muxNilRow.holds Tryz.pinned (OpenSpec.ofChange muxNilSpec)

/-- ITS FALSE NEIGHBOUR: 'it returns false'. Refute it at one input. -/
def muxNilWrong : ChangeSpec := { name := "muxNil", fn := fun _ => fun
  | [d1, d2, d3] => { results := [.lit (.bool false)], args := [d1, d2, d3] }
  | _ => none }
def MuxNilWrongFalsely : Prop := muxNilRow.holds Tryz.pinned (OpenSpec.ofChange muxNilWrong)

/-- 'parapetlaw16.MuxPlays': WHATEVER THE INPUT: true; the input reads as it did. -/
def muxPlaysSpec : ChangeSpec := { name := "muxPlays", fn := fun _ => fun
  | [d1, d2] => { results := [.lit (.bool true)], args := [d1, d2] }
  | _ => none }
def muxPlaysRow : OpenClaim := { program := "ytlldgfejcjnpkaagreat", sum := "ca6178a66fbb23791e288e3ea19fd2d9e1b5f734750526deff80080ecafec7e0", func := "parapet/parapetlaw16.MuxPlays", spec := "muxPlays", inPlace := ["sync/atomic.LoadUint32", "sync/atomic.StoreUint32", "sync/atomic.LoadUint64", "sync/atomic.CompareAndSwapUint64", "sync/atomic.AddInt64", "(*internal/sync.Mutex).Lock", "internal/race.Disable", "sync/atomic.CompareAndSwapInt32", "internal/race.Enable", "internal/race.Acquire", "(*internal/sync.Mutex).lockSlow", "internal/sync.runtime_canSpin", "internal/sync.runtime_doSpin", "internal/sync.throw", "internal/sync.runtime_nanotime", "internal/sync.runtime_SemacquireMutex", "sync/atomic.AddInt32", "(*internal/sync.Mutex).Unlock", "internal/race.ReleaseMerge", "(*internal/sync.Mutex).unlockSlow", "internal/sync.fatal", "internal/sync.runtime_Semrelease", "sync/atomic.SwapPointer", "sync/atomic.StoreInt32", "sync/atomic.LoadInt32", "sync/atomic.StoreInt64"], unfollowed := true, recurses := true, apart := false }
def MuxPlaysSaid : Prop := muxPlaysRow.holds Tryz.pinned (OpenSpec.ofChange muxPlaysSpec)

/-- ITS FALSE NEIGHBOUR: 'it returns false'. Refute it at one input. -/
def muxPlaysWrong : ChangeSpec := { name := "muxPlays", fn := fun _ => fun
  | [d1, d2] => { results := [.lit (.bool false)], args := [d1, d2] }
  | _ => none }
def MuxPlaysWrongFalsely : Prop := muxPlaysRow.holds Tryz.pinned (OpenSpec.ofChange muxPlaysWrong)

/- THE SECOND FORM. 'bulk': how many values and letters a reading holds, each counted each time it is reached (what is shared counts as often as it is met; a slice's spare places count too). A statement '..UptoSaid' is the law's where the arguments, and the package variables that the reading takes, are together of bulk at most 1048576: NARROWER than '..Said'. Prove '..Said' where nothing that the law and all that it calls make is longer than what came in: it says more and counts as full. Else prove '..UptoSaid'. A law counts once. -/
mutual
def uptoBulk {H : Type} : DataW H → Nat
  | .lit (.string bytes) => bytes.length + 1
  | .lit _ => 1
  | .nil => 1
  | .ptr d => uptoBulk d + 1
  | .slice elems spare => uptoBulkAll elems + uptoBulkAll spare + 1
  | .agg parts => uptoBulkAll parts + 1
  | .iface _ d => uptoBulk d + 1
  | .map entries => uptoBulkEntries entries + 1
  | .held _ => 1
def uptoBulkAll {H : Type} : List (DataW H) → Nat
  | [] => 0
  | d :: r => uptoBulk d + uptoBulkAll r
def uptoBulkEntries {H : Type} : List (Lit × DataW H) → Nat
  | [] => 0
  | x :: r => uptoBulkEntry x + uptoBulkEntries r
def uptoBulkEntry {H : Type} : Lit × DataW H → Nat
  | (.string bytes, d) => bytes.length + uptoBulk d + 1
  | (_, d) => uptoBulk d + 1
 end
def uptoSmall : (H : Type) → List (DataW H) → Bool := fun _ ds => decide (uptoBulkAll ds ≤ 1048576)
def OpenSpec.upto (s : _root_.Go.ChangeSpec) : _root_.Go.OpenSpec := { _root_.Go.OpenSpec.ofChange s with cond := some uptoSmall }

/-- 'parapetlaw13.DeviceOwn', WHERE WHAT IT READS IS OF BULK AT MOST 1048576: true; the input reads as it did. -/
def deviceOwnUptoRow : OpenClaim := { program := "ytlldgfejcjnpkaagreat", sum := "ca6178a66fbb23791e288e3ea19fd2d9e1b5f734750526deff80080ecafec7e0", func := "parapet/parapetlaw13.DeviceOwn", spec := "deviceOwn", inPlace := ["sync/atomic.LoadUint32", "sync/atomic.StoreUint32", "sync/atomic.AddInt64", "(*internal/sync.Mutex).Lock", "internal/race.Disable", "sync/atomic.CompareAndSwapInt32", "internal/race.Enable", "internal/race.Acquire", "(*internal/sync.Mutex).lockSlow", "internal/sync.runtime_canSpin", "internal/sync.runtime_doSpin", "internal/sync.throw", "internal/sync.runtime_nanotime", "internal/sync.runtime_SemacquireMutex", "sync/atomic.AddInt32", "(*internal/sync.Mutex).Unlock", "internal/race.ReleaseMerge", "(*internal/sync.Mutex).unlockSlow", "internal/sync.fatal", "internal/sync.runtime_Semrelease", "sync/atomic.LoadUint64", "sync/atomic.CompareAndSwapUint64", "sync/atomic.SwapPointer", "sync/atomic.StoreInt32", "sync/atomic.LoadInt32"], unfollowed := true, recurses := true, apart := false, narrowed := true }
def DeviceOwnUptoSaid : Prop := deviceOwnUptoRow.holds Tryz.pinned (OpenSpec.upto deviceOwnSpec)

/-- 'parapetlaw13.DeviceFlags', WHERE WHAT IT READS IS OF BULK AT MOST 1048576: true; the input reads as it did. -/
def deviceFlagsUptoRow : OpenClaim := { program := "ytlldgfejcjnpkaagreat", sum := "ca6178a66fbb23791e288e3ea19fd2d9e1b5f734750526deff80080ecafec7e0", func := "parapet/parapetlaw13.DeviceFlags", spec := "deviceFlags", inPlace := ["sync/atomic.LoadUint32", "sync/atomic.StoreUint32", "sync/atomic.AddInt64", "(*internal/sync.Mutex).Lock", "internal/race.Disable", "sync/atomic.CompareAndSwapInt32", "internal/race.Enable", "internal/race.Acquire", "(*internal/sync.Mutex).lockSlow", "internal/sync.runtime_canSpin", "internal/sync.runtime_doSpin", "internal/sync.throw", "internal/sync.runtime_nanotime", "internal/sync.runtime_SemacquireMutex", "sync/atomic.AddInt32", "(*internal/sync.Mutex).Unlock", "internal/race.ReleaseMerge", "(*internal/sync.Mutex).unlockSlow", "internal/sync.fatal", "internal/sync.runtime_Semrelease", "sync/atomic.LoadUint64", "sync/atomic.CompareAndSwapUint64", "sync/atomic.SwapPointer", "sync/atomic.StoreInt32", "sync/atomic.LoadInt32", "sync/atomic.StoreInt64"], unfollowed := true, recurses := true, apart := false, narrowed := true }
def DeviceFlagsUptoSaid : Prop := deviceFlagsUptoRow.holds Tryz.pinned (OpenSpec.upto deviceFlagsSpec)

/-- 'parapetlaw16.MuxOwn', WHERE WHAT IT READS IS OF BULK AT MOST 1048576: true; the input reads as it did. -/
def muxOwnUptoRow : OpenClaim := { program := "ytlldgfejcjnpkaagreat", sum := "ca6178a66fbb23791e288e3ea19fd2d9e1b5f734750526deff80080ecafec7e0", func := "parapet/parapetlaw16.MuxOwn", spec := "muxOwn", inPlace := ["sync/atomic.LoadUint32", "sync/atomic.StoreUint32", "sync/atomic.LoadUint64", "sync/atomic.CompareAndSwapUint64", "sync/atomic.AddInt64", "(*internal/sync.Mutex).Lock", "internal/race.Disable", "sync/atomic.CompareAndSwapInt32", "internal/race.Enable", "internal/race.Acquire", "(*internal/sync.Mutex).lockSlow", "internal/sync.runtime_canSpin", "internal/sync.runtime_doSpin", "internal/sync.throw", "internal/sync.runtime_nanotime", "internal/sync.runtime_SemacquireMutex", "sync/atomic.AddInt32", "(*internal/sync.Mutex).Unlock", "internal/race.ReleaseMerge", "(*internal/sync.Mutex).unlockSlow", "internal/sync.fatal", "internal/sync.runtime_Semrelease", "sync/atomic.SwapPointer", "sync/atomic.StoreInt32"], unfollowed := true, recurses := true, apart := false, narrowed := true }
def MuxOwnUptoSaid : Prop := muxOwnUptoRow.holds Tryz.pinned (OpenSpec.upto muxOwnSpec)

/-- 'parapetlaw16.MuxApart', WHERE WHAT IT READS IS OF BULK AT MOST 1048576: true; the input reads as it did. -/
def muxApartUptoRow : OpenClaim := { program := "ytlldgfejcjnpkaagreat", sum := "ca6178a66fbb23791e288e3ea19fd2d9e1b5f734750526deff80080ecafec7e0", func := "parapet/parapetlaw16.MuxApart", spec := "muxApart", inPlace := ["sync/atomic.LoadUint32", "sync/atomic.StoreUint32", "sync/atomic.LoadUint64", "sync/atomic.CompareAndSwapUint64", "sync/atomic.AddInt64", "(*internal/sync.Mutex).Lock", "internal/race.Disable", "sync/atomic.CompareAndSwapInt32", "internal/race.Enable", "internal/race.Acquire", "(*internal/sync.Mutex).lockSlow", "internal/sync.runtime_canSpin", "internal/sync.runtime_doSpin", "internal/sync.throw", "internal/sync.runtime_nanotime", "internal/sync.runtime_SemacquireMutex", "sync/atomic.AddInt32", "(*internal/sync.Mutex).Unlock", "internal/race.ReleaseMerge", "(*internal/sync.Mutex).unlockSlow", "internal/sync.fatal", "internal/sync.runtime_Semrelease", "sync/atomic.SwapPointer", "sync/atomic.StoreInt32", "sync/atomic.LoadInt32"], unfollowed := true, recurses := true, apart := false, narrowed := true }
def MuxApartUptoSaid : Prop := muxApartUptoRow.holds Tryz.pinned (OpenSpec.upto muxApartSpec)

/-- 'parapetlaw16.MuxNil', WHERE WHAT IT READS IS OF BULK AT MOST 1048576: true; the input reads as it did. -/
def muxNilUptoRow : OpenClaim := { program := "ytlldgfejcjnpkaagreat", sum := "ca6178a66fbb23791e288e3ea19fd2d9e1b5f734750526deff80080ecafec7e0", func := "parapet/parapetlaw16.MuxNil", spec := "muxNil", inPlace := ["sync/atomic.LoadUint32", "sync/atomic.StoreUint32", "sync/atomic.LoadUint64", "sync/atomic.CompareAndSwapUint64", "sync/atomic.AddInt64", "(*internal/sync.Mutex).Lock", "internal/race.Disable", "sync/atomic.CompareAndSwapInt32", "internal/race.Enable", "internal/race.Acquire", "(*internal/sync.Mutex).lockSlow", "internal/sync.runtime_canSpin", "internal/sync.runtime_doSpin", "internal/sync.throw", "internal/sync.runtime_nanotime", "internal/sync.runtime_SemacquireMutex", "sync/atomic.AddInt32", "(*internal/sync.Mutex).Unlock", "internal/race.ReleaseMerge", "(*internal/sync.Mutex).unlockSlow", "internal/sync.fatal", "internal/sync.runtime_Semrelease", "sync/atomic.SwapPointer", "sync/atomic.StoreInt32", "sync/atomic.LoadInt32"], unfollowed := true, recurses := true, apart := false, narrowed := true }
def MuxNilUptoSaid : Prop := muxNilUptoRow.holds Tryz.pinned (OpenSpec.upto muxNilSpec)

/-- 'parapetlaw16.MuxPlays', WHERE WHAT IT READS IS OF BULK AT MOST 1048576: true; the input reads as it did. -/
def muxPlaysUptoRow : OpenClaim := { program := "ytlldgfejcjnpkaagreat", sum := "ca6178a66fbb23791e288e3ea19fd2d9e1b5f734750526deff80080ecafec7e0", func := "parapet/parapetlaw16.MuxPlays", spec := "muxPlays", inPlace := ["sync/atomic.LoadUint32", "sync/atomic.StoreUint32", "sync/atomic.LoadUint64", "sync/atomic.CompareAndSwapUint64", "sync/atomic.AddInt64", "(*internal/sync.Mutex).Lock", "internal/race.Disable", "sync/atomic.CompareAndSwapInt32", "internal/race.Enable", "internal/race.Acquire", "(*internal/sync.Mutex).lockSlow", "internal/sync.runtime_canSpin", "internal/sync.runtime_doSpin", "internal/sync.throw", "internal/sync.runtime_nanotime", "internal/sync.runtime_SemacquireMutex", "sync/atomic.AddInt32", "(*internal/sync.Mutex).Unlock", "internal/race.ReleaseMerge", "(*internal/sync.Mutex).unlockSlow", "internal/sync.fatal", "internal/sync.runtime_Semrelease", "sync/atomic.SwapPointer", "sync/atomic.StoreInt32", "sync/atomic.LoadInt32", "sync/atomic.StoreInt64"], unfollowed := true, recurses := true, apart := false, narrowed := true }
def MuxPlaysUptoSaid : Prop := muxPlaysUptoRow.holds Tryz.pinned (OpenSpec.upto muxPlaysSpec)

end Rows
end Go.Proofs.YtlldgfejcjnpkaaGreat
