/-
  No cell of these rows narrows 'for every input' (looked for: loops, veiled, ifaces, maps, wideKeys, modest, calm, conditions, laid).
  DERIVED. THE GIVEN ROWS OF THIS SEAT. 8 by the template 'for every input the law returns true; each argument reads behind the call as it read before'; 0 by the template 'total and deterministic' (their statements: YtfoldlbnkfnenaaGreatTotals.lean).
  GIVEN WITH THE SEED: the statements are not yours to turn. If you find one false, say at which input.
  Laid BY PROGRAM, IN A SANDBOX (cutbox-rows.mjs): the forced cells as the released guide's own fill.sh prints them over the translation 49aa043b30e59f06… (all of the seat's roots in one cut). By AI agents, Wed Nov 11 2026. No macro, syntax, notation, axiom, sorry.
-/
import Derived.Test.YtfoldlbnkfnenaaGreatChecked
import GoSem.Claim
import GoSem.ClaimJoined
import GoSem.ClaimMapViews
import Derived.JoinedTies
import Derived.KernelRfl
namespace Go.Proofs.YtfoldlbnkfnenaaGreat
/- THE CELL 'sum', in the pinned program and in every row, IS THE sha256 OF THE DUMP (.gsa) THAT YtfoldlbnkfnenaaGreatProg.lean LOADS. Nothing in Lean hashes anything: it is a label: what it is worth is what the hold of that sum in a sandbox is worth. -/
noncomputable def Tryz.pinned : Pinned := { name := "ytfoldlbnkfnenaagreat", sum := "49aa043b30e59f06c8a3f70c8ac7183b8905025a1d2d6b537f15256f011031ed", checked := Tryz.checked }
namespace Rows
def none {H : Type} : Left H := { results := [], args := [] }

/-- 'parapetlaw14.HostOwn': WHATEVER THE INPUT: true; the input reads as it did. -/
def hostOwnSpec : ChangeSpec := { name := "hostOwn", fn := fun _ => fun
  | [d1, d2] => { results := [.lit (.bool true)], args := [d1, d2] }
  | _ => none }
def hostOwnRow : OpenClaim := { program := "ytfoldlbnkfnenaagreat", sum := "49aa043b30e59f06c8a3f70c8ac7183b8905025a1d2d6b537f15256f011031ed", func := "parapet/parapetlaw14.HostOwn", spec := "hostOwn", inPlace := ["sync/atomic.AddInt64", "sync/atomic.LoadUint32", "(*internal/sync.Mutex).Lock", "internal/race.Disable", "sync/atomic.CompareAndSwapInt32", "internal/race.Enable", "internal/race.Acquire", "(*internal/sync.Mutex).lockSlow", "internal/sync.runtime_canSpin", "internal/sync.runtime_doSpin", "internal/sync.throw", "internal/sync.runtime_nanotime", "internal/sync.runtime_SemacquireMutex", "sync/atomic.AddInt32", "(*internal/sync.Mutex).Unlock", "internal/race.ReleaseMerge", "(*internal/sync.Mutex).unlockSlow", "internal/sync.fatal", "internal/sync.runtime_Semrelease", "sync/atomic.StoreUint32", "sync/atomic.LoadUint64", "sync/atomic.CompareAndSwapUint64", "sync/atomic.SwapPointer", "sync/atomic.LoadInt32", "sync/atomic.StoreInt32"], unfollowed := true, recurses := true, apart := false }
def HostOwnSaid : Prop := hostOwnRow.holds Tryz.pinned (OpenSpec.ofChange hostOwnSpec)

/-- ITS FALSE NEIGHBOUR: 'it returns false'. Refute it at one input. -/
def hostOwnWrong : ChangeSpec := { name := "hostOwn", fn := fun _ => fun
  | [d1, d2] => { results := [.lit (.bool false)], args := [d1, d2] }
  | _ => none }
def HostOwnWrongFalsely : Prop := hostOwnRow.holds Tryz.pinned (OpenSpec.ofChange hostOwnWrong)

/-- 'parapetlaw14.HostRises': WHATEVER THE INPUT: true; the input reads as it did. -/
def hostRisesSpec : ChangeSpec := { name := "hostRises", fn := fun _ => fun
  | [d] => { results := [.lit (.bool true)], args := [d] }
  | _ => none }
def hostRisesRow : OpenClaim := { program := "ytfoldlbnkfnenaagreat", sum := "49aa043b30e59f06c8a3f70c8ac7183b8905025a1d2d6b537f15256f011031ed", func := "parapet/parapetlaw14.HostRises", spec := "hostRises", inPlace := ["sync/atomic.AddInt64", "sync/atomic.LoadUint32", "(*internal/sync.Mutex).Lock", "internal/race.Disable", "sync/atomic.CompareAndSwapInt32", "internal/race.Enable", "internal/race.Acquire", "(*internal/sync.Mutex).lockSlow", "internal/sync.runtime_canSpin", "internal/sync.runtime_doSpin", "internal/sync.throw", "internal/sync.runtime_nanotime", "internal/sync.runtime_SemacquireMutex", "sync/atomic.AddInt32", "(*internal/sync.Mutex).Unlock", "internal/race.ReleaseMerge", "(*internal/sync.Mutex).unlockSlow", "internal/sync.fatal", "internal/sync.runtime_Semrelease", "sync/atomic.StoreUint32", "sync/atomic.LoadUint64", "sync/atomic.CompareAndSwapUint64", "sync/atomic.SwapPointer", "sync/atomic.LoadInt32", "sync/atomic.StoreInt32", "sync/atomic.StoreInt64"], unfollowed := true, recurses := true, apart := false }
def HostRisesSaid : Prop := hostRisesRow.holds Tryz.pinned (OpenSpec.ofChange hostRisesSpec)

/-- ITS FALSE NEIGHBOUR: 'it returns false'. Refute it at one input. -/
def hostRisesWrong : ChangeSpec := { name := "hostRises", fn := fun _ => fun
  | [d] => { results := [.lit (.bool false)], args := [d] }
  | _ => none }
def HostRisesWrongFalsely : Prop := hostRisesRow.holds Tryz.pinned (OpenSpec.ofChange hostRisesWrong)

/-- 'parapetlaw14.HostNumbers': WHATEVER THE INPUT: true; the input reads as it did. -/
def hostNumbersSpec : ChangeSpec := { name := "hostNumbers", fn := fun _ => fun
  | [d] => { results := [.lit (.bool true)], args := [d] }
  | _ => none }
def hostNumbersRow : OpenClaim := { program := "ytfoldlbnkfnenaagreat", sum := "49aa043b30e59f06c8a3f70c8ac7183b8905025a1d2d6b537f15256f011031ed", func := "parapet/parapetlaw14.HostNumbers", spec := "hostNumbers", inPlace := ["sync/atomic.AddInt64", "sync/atomic.LoadUint32", "(*internal/sync.Mutex).Lock", "internal/race.Disable", "sync/atomic.CompareAndSwapInt32", "internal/race.Enable", "internal/race.Acquire", "(*internal/sync.Mutex).lockSlow", "internal/sync.runtime_canSpin", "internal/sync.runtime_doSpin", "internal/sync.throw", "internal/sync.runtime_nanotime", "internal/sync.runtime_SemacquireMutex", "sync/atomic.AddInt32", "(*internal/sync.Mutex).Unlock", "internal/race.ReleaseMerge", "(*internal/sync.Mutex).unlockSlow", "internal/sync.fatal", "internal/sync.runtime_Semrelease", "sync/atomic.StoreUint32", "sync/atomic.LoadUint64", "sync/atomic.CompareAndSwapUint64", "sync/atomic.SwapPointer", "sync/atomic.LoadInt32", "sync/atomic.StoreInt32", "sync/atomic.StoreInt64"], unfollowed := true, recurses := true, apart := false }
def HostNumbersSaid : Prop := hostNumbersRow.holds Tryz.pinned (OpenSpec.ofChange hostNumbersSpec)

/-- ITS FALSE NEIGHBOUR: 'it returns false'. Refute it at one input. -/
def hostNumbersWrong : ChangeSpec := { name := "hostNumbers", fn := fun _ => fun
  | [d] => { results := [.lit (.bool false)], args := [d] }
  | _ => none }
def HostNumbersWrongFalsely : Prop := hostNumbersRow.holds Tryz.pinned (OpenSpec.ofChange hostNumbersWrong)

/-- 'parapetlaw14.HostGivesUp': WHATEVER THE INPUT: true; the input reads as it did. -/
def hostGivesUpSpec : ChangeSpec := { name := "hostGivesUp", fn := fun _ => fun
  | [d1, d2] => { results := [.lit (.bool true)], args := [d1, d2] }
  | _ => none }
def hostGivesUpRow : OpenClaim := { program := "ytfoldlbnkfnenaagreat", sum := "49aa043b30e59f06c8a3f70c8ac7183b8905025a1d2d6b537f15256f011031ed", func := "parapet/parapetlaw14.HostGivesUp", spec := "hostGivesUp", inPlace := ["sync/atomic.AddInt64", "sync/atomic.LoadUint32", "(*internal/sync.Mutex).Lock", "internal/race.Disable", "sync/atomic.CompareAndSwapInt32", "internal/race.Enable", "internal/race.Acquire", "(*internal/sync.Mutex).lockSlow", "internal/sync.runtime_canSpin", "internal/sync.runtime_doSpin", "internal/sync.throw", "internal/sync.runtime_nanotime", "internal/sync.runtime_SemacquireMutex", "sync/atomic.AddInt32", "(*internal/sync.Mutex).Unlock", "internal/race.ReleaseMerge", "(*internal/sync.Mutex).unlockSlow", "internal/sync.fatal", "internal/sync.runtime_Semrelease", "sync/atomic.StoreUint32", "sync/atomic.LoadUint64", "sync/atomic.CompareAndSwapUint64", "sync/atomic.SwapPointer", "sync/atomic.LoadInt32", "sync/atomic.StoreInt32", "sync/atomic.StoreInt64"], unfollowed := true, recurses := true, apart := false }
def HostGivesUpSaid : Prop := hostGivesUpRow.holds Tryz.pinned (OpenSpec.ofChange hostGivesUpSpec)

/-- ITS FALSE NEIGHBOUR: 'it returns false'. Refute it at one input. -/
def hostGivesUpWrong : ChangeSpec := { name := "hostGivesUp", fn := fun _ => fun
  | [d1, d2] => { results := [.lit (.bool false)], args := [d1, d2] }
  | _ => none }
def HostGivesUpWrongFalsely : Prop := hostGivesUpRow.holds Tryz.pinned (OpenSpec.ofChange hostGivesUpWrong)

/-- 'parapetlaw14.HostFlags': WHATEVER THE INPUT: true; the input reads as it did. -/
def hostFlagsSpec : ChangeSpec := { name := "hostFlags", fn := fun _ => fun
  | [d] => { results := [.lit (.bool true)], args := [d] }
  | _ => none }
def hostFlagsRow : OpenClaim := { program := "ytfoldlbnkfnenaagreat", sum := "49aa043b30e59f06c8a3f70c8ac7183b8905025a1d2d6b537f15256f011031ed", func := "parapet/parapetlaw14.HostFlags", spec := "hostFlags", inPlace := ["sync/atomic.AddInt64", "sync/atomic.LoadUint32", "(*internal/sync.Mutex).Lock", "internal/race.Disable", "sync/atomic.CompareAndSwapInt32", "internal/race.Enable", "internal/race.Acquire", "(*internal/sync.Mutex).lockSlow", "internal/sync.runtime_canSpin", "internal/sync.runtime_doSpin", "internal/sync.throw", "internal/sync.runtime_nanotime", "internal/sync.runtime_SemacquireMutex", "sync/atomic.AddInt32", "(*internal/sync.Mutex).Unlock", "internal/race.ReleaseMerge", "(*internal/sync.Mutex).unlockSlow", "internal/sync.fatal", "internal/sync.runtime_Semrelease", "sync/atomic.StoreUint32", "sync/atomic.LoadUint64", "sync/atomic.CompareAndSwapUint64", "sync/atomic.SwapPointer", "sync/atomic.LoadInt32", "sync/atomic.StoreInt32", "sync/atomic.StoreInt64"], unfollowed := true, recurses := true, apart := false }
def HostFlagsSaid : Prop := hostFlagsRow.holds Tryz.pinned (OpenSpec.ofChange hostFlagsSpec)

/-- ITS FALSE NEIGHBOUR: 'it returns false'. Refute it at one input. -/
def hostFlagsWrong : ChangeSpec := { name := "hostFlags", fn := fun _ => fun
  | [d] => { results := [.lit (.bool false)], args := [d] }
  | _ => none }
def HostFlagsWrongFalsely : Prop := hostFlagsRow.holds Tryz.pinned (OpenSpec.ofChange hostFlagsWrong)

/-- 'parapetlaw14.HostSpoilt': WHATEVER THE INPUT: true; the input reads as it did. -/
def hostSpoiltSpec : ChangeSpec := { name := "hostSpoilt", fn := fun _ => fun
  | [d1, d2, d3, d4] => { results := [.lit (.bool true)], args := [d1, d2, d3, d4] }
  | _ => none }
def hostSpoiltRow : OpenClaim := { program := "ytfoldlbnkfnenaagreat", sum := "49aa043b30e59f06c8a3f70c8ac7183b8905025a1d2d6b537f15256f011031ed", func := "parapet/parapetlaw14.HostSpoilt", spec := "hostSpoilt", inPlace := ["sync/atomic.AddInt64", "sync/atomic.LoadUint32", "(*internal/sync.Mutex).Lock", "internal/race.Disable", "sync/atomic.CompareAndSwapInt32", "internal/race.Enable", "internal/race.Acquire", "(*internal/sync.Mutex).lockSlow", "internal/sync.runtime_canSpin", "internal/sync.runtime_doSpin", "internal/sync.throw", "internal/sync.runtime_nanotime", "internal/sync.runtime_SemacquireMutex", "sync/atomic.AddInt32", "(*internal/sync.Mutex).Unlock", "internal/race.ReleaseMerge", "(*internal/sync.Mutex).unlockSlow", "internal/sync.fatal", "internal/sync.runtime_Semrelease", "sync/atomic.StoreUint32", "sync/atomic.LoadUint64", "sync/atomic.CompareAndSwapUint64", "sync/atomic.SwapPointer", "sync/atomic.LoadInt32", "sync/atomic.StoreInt32", "sync/atomic.StoreInt64"], unfollowed := true, recurses := true, apart := false }
def HostSpoiltSaid : Prop := hostSpoiltRow.holds Tryz.pinned (OpenSpec.ofChange hostSpoiltSpec)

/-- ITS FALSE NEIGHBOUR: 'it returns false'. Refute it at one input. -/
def hostSpoiltWrong : ChangeSpec := { name := "hostSpoilt", fn := fun _ => fun
  | [d1, d2, d3, d4] => { results := [.lit (.bool false)], args := [d1, d2, d3, d4] }
  | _ => none }
def HostSpoiltWrongFalsely : Prop := hostSpoiltRow.holds Tryz.pinned (OpenSpec.ofChange hostSpoiltWrong)

/-- 'parapetlaw14.HostPlays': WHATEVER THE INPUT: true; the input reads as it did. -/
def hostPlaysSpec : ChangeSpec := { name := "hostPlays", fn := fun _ => fun
  | [d1, d2] => { results := [.lit (.bool true)], args := [d1, d2] }
  | _ => none }
def hostPlaysRow : OpenClaim := { program := "ytfoldlbnkfnenaagreat", sum := "49aa043b30e59f06c8a3f70c8ac7183b8905025a1d2d6b537f15256f011031ed", func := "parapet/parapetlaw14.HostPlays", spec := "hostPlays", inPlace := ["sync/atomic.AddInt64", "sync/atomic.LoadUint32", "(*internal/sync.Mutex).Lock", "internal/race.Disable", "sync/atomic.CompareAndSwapInt32", "internal/race.Enable", "internal/race.Acquire", "(*internal/sync.Mutex).lockSlow", "internal/sync.runtime_canSpin", "internal/sync.runtime_doSpin", "internal/sync.throw", "internal/sync.runtime_nanotime", "internal/sync.runtime_SemacquireMutex", "sync/atomic.AddInt32", "(*internal/sync.Mutex).Unlock", "internal/race.ReleaseMerge", "(*internal/sync.Mutex).unlockSlow", "internal/sync.fatal", "internal/sync.runtime_Semrelease", "sync/atomic.StoreUint32", "sync/atomic.LoadUint64", "sync/atomic.CompareAndSwapUint64", "sync/atomic.SwapPointer", "sync/atomic.LoadInt32", "sync/atomic.StoreInt32", "sync/atomic.StoreInt64"], unfollowed := true, recurses := true, apart := false }
def HostPlaysSaid : Prop := hostPlaysRow.holds Tryz.pinned (OpenSpec.ofChange hostPlaysSpec)

/-- ITS FALSE NEIGHBOUR: 'it returns false'. Refute it at one input. -/
def hostPlaysWrong : ChangeSpec := { name := "hostPlays", fn := fun _ => fun
  | [d1, d2] => { results := [.lit (.bool false)], args := [d1, d2] }
  | _ => none }
def HostPlaysWrongFalsely : Prop := hostPlaysRow.holds Tryz.pinned (OpenSpec.ofChange hostPlaysWrong)

/-- 'parapetlaw14.HostNil': WHATEVER THE INPUT: true; the input reads as it did. -/
def hostNilSpec : ChangeSpec := { name := "hostNil", fn := fun _ => fun
  | [d1, d2, d3] => { results := [.lit (.bool true)], args := [d1, d2, d3] }
  | _ => none }
def hostNilRow : OpenClaim := { program := "ytfoldlbnkfnenaagreat", sum := "49aa043b30e59f06c8a3f70c8ac7183b8905025a1d2d6b537f15256f011031ed", func := "parapet/parapetlaw14.HostNil", spec := "hostNil", inPlace := ["sync/atomic.AddInt64", "sync/atomic.LoadUint32", "(*internal/sync.Mutex).Lock", "internal/race.Disable", "sync/atomic.CompareAndSwapInt32", "internal/race.Enable", "internal/race.Acquire", "(*internal/sync.Mutex).lockSlow", "internal/sync.runtime_canSpin", "internal/sync.runtime_doSpin", "internal/sync.throw", "internal/sync.runtime_nanotime", "internal/sync.runtime_SemacquireMutex", "sync/atomic.AddInt32", "(*internal/sync.Mutex).Unlock", "internal/race.ReleaseMerge", "(*internal/sync.Mutex).unlockSlow", "internal/sync.fatal", "internal/sync.runtime_Semrelease", "sync/atomic.StoreUint32", "sync/atomic.LoadUint64", "sync/atomic.CompareAndSwapUint64", "sync/atomic.SwapPointer", "sync/atomic.LoadInt32", "sync/atomic.StoreInt32", "sync/atomic.StoreInt64"], unfollowed := true, recurses := true, apart := false }
def HostNilSaid : Prop := hostNilRow.holds Tryz.pinned (OpenSpec.ofChange hostNilSpec)

/-- ITS FALSE NEIGHBOUR: 'it returns false'. Refute it at one input. -/
def hostNilWrong : ChangeSpec := { name := "hostNil", fn := fun _ => fun
  | [d1, d2, d3] => { results := [.lit (.bool false)], args := [d1, d2, d3] }
  | _ => none }
def HostNilWrongFalsely : Prop := hostNilRow.holds Tryz.pinned (OpenSpec.ofChange hostNilWrong)

/- THE SECOND FORM. 'bulk': how many values and letters a reading holds, each counted each time it is reached (what is shared counts as often as it is met; a slice's spare places count too). A statement '..UptoSaid' is the law's where the arguments, and the package variables that the reading takes, are together of bulk at most 1048576: NARROWER than '..Said'. Prove '..Said' where nothing that the law and all that it calls make is longer than what came in: it says more and counts as full. Else prove '..UptoSaid'. A law counts once. -/
mutual
def uptoBulk {H : Type} : DataW H → Nat
  | .lit (.string bytes) => bytes.length + 1
  | .lit _ => 1
  | .nil => 1
  | .ptr d => uptoBulk d + 1
  | .slice elems spare => uptoBulkAll elems + uptoBulkAll spare + 1
  | .agg parts => uptoBulkAll parts + 1
  | .iface _ d => uptoBulk d + 1
  | .map entries => uptoBulkEntries entries + 1
  | .held _ => 1
def uptoBulkAll {H : Type} : List (DataW H) → Nat
  | [] => 0
  | d :: r => uptoBulk d + uptoBulkAll r
def uptoBulkEntries {H : Type} : List (Lit × DataW H) → Nat
  | [] => 0
  | x :: r => uptoBulkEntry x + uptoBulkEntries r
def uptoBulkEntry {H : Type} : Lit × DataW H → Nat
  | (.string bytes, d) => bytes.length + uptoBulk d + 1
  | (_, d) => uptoBulk d + 1
 end
def uptoSmall : (H : Type) → List (DataW H) → Bool := fun _ ds => decide (uptoBulkAll ds ≤ 1048576)
def OpenSpec.upto (s : _root_.Go.ChangeSpec) : _root_.Go.OpenSpec := { _root_.Go.OpenSpec.ofChange s with cond := some uptoSmall }

/-- 'parapetlaw14.HostOwn', WHERE WHAT IT READS IS OF BULK AT MOST 1048576: true; the input reads as it did. -/
def hostOwnUptoRow : OpenClaim := { program := "ytfoldlbnkfnenaagreat", sum := "49aa043b30e59f06c8a3f70c8ac7183b8905025a1d2d6b537f15256f011031ed", func := "parapet/parapetlaw14.HostOwn", spec := "hostOwn", inPlace := ["sync/atomic.AddInt64", "sync/atomic.LoadUint32", "(*internal/sync.Mutex).Lock", "internal/race.Disable", "sync/atomic.CompareAndSwapInt32", "internal/race.Enable", "internal/race.Acquire", "(*internal/sync.Mutex).lockSlow", "internal/sync.runtime_canSpin", "internal/sync.runtime_doSpin", "internal/sync.throw", "internal/sync.runtime_nanotime", "internal/sync.runtime_SemacquireMutex", "sync/atomic.AddInt32", "(*internal/sync.Mutex).Unlock", "internal/race.ReleaseMerge", "(*internal/sync.Mutex).unlockSlow", "internal/sync.fatal", "internal/sync.runtime_Semrelease", "sync/atomic.StoreUint32", "sync/atomic.LoadUint64", "sync/atomic.CompareAndSwapUint64", "sync/atomic.SwapPointer", "sync/atomic.LoadInt32", "sync/atomic.StoreInt32"], unfollowed := true, recurses := true, apart := false, narrowed := true }
def HostOwnUptoSaid : Prop := hostOwnUptoRow.holds Tryz.pinned (OpenSpec.upto hostOwnSpec)

/-- 'parapetlaw14.HostRises', WHERE WHAT IT READS IS OF BULK AT MOST 1048576: true; the input reads as it did. -/
def hostRisesUptoRow : OpenClaim := { program := "ytfoldlbnkfnenaagreat", sum := "49aa043b30e59f06c8a3f70c8ac7183b8905025a1d2d6b537f15256f011031ed", func := "parapet/parapetlaw14.HostRises", spec := "hostRises", inPlace := ["sync/atomic.AddInt64", "sync/atomic.LoadUint32", "(*internal/sync.Mutex).Lock", "internal/race.Disable", "sync/atomic.CompareAndSwapInt32", "internal/race.Enable", "internal/race.Acquire", "(*internal/sync.Mutex).lockSlow", "internal/sync.runtime_canSpin", "internal/sync.runtime_doSpin", "internal/sync.throw", "internal/sync.runtime_nanotime", "internal/sync.runtime_SemacquireMutex", "sync/atomic.AddInt32", "(*internal/sync.Mutex).Unlock", "internal/race.ReleaseMerge", "(*internal/sync.Mutex).unlockSlow", "internal/sync.fatal", "internal/sync.runtime_Semrelease", "sync/atomic.StoreUint32", "sync/atomic.LoadUint64", "sync/atomic.CompareAndSwapUint64", "sync/atomic.SwapPointer", "sync/atomic.LoadInt32", "sync/atomic.StoreInt32", "sync/atomic.StoreInt64"], unfollowed := true, recurses := true, apart := false, narrowed := true }
def HostRisesUptoSaid : Prop := hostRisesUptoRow.holds Tryz.pinned (OpenSpec.upto hostRisesSpec)

/-- 'parapetlaw14.HostNumbers', WHERE WHAT IT READS IS OF BULK AT MOST 1048576: true; the input reads as it did. -/
def hostNumbersUptoRow : OpenClaim := { program := "ytfoldlbnkfnenaagreat", sum := "49aa043b30e59f06c8a3f70c8ac7183b8905025a1d2d6b537f15256f011031ed", func := "parapet/parapetlaw14.HostNumbers", spec := "hostNumbers", inPlace := ["sync/atomic.AddInt64", "sync/atomic.LoadUint32", "(*internal/sync.Mutex).Lock", "internal/race.Disable", "sync/atomic.CompareAndSwapInt32", "internal/race.Enable", "internal/race.Acquire", "(*internal/sync.Mutex).lockSlow", "internal/sync.runtime_canSpin", "internal/sync.runtime_doSpin", "internal/sync.throw", "internal/sync.runtime_nanotime", "internal/sync.runtime_SemacquireMutex", "sync/atomic.AddInt32", "(*internal/sync.Mutex).Unlock", "internal/race.ReleaseMerge", "(*internal/sync.Mutex).unlockSlow", "internal/sync.fatal", "internal/sync.runtime_Semrelease", "sync/atomic.StoreUint32", "sync/atomic.LoadUint64", "sync/atomic.CompareAndSwapUint64", "sync/atomic.SwapPointer", "sync/atomic.LoadInt32", "sync/atomic.StoreInt32", "sync/atomic.StoreInt64"], unfollowed := true, recurses := true, apart := false, narrowed := true }
def HostNumbersUptoSaid : Prop := hostNumbersUptoRow.holds Tryz.pinned (OpenSpec.upto hostNumbersSpec)

/-- 'parapetlaw14.HostGivesUp', WHERE WHAT IT READS IS OF BULK AT MOST 1048576: true; the input reads as it did. -/
def hostGivesUpUptoRow : OpenClaim := { program := "ytfoldlbnkfnenaagreat", sum := "49aa043b30e59f06c8a3f70c8ac7183b8905025a1d2d6b537f15256f011031ed", func := "parapet/parapetlaw14.HostGivesUp", spec := "hostGivesUp", inPlace := ["sync/atomic.AddInt64", "sync/atomic.LoadUint32", "(*internal/sync.Mutex).Lock", "internal/race.Disable", "sync/atomic.CompareAndSwapInt32", "internal/race.Enable", "internal/race.Acquire", "(*internal/sync.Mutex).lockSlow", "internal/sync.runtime_canSpin", "internal/sync.runtime_doSpin", "internal/sync.throw", "internal/sync.runtime_nanotime", "internal/sync.runtime_SemacquireMutex", "sync/atomic.AddInt32", "(*internal/sync.Mutex).Unlock", "internal/race.ReleaseMerge", "(*internal/sync.Mutex).unlockSlow", "internal/sync.fatal", "internal/sync.runtime_Semrelease", "sync/atomic.StoreUint32", "sync/atomic.LoadUint64", "sync/atomic.CompareAndSwapUint64", "sync/atomic.SwapPointer", "sync/atomic.LoadInt32", "sync/atomic.StoreInt32", "sync/atomic.StoreInt64"], unfollowed := true, recurses := true, apart := false, narrowed := true }
def HostGivesUpUptoSaid : Prop := hostGivesUpUptoRow.holds Tryz.pinned (OpenSpec.upto hostGivesUpSpec)

/-- 'parapetlaw14.HostFlags', WHERE WHAT IT READS IS OF BULK AT MOST 1048576: true; the input reads as it did. -/
def hostFlagsUptoRow : OpenClaim := { program := "ytfoldlbnkfnenaagreat", sum := "49aa043b30e59f06c8a3f70c8ac7183b8905025a1d2d6b537f15256f011031ed", func := "parapet/parapetlaw14.HostFlags", spec := "hostFlags", inPlace := ["sync/atomic.AddInt64", "sync/atomic.LoadUint32", "(*internal/sync.Mutex).Lock", "internal/race.Disable", "sync/atomic.CompareAndSwapInt32", "internal/race.Enable", "internal/race.Acquire", "(*internal/sync.Mutex).lockSlow", "internal/sync.runtime_canSpin", "internal/sync.runtime_doSpin", "internal/sync.throw", "internal/sync.runtime_nanotime", "internal/sync.runtime_SemacquireMutex", "sync/atomic.AddInt32", "(*internal/sync.Mutex).Unlock", "internal/race.ReleaseMerge", "(*internal/sync.Mutex).unlockSlow", "internal/sync.fatal", "internal/sync.runtime_Semrelease", "sync/atomic.StoreUint32", "sync/atomic.LoadUint64", "sync/atomic.CompareAndSwapUint64", "sync/atomic.SwapPointer", "sync/atomic.LoadInt32", "sync/atomic.StoreInt32", "sync/atomic.StoreInt64"], unfollowed := true, recurses := true, apart := false, narrowed := true }
def HostFlagsUptoSaid : Prop := hostFlagsUptoRow.holds Tryz.pinned (OpenSpec.upto hostFlagsSpec)

/-- 'parapetlaw14.HostSpoilt', WHERE WHAT IT READS IS OF BULK AT MOST 1048576: true; the input reads as it did. -/
def hostSpoiltUptoRow : OpenClaim := { program := "ytfoldlbnkfnenaagreat", sum := "49aa043b30e59f06c8a3f70c8ac7183b8905025a1d2d6b537f15256f011031ed", func := "parapet/parapetlaw14.HostSpoilt", spec := "hostSpoilt", inPlace := ["sync/atomic.AddInt64", "sync/atomic.LoadUint32", "(*internal/sync.Mutex).Lock", "internal/race.Disable", "sync/atomic.CompareAndSwapInt32", "internal/race.Enable", "internal/race.Acquire", "(*internal/sync.Mutex).lockSlow", "internal/sync.runtime_canSpin", "internal/sync.runtime_doSpin", "internal/sync.throw", "internal/sync.runtime_nanotime", "internal/sync.runtime_SemacquireMutex", "sync/atomic.AddInt32", "(*internal/sync.Mutex).Unlock", "internal/race.ReleaseMerge", "(*internal/sync.Mutex).unlockSlow", "internal/sync.fatal", "internal/sync.runtime_Semrelease", "sync/atomic.StoreUint32", "sync/atomic.LoadUint64", "sync/atomic.CompareAndSwapUint64", "sync/atomic.SwapPointer", "sync/atomic.LoadInt32", "sync/atomic.StoreInt32", "sync/atomic.StoreInt64"], unfollowed := true, recurses := true, apart := false, narrowed := true }
def HostSpoiltUptoSaid : Prop := hostSpoiltUptoRow.holds Tryz.pinned (OpenSpec.upto hostSpoiltSpec)

/-- 'parapetlaw14.HostPlays', WHERE WHAT IT READS IS OF BULK AT MOST 1048576: true; the input reads as it did. -/
def hostPlaysUptoRow : OpenClaim := { program := "ytfoldlbnkfnenaagreat", sum := "49aa043b30e59f06c8a3f70c8ac7183b8905025a1d2d6b537f15256f011031ed", func := "parapet/parapetlaw14.HostPlays", spec := "hostPlays", inPlace := ["sync/atomic.AddInt64", "sync/atomic.LoadUint32", "(*internal/sync.Mutex).Lock", "internal/race.Disable", "sync/atomic.CompareAndSwapInt32", "internal/race.Enable", "internal/race.Acquire", "(*internal/sync.Mutex).lockSlow", "internal/sync.runtime_canSpin", "internal/sync.runtime_doSpin", "internal/sync.throw", "internal/sync.runtime_nanotime", "internal/sync.runtime_SemacquireMutex", "sync/atomic.AddInt32", "(*internal/sync.Mutex).Unlock", "internal/race.ReleaseMerge", "(*internal/sync.Mutex).unlockSlow", "internal/sync.fatal", "internal/sync.runtime_Semrelease", "sync/atomic.StoreUint32", "sync/atomic.LoadUint64", "sync/atomic.CompareAndSwapUint64", "sync/atomic.SwapPointer", "sync/atomic.LoadInt32", "sync/atomic.StoreInt32", "sync/atomic.StoreInt64"], unfollowed := true, recurses := true, apart := false, narrowed := true }
def HostPlaysUptoSaid : Prop := hostPlaysUptoRow.holds Tryz.pinned (OpenSpec.upto hostPlaysSpec)

/-- 'parapetlaw14.HostNil', WHERE WHAT IT READS IS OF BULK AT MOST 1048576: true; the input reads as it did. -/
def hostNilUptoRow : OpenClaim := { program := "ytfoldlbnkfnenaagreat", sum := "49aa043b30e59f06c8a3f70c8ac7183b8905025a1d2d6b537f15256f011031ed", func := "parapet/parapetlaw14.HostNil", spec := "hostNil", inPlace := ["sync/atomic.AddInt64", "sync/atomic.LoadUint32", "(*internal/sync.Mutex).Lock", "internal/race.Disable", "sync/atomic.CompareAndSwapInt32", "internal/race.Enable", "internal/race.Acquire", "(*internal/sync.Mutex).lockSlow", "internal/sync.runtime_canSpin", "internal/sync.runtime_doSpin", "internal/sync.throw", "internal/sync.runtime_nanotime", "internal/sync.runtime_SemacquireMutex", "sync/atomic.AddInt32", "(*internal/sync.Mutex).Unlock", "internal/race.ReleaseMerge", "(*internal/sync.Mutex).unlockSlow", "internal/sync.fatal", "internal/sync.runtime_Semrelease", "sync/atomic.StoreUint32", "sync/atomic.LoadUint64", "sync/atomic.CompareAndSwapUint64", "sync/atomic.SwapPointer", "sync/atomic.LoadInt32", "sync/atomic.StoreInt32", "sync/atomic.StoreInt64"], unfollowed := true, recurses := true, apart := false, narrowed := true }
def HostNilUptoSaid : Prop := hostNilUptoRow.holds Tryz.pinned (OpenSpec.upto hostNilSpec)

end Rows
end Go.Proofs.YtfoldlbnkfnenaaGreat
