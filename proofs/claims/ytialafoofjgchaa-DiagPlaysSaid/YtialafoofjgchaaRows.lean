/-
  No cell of these rows narrows 'for every input' (looked for: loops, veiled, ifaces, maps, wideKeys, modest, calm, conditions, laid).
  DERIVED. THE GIVEN ROWS OF THIS SEAT. 4 by the template 'for every input the law returns true; each argument reads behind the call as it read before'; 0 by the template 'total and deterministic' (their statements: YtialafoofjgchaaTotals.lean).
  GIVEN WITH THE SEED: the statements are not yours to turn. If you find one false, say at which input.
  Laid BY PROGRAM, IN A SANDBOX (cutbox-rows.mjs): the forced cells as the released guide's own fill.sh prints them over the translation 9acf74d513e35575… (all of the seat's roots in one cut). By AI agents, Wed Nov 11 2026. No macro, syntax, notation, axiom, sorry.
-/
import Derived.Test.YtialafoofjgchaaChecked
import GoSem.Claim
import GoSem.ClaimJoined
import GoSem.ClaimMapViews
import Derived.JoinedTies
import Derived.KernelRfl
namespace Go.Proofs.Ytialafoofjgchaa
/- THE CELL 'sum', in the pinned program and in every row, IS THE sha256 OF THE DUMP (.gsa) THAT YtialafoofjgchaaProg.lean LOADS. Nothing in Lean hashes anything: it is a label: what it is worth is what the hold of that sum in a sandbox is worth. -/
noncomputable def Try.pinned : Pinned := { name := "ytialafoofjgchaa", sum := "9acf74d513e35575714302fe0a8c1f3b692bf61f1e1ccd68d14ebf5b00393e85", checked := Try.checked }
namespace Rows
def none {H : Type} : Left H := { results := [], args := [] }

/-- 'parapetlaw12.DiagSums': WHATEVER THE INPUT: true; the input reads as it did. -/
def diagSumsSpec : ChangeSpec := { name := "diagSums", fn := fun _ => fun
  | [d] => { results := [.lit (.bool true)], args := [d] }
  | _ => none }
def diagSumsRow : OpenClaim := { program := "ytialafoofjgchaa", sum := "9acf74d513e35575714302fe0a8c1f3b692bf61f1e1ccd68d14ebf5b00393e85", func := "parapet/parapetlaw12.DiagSums", spec := "diagSums", inPlace := ["sync/atomic.LoadUint64", "sync/atomic.CompareAndSwapUint64", "sync/atomic.SwapPointer", "sync/atomic.LoadPointer"], recurses := true, apart := false }
def DiagSumsSaid : Prop := diagSumsRow.holds Try.pinned (OpenSpec.ofChange diagSumsSpec)

/-- ITS FALSE NEIGHBOUR: 'it returns false'. Refute it at one input. -/
def diagSumsWrong : ChangeSpec := { name := "diagSums", fn := fun _ => fun
  | [d] => { results := [.lit (.bool false)], args := [d] }
  | _ => none }
def DiagSumsWrongFalsely : Prop := diagSumsRow.holds Try.pinned (OpenSpec.ofChange diagSumsWrong)

/-- 'parapetlaw12.DiagNil': WHATEVER THE INPUT: true; the input reads as it did. -/
def diagNilSpec : ChangeSpec := { name := "diagNil", fn := fun _ => fun
  | [d] => { results := [.lit (.bool true)], args := [d] }
  | _ => none }
def diagNilRow : OpenClaim := { program := "ytialafoofjgchaa", sum := "9acf74d513e35575714302fe0a8c1f3b692bf61f1e1ccd68d14ebf5b00393e85", func := "parapet/parapetlaw12.DiagNil", spec := "diagNil", inPlace := ["sync/atomic.LoadUint64", "sync/atomic.CompareAndSwapUint64", "sync/atomic.SwapPointer", "sync/atomic.LoadPointer"], recurses := true, apart := false }
def DiagNilSaid : Prop := diagNilRow.holds Try.pinned (OpenSpec.ofChange diagNilSpec)

/-- ITS FALSE NEIGHBOUR: 'it returns false'. Refute it at one input. -/
def diagNilWrong : ChangeSpec := { name := "diagNil", fn := fun _ => fun
  | [d] => { results := [.lit (.bool false)], args := [d] }
  | _ => none }
def DiagNilWrongFalsely : Prop := diagNilRow.holds Try.pinned (OpenSpec.ofChange diagNilWrong)

/-- 'parapetlaw12.DiagOwn': WHATEVER THE INPUT: true; the input reads as it did. -/
def diagOwnSpec : ChangeSpec := { name := "diagOwn", fn := fun _ => fun
  | [d] => { results := [.lit (.bool true)], args := [d] }
  | _ => none }
def diagOwnRow : OpenClaim := { program := "ytialafoofjgchaa", sum := "9acf74d513e35575714302fe0a8c1f3b692bf61f1e1ccd68d14ebf5b00393e85", func := "parapet/parapetlaw12.DiagOwn", spec := "diagOwn", inPlace := ["sync/atomic.LoadUint64", "sync/atomic.CompareAndSwapUint64", "sync/atomic.SwapPointer", "sync/atomic.LoadPointer"], recurses := true, apart := false }
def DiagOwnSaid : Prop := diagOwnRow.holds Try.pinned (OpenSpec.ofChange diagOwnSpec)

/-- ITS FALSE NEIGHBOUR: 'it returns false'. Refute it at one input. -/
def diagOwnWrong : ChangeSpec := { name := "diagOwn", fn := fun _ => fun
  | [d] => { results := [.lit (.bool false)], args := [d] }
  | _ => none }
def DiagOwnWrongFalsely : Prop := diagOwnRow.holds Try.pinned (OpenSpec.ofChange diagOwnWrong)

/-- 'parapetlaw12.DiagPlays': WHATEVER THE INPUT: true; the input reads as it did. -/
def diagPlaysSpec : ChangeSpec := { name := "diagPlays", fn := fun _ => fun
  | [d1, d2] => { results := [.lit (.bool true)], args := [d1, d2] }
  | _ => none }
def diagPlaysRow : OpenClaim := { program := "ytialafoofjgchaa", sum := "9acf74d513e35575714302fe0a8c1f3b692bf61f1e1ccd68d14ebf5b00393e85", func := "parapet/parapetlaw12.DiagPlays", spec := "diagPlays", inPlace := ["sync/atomic.LoadUint64", "sync/atomic.CompareAndSwapUint64", "sync/atomic.SwapPointer", "sync/atomic.LoadPointer"], recurses := true, apart := false }
def DiagPlaysSaid : Prop := diagPlaysRow.holds Try.pinned (OpenSpec.ofChange diagPlaysSpec)

/-- ITS FALSE NEIGHBOUR: 'it returns false'. Refute it at one input. -/
def diagPlaysWrong : ChangeSpec := { name := "diagPlays", fn := fun _ => fun
  | [d1, d2] => { results := [.lit (.bool false)], args := [d1, d2] }
  | _ => none }
def DiagPlaysWrongFalsely : Prop := diagPlaysRow.holds Try.pinned (OpenSpec.ofChange diagPlaysWrong)

/- THE SECOND FORM. 'bulk': how many values and letters a reading holds, each counted each time it is reached (what is shared counts as often as it is met; a slice's spare places count too). A statement '..UptoSaid' is the law's where the arguments, and the package variables that the reading takes, are together of bulk at most 1048576: NARROWER than '..Said'. Prove '..Said' where nothing that the law and all that it calls make is longer than what came in: it says more and counts as full. Else prove '..UptoSaid'. A law counts once. -/
mutual
def uptoBulk {H : Type} : DataW H → Nat
  | .lit (.string bytes) => bytes.length + 1
  | .lit _ => 1
  | .nil => 1
  | .ptr d => uptoBulk d + 1
  | .slice elems spare => uptoBulkAll elems + uptoBulkAll spare + 1
  | .agg parts => uptoBulkAll parts + 1
  | .iface _ d => uptoBulk d + 1
  | .map entries => uptoBulkEntries entries + 1
  | .held _ => 1
def uptoBulkAll {H : Type} : List (DataW H) → Nat
  | [] => 0
  | d :: r => uptoBulk d + uptoBulkAll r
def uptoBulkEntries {H : Type} : List (Lit × DataW H) → Nat
  | [] => 0
  | x :: r => uptoBulkEntry x + uptoBulkEntries r
def uptoBulkEntry {H : Type} : Lit × DataW H → Nat
  | (.string bytes, d) => bytes.length + uptoBulk d + 1
  | (_, d) => uptoBulk d + 1
 end
def uptoSmall : (H : Type) → List (DataW H) → Bool := fun _ ds => decide (uptoBulkAll ds ≤ 1048576)
def OpenSpec.upto (s : _root_.Go.ChangeSpec) : _root_.Go.OpenSpec := { _root_.Go.OpenSpec.ofChange s with cond := some uptoSmall }

/-- 'parapetlaw12.DiagSums', WHERE WHAT IT READS IS OF BULK AT MOST 1048576: true; the input reads as it did. -/
def diagSumsUptoRow : OpenClaim := { program := "ytialafoofjgchaa", sum := "9acf74d513e35575714302fe0a8c1f3b692bf61f1e1ccd68d14ebf5b00393e85", func := "parapet/parapetlaw12.DiagSums", spec := "diagSums", inPlace := ["sync/atomic.LoadUint64", "sync/atomic.CompareAndSwapUint64", "sync/atomic.SwapPointer", "sync/atomic.LoadPointer"], recurses := true, apart := false, narrowed := true }
def DiagSumsUptoSaid : Prop := diagSumsUptoRow.holds Try.pinned (OpenSpec.upto diagSumsSpec)

/-- 'parapetlaw12.DiagNil', WHERE WHAT IT READS IS OF BULK AT MOST 1048576: true; the input reads as it did. -/
def diagNilUptoRow : OpenClaim := { program := "ytialafoofjgchaa", sum := "9acf74d513e35575714302fe0a8c1f3b692bf61f1e1ccd68d14ebf5b00393e85", func := "parapet/parapetlaw12.DiagNil", spec := "diagNil", inPlace := ["sync/atomic.LoadUint64", "sync/atomic.CompareAndSwapUint64", "sync/atomic.SwapPointer", "sync/atomic.LoadPointer"], recurses := true, apart := false, narrowed := true }
def DiagNilUptoSaid : Prop := diagNilUptoRow.holds Try.pinned (OpenSpec.upto diagNilSpec)

/-- 'parapetlaw12.DiagOwn', WHERE WHAT IT READS IS OF BULK AT MOST 1048576: true; the input reads as it did. -/
def diagOwnUptoRow : OpenClaim := { program := "ytialafoofjgchaa", sum := "9acf74d513e35575714302fe0a8c1f3b692bf61f1e1ccd68d14ebf5b00393e85", func := "parapet/parapetlaw12.DiagOwn", spec := "diagOwn", inPlace := ["sync/atomic.LoadUint64", "sync/atomic.CompareAndSwapUint64", "sync/atomic.SwapPointer", "sync/atomic.LoadPointer"], recurses := true, apart := false, narrowed := true }
def DiagOwnUptoSaid : Prop := diagOwnUptoRow.holds Try.pinned (OpenSpec.upto diagOwnSpec)

/-- 'parapetlaw12.DiagPlays', WHERE WHAT IT READS IS OF BULK AT MOST 1048576: true; the input reads as it did. -/
def diagPlaysUptoRow : OpenClaim := { program := "ytialafoofjgchaa", sum := "9acf74d513e35575714302fe0a8c1f3b692bf61f1e1ccd68d14ebf5b00393e85", func := "parapet/parapetlaw12.DiagPlays", spec := "diagPlays", inPlace := ["sync/atomic.LoadUint64", "sync/atomic.CompareAndSwapUint64", "sync/atomic.SwapPointer", "sync/atomic.LoadPointer"], recurses := true, apart := false, narrowed := true }
def DiagPlaysUptoSaid : Prop := diagPlaysUptoRow.holds Try.pinned (OpenSpec.upto diagPlaysSpec)

end Rows
end Go.Proofs.Ytialafoofjgchaa
