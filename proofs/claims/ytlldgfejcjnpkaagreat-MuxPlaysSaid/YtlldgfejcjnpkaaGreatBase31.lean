/- The base of the laws, part 31: contracts and plain lemmas, no statement. -/
import Derived.Test.YtlldgfejcjnpkaaGreatBase20
import Derived.Test.YtlldgfejcjnpkaaGreatBase28
import Derived.Test.YtlldgfejcjnpkaaGreatBase30
import Derived.Deep.RegionHeld3
import Derived.Deep.RegionHeld
set_option linter.unusedVariables false
/- The device's law's step (parapetlaw13.step): one call, on both. -/
namespace Go.Proofs.YtlldgfejcjnpkaaGreat
open Go.RowKit
set_option maxHeartbeats 10000000
set_option maxRecDepth 100000

theorem frameD_len {m : DevM} {o : OpM} {f : List UInt8} (h : frameD m o = some f) (hod : o.data.length ≤ 140737488351232) : f.length ≤ 140737488351232 := by
  unfold frameD at h
  split at h
  · injection h with h
    subst h
    exact hod
  split at h
  · injection h with h
    subst h
    have := encode_small (unitOpD m o)
    omega
  split at h
  · injection h with h
    subst h
    have := encode_small (unitOpD m o)
    cases hb : burstM (unitOpD m o).encode o.at_ o.word with
    | none => simp only [Option.getD_none]; omega
    | some x => have := burst_length hb; simp only [Option.getD_some]; omega
  · cases h
/-- A device behind one call, by its frame. -/
def stepDBy (m : DevM) (o : OpM) : Option (List UInt8) → DevM
  | some b => (m.receive b).1
  | none => if o.kind = 8 then (m.tick o.n).1 else if o.kind = 9 then (m.write o.data o.odd).1 else if o.kind = 10 then m.ack.1 else if o.kind = 11 then (m.reset o.n).1 else if o.kind = 12 then { m with m := (m.m.arm o.n).1 } else m
theorem stepD_by (m : DevM) (o : OpM) : stepD m o = stepDBy m o (frameD m o) := rfl
end Go.Proofs.YtlldgfejcjnpkaaGreat
