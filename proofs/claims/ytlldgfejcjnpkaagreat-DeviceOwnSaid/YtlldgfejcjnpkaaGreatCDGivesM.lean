/- DeviceGivesUp's plain law, by the calls themselves: by the kernel. No program here. -/
import Derived.Test.YtlldgfejcjnpkaaGreatBase2
set_option linter.unusedVariables false
namespace Go.Proofs.YtlldgfejcjnpkaaGreat
namespace DevM
def upOp (k : Int) : OpM := ⟨k, 1, 0, false, [5, 6], 0, 0⟩
def oddOp : OpM := ⟨3, 0, 0, true, [], 0, 0⟩
def askOp : OpM := ⟨1, 0, 0, false, [], 0, 0⟩
def upsS (d : DevM) : Nat → DevM
  | 0 => d
  | k + 1 => stepD (d.upsS k) (upOp (k + 1))
def oddsS (d : DevM) : Nat → DevM
  | 0 => d
  | k + 1 => stepD (d.oddsS k) oddOp
def asksS (d : DevM) : Nat → DevM
  | 0 => d
  | k + 1 => stepD (d.asksS k) askOp
def givesUpS (far odd : Nat) : Bool :=
  let a := (first 99).upsS (far + 1)
  let b := a.oddsS odd
  let c := b.asksS (4 - odd)
  decide (b.state = a.state ∧ b.session = a.session ∧ c.state = 2 ∧ c.session = a.session + 1 ∧ a.session = 1 ∧ (c.valve.latched == 131) = (a.state == 4))
theorem givesUpS_small : ∀ far < 4, ∀ odd < 4, givesUpS far odd = true := by decide +kernel
def repS (d : DevM) (u : List UInt8) : Nat → DevM
  | 0 => d
  | k + 1 => ((d.repS u k).receive u).1
def stepsOp (k : Int) : OpM := ⟨k, 0, 0, false, [], 0, 0⟩
def repUp (d : DevM) : Nat → DevM
  | 0 => d
  | k + 1 => ((d.repUp k).receive ((frameD (d.repUp k) (stepsOp (k + 1))).getD [])).1
def repeatsS (far : Nat) : Bool :=
  let a := (first 9).repUp far
  let f := (frameD a (stepsOp (far + 1))).getD []
  let r := a.receive f
  let b := r.1
  let u := (frameD b (stepsOp (far + 1))).getD []
  (List.range far).all (fun j => decide (((((first 9).repUp j).receive ((frameD ((first 9).repUp j) (stepsOp (j + 1))).getD [])).2.2 = 0))) && decide (r.2.2 = 0) &&
  (List.range 3).all fun i =>
    let q := (b.repS u i).receive u
    decide (q.2.1 = r.2.1 ∧ (q.2.2 == 0) = decide (far ≠ 0) ∧ q.1.see.state = b.see.state ∧ q.1.see.session = b.see.session ∧ q.1.see.number = b.see.number ∧ q.1.see.sent = b.see.sent ∧ q.1.see.since = b.see.since ∧ q.1.see.latched = b.see.latched ∧ q.1.see.request = b.see.request ∧ q.1.see.on = b.see.on ∧ q.1.see.out = b.see.out)
theorem repeatsS_small : ∀ far < 3, repeatsS far = true := by decide +kernel
end DevM
end Go.Proofs.YtlldgfejcjnpkaaGreat
