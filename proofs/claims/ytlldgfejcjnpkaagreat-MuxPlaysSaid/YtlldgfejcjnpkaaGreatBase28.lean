/- The base of the laws, part 28: contracts and plain lemmas, no statement. -/
import Derived.Test.YtlldgfejcjnpkaaGreatBase25
import Derived.Test.YtlldgfejcjnpkaaGreatBase26
import Derived.Test.YtlldgfejcjnpkaaGreatBase27
set_option linter.unusedVariables false
/- Both devices in one memory. -/
namespace Go.Proofs.YtlldgfejcjnpkaaGreat
open Go.RowKit

/-- The program's device m1 at a (its memory at ma), the reference's device m2 at b (its memory at mb): apart, both from B on. -/
structure PairD (B : Nat) (w : World) (a ma b mb : Nat) (m1 m2 : DevM) (F1 F2 : Nat → Prop) : Prop where
  dev : DevIs B w a ma m1 F1
  ref : RDIs B w b mb m2 F2
  dj : ∀ x, F1 x → ¬ F2 x
section
variable {B a ma b mb : Nat} {w w' : World} {m1 m2 m1' m2' : DevM} {F1 F2 : Nat → Prop}
theorem PairD.onDev (h : PairD B w a ma b mb m1 m2 F1 F2) (t : DevTo B w a ma m1' F1 w') : PairD B w' a ma b mb m1' m2 (grow F1 w w') F2 where
  dev := t.is_
  ref := h.ref.keepS t.keep (fun x hx h1 => h.dj x h1 hx)
  dj := fun x hx h2 => hx.elim (fun hx => h.dj x hx h2) (fun hx => by have := (h.ref.lo x h2).2; omega)
theorem PairD.onRef (h : PairD B w a ma b mb m1 m2 F1 F2) (t : RDTo B w b mb m2' F2 w') : PairD B w' a ma b mb m1 m2' F1 (grow F2 w w') where
  dev := h.dev.keepS t.keep (fun x hx h2 => h.dj x hx h2)
  ref := t.is_
  dj := fun x hx h2 => h2.elim (fun h2 => h.dj x hx h2) (fun h2 => by have := (h.dev.lo x hx).2; omega)
theorem PairD.below (h : PairD B w a ma b mb m1 m2 F1 F2) (hb : Below w.heap.size w w') : PairD B w' a ma b mb m1 m2 F1 F2 :=
  ⟨h.dev.below hb, h.ref.below hb, h.dj⟩
theorem DevTo.belowB (h : DevIs B w a ma m1 F1) (t : DevTo B w a ma m1' F1 w') : Below B w w' := t.keep.below h.Ble (fun x hx => (h.lo x hx).1)
theorem RDTo.belowB (h : RDIs B w b mb m2 F2) (t : RDTo B w b mb m2' F2 w') : Below B w w' := t.keep.below h.Ble (fun x hx => (h.lo x hx).1)
/-- Both devices, as they stand behind calls that began at w0: what else there was stays. -/
structure RunD (B : Nat) (w0 : World) (F1 F2 : Nat → Prop) (w : World) (a ma b mb : Nat) (m1 m2 : DevM) (F1' F2' : Nat → Prop) : Prop where
  pair : PairD B w a ma b mb m1 m2 F1' F2'
  sub1 : ∀ x, F1' x → F1 x ∨ w0.heap.size ≤ x
  sub2 : ∀ x, F2' x → F2 x ∨ w0.heap.size ≤ x
  keep : Keep (fun x => F1 x ∨ F2 x) w0 w
theorem RunD.start (h : PairD B w a ma b mb m1 m2 F1 F2) : RunD B w F1 F2 w a ma b mb m1 m2 F1 F2 := ⟨h, fun _ h => .inl h, fun _ h => .inl h, Keep.refl _ _⟩
section
variable {w0 : World} {F1' F2' : Nat → Prop}
theorem RunD.below (h : RunD B w0 F1 F2 w a ma b mb m1 m2 F1' F2') (hb : Below w.heap.size w w') : RunD B w0 F1 F2 w' a ma b mb m1 m2 F1' F2' :=
  ⟨h.pair.below hb, h.sub1, h.sub2, h.keep.trans (Keep.of_below hb)⟩
theorem RunD.onDev (h : RunD B w0 F1 F2 w a ma b mb m1 m2 F1' F2') (t : DevTo B w a ma m1' F1' w') : RunD B w0 F1 F2 w' a ma b mb m1' m2 (grow F1' w w') F2' :=
  ⟨h.pair.onDev t, fun x hx => hx.elim (h.sub1 x) (fun hx => .inr (Nat.le_trans h.keep.size hx.1)), h.sub2, h.keep.andThen t.keep (fun x hl hx => (h.sub1 x hx).elim .inl (fun h => by omega))⟩
theorem RunD.onRef (h : RunD B w0 F1 F2 w a ma b mb m1 m2 F1' F2') (t : RDTo B w b mb m2' F2' w') : RunD B w0 F1 F2 w' a ma b mb m1 m2' F1' (grow F2' w w') :=
  ⟨h.pair.onRef t, h.sub1, fun x hx => hx.elim (h.sub2 x) (fun hx => .inr (Nat.le_trans h.keep.size hx.1)), h.keep.andThen t.keep (fun x hl hx => (h.sub2 x hx).elim .inr (fun h => by omega))⟩
theorem RunD.belowB (h : RunD B w0 F1 F2 w a ma b mb m1 m2 F1' F2') (h0 : PairD B w0 a ma b mb m1' m2' F1 F2) : Below B w0 w :=
  h.keep.below h0.dev.Ble (fun x hx => hx.elim (fun h => (h0.dev.lo x h).1) (fun h => (h0.ref.lo x h).1))
end
end
theorem rdArm_any (B b mb : Nat) (d : DevM) (F : Nat → Prop) (n : Int) (w : World) (hI : RDIs B w b mb d F) (hn : n < 9223372036854775808) :
    Calls Tryz.prog 70 #[.pointer (some ⟨mb, 0, none⟩), .int .i64 n] w fun e w' => e = .returned (.int .i64 (d.m.arm n).2) ∧ RDTo B w b mb { d with m := (d.m.arm n).1 } F w' := by
  have hI0 := hI
  obtain ⟨⟨κ, A, c, vv, val, cb, hH, hF⟩, hlo⟩ := hI
  refine (rmemArm_any mb d.m (Of κ 5) n w hH.mem hn).mono ?_
  rintro e w' ⟨he, t⟩
  exact ⟨he, hH.toMem hI0 hF t⟩
theorem devArmTo_any (B a mb : Nat) (d : DevM) (F : Nat → Prop) (n : Int) (w : World) (hI : DevIs B w a mb d F) (hn : n < 9223372036854775808) :
    Calls Tryz.prog 69 #[.pointer (some ⟨mb, 0, none⟩), .int .i64 n] w fun e w' => e = .returned (.int .i64 (d.m.arm n).2) ∧ DevTo B w a mb { d with m := (d.m.arm n).1 } F w' := by
  have hI0 := hI
  obtain ⟨⟨κ, c, dd, v, g, val, hH, hF⟩, hlo⟩ := hI
  refine (memArm_any mb d.m _ n w hH.mem hn).mono ?_
  rintro e w' ⟨rfl, t⟩
  exact ⟨rfl, hH.toMem hI0 hF t⟩
end Go.Proofs.YtlldgfejcjnpkaaGreat
