/- DeviceRises' plain law, as its walk wants it. No program here. -/
import Derived.Test.YtbkkfkbgcklkgaaGreatBase21
namespace Go.Proofs.YtbkkfkbgcklkgaaGreat

theorem rise_condD {max V s k : Int} {m : DevM} (h : DInv max V m) (hr : RiseD V s k m) (o : OpM) : ∃ (C : Bool),
    (C = true ↔ (frameD m o).isSome = true ∧ (decodeM ((frameD m o).getD [])).2 = 0 ∧ (stepD m o).see.session = m.see.session ∧ (stepD m o).see.number ≠ m.see.number) ∧
    ((stepD m o).see.on = true → (stepD m o).see.state = 4 ∧ (stepD m o).see.latched = 0) ∧ ((stepD m o).see.on = false → (stepD m o).see.out = [0, 0]) ∧
    (C = true → s ≤ (stepD m o).see.session ∧ ((stepD m o).see.session = s → k < (stepD m o).see.number) ∧ (decodeM ((frameD m o).getD [])).1.session = (stepD m o).see.session ∧ (decodeM ((frameD m o).getD [])).1.number = (stepD m o).see.number ∧
      ((stepD m o).see.on = true → (stepD m o).see.out = (decodeM ((frameD m o).getD [])).1.data) ∧ ∃ V', DInv max V' (stepD m o) ∧ RiseD V' (stepD m o).see.session (stepD m o).see.number (stepD m o)) ∧
    (C = false → ((stepD m o).see.on = true → m.see.on = true ∧ m.see.out = (stepD m o).see.out) ∧ ∃ V', DInv max V' (stepD m o) ∧ RiseD V' s k (stepD m o)) := by
  rcases rise_stepD h hr o with ⟨b, hb, h0, a1, a2, a3, a4, a5, a6, a7, a8, a9⟩ | ⟨a1, a2, V', a3, a4⟩
  · refine ⟨true, ⟨fun _ => ⟨by rw [hb]; rfl, by rw [hb]; exact h0, a1, a2⟩, fun _ => rfl⟩, a8.sees.1, a8.sees.2, fun _ => ?_, fun e => by cases e⟩
    rw [hb]
    refine ⟨a3, a4, a5, a6, fun e => ?_, V, a8, a9⟩
    have hp := a8.p
    show (stepD m o).valve.output (stepD m o).p.out = _
    rw [hp]
    exact a7 e
  · refine ⟨false, ⟨fun e => (by cases e), fun e => absurd (a1 e.2.2.1) e.2.2.2⟩, a3.sees.1, a3.sees.2, fun e => (by cases e), fun _ => ⟨fun e => ?_, V', a3, a4⟩⟩
    obtain ⟨b1, b2⟩ := a2 e
    refine ⟨b1, ?_⟩
    show m.valve.output m.p.out = (stepD m o).valve.output (stepD m o).p.out
    rw [h.p, a3.p]
    exact b2 _
end Go.Proofs.YtbkkfkbgcklkgaaGreat
