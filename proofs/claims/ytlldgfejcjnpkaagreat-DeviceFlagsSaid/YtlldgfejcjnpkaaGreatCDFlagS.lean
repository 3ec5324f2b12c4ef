/- The flags of what a device answers: what the application holds, step by step, and the flags' bits. Plain. -/
import Derived.Test.YtlldgfejcjnpkaaGreatBase34
import Derived.Test.YtlldgfejcjnpkaaGreatCDFlagM
set_option linter.unusedVariables false
namespace Go.Proofs.YtlldgfejcjnpkaaGreat
open Go.RowKit
/-- What the law keeps of the application: its value and its hold. -/
structure AppIs (d : DevM) (V : List UInt8) (H : Bool) : Prop where
  value : d.value = V
  hold : d.hold = H
  dead : d.state = 6 → V = [0] ∧ H = false
  inn : d.p.inn = 1
theorem app_first (mx : Int) : AppIs (DevM.first mx) [0] false := ⟨rfl, rfl, fun _ => ⟨rfl, rfl⟩, rfl⟩
theorem app_frame {d : DevM} {V : List UInt8} {H : Bool} (h : AppIs d V H) (hi : d.Inv) (b : List UInt8) :
    AppIs (d.receive b).1 (if (d.receive b).2.2 = 70 then [0] else V) (if (d.receive b).2.2 = 70 then false else H) ∧
    ((d.receive b).2.2 = 0 → (decodeM (d.receive b).2.1).2 = 0 → (decodeM (d.receive b).2.1).1.kind = 20 → (decodeM (d.receive b).2.1).1.flags = flagsM (d.receive b).1.valve H ∧ (decodeM (d.receive b).2.1).1.data = V ∧ (decodeM (d.receive b).2.1).1.number = (d.receive b).1.sent) := by
  by_cases h6 : d.state = 6
  · rw [down_receive b h6]
    refine ⟨?_, fun e => by simp at e⟩
    obtain ⟨e1, e2⟩ := h.dead h6
    refine ⟨?_, ?_, fun _ => ⟨by simp, by simp⟩, h.inn⟩
    · simp; rw [h.value, e1]
    · simp; rw [h.hold, e2]
  · have f := DevM.fans_receive hi h6 b
    generalize d.receive b = r at *
    obtain ⟨g, out, e⟩ := r
    have fp := f.p
    have fc := f.cut
    have fk := f.keep
    have fd := f.data
    simp only at fp fc fk fd ⊢
    by_cases h70 : e = 70
    · obtain ⟨a1, a2, a3⟩ := fc h70
      rw [h.inn] at a2
      rw [if_pos h70, if_pos h70]
      exact ⟨⟨a2, a3, fun _ => ⟨rfl, rfl⟩, by rw [fp]; exact h.inn⟩, fun e0 => by omega⟩
    · obtain ⟨a1, a2, a3⟩ := fk h70
      rw [if_neg h70, if_neg h70]
      refine ⟨⟨a1.trans h.value, a2.trans h.hold, fun x => absurd x a3, by rw [fp]; exact h.inn⟩, fun e0 f0 k20 => ?_⟩
      obtain ⟨b1, b2, b3⟩ := fd e0 (decodeM out).1 (by rw [← f0]) k20
      rw [a2, h.hold] at b1
      rw [a1, h.value] at b2
      exact ⟨b1, b2, b3⟩
theorem app_other {d : DevM} {V : List UInt8} {H : Bool} (h : AppIs d V H) (o : OpM) (hf : frameD d o = none) :
    AppIs (stepD d o) (if o.kind = 11 ∧ 0 ≤ o.n then [0] else if o.kind = 9 ∧ o.data.length = 1 ∧ d.state ≠ 6 then o.data else V) (if o.kind = 11 ∧ 0 ≤ o.n then false else if o.kind = 9 ∧ o.data.length = 1 ∧ d.state ≠ 6 then o.odd else H) := by
  have keep : ∀ g : DevM, g.p = d.p → g.value = d.value → g.hold = d.hold → g.state = d.state → AppIs g V H := fun g e1 e2 e3 e4 =>
    ⟨e2.trans h.value, e3.trans h.hold, fun x => h.dead (e4.symm.trans x), by rw [e1]; exact h.inn⟩
  unfold stepD
  rw [hf]
  simp only
  by_cases k11 : o.kind = 11
  · have k9 : ¬ o.kind = 9 := by omega
    have k8 : ¬ o.kind = 8 := by omega
    have k10 : ¬ o.kind = 10 := by omega
    rw [if_neg k8, if_neg k9, if_neg k10, if_pos k11]
    have c9 : ¬ (o.kind = 9 ∧ o.data.length = 1 ∧ d.state ≠ 6) := fun x => k9 x.1
    unfold DevM.reset
    by_cases hn : o.n < 0
    · have c11 : ¬ (o.kind = 11 ∧ 0 ≤ o.n) := fun x => by omega
      rw [if_pos hn, if_neg c11, if_neg c11, if_neg c9, if_neg c9]
      exact h
    · have c11 : o.kind = 11 ∧ 0 ≤ o.n := ⟨k11, by omega⟩
      rw [if_neg hn, if_pos c11, if_pos c11]
      simp only
      split
      · exact ⟨by show List.replicate d.p.inn.toNat 0 = _; rw [h.inn]; rfl, rfl, fun _ => ⟨rfl, rfl⟩, h.inn⟩
      · exact ⟨by show List.replicate d.p.inn.toNat 0 = _; rw [h.inn]; rfl, rfl, fun _ => ⟨rfl, rfl⟩, h.inn⟩
  simp only [k11, false_and, if_false]
  by_cases k9 : o.kind = 9
  · have k8 : ¬ o.kind = 8 := by omega
    rw [if_neg k8, if_pos k9]
    simp only [k9, true_and]
    unfold DevM.write
    by_cases h6 : d.state = 6
    · rw [if_pos h6, if_neg (fun x => x.2 h6), if_neg (fun x => x.2 h6)]
      exact h
    · rw [if_neg h6]
      by_cases hl : o.data.length = 1
      · rw [if_neg (by rw [h.inn, hl]; simp), if_pos ⟨hl, h6⟩, if_pos ⟨hl, h6⟩]
        exact ⟨rfl, rfl, fun x => absurd x h6, h.inn⟩
      · rw [if_pos (by rw [h.inn]; omega), if_neg (fun x => hl x.1), if_neg (fun x => hl x.1)]
        exact h
  simp only [k9, false_and, if_false]
  by_cases k8 : o.kind = 8
  · rw [if_pos k8]
    unfold DevM.tick
    split
    · exact h
    split
    · exact h
    · simp only
      split
      · exact keep _ rfl rfl rfl rfl
      · exact keep _ rfl rfl rfl rfl
  rw [if_neg k8]
  split
  · unfold DevM.ack
    split
    · exact h
    split
    · exact keep _ rfl rfl rfl rfl
    · exact h
  split
  · exact keep _ rfl rfl rfl rfl
  · exact h
theorem flags_bits (v : ValveM) (H : Bool) : (bits .and .i64 (flagsM v H) 1 != 0) = !v.on ∧ (bits .and .i64 (flagsM v H) 2 != 0) = v.request ∧ (bits .and .i64 (flagsM v H) 4 != 0) = (v.latched != 0) ∧ (bits .and .i64 (flagsM v H) 8 != 0) = H := by
  have hb : (v.latched != 0) = decide (v.latched ≠ 0) := by by_cases h : v.latched = 0 <;> simp [h]
  rw [hb]
  unfold flagsM
  generalize v.on = a
  generalize v.request = b
  by_cases hl : v.latched = 0
  · simp only [hl, if_true, ne_eq, not_true_eq_false, decide_false]
    cases a <;> cases b <;> cases H <;> decide +kernel
  · simp only [hl, if_false, ne_eq, not_false_eq_true, decide_true]
    cases a <;> cases b <;> cases H <;> decide +kernel
end Go.Proofs.YtlldgfejcjnpkaaGreat
