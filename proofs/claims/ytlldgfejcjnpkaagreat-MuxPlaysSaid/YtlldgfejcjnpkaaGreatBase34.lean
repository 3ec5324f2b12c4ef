/- The base of the laws, part 34: contracts and plain lemmas, no statement. -/
import Derived.Test.YtlldgfejcjnpkaaGreatBase5
import Derived.Test.YtlldgfejcjnpkaaGreatBase8
import Derived.Test.YtlldgfejcjnpkaaGreatBase13
import Derived.Test.YtlldgfejcjnpkaaGreatBase33
set_option linter.unusedVariables false
/- What the device's laws share beside the base. -/
namespace Go.Proofs.YtlldgfejcjnpkaaGreat
open Go.RowKit
set_option maxHeartbeats 10000000
set_option maxRecDepth 100000

theorem Mems.below {B ma mb : Nat} {w w' : World} {M1 M2 : MemM} {F1 F2 : Nat → Prop} (h : Mems B w ma mb M1 M2 F1 F2) (hb : Below w.heap.size w w') : Mems B w' ma mb M1 M2 F1 F2 :=
  ⟨h.m1.below hb, h.m2.below hb, fun x hx => by have := h.lo1 x hx; have := hb.size; omega, fun x hx => by have := h.lo2 x hx; have := hb.size; omega, h.dj⟩
theorem mems_new {w1 w2 w3 : World} {ma mb : Nat} (h1 : MemIs w2 ma mem16 (fun x => w1.heap.size ≤ x ∧ x < w2.heap.size)) (hb2 : Below w1.heap.size w1 w2) (h2 : RMemIs w3 mb mem16 (fun x => w2.heap.size ≤ x ∧ x < w3.heap.size)) (hb3 : Below w2.heap.size w2 w3) : ∃ F1 F2, Mems w1.heap.size w3 ma mb mem16 mem16 F1 F2 :=
  ⟨_, _, h1.below hb3, h2, fun x hx => by have := hb3.size; omega, fun x hx => by have := hb2.size; omega, fun x hx h => by omega⟩
theorem frame_crc {u : UnitM} (h : u.lawful = 0) (ho : u.Ok) : crcOf 0#32 u.encode = 0#32 ∧ 19 ≤ u.encode.length ∧ u.encode.length ≤ 27 := by
  have hd := decode_encode h ho
  unfold decodeM at hd
  split at hd
  · have := congrArg Prod.snd hd; simp at this
  split at hd
  · have := congrArg Prod.snd hd; simp at this
  split at hd
  · have := congrArg Prod.snd hd; simp at this
  · rename_i h1 h2 h3
    exact ⟨by simpa using h3, by omega, by omega⟩
/-- A frame with a burst turned in it is told. -/
theorem spoilt_decode {u : UnitM} {x : List UInt8} {at_ word : Int} (ho : u.Ok) (h : burstM u.encode at_ word = some x) : decodeM x = (.zero, 42) ∧ x.length ≤ 27 := by
  have hl : u.lawful = 0 := by
    rcases Classical.em (u.lawful = 0) with hl | hl
    · exact hl
    · have e : u.encode = [] := by unfold UnitM.encode; rw [if_neg hl]
      rw [e] at h
      unfold burstM at h
      simp only [List.length_nil, Nat.mul_zero] at h
      rw [if_pos (by omega)] at h
      cases h
  obtain ⟨h1, h2, h3⟩ := frame_crc hl ho
  obtain ⟨h4, h5⟩ := burst_crc h h1
  refine ⟨?_, by omega⟩
  unfold decodeM
  rw [if_neg (by omega), if_neg (by omega), if_pos h4]
theorem endSD9 {w : World} {g : Nat} {x0 x1 x2 x3 x4 x5 x6 x7 x8 : Value} (h : Blk w g 57 #[x0, x1, x2, x3, x4, x5, x6, x7, x8]) :
    w.cell? ⟨g, 0, none⟩ = some x0 ∧ w.cell? ⟨g, 1, none⟩ = some x1 ∧ w.cell? ⟨g, 2, none⟩ = some x2 ∧ w.cell? ⟨g, 3, none⟩ = some x3 ∧ w.cell? ⟨g, 4, none⟩ = some x4 ∧ w.cell? ⟨g, 5, none⟩ = some x5 ∧ w.cell? ⟨g, 6, none⟩ = some x6 ∧ w.cell? ⟨g, 7, none⟩ = some x7 ∧ w.cell? ⟨g, 8, none⟩ = some x8 :=
  ⟨(h.cell 0).trans rfl, (h.cell 1).trans rfl, (h.cell 2).trans rfl, (h.cell 3).trans rfl, (h.cell 4).trans rfl, (h.cell 5).trans rfl, (h.cell 6).trans rfl, (h.cell 7).trans rfl, (h.cell 8).trans rfl⟩
end Go.Proofs.YtlldgfejcjnpkaaGreat
