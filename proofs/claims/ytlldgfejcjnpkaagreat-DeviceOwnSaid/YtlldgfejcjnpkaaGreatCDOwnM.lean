/- The law of a device's memory: its states, plain. -/
import Derived.Test.YtlldgfejcjnpkaaGreatCDGivesM
import Derived.Test.YtlldgfejcjnpkaaGreatBase7
set_option linter.unusedVariables false
namespace Go.Proofs.YtlldgfejcjnpkaaGreat
namespace DevM

/-- The memory behind the first session's begin. -/
def dMem : MemM := ((MemM.mk (List.replicate 16 0) false false 0 0).writeSlot 0 1).1
/-- The device with value v behind the first k units; d: the data. -/
def dAt (v d : List UInt8) : Nat → DevM
  | 0 => { first 9 with value := v }
  | 1 => { first 9 with value := v, cell := ⟨9, 1, false⟩, m := dMem, session := 1, state := 2 }
  | 2 => { first 9 with value := v, cell := ⟨9, 1, false⟩, m := dMem, session := 1, state := 3 }
  | 3 => { first 9 with value := v, cell := ⟨9, 1, false⟩, m := dMem, session := 1, state := 4, valve := { running := true } }
  | _ => { first 9 with value := v, cell := ⟨9, 1, false⟩, m := dMem, session := 1, state := 4, number := 1, sent := 1, valve := { running := true, value := some d } }
def dUnit (d : List UInt8) : Nat → UnitM
  | 0 => ⟨1, 7, 0, 0, 0, small.sign⟩
  | 1 => ⟨2, 7, 1, 0, 0, small.sign⟩
  | 2 => ⟨3, 7, 1, 0, 0, []⟩
  | _ => ⟨4, 7, 1, 1, 0, d⟩
def dAns (v : List UInt8) : Nat → UnitM
  | 0 => ⟨17, 7, 1, 0, 0, small.sign⟩
  | 1 => ⟨18, 7, 1, 0, 0, []⟩
  | 2 => ⟨19, 7, 1, 0, 0, []⟩
  | _ => ⟨20, 7, 1, 1, 0, v⟩
theorem receive_host {m : DevM} {u : UnitM} (hl : u.lawful = 0) (ho : u.Ok) (hd : isHost u.kind = true) (hc : u.code = m.p.code) (hs : m.state ≠ 6) : m.receive u.encode = m.got u := by
  have hr : m.read u.encode = m.take u := by
    unfold read
    rw [decode_encode hl ho]
    simp [hd, hc]
  unfold receive got
  rw [if_neg hs, hr]
theorem got_ok {m g : DevM} {u : UnitM} {a : List UInt8} (h : m.take u = (g, a, 0)) : m.got u = (g, a, 0) := by
  unfold got
  simp only [h]
  rfl
theorem d_write (v d : List UInt8) (hv : v.length = 1) : (first 9).write v false = (dAt v d 0, 0) := by
  unfold write
  rw [if_neg (by decide), if_neg (fun h => h (by rw [hv]; rfl))]
  rfl
theorem d_frame (v d : List UInt8) (k : Nat) (hk : k < 4) : frameD (dAt v d k) ⟨(k : Int) + 1, 1, 0, false, d, 0, 0⟩ = some (dUnit d k).encode := by
  match k, hk with
  | 0, _ => rfl
  | 1, _ => rfl
  | 2, _ => rfl
  | 3, _ => rfl
theorem d_receive (v d : List UInt8) (hd : d.length = 2) (k : Nat) (hk : k < 4) : (dAt v d k).receive (dUnit d k).encode = (dAt v d (k + 1), (dAns v k).encode, 0) := by
  match k, hk with
  | 0, _ =>
    have hl : (dUnit d 0).lawful = 0 := show (UnitM.mk 1 7 0 0 0 small.sign).lawful = 0 by decide
    rw [receive_host hl ⟨by simp [dUnit], by simp [dUnit], by simp [dUnit]⟩ rfl rfl (show (1 : Int) ≠ 6 by decide)]
    exact got_ok (by kernel_rfl)
  | 1, _ =>
    have hl : (dUnit d 1).lawful = 0 := show (UnitM.mk 2 7 1 0 0 small.sign).lawful = 0 by decide
    rw [receive_host hl ⟨by simp [dUnit], by simp [dUnit], by simp [dUnit]⟩ rfl rfl (show (2 : Int) ≠ 6 by decide)]
    exact got_ok (by kernel_rfl)
  | 2, _ =>
    have hl : (dUnit d 2).lawful = 0 := show (UnitM.mk 3 7 1 0 0 []).lawful = 0 by decide
    rw [receive_host hl ⟨by simp [dUnit], by simp [dUnit], by simp [dUnit]⟩ rfl rfl (show (3 : Int) ≠ 6 by decide)]
    exact got_ok (by kernel_rfl)
  | 3, _ =>
    have hl : (dUnit d 3).lawful = 0 := by unfold dUnit UnitM.lawful; simp [isHost, isDev, dataOk, sessOk, numOk, flagOk, hd]
    rw [receive_host hl ⟨by simp [dUnit], by simp [dUnit], by simp [dUnit]⟩ rfl rfl (show (4 : Int) ≠ 6 by decide)]
    refine got_ok ?_
    unfold take
    rw [if_neg (by show ¬ (4 : Int) = 1; decide), if_neg (fun h => by have h1 : (4 : Int) = 2 := h.1; omega), if_neg (fun h => by have h1 : (4 : Int) = 3 := h.1; omega), if_pos ⟨rfl, rfl, rfl, show (0 : Int) < 1 by decide, show (d.length : Int) = 2 by rw [hd]; rfl, show (1 : Int) < 9 by decide⟩]
    rfl
theorem dAt_log (v d : List UInt8) (k : Nat) : (dAt v d k).log = [] := by
  match k with
  | 0 => rfl
  | 1 => rfl
  | 2 => rfl
  | 3 => rfl
  | n + 4 => rfl
theorem d_see (v d : List UInt8) : (dAt v d 4).see.on = true ∧ (dAt v d 4).see.out = d := ⟨rfl, rfl⟩
end DevM
end Go.Proofs.YtlldgfejcjnpkaaGreat
