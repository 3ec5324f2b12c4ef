/- The law of a host's memory: its states, plain. -/
import Derived.Test.YtfoldlbnkfnenaaGreatCGivesM
namespace Go.Proofs.YtfoldlbnkfnenaaGreat

/-- The host with value l behind the first k units (sent one ahead of each); d: the data. -/
def oAt (l d : List UInt8) : Nat → HostM
  | 0 => { smallH with value := l }
  | 1 => { smallH with value := l, session := 1, state := 2 }
  | 2 => { smallH with value := l, session := 1, state := 3 }
  | 3 => { smallH with value := l, session := 1, state := 4, valve := { running := true } }
  | _ => { smallH with value := l, session := 1, state := 4, number := 1, sent := 1, valve := { running := true, value := some d } }
def oSent (l d : List UInt8) : Nat → HostM
  | 3 => { oAt l d 3 with waits := true, sent := 1 }
  | k => { oAt l d k with waits := true }
def oUnit (d : List UInt8) : Nat → UnitM
  | 0 => ⟨17, 7, 1, 0, 0, smallM.sign⟩
  | 1 => ⟨18, 7, 1, 0, 0, []⟩
  | 2 => ⟨19, 7, 1, 0, 0, []⟩
  | _ => ⟨20, 7, 1, 1, 0, d⟩
theorem o_send (l d : List UInt8) (k : Nat) (hk : k < 4) : (oAt l d k).send.1 = oSent l d k ∧ (oAt l d k).send.2.2 = 0 := by
  match k, hk with
  | 0, _ => exact ⟨rfl, rfl⟩
  | 1, _ => exact ⟨rfl, rfl⟩
  | 2, _ => exact ⟨rfl, rfl⟩
  | 3, _ => exact ⟨rfl, rfl⟩
theorem o_frame (l d : List UInt8) (k : Nat) (hk : k < 4) : frameM (oSent l d k) ⟨(k : Int) + 1, 1, 0, false, d, 0, 0⟩ = some (oUnit d k).encode := by
  match k, hk with
  | 0, _ => rfl
  | 1, _ => rfl
  | 2, _ => rfl
  | 3, _ => rfl
theorem o_receive (l d : List UInt8) (hd : d.length = 1) (k : Nat) (hk : k < 4) : (oSent l d k).receive (oUnit d k).encode = (oAt l d (k + 1), 0) := by
  match k, hk with
  | 0, _ =>
    have ho := offer_lawful (s := 1) (by omega)
    have ht : (oSent l d 0).take (oUnit d 0) = (oAt l d 1, 0) := take_offer (u := ⟨17, 7, 1, 0, 0, smallM.sign⟩) rfl rfl (show (0 : Int) < 1 by decide) rfl
    rw [receive_unit (u := oUnit d 0) ho.1 ho.2 rfl rfl, ht]
    rfl
  | 1, _ =>
    have hl : (oUnit d 1).lawful = 0 := show (UnitM.mk 18 7 1 0 0 []).lawful = 0 by decide
    have ht : (oSent l d 1).take (oUnit d 1) = (oAt l d 2, 0) := take_agreed (u := ⟨18, 7, 1, 0, 0, []⟩) rfl rfl rfl
    rw [receive_unit hl ⟨by simp [oUnit], by simp [oUnit], by simp [oUnit]⟩ rfl rfl, ht]
    rfl
  | 2, _ =>
    have hl : (oUnit d 2).lawful = 0 := show (UnitM.mk 19 7 1 0 0 []).lawful = 0 by decide
    have ht : (oSent l d 2).take (oUnit d 2) = (oAt l d 3, 0) := take_started (u := ⟨19, 7, 1, 0, 0, []⟩) rfl rfl rfl
    rw [receive_unit hl ⟨by simp [oUnit], by simp [oUnit], by simp [oUnit]⟩ rfl rfl, ht]
    rfl
  | 3, _ =>
    have hl : (oUnit d 3).lawful = 0 := by unfold oUnit UnitM.lawful; simp [isHost, isDev, dataOk, sessOk, numOk, flagOk, hd]
    have ht : (oSent l d 3).take (oUnit d 3) = (oAt l d 4, 0) := take_data (u := ⟨20, 7, 1, 1, 0, d⟩) rfl rfl rfl (show (0 : Int) < 1 by decide) (show (1 : Int) < 9 by decide) (show (d.length : Int) = 1 by omega)
    rw [receive_unit hl ⟨by simp [oUnit], by simp [oUnit], by simp [oUnit]⟩ rfl rfl, ht]
    rfl
theorem o_write (l d : List UInt8) (hl : l.length = 2) : smallH.write l false = (oAt l d 0, 0) := by
  unfold HostM.write
  have : ¬ ((l.length : Int) ≠ smallH.p.out) := fun h => h (by rw [hl]; rfl)
  rw [if_neg this]
  rfl
theorem oAt_log (l d : List UInt8) (k : Nat) : (oAt l d k).log = [] := by
  match k with
  | 0 => rfl
  | 1 => rfl
  | 2 => rfl
  | 3 => rfl
  | n + 4 => rfl
theorem oSent_log (l d : List UInt8) (k : Nat) (hk : k < 4) : (oSent l d k).log = [] := by
  match k, hk with
  | 0, _ => rfl
  | 1, _ => rfl
  | 2, _ => rfl
  | 3, _ => rfl
theorem o_quiet (l d : List UInt8) (k : Nat) (hk : k < 4) : (oAt l d k).state ≠ 5 ∧ (oAt l d k).waits = false ∧ ((oAt l d k).state ≤ 3 ∨ ¬ (oAt l d k).sent + 1 = (oAt l d k).p.count) := by
  match k, hk with
  | 0, _ => exact ⟨show ¬ (1 : Int) = 5 by decide, rfl, .inl (show (1 : Int) ≤ 3 by decide)⟩
  | 1, _ => exact ⟨show ¬ (2 : Int) = 5 by decide, rfl, .inl (show (2 : Int) ≤ 3 by decide)⟩
  | 2, _ => exact ⟨show ¬ (3 : Int) = 5 by decide, rfl, .inl (show (3 : Int) ≤ 3 by decide)⟩
  | 3, _ => exact ⟨show ¬ (4 : Int) = 5 by decide, rfl, .inr (show ¬ (0 : Int) + 1 = 9 by decide)⟩
theorem o_see (l d : List UInt8) : (oAt l d 4).see.on = true ∧ (oAt l d 4).see.out = d := ⟨rfl, rfl⟩
theorem o_live (l d : List UInt8) (k : Nat) : (oAt l d k).Live := by
  match k with
  | 0 => exact fun h => absurd rfl h
  | 1 => exact fun _ => (show (0 : Int) < 1 by decide)
  | 2 => exact fun _ => (show (0 : Int) < 1 by decide)
  | 3 => exact fun _ => (show (0 : Int) < 1 by decide)
  | n + 4 => exact fun _ => (show (0 : Int) < 1 by decide)
end Go.Proofs.YtfoldlbnkfnenaaGreat
