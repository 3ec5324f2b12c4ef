/- More of what the laws' walks share. -/
import Derived.Test.YtfoldlbnkfnenaaGreatBase14
namespace Go.Proofs.YtfoldlbnkfnenaaGreat
open Go.RowKit
set_option maxHeartbeats 10000000
set_option maxRecDepth 100000

section
variable {B a b : Nat} {w w' : World} {m : HostM} {T T' : Nat → Prop}
theorem two_log (h : Two B w a b m T) (hlen : m.log.length < 1073741600) :
    Calls Tryz.prog 30 #[.pointer (some ⟨a, 0, none⟩)] w fun e w' => ∃ x, e = .returned (.tuple #[x, .int .i64 m.log.length]) ∧ w'.ownsRow w.heap.size 145 4 x (kept m.log).length (recsCells (kept m.log)) ∧ Below w.heap.size w w' := by
  obtain ⟨F1, F2, hP, _⟩ := h.pair
  exact hostLog_any B a m F1 w hP.host (by omega)
theorem two_receive (h : Two B w a b m T) (hlen : m.log.length < 1073741600) (n : Nat) (l : List UInt8) (A : Option Addr) (c Br : Nat) (hr : Reads w Br 1 A n (u8c l)) (hB : Br ≤ w.heap.size) (hc : n ≤ c) (hn : n ≤ 140737488351232) :
    Calls Tryz.prog 22 #[.pointer (some ⟨a, 0, none⟩), .slice A n c] w fun e w' => e = .returned (.int .i64 (m.receive l).2) ∧ (∃ F, HostIs B w' a (m.receive l).1 F) ∧ Keep T w w' ∧ Below B w w' := by
  obtain ⟨F1, F2, hP, hT⟩ := h.pair
  refine (hostReceive_any n l hP.host h.good (by omega) hr hB hc hn).mono ?_
  rintro e w' ⟨he, t⟩
  exact ⟨he, ⟨_, t.is_⟩, t.keep.mono (fun x _ hx => hT x (.inl hx)), HostTo.belowB hP.host t⟩
end
/-- A frame's check, where there is a frame. -/
theorem encode_crc {u : UnitM} (h : u.lawful = 0) (ho : u.Ok) : crcOf 0#32 u.encode = 0#32 ∧ 19 ≤ u.encode.length ∧ u.encode.length ≤ 27 := by
  have hd := decode_encode h ho
  unfold decodeM at hd
  split at hd
  · have := congrArg Prod.snd hd; simp at this
  split at hd
  · have := congrArg Prod.snd hd; simp at this
  split at hd
  · have := congrArg Prod.snd hd; simp at this
  · rename_i h1 h2 h3
    exact ⟨by simpa using h3, by omega, by omega⟩
/-- A frame with a burst turned in it is told and noted, and does nothing else. -/
theorem spoilt_receive {u : UnitM} {x : List UInt8} {at_ word : Int} (ho : u.Ok) (h : burstM u.encode at_ word = some x) (m : HostM) : m.receive x = ({ m with log := noteM m.log 42 m.session m.number }, 42) ∧ x.length ≤ 27 := by
  have hl : u.lawful = 0 := by
    rcases Classical.em (u.lawful = 0) with hl | hl
    · exact hl
    · have e : u.encode = [] := by unfold UnitM.encode; rw [if_neg hl]
      rw [e] at h
      unfold burstM at h
      simp only [List.length_nil, Nat.mul_zero] at h
      rw [if_pos (by omega)] at h
      cases h
  obtain ⟨h1, h2, h3⟩ := encode_crc hl ho
  obtain ⟨h4, h5⟩ := burst_crc h h1
  have hd : decodeM x = (.zero, 42) := by
    unfold decodeM
    rw [if_neg (by omega), if_neg (by omega), if_pos h4]
  have hr : m.read x = (m, 42) := by
    unfold HostM.read
    rw [hd]
    simp only
    rw [if_pos (by decide)]
  refine ⟨?_, by omega⟩
  unfold HostM.receive
  simp only [hr]
  rw [if_neg (by decide)]
end Go.Proofs.YtfoldlbnkfnenaaGreat
