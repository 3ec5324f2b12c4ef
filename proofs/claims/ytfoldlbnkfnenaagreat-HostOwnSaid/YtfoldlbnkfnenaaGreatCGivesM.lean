/- The law of a host that gives up a session: plain. -/
import Derived.Test.YtfoldlbnkfnenaaGreatBase14
namespace Go.Proofs.YtfoldlbnkfnenaaGreat

theorem receive_unit {m : HostM} {u : UnitM} (hl : u.lawful = 0) (ho : u.Ok) (hd : isDev u.kind = true) (hc : u.code = m.p.code) :
    m.receive u.encode = if (m.take u).2 = 0 then m.take u else ({ (m.take u).1 with log := noteM (m.take u).1.log (m.take u).2 (m.take u).1.session (m.take u).1.number }, (m.take u).2) := by
  have hr : m.read u.encode = m.take u := by
    unfold HostM.read
    rw [decode_encode hl ho]
    simp only
    rw [if_neg (by simp), if_neg (by simp [hd]), if_neg (by simp [hc])]
  unfold HostM.receive
  simp only [hr]
theorem take_offer {m : HostM} {u : UnitM} (h1 : m.state = 1) (hk : u.kind = 17) (hs : m.session < u.session) (hd : u.data = m.p.sign) : m.take u = (({ m with session := u.session, state := 2 } : HostM).alive, 0) := by
  unfold HostM.take
  have h2 : ¬ (u.kind ≠ 17 ∨ u.session ≤ m.session) := by omega
  have h3 : ¬ (u.data ≠ m.p.sign) := fun h => h hd
  rw [if_pos h1, if_neg h2, if_neg h3]
theorem take_old {m : HostM} {u : UnitM} (h1 : m.state = 1) (hs : u.session ≤ m.session) : m.take u = (m, 130) := by
  unfold HostM.take
  rw [if_pos h1, if_pos (.inr hs)]
theorem take_agreed {m : HostM} {u : UnitM} (h1 : m.state = 2) (hk : u.kind = 18) (hs : u.session = m.session) : m.take u = (({ m with state := 3 } : HostM).alive, 0) := by
  unfold HostM.take
  have h2 : ¬ m.state = 1 := by omega
  have h3 : ¬ (u.session ≠ m.session ∨ m.state = 5) := by omega
  rw [if_neg h2, if_neg h3, if_pos ⟨h1, hk⟩]
theorem take_started {m : HostM} {u : UnitM} (h1 : m.state = 3) (hk : u.kind = 19) (hs : u.session = m.session) : m.take u = ((({ m with state := 4 } : HostM).run true).alive, 0) := by
  unfold HostM.take
  have h2 : ¬ m.state = 1 := by omega
  have h3 : ¬ (u.session ≠ m.session ∨ m.state = 5) := by omega
  have h4 : ¬ (m.state = 2 ∧ u.kind = 18) := by omega
  rw [if_neg h2, if_neg h3, if_neg h4, if_pos ⟨h1, hk⟩]
theorem take_data {m : HostM} {u : UnitM} (h1 : m.state = 4) (hk : u.kind = 20) (hs : u.session = m.session) (hn : m.number < u.number) (hc : u.number < m.p.count) (hd : (u.data.length : Int) = m.p.inn) :
    m.take u = ({ ({ m with number := u.number } : HostM).alive with valve := ((({ m with number := u.number } : HostM).alive.valve.hold (decide (8 ≤ u.flags))).take u.data) }, 0) := by
  unfold HostM.take
  have h2 : ¬ m.state = 1 := by omega
  have h3 : ¬ (u.session ≠ m.session ∨ m.state = 5) := by omega
  have h4 : ¬ (m.state = 2 ∧ u.kind = 18) := by omega
  have h5 : ¬ (m.state = 3 ∧ u.kind = 19) := by omega
  rw [if_neg h2, if_neg h3, if_neg h4, if_neg h5, if_pos ⟨h1, hk, hn, hc, hd⟩]
theorem offer_lawful {s : Int} (hs : 1 ≤ s ∧ s < 4294967296) : (UnitM.mk 17 7 s 0 0 smallM.sign).lawful = 0 ∧ (UnitM.mk 17 7 s 0 0 smallM.sign).Ok := by
  refine ⟨?_, ⟨by simp, by simp only; omega, by simp⟩⟩
  have h0 : s ≠ 0 := by omega
  unfold UnitM.lawful
  simp [isHost, isDev, dataOk, sessOk, numOk, flagOk, sign_length, h0]
/-- The host behind the first k units. -/
def guAt (s : Int) : Nat → HostM
  | 0 => smallH
  | 1 => { smallH with session := s, state := 2 }
  | 2 => { smallH with session := s, state := 3 }
  | 3 => { smallH with session := s, state := 4, valve := { running := true } }
  | _ => { smallH with session := s, state := 4, number := 1, valve := { running := true, value := some [4] } }
/-- The k-th call. -/
def guOp (s : Int) : Nat → OpM
  | 0 => ⟨1, s, 0, false, [], 0, 0⟩
  | 1 => ⟨2, 0, 0, false, [], 0, 0⟩
  | 2 => ⟨3, 0, 0, false, [], 0, 0⟩
  | _ => ⟨4, 1, 0, false, [4], 0, 0⟩
theorem addU0 {s : Int} (hs : 1 ≤ s ∧ s < 4294967296) : addU 0 s = s := by unfold addU; omega
theorem guStep {s : Int} (hs : 1 ≤ s ∧ s < 4294967296) (k : Nat) (hk : k < 4) : stepM (guAt s k) (guOp s k) = guAt s (k + 1) := by
  have h0 : s ≠ 0 := by omega
  match k, hk with
  | 0, _ =>
    have e : stepM (guAt s 0) (guOp s 0) = (smallH.receive (UnitM.mk 17 7 (addU 0 s) 0 0 smallM.sign).encode).1 := rfl
    have ho := offer_lawful hs
    rw [e, addU0 hs, receive_unit ho.1 ho.2 rfl rfl]
    have ht : smallH.take ⟨17, 7, s, 0, 0, smallM.sign⟩ = (guAt s 1, 0) := take_offer (u := ⟨17, 7, s, 0, 0, smallM.sign⟩) rfl rfl (show (0 : Int) < s by omega) rfl
    rw [ht]
    rfl
  | 1, _ =>
    have e : stepM (guAt s 1) (guOp s 1) = ((guAt s 1).receive (UnitM.mk 18 7 s 0 0 []).encode).1 := rfl
    have hl : (UnitM.mk 18 7 s 0 0 []).lawful = 0 := by unfold UnitM.lawful; simp [isHost, isDev, dataOk, sessOk, numOk, flagOk, h0]
    rw [e, receive_unit hl ⟨by simp, by simp only; omega, by simp⟩ rfl rfl]
    have ht : (guAt s 1).take ⟨18, 7, s, 0, 0, []⟩ = (guAt s 2, 0) := take_agreed (u := ⟨18, 7, s, 0, 0, []⟩) rfl rfl rfl
    rw [ht]
    rfl
  | 2, _ =>
    have e : stepM (guAt s 2) (guOp s 2) = ((guAt s 2).receive (UnitM.mk 19 7 s 0 0 []).encode).1 := rfl
    have hl : (UnitM.mk 19 7 s 0 0 []).lawful = 0 := by unfold UnitM.lawful; simp [isHost, isDev, dataOk, sessOk, numOk, flagOk, h0]
    rw [e, receive_unit hl ⟨by simp, by simp only; omega, by simp⟩ rfl rfl]
    have ht : (guAt s 2).take ⟨19, 7, s, 0, 0, []⟩ = (guAt s 3, 0) := take_started (u := ⟨19, 7, s, 0, 0, []⟩) rfl rfl rfl
    rw [ht]
    rfl
  | 3, _ =>
    have e : stepM (guAt s 3) (guOp s 3) = ((guAt s 3).receive (UnitM.mk 20 7 s 1 0 [4]).encode).1 := rfl
    have hl : (UnitM.mk 20 7 s 1 0 [4]).lawful = 0 := by unfold UnitM.lawful; simp [isHost, isDev, dataOk, sessOk, numOk, flagOk, h0]
    rw [e, receive_unit hl ⟨by simp, by simp only; omega, by simp⟩ rfl rfl]
    have ht : (guAt s 3).take ⟨20, 7, s, 1, 0, [4]⟩ = (guAt s 4, 0) := take_data (u := ⟨20, 7, s, 1, 0, [4]⟩) rfl rfl rfl (show (0 : Int) < 1 by decide) (show (1 : Int) < 9 by decide) (show ((1 : Nat) : Int) = 1 by decide)
    rw [ht]
    rfl
/-- .. behind j sendings more. -/
def guSent (s : Int) (k : Nat) : Nat → HostM
  | 0 => guAt s k
  | j + 1 => { guAt s k with waits := true, missed := j, sent := if k < 3 then 0 else j + 1 }
theorem guSend {s : Int} (k j : Nat) (hk : 1 ≤ k ∧ k ≤ 4) (hj : j < 4) : (guSent s k j).send.1 = guSent s k (j + 1) ∧ (guSent s k j).send.2.2 = 0 ∧ (guSent s k (j + 1)).state = (guAt s k).state := by
  match k, hk, j, hj with
  | 1, _, 0, _ => exact ⟨rfl, rfl, rfl⟩
  | 1, _, 1, _ => exact ⟨rfl, rfl, rfl⟩
  | 1, _, 2, _ => exact ⟨rfl, rfl, rfl⟩
  | 1, _, 3, _ => exact ⟨rfl, rfl, rfl⟩
  | 2, _, 0, _ => exact ⟨rfl, rfl, rfl⟩
  | 2, _, 1, _ => exact ⟨rfl, rfl, rfl⟩
  | 2, _, 2, _ => exact ⟨rfl, rfl, rfl⟩
  | 2, _, 3, _ => exact ⟨rfl, rfl, rfl⟩
  | 3, _, 0, _ => exact ⟨rfl, rfl, rfl⟩
  | 3, _, 1, _ => exact ⟨rfl, rfl, rfl⟩
  | 3, _, 2, _ => exact ⟨rfl, rfl, rfl⟩
  | 3, _, 3, _ => exact ⟨rfl, rfl, rfl⟩
  | 4, _, 0, _ => exact ⟨rfl, rfl, rfl⟩
  | 4, _, 1, _ => exact ⟨rfl, rfl, rfl⟩
  | 4, _, 2, _ => exact ⟨rfl, rfl, rfl⟩
  | 4, _, 3, _ => exact ⟨rfl, rfl, rfl⟩
theorem guAt_log (s : Int) (k : Nat) : (guAt s k).log = [] := by
  match k with
  | 0 => rfl
  | 1 => rfl
  | 2 => rfl
  | 3 => rfl
  | n + 4 => rfl
theorem guSent_log (s : Int) (k j : Nat) : (guSent s k j).log = [] := by
  cases j
  · exact guAt_log s k
  · exact guAt_log s k
/-- The fifth sending. -/
theorem guFifth {s : Int} (k : Nat) (hk : 1 ≤ k ∧ k ≤ 4) : ∃ g : HostM, (guSent s k 4).send = (g, (UnitM.mk 1 7 0 0 0 smallM.sign).encode, 0) ∧ g.p = smallM ∧ g.state = 1 ∧ g.session = s ∧ g.valve.on = false ∧ (g.valve.latched = 131 ↔ (guAt s k).state = 4) := by
  match k, hk with
  | 1, _ => exact ⟨_, rfl, rfl, rfl, rfl, rfl, show (0 : Int) = 131 ↔ (2 : Int) = 4 by decide⟩
  | 2, _ => exact ⟨_, rfl, rfl, rfl, rfl, rfl, show (0 : Int) = 131 ↔ (3 : Int) = 4 by decide⟩
  | 3, _ => exact ⟨_, rfl, rfl, rfl, rfl, rfl, show (131 : Int) = 131 ↔ (4 : Int) = 4 by decide⟩
  | 4, _ => exact ⟨_, rfl, rfl, rfl, rfl, rfl, show (131 : Int) = 131 ↔ (4 : Int) = 4 by decide⟩
theorem guFrame {g : HostM} {s : Int} (n : Int) (hp : g.p = smallM) (h2 : g.session = s) : frameM g ⟨1, n, 0, false, [], 0, 0⟩ = some (UnitM.mk 17 7 (addU s n) 0 0 smallM.sign).encode := by
  have e : frameM g ⟨1, n, 0, false, [], 0, 0⟩ = some (UnitM.mk 17 g.p.code (addU g.session n) 0 0 g.p.sign).encode := rfl
  rw [e, hp, h2]
  rfl
/-- What comes then. -/
theorem guSame {s : Int} {g : HostM} (hs : 1 ≤ s ∧ s < 4294967296) (hp : g.p = smallM) (h1 : g.state = 1) (h2 : g.session = s) : (g.receive (UnitM.mk 17 7 s 0 0 smallM.sign).encode).2 = 130 ∧ (g.receive (UnitM.mk 17 7 s 0 0 smallM.sign).encode).1.p = smallM ∧ (g.receive (UnitM.mk 17 7 s 0 0 smallM.sign).encode).1.state = 1 ∧ (g.receive (UnitM.mk 17 7 s 0 0 smallM.sign).encode).1.session = s := by
  have ho := offer_lawful hs
  have ht : g.take ⟨17, 7, s, 0, 0, smallM.sign⟩ = (g, 130) := take_old h1 (by simp only; omega)
  rw [receive_unit ho.1 ho.2 rfl (by rw [hp]; rfl), ht]
  exact ⟨rfl, hp, h1, h2⟩
theorem guAbove {s : Int} {g : HostM} (hs : 1 ≤ s ∧ s < 4294967296) (hp : g.p = smallM) (h1 : g.state = 1) (h2 : g.session < s) : (g.receive (UnitM.mk 17 7 s 0 0 smallM.sign).encode).2 = 0 ∧ (g.receive (UnitM.mk 17 7 s 0 0 smallM.sign).encode).1.session = s := by
  have ho := offer_lawful hs
  have ht := take_offer (m := g) (u := ⟨17, 7, s, 0, 0, smallM.sign⟩) h1 rfl h2 (by rw [hp])
  rw [receive_unit ho.1 ho.2 rfl (by rw [hp]; rfl), ht]
  exact ⟨rfl, rfl⟩
end Go.Proofs.YtfoldlbnkfnenaaGreat
