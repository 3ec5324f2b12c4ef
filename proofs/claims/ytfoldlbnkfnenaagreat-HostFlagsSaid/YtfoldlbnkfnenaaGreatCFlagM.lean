/- The flags of what a host sends: plain. -/
import Derived.Test.YtfoldlbnkfnenaaGreatCNumM
namespace Go.Proofs.YtfoldlbnkfnenaaGreat

def flagP : ParM := ⟨7, 2, 1, 10, 200⟩
theorem flagP_ok : flagP.Ok := ⟨by decide, by decide⟩
theorem flagP_lawful : flagP.lawful = true := by decide
theorem receive_value (m : HostM) (b : List UInt8) : (m.receive b).1.value = m.value ∧ (m.receive b).1.hold = m.hold ∧ (m.receive b).1.p = m.p := by
  have h := came_p (receive_came m b)
  exact ⟨h.2.2.1, h.2.2.2, h.1⟩
/-- What a call does to the application's value. -/
theorem flag_step (m : HostM) (o : OpM) (hp : m.p = flagP) (h12 : o.kind ≠ 12) :
    (stepM m o).p = flagP ∧ (o.kind = 9 → o.data.length = 2 → (stepM m o).value = o.data ∧ (stepM m o).hold = o.odd) ∧ (o.kind = 11 → (stepM m o).value = [0, 0] ∧ (stepM m o).hold = false) ∧ ((o.kind ≠ 9 ∨ o.data.length ≠ 2) → o.kind ≠ 11 → (stepM m o).value = m.value ∧ (stepM m o).hold = m.hold) := by
  unfold stepM
  cases hf : frameM m o with
  | some b =>
    have hk : ¬ 8 ≤ o.kind := fun h => by rw [frame_none h] at hf; cases hf
    have h := receive_value m b
    exact ⟨h.2.2.trans hp, fun h => by omega, fun h => by omega, fun _ _ => ⟨h.1, h.2.1⟩⟩
  | none =>
    simp only
    by_cases k8 : o.kind = 8
    · rw [if_pos k8]
      have h := tick_same m o.n
      exact ⟨h.1.trans hp, fun h => by omega, fun h => by omega, fun _ _ => ⟨h.2.2.2.2.2.1, h.2.2.2.2.2.2.1⟩⟩
    rw [if_neg k8]
    by_cases k9 : o.kind = 9
    · rw [if_pos k9]
      have hout : m.p.out = 2 := by rw [hp]; rfl
      unfold HostM.write
      by_cases hl : (o.data.length : Int) ≠ m.p.out
      · rw [if_pos hl]
        exact ⟨hp, fun _ h => by omega, fun h => by omega, fun _ _ => ⟨rfl, rfl⟩⟩
      · rw [if_neg hl]
        exact ⟨hp, fun _ _ => ⟨rfl, rfl⟩, fun h => by omega, fun h => by omega⟩
    rw [if_neg k9]
    by_cases k10 : o.kind = 10
    · rw [if_pos k10]
      have h := ack_same m
      exact ⟨h.1.trans hp, fun h => by omega, fun h => by omega, fun _ _ => ⟨h.2.2.2.2.2.1, h.2.2.2.2.2.2.1⟩⟩
    rw [if_neg k10]
    by_cases k11 : o.kind = 11
    · rw [if_pos k11]
      refine ⟨hp, fun h => by omega, fun _ => ⟨?_, rfl⟩, fun _ h => absurd k11 h⟩
      simp only [HostM.reset]
      rw [hp]
      rfl
    rw [if_neg k11, if_neg h12]
    exact ⟨hp, fun h => absurd h k9, fun h => absurd h k11, fun _ _ => ⟨rfl, rfl⟩⟩
/-- What a sending tells. -/
theorem flag_send {m : HostM} (hg : m.Good) (hl : m.Live) (hp : m.p = flagP) :
    m.send.1.p = flagP ∧ m.send.1.value = m.value ∧ m.send.1.hold = m.hold ∧
    ((m.send.2 = ([], 132)) ∨ ∃ u, m.send.2 = (u.encode, 0) ∧ decodeM u.encode = (u, 0) ∧ (u.kind ≠ 4 ∨ (u.kind = 4 ∧ u.flags = flagsM m.valve m.hold ∧ u.data = m.value ∧ u.number = m.sent + 1 ∧ m.sent + 1 ≤ 200 ∧ 0 ≤ m.sent))) := by
  by_cases h5 : m.state = 5
  · rw [send_done h5]
    exact ⟨hp, rfl, rfl, .inl rfl⟩
  obtain ⟨e, hd, hl5⟩ := send_whole hg hl h5
  obtain ⟨lp, ls, lv, lh, lsi⟩ := lost_same m
  have hs := sent'_same m.lost
  have hgl := hg.lost
  rw [e]
  refine ⟨hs.1.trans (lp.trans hp), hs.2.2.1.trans lv, hs.2.2.2.1.trans lh, .inr ⟨m.lost.sends, rfl, hd, ?_⟩⟩
  rcases lost_cases m with ⟨k, el, _⟩ | ⟨_, _, _, k, el⟩
  · by_cases h4 : m.state = 4 ∧ ¬ m.sent + 1 = m.p.count
    · right
      have es : m.lost.sends = ⟨4, m.p.code, m.session, m.sent + 1, flagsM m.valve m.hold, m.value⟩ := by
        rw [el]
        unfold HostM.sends
        simp only
        rw [if_neg (by omega), if_neg (by omega), if_neg (by omega), if_neg h4.2]
      rw [es]
      have hr := hg.inv.run h4.1
      rw [hp] at hr
      have hc : flagP.count = 200 := rfl
      rw [hc] at hr
      exact ⟨rfl, rfl, rfl, rfl, by omega, hg.inv.sent.1⟩
    · left
      rw [el]
      unfold HostM.sends
      simp only
      split
      · simp
      split
      · simp
      split
      · simp
      split
      · simp
      · exfalso
        have := hg.inv.state
        rename_i h1 h2 h3 h6
        exact h4 ⟨by omega, h6⟩
  · left
    have h1 : m.lost.state = 1 := by rw [el]; rfl
    unfold HostM.sends
    rw [if_pos h1]
    simp
/-- The bits of the flags. -/
theorem flag_bits (v : ValveM) (hold : Bool) : ∃ a1 a2 a4 a8 : Int, (flagsM v hold % 2 = a1 ∧ (a1 != 0) = !v.on) ∧ (flagsM v hold / 2 % 2 * 2 = a2 ∧ (a2 != 0) = v.request) ∧ (flagsM v hold / 4 % 2 * 4 = a4 ∧ (a4 != 0) = (v.latched != 0)) ∧ (flagsM v hold / 8 % 2 * 8 = a8 ∧ (a8 != 0) = hold) := by
  refine ⟨_, _, _, _, ⟨rfl, ?_⟩, ⟨rfl, ?_⟩, ⟨rfl, ?_⟩, ⟨rfl, ?_⟩⟩
  all_goals
    unfold flagsM
    by_cases hl : v.latched = 0
    · cases v.on <;> cases v.request <;> cases hold <;> simp [hl]
    · have hl' : (v.latched != 0) = true := by simpa using hl
      cases v.on <;> cases v.request <;> cases hold <;> simp [hl]
end Go.Proofs.YtfoldlbnkfnenaaGreat
