/- Numbers that a host sends: plain. -/
import Derived.Test.YtfoldlbnkfnenaaGreatBase14
namespace Go.Proofs.YtfoldlbnkfnenaaGreat

/-- Whatever was sent lies at or below what the host stands at. -/
structure NumInv (m : HostM) (s n : Int) : Prop where
  p : m.p = smallM
  ses : 0 ≤ s ∧ s ≤ m.session
  num : m.state ≠ 1 → m.session = s → n ≤ m.sent
theorem num_new : NumInv smallH 0 0 := ⟨rfl, by decide, fun _ _ => by decide⟩
theorem num_came {m m' : HostM} {b : List UInt8} {c s n : Int} (h : NumInv m s n) (k : Came m b m' c) : NumInv m' s n := by
  obtain ⟨h1, h2, h3⟩ := h
  cases k with
  | no c hc => exact ⟨h1, h2, h3⟩
  | offer h0 hs hk hu hd =>
    refine ⟨h1, ⟨h2.1, ?_⟩, ?_⟩
    · simp only [HostM.alive]; omega
    · intro _ e; simp only [HostM.alive] at e; omega
  | agreed h0 hs hk => exact ⟨h1, h2, fun _ e => h3 (by omega) e⟩
  | started h0 hs hk => exact ⟨h1, h2, fun _ e => h3 (by omega) e⟩
  | data h0 hs hk hu hn hc hl => exact ⟨h1, h2, fun _ e => h3 (by omega) e⟩
  | last h0 hs hk hu hn hc => exact ⟨h1, h2, fun _ e => h3 (by omega) e⟩
theorem num_step {m : HostM} {s n : Int} (h : NumInv m s n) (o : OpM) (h11 : o.kind ≠ 11) (h12 : o.kind ≠ 12) : NumInv (stepM m o) s n := by
  unfold stepM
  split
  · exact num_came h (receive_came m _)
  · split
    · have t := tick_same m o.n
      exact ⟨by rw [t.1]; exact h.p, by rw [t.2.1]; exact h.ses, by rw [t.2.1, t.2.2.2.1, t.2.2.2.2.1]; exact h.num⟩
    split
    · have t := write_same m o.data o.odd
      exact ⟨by rw [t.1]; exact h.p, by rw [t.2.1]; exact h.ses, by rw [t.2.1, t.2.2.2.1, t.2.2.2.2.1]; exact h.num⟩
    split
    · have t := ack_same m
      exact ⟨by rw [t.1]; exact h.p, by rw [t.2.1]; exact h.ses, by rw [t.2.1, t.2.2.2.1, t.2.2.2.2.1]; exact h.num⟩
    exact h
theorem frame_none {m : HostM} {o : OpM} (h : 8 ≤ o.kind) : frameM m o = none := by
  unfold frameM
  rw [if_neg (by omega), if_neg (by omega), if_neg (by omega)]
theorem num_reset {m : HostM} {s n : Int} (h : NumInv m s n) (o : OpM) (h11 : o.kind = 11) : NumInv (stepM m o) 0 0 := by
  unfold stepM
  rw [frame_none (by omega)]
  simp only
  rw [if_neg (by omega), if_neg (by omega), if_neg (by omega), if_pos h11]
  exact ⟨h.p, ⟨by decide, by simp [HostM.reset]⟩, fun h1 => absurd rfl h1⟩
theorem run_latched (v : ValveM) (on : Bool) : (v.run on).latched = v.latched := by
  unfold ValveM.run
  split <;> rfl
theorem trip_latched (v : ValveM) {c : Int} (hc : c ≠ 0) : (v.trip c).1.latched ≠ 0 := by
  unfold ValveM.trip
  rw [if_neg hc]
  simp only
  split
  · exact hc
  · assumption
theorem run_false_on (v : ValveM) : (v.run false).on = false := by
  unfold ValveM.run
  split
  · rename_i h; simp [ValveM.on, h]
  · rfl
/-- One sending. -/
theorem num_send {m : HostM} {s n : Int} (hg : m.Good) (hl : m.Live) (h : NumInv m s n) :
    (m.state = 5 ∧ m.send = (m, [], 132)) ∨
    (m.state ≠ 5 ∧ ∃ u, m.send.2 = (u.encode, 0) ∧ decodeM u.encode = (u, 0) ∧ u.code = 7 ∧
      ((u.kind ≠ 4 ∧ u.kind ≠ 5 ∧ NumInv m.send.1 s n) ∨
       ((u.kind = 4 ∨ u.kind = 5) ∧ s ≤ u.session ∧ (u.session = s → n < u.number) ∧ u.number ≤ 9 ∧ (u.number = 9 ↔ u.kind = 5) ∧ NumInv m.send.1 u.session u.number ∧ (u.kind = 5 → m.send.1.state = 5 ∧ m.send.1.valve.on = false ∧ m.send.1.valve.latched ≠ 0)))) := by
  by_cases h5 : m.state = 5
  · exact .inl ⟨h5, send_done h5⟩
  right
  obtain ⟨e, hd, hl5⟩ := send_whole hg hl h5
  obtain ⟨lp, ls, lv, lh, lsi⟩ := lost_same m
  have hgl := hg.lost
  have hll := Live.lost hl
  have hps : m.lost.p = smallM := lp.trans h.p
  have hs := h.ses
  have hses : s ≤ m.lost.session := by rw [ls]; exact h.ses.2
  have hnum : m.lost.state ≠ 1 → m.lost.session = s → n ≤ m.lost.sent := by
    rcases lost_cases m with ⟨k, e, _⟩ | ⟨_, _, _, k, e⟩
    · rw [e]; exact h.num
    · rw [e]; intro h1; exact absurd rfl h1
  have hrun := hgl.inv.run
  have hst := hgl.inv.state
  have hcc : m.lost.p.count = 9 := by rw [hps]; rfl
  have hcd : m.lost.p.code = 7 := by rw [hps]; rfl
  rw [hcc] at hrun
  refine ⟨h5, m.lost.sends, by rw [e], hd, ?_, ?_⟩
  · unfold HostM.sends
    split
    · exact hcd
    split
    · exact hcd
    split
    · exact hcd
    split <;> exact hcd
  rw [e]
  clear e lp ls lv lh lsi h hll hd
  generalize m.lost = g at *
  have hs0 := hgl.inv.session
  by_cases h3 : g.state ≤ 3
  · left
    have es : g.sent' = g := by unfold HostM.sent'; rw [if_pos h3]
    rw [es]
    have ek : g.sends.kind ≠ 4 ∧ g.sends.kind ≠ 5 := by
      unfold HostM.sends
      by_cases h1 : g.state = 1
      · rw [if_pos h1]; exact ⟨by simp, by simp⟩
      rw [if_neg h1]
      by_cases h2 : g.state = 2
      · rw [if_pos h2]; exact ⟨by simp, by simp⟩
      rw [if_neg h2, if_pos (show g.state = 3 by omega)]
      exact ⟨by simp, by simp⟩
    exact ⟨ek.1, ek.2, hps, ⟨hs.1, hses⟩, hnum⟩
  have h4 : g.state = 4 := by omega
  have hr := hrun h4
  right
  by_cases hlast : g.sent + 1 = 9
  · have es : g.sends = ⟨5, g.p.code, g.session, g.sent + 1, 0, []⟩ := by
      unfold HostM.sends
      rw [if_neg (by omega), if_neg (by omega), if_neg (by omega), if_pos (by omega)]
    have et : g.sent' = { (({ g with sent := g.sent + 1 } : HostM).trip 80).run false with state := 5 } := by
      unfold HostM.sent'
      rw [if_neg h3, if_pos (by omega)]
    rw [es, et]
    refine ⟨.inr rfl, hses, fun e => ?_, ?_, ?_, ⟨hps, ⟨hs0.1, Int.le_refl _⟩, fun _ _ => Int.le_refl _⟩, fun _ => ⟨rfl, ?_, ?_⟩⟩
    · have := hnum (by omega) e; simp only; omega
    · simp only; omega
    · exact ⟨fun _ => rfl, fun _ => hlast⟩
    · exact run_false_on _
    · show ((({ g with sent := g.sent + 1 } : HostM).trip 80).valve.run false).latched ≠ 0
      rw [run_latched]
      exact trip_latched g.valve (by decide)
  · have es : g.sends = ⟨4, g.p.code, g.session, g.sent + 1, flagsM g.valve g.hold, g.value⟩ := by
      unfold HostM.sends
      rw [if_neg (by omega), if_neg (by omega), if_neg (by omega), if_neg (by omega)]
    have et : g.sent' = { g with sent := g.sent + 1 } := by
      unfold HostM.sent'
      rw [if_neg h3, if_neg (by omega)]
    rw [es, et]
    refine ⟨.inl rfl, hses, fun e => ?_, ?_, ?_, ⟨hps, ⟨hs0.1, Int.le_refl _⟩, fun _ _ => Int.le_refl _⟩, fun e => by simp at e⟩
    · have := hnum (by omega) e; simp only; omega
    · simp only; omega
    · simp only; omega
end Go.Proofs.YtfoldlbnkfnenaaGreat
