/- What always holds of a host: kept by every call. Plain. -/
import Derived.Test.YtdiogamcjihejaaGreatHostD
namespace Go.Proofs.YtdiogamcjihejaaGreat

/-- What always holds of a host, at either end of the comparison. -/
structure HostM.Good (m : HostM) : Prop where
  inv : m.Inv
  sent0 : m.state < 4 → m.sent = 0
  fr : m.valve.fresh = true → m.valve.latched ≠ 0
theorem fr_trip {V : ValveM} {code : Int} (h : V.fresh = true → V.latched ≠ 0) : (V.trip code).1.fresh = true → (V.trip code).1.latched ≠ 0 := by
  unfold ValveM.trip
  split
  · exact h
  · intro h; cases h
theorem fr_run {V : ValveM} {on : Bool} (h : V.fresh = true → V.latched ≠ 0) : (V.run on).fresh = true → (V.run on).latched ≠ 0 := by
  unfold ValveM.run
  split <;> exact h
theorem fr_come (V : ValveM) : V.come.fresh = true → V.come.latched ≠ 0 := by
  unfold ValveM.come
  intro h
  simpa using h
theorem fr_take {V : ValveM} {b : List UInt8} (h : V.fresh = true → V.latched ≠ 0) : (V.take b).fresh = true → (V.take b).latched ≠ 0 := by
  unfold ValveM.take
  split <;> exact h
theorem fr_ack {V : ValveM} (h : V.fresh = true → V.latched ≠ 0) : V.ack.fresh = true → V.ack.latched ≠ 0 := by
  unfold ValveM.ack
  split
  · intro h; cases h
  · exact h
namespace HostM.Good
variable {m : HostM}
theorem trip (h : m.Good) (code : Int) : (m.trip code).Good := ⟨h.inv.trip code, h.sent0, fr_trip h.fr⟩
theorem leave (h : m.Good) : m.leave.Good := ⟨h.inv.leave, fun _ => rfl, fr_run h.fr⟩
theorem lost (h : m.Good) : m.lost.Good := by
  refine ⟨h.inv.lost, ?_, ?_⟩
  · unfold HostM.lost
    split
    · exact h.sent0
    · simp only
      split
      · exact h.sent0
      · split <;> exact fun _ => rfl
  · unfold HostM.lost
    split
    · exact h.fr
    · simp only
      split
      · exact h.fr
      · split
        · exact fr_run (fr_trip h.fr)
        · exact fr_run h.fr
theorem alive (h : m.Good) : m.alive.Good := ⟨{ h.inv with missed := by simp [HostM.alive], since := by have := h.inv.since; simp only [HostM.alive]; omega, vval := h.inv.vval }, h.sent0, fr_come _⟩
theorem run (h : m.Good) (on : Bool) : (m.run on).Good := ⟨{ h.inv with vval := valve_run_val h.inv.vval }, h.sent0, fr_run h.fr⟩
theorem done (h : m.Good) : ({ m with state := 5 } : HostM).Good := ⟨{ h.inv with state := by simp, run := fun e => by simp at e }, fun e => by simp at e, h.fr⟩
theorem compose (h : m.Good) (h5 : m.state ≠ 5) : m.compose.1.Good := by
  unfold HostM.compose
  split
  · exact h
  split
  · exact h
  split
  · exact h
  have hst := h.inv.state
  have s4 : m.state = 4 := by omega
  have hrun := h.inv.run s4
  have hcnt := h.inv.pok.count
  have hsent := h.inv.sent
  simp only
  split
  · rename_i hq
    have h1 : ({ m with sent := m.sent + 1 } : HostM).trip 80 = { m.trip 80 with sent := m.sent + 1 } := rfl
    rw [h1]
    have h2 := (h.trip 80).run false
    exact ⟨{ h2.inv with sent := by simp only [HostM.run]; omega, state := by simp, run := fun e => by simp at e }, fun e => by simp at e, h2.fr⟩
  · rename_i hq
    exact ⟨{ h.inv with sent := by simp only; omega, run := fun _ => by simp only; omega }, fun e => by simp only at e; omega, h.fr⟩
theorem send (h : m.Good) : m.send.1.Good := by
  unfold HostM.send
  split
  · exact h
  · rename_i h5
    have h1 := h.lost.compose (lost_state h5)
    exact ⟨{ h1.inv with }, h1.sent0, h1.fr⟩
theorem take (h : m.Good) {u : UnitM} (hs : 0 ≤ u.session ∧ u.session < 4294967296) (hn : 0 ≤ u.number ∧ u.number < 4294967296) : (m.take u).1.Good := by
  have hst := h.inv.state
  have hcnt := h.inv.pok.count
  have hlaw := h.inv.plaw
  simp [ParM.lawful] at hlaw
  unfold HostM.take
  split
  · rename_i s1
    split
    · exact h
    split
    · exact h
    · have : ({ m with session := u.session, state := 2 } : HostM).Good := ⟨{ h.inv with session := hs, state := by simp, run := fun e => by simp at e }, fun _ => h.sent0 (by omega), h.fr⟩
      exact this.alive
  split
  · exact h
  split
  · rename_i s2
    have : ({ m with state := 3 } : HostM).Good := ⟨{ h.inv with state := by simp, run := fun e => by simp at e }, fun _ => h.sent0 (by omega), h.fr⟩
    exact this.alive
  split
  · rename_i s3
    have h0 := h.sent0 (by omega)
    have : ({ m with state := 4 } : HostM).Good := ⟨{ h.inv with state := by simp, run := fun _ => by simp only; omega }, fun e => by simp at e, h.fr⟩
    exact (this.run true).alive
  split
  · rename_i s4
    have h1 : ({ m with number := u.number } : HostM).Good := ⟨{ h.inv with number := hn }, h.sent0, h.fr⟩
    have h2 := h1.alive
    refine ⟨{ h2.inv with vval := ?_ }, h2.sent0, fr_take (V := (HostM.alive _).valve.hold _) h2.fr⟩
    intro b hb
    simp only [ValveM.take] at hb
    split at hb
    · simp only [Option.some.injEq] at hb
      subst hb
      exact s4.2.2.2.2
    · exact h2.inv.vval b hb
  split
  · have h1 : ({ m with number := u.number } : HostM).Good := ⟨{ h.inv with number := hn }, h.sent0, h.fr⟩
    exact ((h1.alive.trip 80).run false).done
  · exact h
theorem log (h : m.Good) (l : List Rec) : ({ m with log := l } : HostM).Good := ⟨{ h.inv with }, h.sent0, h.fr⟩
theorem write (h : m.Good) (b : List UInt8) (hold : Bool) : (m.write b hold).1.Good := by
  unfold HostM.write
  split
  · exact h
  · rename_i hq
    exact ⟨{ h.inv with value := by simpa using hq }, h.sent0, h.fr⟩
theorem tick (h : m.Good) (n : Int) : (m.tick n).1.Good := by
  have hs := h.inv.since
  unfold HostM.tick
  split
  · exact h
  · have h1 : ({ m with since := (ticksM m.p.watch m.since n).1 } : HostM).Good := by
      refine ⟨{ h.inv with since := ?_ }, h.sent0, h.fr⟩
      simp only
      unfold ticksM
      split
      · exact hs
      · split
        · simp only; omega
        · simp only; omega
    simp only
    split
    · exact h1.trip 100
    · exact h1
theorem ack (h : m.Good) : m.ack.1.Good := by
  unfold HostM.ack
  split
  · refine ⟨{ h.inv with vval := ?_ }, h.sent0, fr_ack h.fr⟩
    intro b hb
    unfold ValveM.ack at hb
    split at hb <;> exact h.inv.vval b hb
  · exact h
end HostM.Good
theorem HostM.good_new (p : ParM) (hp : p.Ok) (hl : p.lawful = true) (L : List Rec) : ({ p := p, log := L, value := List.replicate p.out.toNat 0 } : HostM).Good := by
  have hlaw := hl
  simp [ParM.lawful] at hlaw
  exact ⟨{ pok := hp, plaw := hl, session := by simp, number := by simp, sent := by simp, state := by simp, missed := by simp, since := by simp; omega, run := fun e => by simp at e, value := by simp; omega, vval := fun b hb => by cases hb }, fun _ => rfl, fun h => by cases h⟩
theorem HostM.Good.reset {m : HostM} (h : m.Good) : m.reset.Good := HostM.good_new m.p h.inv.pok h.inv.plaw m.log
theorem numAt_ok (l : List UInt8) (i : Nat) : 0 ≤ numAt l i ∧ numAt l i < 4294967296 := by
  unfold numAt
  have := (ofWord (l.getD i 0) (l.getD (i + 1) 0) (l.getD (i + 2) 0) (l.getD (i + 3) 0)).isLt
  omega
theorem decode_ok (l : List UInt8) : (0 ≤ (decodeM l).1.session ∧ (decodeM l).1.session < 4294967296) ∧ (0 ≤ (decodeM l).1.number ∧ (decodeM l).1.number < 4294967296) ∧ (0 ≤ (decodeM l).1.code ∧ (decodeM l).1.code < 4294967296) := by
  unfold decodeM
  split
  · simp [UnitM.zero]
  split
  · simp [UnitM.zero]
  split
  · simp [UnitM.zero]
  · simp only
    generalize (if (unitOf l).lawful ≠ 43 ∧ (unitOf l).lawful ≠ 44 ∧ (l.getD 14 0).toNat ≠ (unitOf l).data.length then (45 : Int) else (unitOf l).lawful) = e
    split
    · simp [UnitM.zero]
    · exact ⟨numAt_ok l 5, numAt_ok l 9, numAt_ok l 1⟩
/-- What is decoded without a fault is lawful. -/
theorem decode_lawful (l : List UInt8) (h : (decodeM l).2 = 0) : (decodeM l).1.lawful = 0 ∧ (decodeM l).1 = unitOf l := by
  unfold decodeM at h ⊢
  split
  · rename_i h1; rw [if_pos h1] at h; cases h
  rename_i h1
  rw [if_neg h1] at h
  split
  · rename_i h2; rw [if_pos h2] at h; cases h
  rename_i h2
  rw [if_neg h2] at h
  split
  · rename_i h3; rw [if_pos h3] at h; cases h
  rename_i h3
  rw [if_neg h3] at h
  simp only at h ⊢
  obtain ⟨e, he⟩ : ∃ e, e = (if (unitOf l).lawful ≠ 43 ∧ (unitOf l).lawful ≠ 44 ∧ (l.getD 14 0).toNat ≠ (unitOf l).data.length then (45 : Int) else (unitOf l).lawful) := ⟨_, rfl⟩
  rw [← he] at h ⊢
  by_cases h4 : e = 0
  · subst h4
    simp only [ne_eq, not_true_eq_false, if_false]
    refine ⟨?_, trivial⟩
    split at he
    · cases he
    · exact he.symm
  · rw [if_pos h4] at h
    exact absurd h h4
theorem lawful_flags {u : UnitM} (h : u.lawful = 0) : 0 ≤ u.flags ∧ u.flags ≤ 15 := by
  unfold UnitM.lawful at h
  split at h
  · cases h
  split at h
  · cases h
  split at h
  · cases h
  split at h
  · cases h
  split at h
  · cases h
  split at h
  · cases h
  · rename_i h1
    simp [flagOk] at h1
    omega
theorem HostM.Good.read {m : HostM} (h : m.Good) (l : List UInt8) : (m.read l).1.Good := by
  have hd := decode_ok l
  unfold HostM.read
  simp only
  split
  · exact h
  split
  · exact h
  split
  · exact h
  · exact h.take hd.1 hd.2.1
theorem HostM.Good.receive {m : HostM} (h : m.Good) (l : List UInt8) : (m.receive l).1.Good := by
  unfold HostM.receive
  simp only
  split
  · exact h.read l
  · exact (h.read l).log _
end Go.Proofs.YtdiogamcjihejaaGreat
