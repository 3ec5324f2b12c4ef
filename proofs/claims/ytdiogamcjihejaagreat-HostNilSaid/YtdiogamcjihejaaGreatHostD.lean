/- A host's Send. -/
import Derived.Test.YtdiogamcjihejaaGreatHostC
namespace Go.Proofs.YtdiogamcjihejaaGreat
open Go.RowKit
set_option maxHeartbeats 10000000
set_option maxRecDepth 100000

theorem valve_trip_val {V : ValveM} {code n : Int} (h : ∀ b, V.value = some b → (b.length : Int) = n) : ∀ b, (V.trip code).1.value = some b → (b.length : Int) = n := by
  intro b hb
  unfold ValveM.trip at hb
  split at hb
  · exact h b hb
  · cases hb
theorem valve_run_val {V : ValveM} {on : Bool} {n : Int} (h : ∀ b, V.value = some b → (b.length : Int) = n) : ∀ b, (V.run on).value = some b → (b.length : Int) = n := by
  intro b hb
  unfold ValveM.run at hb
  split at hb
  · exact h b hb
  · cases hb
theorem HostM.Inv.trip {m : HostM} (h : m.Inv) (code : Int) : (m.trip code).Inv := { h with vval := valve_trip_val h.vval }
theorem HostM.Inv.leave {m : HostM} (h : m.Inv) : m.leave.Inv :=
  { h with number := by simp [HostM.leave], sent := by simp [HostM.leave], state := by simp [HostM.leave], missed := by simp [HostM.leave], run := fun e => by simp [HostM.leave] at e, vval := valve_run_val h.vval }
theorem HostM.Inv.lost {m : HostM} (h : m.Inv) : m.lost.Inv := by
  have hm := h.missed
  unfold HostM.lost
  split
  · exact h
  · simp only
    split
    · exact { h with missed := by simp only; omega }
    · split
      · have h1 := HostM.Inv.trip h 131
        have : (({ m with missed := m.missed + 1 } : HostM).trip 131).leave = (m.trip 131).leave := rfl
        rw [this]
        exact h1.leave
      · have : ({ m with missed := m.missed + 1 } : HostM).leave = m.leave := rfl
        rw [this]
        exact h.leave
theorem lost_state {m : HostM} (h : m.state ≠ 5) : m.lost.state ≠ 5 := by
  unfold HostM.lost
  split
  · exact h
  · simp only
    split
    · exact h
    · split <;> simp [HostM.leave]
theorem trip_log (m : HostM) (code : Int) : (m.trip code).log.length ≤ m.log.length + 1 := by
  unfold HostM.trip
  simp only
  split
  · simp [noteM]
  · simp
theorem lost_log (m : HostM) : m.lost.log.length ≤ m.log.length + 1 := by
  unfold HostM.lost
  split
  · omega
  · simp only
    split
    · simp
    · split
      · exact trip_log { m with missed := m.missed + 1 } 131
      · simp [HostM.leave]
theorem hostSend_any (B a : Nat) (m : HostM) (F : Nat → Prop) (w : World) (hH : HostIs B w a m F) (hi : m.Inv) (hlen : m.log.length < 1073741800) :
    Calls Tryz.prog 28 #[.pointer (some ⟨a, 0, none⟩)] w fun e w' => ∃ x, e = .returned (.tuple #[x, .int .i64 m.send.2.2]) ∧ w'.ownsRow w.heap.size 5 1 x m.send.2.1.length (u8c m.send.2.1) ∧ HostTo B w a m.send.1 F w' := by
  have h0 := hH
  obtain ⟨d, v, g, val, FV, FL, hH⟩ := hH
  have hc := hH.blk.cell
  unfold hostCells at hc
  by_cases h5 : m.state = 5
  · have e1 : m.send = (m, [], 132) := by unfold HostM.send; rw [if_pos h5]
    rw [e1]
    rw [h5] at hc
    clear e1
    go_enter Tryz.func28, Tryz.ntmps28
    go_wp2_with fail
    refine bodyPost_ret (v := .tuple #[.slice none 0 0, .int .i64 132]) (by simp [results, Tryz.results28, go_sem]) rfl ⟨_, rfl, World.ownsRow_nil _ _ _ _, HostTo.refl h0⟩
  · have g5 : (m.state == 5) = false := by simpa using h5
    have Hs : Hid (m.send = ({ m.lost.compose.1 with waits := true }, m.lost.compose.2, 0)) := Lib.hid (by unfold HostM.send; rw [if_neg h5])
    rw [Hs.out]
    have hl := lost_log m
    have hcomp := fun w1 F1 h1 => hostCompose_any B a m.lost F1 w1 h1 hi.lost (by omega) (lost_state h5)
    have hlost := hostLost_any B a m F w h0 (by omega) ⟨hi.missed.1, by have := hi.missed.2; omega⟩
    obtain ⟨cm, hcm⟩ : ∃ c, c = m.lost.compose := ⟨_, rfl⟩
    rw [← hcm] at hcomp ⊢
    clear hl Hs hcm
    go_enter Tryz.func28, Tryz.ntmps28
    go_wp2_with fail
    refine hlost.mono ?_
    rintro e w1 ⟨rfl, t1⟩
    go_wp2_with fail
    refine (hcomp _ _ t1.is_).mono ?_
    rintro e w2 ⟨x, rfl, hown, t2⟩
    have t3 := HostTo.trans h0 t1 t2
    obtain ⟨d3, v3, g3, val3, FV3, FL3, h3⟩ := t3.is_
    have hk3 := t3.keep
    have ha : a < w1.heap.size := by have := (hH.fb a hH.fa).2; have := t1.keep.size; omega
    have hs1 := t1.keep.size
    obtain ⟨A, c, rfl⟩ := own_slice hown
    have hfar : (Value.slice A cm.2.length c).ownBlock ≠ some a := fun e => by have := (hown.lt a e).1; omega
    have hb3 := h3.blk
    clear hc hcomp hlost t1 t2 t3
    have hc := hb3.cell
    have hf := hb3.frozen
    unfold hostCells at hc
    go_wp2_with fail
    have h4 : HostAt B (w2.setCell ⟨a, 12, none⟩ (.bool true)) a { cm.1 with waits := true } (grow F w w2) d3 v3 g3 val3 FV3 FL3 :=
      h3.upd ((Keep.refl (fun x => x = a) w2).setCell (p := ⟨a, 12, none⟩) (fun _ => rfl) _) (by simp [World.setCell]) (by simpa [hostCells] using hb3.set_ 12 (.bool true)) rfl rfl rfl rfl rfl
    have hz : (w2.setCell ⟨a, 12, none⟩ (.bool true)).heap.size = w2.heap.size := by simp [World.setCell]
    refine bodyPost_ret (v := .tuple #[.slice A cm.2.length c, .int .i64 0]) (by simp [results, Tryz.results28, go_sem]) rfl ⟨_, rfl, own_base (own_far hown hfar 12 _) hs1, hH.toIs h4 (fun x hx => hx.elim .inl (fun hx => .inr ⟨hx.1, by rw [hz]; exact hx.2⟩)) (hk3.setCell (p := ⟨a, 12, none⟩) (fun _ => hH.fa) _)⟩
end Go.Proofs.YtdiogamcjihejaaGreat
