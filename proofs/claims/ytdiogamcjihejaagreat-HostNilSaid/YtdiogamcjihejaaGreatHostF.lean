/- A host's Tick and Log. -/
import Derived.Test.YtdiogamcjihejaaGreatHostE
namespace Go.Proofs.YtdiogamcjihejaaGreat
open Go.RowKit
set_option maxHeartbeats 10000000
set_option maxRecDepth 100000

theorem hostTick_any (B a : Nat) (m : HostM) (F : Nat → Prop) (n : Int) (w : World) (hH : HostIs B w a m F) (hi : m.Inv) (hlen : m.log.length < 1073741800) :
    Calls Tryz.prog 43 #[.pointer (some ⟨a, 0, none⟩), .int .i64 n] w fun e w' => e = .returned (.int .i64 (m.tick n).2) ∧ HostTo B w a (m.tick n).1 F w' := by
  have h0 := hH
  obtain ⟨d, v, g, val, FV, FL, hH⟩ := hH
  have hc := hH.blk.cell
  unfold hostCells at hc
  by_cases hn : n < 0
  · have e1 : m.tick n = (m, 2) := by unfold HostM.tick; rw [if_pos hn]
    rw [e1]
    clear e1
    go_enter Tryz.func43, Tryz.ntmps43
    go_wp2_with fail
    refine (dogTicks_neg d n w hn).mono ?_
    rintro e w1 ⟨rfl, rfl⟩
    go_wp2_with fail
    go_ret
    exact ⟨rfl, HostTo.refl h0⟩
  · have hl := hi.plaw
    have hw : m.p.watch ≤ 1048576 := by simp [ParM.lawful] at hl; omega
    have htk := dogTicks_any d m.p.watch m.since n w hH.dog hi.since.1 hi.since.2 hw (by omega)
    cases hr : (ticksM m.p.watch m.since n).2 with
    | false =>
      have e1 : m.tick n = ({ m with since := (ticksM m.p.watch m.since n).1 }, 0) := by unfold HostM.tick; rw [if_neg hn]; simp only [hr]; rfl
      rw [e1]
      rw [hr] at htk
      clear e1 hl
      go_enter Tryz.func43, Tryz.ntmps43
      go_wp2_with fail
      refine htk.mono ?_
      rintro e w1 ⟨rfl, hd1, hk1, hs1⟩
      have h1 := hH.onDog hd1 hk1 hs1
      clear hs1
      go_wp2_with fail
      go_ret
      exact ⟨rfl, hH.toIs h1 (fun x hx => .inl hx) (hk1.mono (fun x _ e => e ▸ hH.fd))⟩
    | true =>
      have e1 : m.tick n = (({ m with since := (ticksM m.p.watch m.since n).1 } : HostM).trip 100, 0) := by unfold HostM.tick; rw [if_neg hn]; simp only [hr]; rfl
      rw [e1]
      rw [hr] at htk
      clear e1 hl
      go_enter Tryz.func43, Tryz.ntmps43
      go_wp2_with fail
      refine htk.mono ?_
      rintro e w1 ⟨rfl, hd1, hk1, hs1⟩
      have h1 := hH.onDog hd1 hk1 hs1
      have t1 := hH.toIs h1 (fun x hx => .inl hx) (hk1.mono (fun x _ e => e ▸ hH.fd))
      have Hs := Lib.hid hs1
      clear hs1
      go_wp2_with fail
      refine (hostTrip_any B a { m with since := (ticksM m.p.watch m.since n).1 } (grow F w w1) 100 w1 (by decide) t1.is_ (by simp only; omega)).mono ?_
      rintro e w2 ⟨rfl, t2⟩
      go_wp2_with fail
      go_ret
      exact ⟨rfl, HostTo.trans h0 t1 t2⟩
theorem hostS4 {w : World} {a d v g : Nat} {m : HostM} {val : Value} (h : Blk w a 117 (hostCells m d v g val)) : w.cell? ⟨a, 7, none⟩ = some (.pointer (some ⟨g, 0, none⟩)) := (h.cell 7).trans rfl
theorem hostLog_any (B a : Nat) (m : HostM) (F : Nat → Prop) (w : World) (hH : HostIs B w a m F) (hlen : m.log.length < 1073741800) :
    Calls Tryz.prog 39 #[.pointer (some ⟨a, 0, none⟩)] w fun e w' => ∃ x, e = .returned (.tuple #[x, .int .i64 m.log.length]) ∧ w'.ownsRow w.heap.size 193 4 x (kept m.log).length (recsCells (kept m.log)) ∧ Below w.heap.size w w' := by
  obtain ⟨d, v, g, val, FV, FL, hH⟩ := hH
  have hb := hH.blk.drew
  have hl := hH.log.drew
  have hbe : Below w.heap.size w w.drew := (Below.refl _ w).drew
  have hls : ∀ w' : World, Below w.drew.heap.size w.drew w' → Below w.heap.size w w' := fun w' h => hbe.trans h
  have hc := hH.blk.cell
  unfold hostCells at hc
  go_enter Tryz.func39, Tryz.ntmps39
  go_wp2_with fail
  go_region_held3 (fun w' => w'.cell? ⟨a, 7, none⟩ = some (.pointer (some ⟨g, 0, none⟩))) (with_reducible (first | exact hostS4 hb)) (first
    | (go_at_call 96; refine (diagRecords_any g m.log FL _ hl).mono ?_; rintro e W ⟨x, rfl, hown, hb1⟩; obtain ⟨Ax, cx, rfl⟩ := own_slice hown; replace hb := hb.below hb1 hb.lt; replace hl := hl.below hb1; replace hbe := hbe.trans hb1)
    | (go_at_call 97; refine (diagTotal_any g m.log FL _ hl (by omega)).mono ?_; rintro e W2 ⟨rfl, rfl⟩))
  all_goals
    go_wp2_with fail
    refine bodyPost_ret (v := .tuple #[.slice Ax (kept m.log).length cx, .int .i64 m.log.length]) (by simp [results, Tryz.results39, go_sem]) rfl ⟨_, rfl, hown, hbe⟩
end Go.Proofs.YtdiogamcjihejaaGreat
