/- A host's lost and flags. -/
import Derived.Test.YtdiogamcjihejaaGreatHostA
namespace Go.Proofs.YtdiogamcjihejaaGreat
open Go.RowKit
set_option maxHeartbeats 4000000
set_option maxRecDepth 100000

theorem HostTo.refl {B : Nat} {w : World} {a : Nat} {m : HostM} {F : Nat → Prop} (h : HostIs B w a m F) : HostTo B w a m F w := by
  obtain ⟨d, v, g, val, FV, FL, h⟩ := h
  exact h.toIs h (fun x hx => .inl hx) (Keep.refl _ _)
theorem hostLost_any (B a : Nat) (m : HostM) (F : Nat → Prop) (w : World) (hH : HostIs B w a m F) (hlen : m.log.length < 1073741823) (hm : 0 ≤ m.missed ∧ m.missed ≤ 1000) :
    Calls Tryz.prog 74 #[.pointer (some ⟨a, 0, none⟩)] w fun e w' => e = .returned (.tuple #[]) ∧ HostTo B w a m.lost F w' := by
  have h0 := hH
  obtain ⟨d, v, g, val, FV, FL, hH⟩ := hH
  have hb := hH.blk
  have hc := hb.cell
  have hf := hb.frozen
  unfold hostCells at hc
  by_cases h1 : m.state = 1
  · have e1 : m.lost = m := by unfold HostM.lost; rw [if_pos (.inl h1)]
    rw [e1]
    rw [h1] at hc
    go_enter Tryz.func74, Tryz.ntmps74
    go_wp2_with fail
    first | go_end0 | refine bodyPost_ret (results_none rfl _ _ _) rfl ?_
    exact ⟨rfl, HostTo.refl h0⟩
  have g1 : (m.state == 1) = false := by simpa using h1
  cases hw : m.waits with
  | false =>
    have e1 : m.lost = m := by unfold HostM.lost; rw [if_pos (.inr hw)]
    rw [e1]
    rw [hw] at hc
    go_enter Tryz.func74, Tryz.ntmps74
    go_wp2_with fail
    first | go_end0 | refine bodyPost_ret (results_none rfl _ _ _) rfl ?_
    exact ⟨rfl, HostTo.refl h0⟩
  | true =>
    rw [hw] at hc
    have hwr : IntKind.i64.wrap (m.missed + 1) = m.missed + 1 := IntWalk.i64_in _ (by omega)
    have hno : ¬ (m.state = 1 ∨ m.waits = false) := by rw [hw]; simp [h1]
    have hA : HostAt B (w.setCell ⟨a, 13, none⟩ (.int .i64 (m.missed + 1))) a { m with missed := m.missed + 1 } F d v g val FV FL :=
      hH.upd ((Keep.refl (fun x => x = a) w).setCell (p := ⟨a, 13, none⟩) (fun _ => rfl) _) (by simp [World.setCell])
        (by simpa [hostCells, hw] using hb.set_ 13 (.int .i64 (m.missed + 1))) rfl rfl rfl rfl rfl
    have hkA : Keep F w (w.setCell ⟨a, 13, none⟩ (.int .i64 (m.missed + 1))) := (Keep.refl F w).setCell (p := ⟨a, 13, none⟩) (fun _ => hH.fa) _
    have toA := hH.toIs hA (fun x hx => .inl hx) hkA
    by_cases h4 : m.missed + 1 < 4
    · have e1 : m.lost = { m with missed := m.missed + 1 } := by unfold HostM.lost; rw [if_neg hno]; simp only; rw [if_pos h4]
      rw [e1]
      clear hno e1
      go_enter Tryz.func74, Tryz.ntmps74
      go_wp2_with fail
      first | go_end0 | refine bodyPost_ret (results_none rfl _ _ _) rfl ?_
      exact ⟨rfl, toA⟩
    by_cases h5 : m.state = 4
    · have e1 : m.lost = (({ m with missed := m.missed + 1 } : HostM).trip 131).leave := by unfold HostM.lost; rw [if_neg hno]; simp only; rw [if_neg h4, if_pos h5]
      rw [e1]
      clear hno e1
      rw [h5] at hc
      go_enter Tryz.func74, Tryz.ntmps74
      go_wp2_with fail
      refine (hostTrip_any B a { m with missed := m.missed + 1 } F 131 _ (by decide) ⟨d, v, g, val, FV, FL, hA⟩ hlen).mono ?_
      rintro e w2 ⟨rfl, t2⟩
      go_wp2_with fail
      refine (hostLeave_any B a _ _ w2 t2.is_).mono ?_
      rintro e w3 ⟨rfl, t3⟩
      go_wp2_with fail
      first | go_end0 | refine bodyPost_ret (results_none rfl _ _ _) rfl ?_
      have t4 := HostTo.trans ⟨d, v, g, val, FV, FL, hA⟩ t2 t3
      refine ⟨rfl, ?_, hkA.andThen t4.keep (fun _ _ h => h)⟩
      obtain ⟨d', v', g', val', FV', FL', hx⟩ := t4.is_
      exact ⟨d', v', g', val', FV', FL', hx.mono (fun x hx => hx.elim .inl (fun hx => .inr ⟨by simpa [World.setCell] using hx.1, hx.2⟩)) (grow_fb hH.fb hH.Ble (by have := t4.keep.size; simp [World.setCell] at this; omega))⟩
    · have e1 : m.lost = ({ m with missed := m.missed + 1 } : HostM).leave := by unfold HostM.lost; rw [if_neg hno]; simp only; rw [if_neg h4, if_neg h5]
      rw [e1]
      clear hno e1
      have g5 : (m.state == 4) = false := by simpa using h5
      go_enter Tryz.func74, Tryz.ntmps74
      go_wp2_with fail
      refine (hostLeave_any B a { m with missed := m.missed + 1 } F _ ⟨d, v, g, val, FV, FL, hA⟩).mono ?_
      rintro e w3 ⟨rfl, t4⟩
      go_wp2_with fail
      first | go_end0 | refine bodyPost_ret (results_none rfl _ _ _) rfl ?_
      refine ⟨rfl, ?_, hkA.andThen t4.keep (fun _ _ h => h)⟩
      obtain ⟨d', v', g', val', FV', FL', hx⟩ := t4.is_
      exact ⟨d', v', g', val', FV', FL', hx.mono (fun x hx => hx.elim .inl (fun hx => .inr ⟨by simpa [World.setCell] using hx.1, hx.2⟩)) (grow_fb hH.fb hH.Ble (by have := t4.keep.size; simp [World.setCell] at this; omega))⟩
theorem hostFlags_any (B a : Nat) (m : HostM) (N : Nat) (F : Nat → Prop) (w : World) (hH : HostIs B w a m F) (hN : m.p.inn = (N : Int)) (hN8 : N ≤ 8) (hval : ∀ b, m.valve.value = some b → b.length = N) :
    Calls Tryz.prog 130 #[.pointer (some ⟨a, 0, none⟩)] w fun e w' => e = .returned (.int .i64 (flagsM m.valve m.hold)) ∧ Below w.heap.size w w' := by
  obtain ⟨d, v, g, val, FV, FL, hH⟩ := hH
  have hc := hH.blk.cell
  unfold hostCells at hc
  have hv := hH.valve
  rw [hN] at hv
  have or_0_1 : bits .or .i64 0 1 = 1 := by kernel_rfl
  have or_0_2 : bits .or .i64 0 2 = 2 := by kernel_rfl
  have or_1_2 : bits .or .i64 1 2 = 3 := by kernel_rfl
  have or_0_4 : bits .or .i64 0 4 = 4 := by kernel_rfl
  have or_1_4 : bits .or .i64 1 4 = 5 := by kernel_rfl
  have or_2_4 : bits .or .i64 2 4 = 6 := by kernel_rfl
  have or_3_4 : bits .or .i64 3 4 = 7 := by kernel_rfl
  have or_0_8 : bits .or .i64 0 8 = 8 := by kernel_rfl
  have or_1_8 : bits .or .i64 1 8 = 9 := by kernel_rfl
  have or_2_8 : bits .or .i64 2 8 = 10 := by kernel_rfl
  have or_3_8 : bits .or .i64 3 8 = 11 := by kernel_rfl
  have or_4_8 : bits .or .i64 4 8 = 12 := by kernel_rfl
  have or_5_8 : bits .or .i64 5 8 = 13 := by kernel_rfl
  have or_6_8 : bits .or .i64 6 8 = 14 := by kernel_rfl
  have or_7_8 : bits .or .i64 7 8 = 15 := by kernel_rfl
  obtain ⟨fl, Hfl⟩ : ∃ x, Hid (x = flagsM m.valve m.hold) := ⟨_, Lib.hid rfl⟩
  rw [← Hfl.out]
  go_enter Tryz.func130, Tryz.ntmps130
  go_wp2_with fail
  refine (valveOutput_any v m.valve N FV w hv hN8 hval).mono ?_
  rintro e w1 ⟨x, rfl, hownx, hlx, hb1⟩
  have hv1 := hv.keep (F' := FV) (S := fun _ => False) (Keep.of_below hb1) (fun _ _ h => h) (fun _ h => h)
  have hc1 := ((hH.blk).below hb1 hH.blk.lt).cell
  unfold hostCells at hc1
  obtain ⟨Ax, cx, rfl⟩ := own_slice hownx
  clear hc hownx hlx hval hv
  have hq := valveRequest_any v m.valve _ FV w1 hv1
  have hl := valveLatched_any v m.valve _ FV w1 hv1
  cases hon : m.valve.on <;> cases hrq : m.valve.request <;> cases hlt : (m.valve.latched != 0) <;> cases hho : m.hold
  all_goals
    rw [hrq] at hq
    rw [hho] at hc1
    go_wp2_with fail
    refine hq.mono ?_
    rintro e w2 ⟨rfl, rfl⟩
    go_wp2_with fail
    refine hl.mono ?_
    rintro e w2 ⟨rfl, rfl⟩
    go_wp2_with fail
    go_ret
    refine ⟨?_, hb1⟩
    have e1 : (m.valve.latched = 0) = (¬ (m.valve.latched != 0) = true) := by simp
    rw [Hfl.out]
    unfold flagsM
    simp only [hon, hrq, hho, e1, hlt]
    rfl
end Go.Proofs.YtdiogamcjihejaaGreat
