/- A host's Write, Tick, Ack, Code, Log. -/
import Derived.Test.YtdiogamcjihejaaGreatHostD
namespace Go.Proofs.YtdiogamcjihejaaGreat
open Go.RowKit
set_option maxHeartbeats 10000000
set_option maxRecDepth 100000

theorem hostCode_any (B a : Nat) (m : HostM) (F : Nat → Prop) (w : World) (hH : HostIs B w a m F) : Calls Tryz.prog 46 #[.pointer (some ⟨a, 0, none⟩)] w fun e w' => e = .returned (.int .u32 m.p.code) ∧ w' = w := by
  obtain ⟨d, v, g, val, FV, FL, hH⟩ := hH
  have hc := hH.blk.cell
  unfold hostCells at hc
  go_enter Tryz.func46, Tryz.ntmps46
  go_wp2_with fail
  go_ret
  exact ⟨rfl, rfl⟩
theorem hostAck_any (B a : Nat) (m : HostM) (F : Nat → Prop) (w : World) (hH : HostIs B w a m F) : Calls Tryz.prog 44 #[.pointer (some ⟨a, 0, none⟩)] w fun e w' => e = .returned (.int .i64 m.ack.2) ∧ HostTo B w a m.ack.1 F w' := by
  obtain ⟨d, v, g, val, FV, FL, hH⟩ := hH
  have hc := hH.blk.cell
  unfold hostCells at hc
  have e1 : m.ack = ({ m with valve := m.valve.ack }, if m.valve.request then 0 else 110) := by
    unfold HostM.ack ValveM.ack
    cases m.valve.request <;> rfl
  rw [e1]
  have hack := valveAck_any v m.valve _ FV w hH.valve
  generalize (if m.valve.request then (0 : Int) else 110) = r at *
  clear e1
  go_enter Tryz.func44, Tryz.ntmps44
  go_wp2_with fail
  refine hack.mono ?_
  rintro e w1 ⟨rfl, hv1, hk1⟩
  have h1 := hH.onValve hv1 hk1 (fun x hx => hx)
  go_wp2_with fail
  go_ret
  exact ⟨rfl, hH.toIs h1 (fun x hx => hx) (hk1.mono (fun x _ hx => hH.fV x hx))⟩
theorem hostWrite_any (B a : Nat) (m : HostM) (F : Nat → Prop) (A : Option Addr) (n c Br : Nat) (l : List UInt8) (hold : Bool) (w : World) (hH : HostIs B w a m F) (hr : Reads w Br 1 A n (u8c l)) (hB : Br ≤ w.heap.size) (hA : A = none → n = 0) (ho : m.p.out ≤ 8) :
    Calls Tryz.prog 25 #[.pointer (some ⟨a, 0, none⟩), .slice A n c, .bool hold] w fun e w' => e = .returned (.int .i64 (m.write l hold).2) ∧ HostTo B w a (m.write l hold).1 F w' := by
  have h0 := hH
  obtain ⟨d, v, g, val, FV, FL, hH⟩ := hH
  have hb := hH.blk
  have hc := hb.cell
  unfold hostCells at hc
  have hl : l.length = n := by have := hr.1; simpa [u8c] using this
  by_cases he : (n : Int) = m.p.out
  · have e1 : m.write l hold = ({ m with value := l, hold := hold }, 0) := by unfold HostM.write; rw [hl, if_neg (by simpa using he)]
    rw [e1]
    have g1 : ((n : Int) != m.p.out) = false := by simpa using he
    have hn : n ≤ 1000000 := by omega
    have Hl := Lib.hid hl
    have He := Lib.hid he
    clear e1 hl he
    go_enter Tryz.func25, Tryz.ntmps25
    go_wp2_with fail
    refine (cloneByte_any A n c l Br w hA hr hB hn).mono ?_
    rintro e w1 ⟨x, rfl, hown, _, _, hb1⟩
    have h1 := hH.keepS (S := fun _ => False) (Keep.of_below hb1) (fun _ _ h => h)
    obtain ⟨Ax, cx, rfl⟩ := own_slice hown
    have hb2 := h1.blk
    clear hc
    have hc := hb2.cell
    have hf := hb2.frozen
    unfold hostCells at hc
    have hs1 := hb1.size
    have hlt := hown.lt
    have hfar : (Value.slice Ax n cx).ownBlock ≠ some a := fun e => by have := (hlt a e).1; have := (hH.fb a hH.fa).2; omega
    go_wp2_with fail
    go_ret
    have hk : Keep (fun x => x = a) w1 ((w1.setCell ⟨a, 14, none⟩ (.slice Ax n cx)).setCell ⟨a, 15, none⟩ (.bool hold)) := ((Keep.refl (fun x => x = a) w1).setCell (p := ⟨a, 14, none⟩) (fun _ => rfl) _).setCell (p := ⟨a, 15, none⟩) (fun _ => rfl) _
    have hz : ((w1.setCell ⟨a, 14, none⟩ (.slice Ax n cx)).setCell ⟨a, 15, none⟩ (.bool hold)).heap.size = w1.heap.size := by simp [World.setCell]
    have hnew : ∀ x, (Value.slice Ax n cx).ownBlock = some x → ¬ F x := fun x hx hF => by have := (hlt x hx).1; have := (hH.fb x hF).2; omega
    have h4 : HostAt B ((w1.setCell ⟨a, 14, none⟩ (.slice Ax n cx)).setCell ⟨a, 15, none⟩ (.bool hold)) a { m with value := l, hold := hold } (grow F w ((w1.setCell ⟨a, 14, none⟩ (.slice Ax n cx)).setCell ⟨a, 15, none⟩ (.bool hold))) d v g (.slice Ax n cx) FV FL := {
      blk := by simpa [hostCells] using (hb2.set_ 14 (.slice Ax n cx)).set_ 15 (.bool hold)
      dog := Blk.keep h1.dog hk (fun e => h1.ne e.symm)
      valve := h1.valve.keep hk (fun x hx e => h1.va.1 (e ▸ hx)) (fun _ h => h)
      log := h1.log.keep hk (fun x hx e => h1.la.1 (e ▸ hx)) (fun _ h => h)
      value := by
        have := own_base (own_far (own_far hown hfar 14 (.slice Ax n cx)) hfar 15 (.bool hold)) (Nat.zero_le _)
        simp only
        rw [Hl.out]
        exact this
      fa := .inl hH.fa
      fd := .inl hH.fd
      fV := fun x hx => .inl (hH.fV x hx)
      fL := fun x hx => .inl (hH.fL x hx)
      fx := fun x hx => .inr ⟨(hlt x hx).1, by rw [hz]; exact (hlt x hx).2⟩
      fb := grow_fb hH.fb hH.Ble (by rw [hz]; exact hs1)
      va := h1.va
      la := h1.la
      vl := h1.vl
      xv := fun x hx => ⟨fun h => hnew x hx (hH.fV x h), fun h => hnew x hx (hH.fL x h), fun h => hnew x hx (h ▸ hH.fa), fun h => hnew x hx (h ▸ hH.fd)⟩ }
    exact ⟨rfl, hH.toIs h4 (fun x hx => hx) ((Keep.of_below hb1).andThen hk (fun x _ e => e ▸ hH.fa))⟩
  · have e1 : m.write l hold = (m, 45) := by unfold HostM.write; rw [hl, if_pos he]
    rw [e1]
    have g1 : ((n : Int) != m.p.out) = true := by simpa using he
    clear e1
    go_enter Tryz.func25, Tryz.ntmps25
    go_wp2_with fail
    go_ret
    exact ⟨rfl, HostTo.refl h0⟩
end Go.Proofs.YtdiogamcjihejaaGreat
