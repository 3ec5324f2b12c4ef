/- A host's Receive, over what its read does. -/
import Derived.Test.YtdiogamcjihejaaGreatHostN
namespace Go.Proofs.YtdiogamcjihejaaGreat
open Go.RowKit
set_option maxHeartbeats 10000000
set_option maxRecDepth 100000

theorem hostReceive_of (B a : Nat) (m : HostM) (F : Nat → Prop) (A : Option Addr) (n c : Nat) (l : List UInt8) (w : World) (h0 : HostIs B w a m F) (hlen : (m.read l).1.log.length < 1073741823)
    (hread : Calls Tryz.prog 80 #[.pointer (some ⟨a, 0, none⟩), .slice A n c] w fun e w' => e = .returned (.int .i64 (m.read l).2) ∧ HostTo B w a (m.read l).1 F w') :
    Calls Tryz.prog 31 #[.pointer (some ⟨a, 0, none⟩), .slice A n c] w fun e w' => e = .returned (.int .i64 (m.receive l).2) ∧ HostTo B w a (m.receive l).1 F w' := by
  obtain ⟨q, Hq⟩ : ∃ q, Hid (q = m.receive l) := ⟨_, Lib.hid rfl⟩
  rw [← Hq.out]
  have Hq2 : Hid (q = if (m.read l).2 = 0 then m.read l else ({ (m.read l).1 with log := noteM (m.read l).1.log (m.read l).2 (m.read l).1.session (m.read l).1.number }, (m.read l).2)) := Lib.hid (by rw [Hq.out]; rfl)
  clear Hq
  generalize m.read l = r at *
  obtain ⟨k, er⟩ := r
  simp only at *
  go_enter Tryz.func31, Tryz.ntmps31
  go_wp2_with fail
  refine hread.mono ?_
  rintro e w1 ⟨rfl, t1⟩
  by_cases he : er = 0
  · subst he
    have e1 := Hq2.out
    rw [if_pos rfl] at e1
    subst e1
    go_wp2_with fail
    go_ret
    exact ⟨rfl, t1⟩
  · have e1 := Hq2.out
    rw [if_neg he] at e1
    subst e1
    have g1 : (er != 0) = true := by simpa using he
    have hcod : (er == 0) = false := by simpa using he
    obtain ⟨d, v, g, val, FV, FL, h1⟩ := t1.is_
    have hk1 := t1.keep
    have hc := h1.blk.cell
    unfold hostCells at hc
    go_wp2_with fail
    replace h1 := h1.drew
    have hlog := h1.log
    have hb1 := h1.blk
    have hla := h1.la.1
    go_region_held3 (fun w' => w'.cell? ⟨a, 7, none⟩ = some (.pointer (some ⟨g, 0, none⟩)) ∧ w'.cell? ⟨a, 9, none⟩ = some (.int .u32 k.session) ∧ w'.cell? ⟨a, 10, none⟩ = some (.int .u32 k.number)) (with_reducible (first | exact hostS hb1)) (first
      | (go_at_call 81; refine (diagNote_any g k.log FL er k.session k.number _ hcod hlog hlen).mono ?_; rintro e W ⟨rfl, hl2, hk2⟩; replace hb1 := hb1.keep hk2 hla))
    go_wp2_with fail
    go_ret
    have h2 := h1.onLog hl2 hk2 (fun x hx => hx)
    have t2 : HostTo B w1.drew a { k with log := noteM k.log er k.session k.number } (grow F w w1) W := h1.toIs h2 (fun x hx => hx) (hk2.mono (fun x _ hx => h1.fL x hx))
    have t1' : HostTo B w a k F w1.drew := ⟨⟨d, v, g, val, FV, FL, h1⟩, hk1.drew⟩
    exact ⟨rfl, HostTo.trans h0 t1' t2⟩
end Go.Proofs.YtdiogamcjihejaaGreat
