/- passive's valve by its contracts. -/
import Derived.Test.YtdiogamcjihejaaGreatGateB
import Derived.Test.YtdiogamcjihejaaGreatEndM
import Derived.Test.YtdiogamcjihejaaGreatBytes
namespace Go.Proofs.YtdiogamcjihejaaGreat
open Go.RowKit
set_option maxHeartbeats 4000000
set_option maxRecDepth 100000

theorem GateIs.far {w : World} {b o : Nat} {code : Int} (h : GateIs w b o code) {p : Addr} (hb : b ≠ p.block) (ho : o ≠ p.block) (u : Value) : GateIs (w.setCell p u) b o code := by
  obtain ⟨⟨n, h1⟩, ⟨s, h2⟩⟩ := h
  exact ⟨⟨n, h1.far hb u⟩, ⟨s, h2.far ho u⟩⟩
/-- What the valve's value cell holds. -/
def ValIs (w : World) (val : Value) (x : Option (List UInt8)) : Prop :=
  match x with
  | none => val = .slice none 0 0
  | some b => w.ownsRow 0 5 1 val b.length (u8c b) ∧ ∃ g, val.ownBlock = some g
/-- A valve at block v, its gate gb, its Once o, its value val. -/
structure ValveAt (w : World) (v : Nat) (V : ValveM) (n : Int) (F : Nat → Prop) (gb o : Nat) (val : Value) : Prop where
  blk : Blk w v 201 #[.int .i64 n, .pointer (some ⟨gb, 0, none⟩), .bool V.running, .bool V.fresh, .bool V.held, val]
  gate : GateIs w gb o V.latched
  value : ValIs w val V.value
  fv : F v
  fg : F gb
  fo : F o
  fx : ∀ x, val.ownBlock = some x → F x
def ValveIs (w : World) (v : Nat) (V : ValveM) (n : Int) (F : Nat → Prop) : Prop := ∃ gb o val, ValveAt w v V n F gb o val
/-- A footprint and what was made. -/
def grow (F : Nat → Prop) (w w' : World) (x : Nat) : Prop := F x ∨ (w.heap.size ≤ x ∧ x < w'.heap.size)
section
variable {w w' : World} {v gb o : Nat} {V : ValveM} {n : Int} {F F' S : Nat → Prop} {val : Value}
theorem ValveAt.ne (h : ValveAt w v V n F gb o val) : v ≠ gb ∧ v ≠ o := by
  obtain ⟨⟨m, h1⟩, ⟨s, h2⟩⟩ := h.gate
  exact ⟨h.blk.ne_ h1 (by decide), h.blk.ne_ h2 (by decide)⟩
theorem ValIs.keep {x : Option (List UInt8)} (h : ValIs w val x) (hk : Keep S w w') (hx : ∀ g, val.ownBlock = some g → ¬ S g) : ValIs w' val x := by
  cases x with
  | none => exact h
  | some b => exact ⟨ownsRow_keep h.1 hk hx, h.2⟩
theorem ValveAt.keep (h : ValveAt w v V n F gb o val) (hk : Keep S w w') (hS : ∀ x, F x → ¬ S x) (hF : ∀ x, F x → F' x) : ValveAt w' v V n F' gb o val where
  blk := h.blk.keep hk (hS _ h.fv)
  gate := h.gate.keep hk (hS _ h.fg) (hS _ h.fo)
  value := h.value.keep hk (fun g hg => hS _ (h.fx g hg))
  fv := hF _ h.fv
  fg := hF _ h.fg
  fo := hF _ h.fo
  fx := fun x hx => hF _ (h.fx x hx)
theorem ValveIs.keep (h : ValveIs w v V n F) (hk : Keep S w w') (hS : ∀ x, F x → ¬ S x) (hF : ∀ x, F x → F' x) : ValveIs w' v V n F' := by
  obtain ⟨gb, o, val, h⟩ := h
  exact ⟨gb, o, val, h.keep hk hS hF⟩
theorem ValveAt.val_ne (h : ValveAt w v V n F gb o val) : val.ownBlock ≠ some v ∧ val.ownBlock ≠ some gb ∧ val.ownBlock ≠ some o := by
  have hv := h.value
  obtain ⟨⟨m, h1⟩, ⟨s, h2⟩⟩ := h.gate
  unfold ValIs at hv
  split at hv
  · subst hv
    simp [Value.ownBlock]
  · exact ⟨own_ne hv.1 h.blk (by decide), own_ne hv.1 h1 (by decide), own_ne hv.1 h2 (by decide)⟩
end
/-- Latched, Code. -/
theorem valveLatched_any (v : Nat) (V : ValveM) (n : Int) (F : Nat → Prop) (w : World) (h : ValveIs w v V n F) : Calls Tryz.prog 87 #[.pointer (some ⟨v, 0, none⟩)] w fun e w' => e = .returned (.int .i64 V.latched) ∧ w' = w := by
  obtain ⟨gb, o, val, h⟩ := h
  have hc := h.blk.cell
  go_enter Tryz.func87, Tryz.ntmps87
  go_wp2_with fail
  refine (gateCode_any gb o _ _ h.gate).mono ?_
  rintro e w1 ⟨rfl, rfl⟩
  go_wp2_with fail
  go_ret
  exact ⟨rfl, rfl⟩
theorem valveRequest_any (v : Nat) (V : ValveM) (n : Int) (F : Nat → Prop) (w : World) (h : ValveIs w v V n F) : Calls Tryz.prog 88 #[.pointer (some ⟨v, 0, none⟩)] w fun e w' => e = .returned (.bool V.request) ∧ w' = w := by
  obtain ⟨gb, o, val, h⟩ := h
  have hc := h.blk.cell
  have hg := h.gate
  obtain ⟨running, held, fresh, latched, value⟩ := V
  simp only at hc hg
  clear h
  cases running with
  | false =>
    go_enter Tryz.func88, Tryz.ntmps88
    go_wp2_with fail
    go_ret
    exact ⟨rfl, rfl⟩
  | true =>
    cases fresh with
    | false =>
      go_enter Tryz.func88, Tryz.ntmps88
      go_wp2_with fail
      go_ret
      exact ⟨rfl, rfl⟩
    | true =>
      go_enter Tryz.func88, Tryz.ntmps88
      go_wp2_with fail
      refine (gateCode_any gb o _ _ hg).mono ?_
      rintro e w1 ⟨rfl, rfl⟩
      go_wp2_with fail
      go_ret
      exact ⟨rfl, rfl⟩
theorem valveRun_any (v : Nat) (V : ValveM) (n : Int) (F : Nat → Prop) (on : Bool) (w : World) (h : ValveIs w v V n F) : Calls Tryz.prog 129 #[.pointer (some ⟨v, 0, none⟩), .bool on] w fun e w' => e = .returned (.tuple #[]) ∧ ValveIs w' v (V.run on) n F ∧ Keep F w w' ∧ w'.heap.size = w.heap.size := by
  obtain ⟨gb, o, val, h⟩ := h
  have hc := h.blk.cell
  have hf := h.blk.frozen
  by_cases he : V.running = on
  · have e1 : V.run on = V := by unfold ValveM.run; rw [if_pos he]
    rw [e1]
    have hq : ∀ W, (binOp .neq 4 (.bool V.running) (.bool on)).run Tryz.prog W = .ok (.bool false) W := by
      rw [he]
      cases on <;> exact fun _ => by kernel_rfl
    go_enter Tryz.func129, Tryz.ntmps129
    go_wp2_with fail
    go_end0
    exact ⟨rfl, ⟨gb, o, val, h⟩, Keep.refl _ _, rfl⟩
  · have e1 : V.run on = { V with running := on, held := false, value := none } := by unfold ValveM.run; rw [if_neg he]
    rw [e1]
    have hq : ∀ W, (binOp .neq 4 (.bool V.running) (.bool on)).run Tryz.prog W = .ok (.bool true) W := by
      cases hr : V.running <;> cases on <;> first | exact absurd hr he | exact fun _ => by kernel_rfl
    have hne := h.ne
    have hb := h.blk
    have hg := h.gate
    have hfv := h.fv
    have hfg := h.fg
    have hfo := h.fo
    clear h e1
    generalize V.running = ru at *
    generalize V.fresh = fr at *
    generalize V.held = he2 at *
    clear he
    go_enter Tryz.func129, Tryz.ntmps129
    go_wp2_with fail
    go_end0
    refine ⟨rfl, ⟨gb, o, .slice none 0 0, ⟨?_, ((hg.far (p := ⟨v, 2, none⟩) (fun h => hne.1 h.symm) (fun h => hne.2 h.symm) _).far (p := ⟨v, 5, none⟩) (fun h => hne.1 h.symm) (fun h => hne.2 h.symm) _).far (p := ⟨v, 4, none⟩) (fun h => hne.1 h.symm) (fun h => hne.2 h.symm) _, rfl, hfv, hfg, hfo, fun x hx => by simp [Value.ownBlock] at hx⟩⟩, (((Keep.refl _ w).setCell (p := ⟨v, 2, none⟩) (fun _ => hfv) _).setCell (p := ⟨v, 5, none⟩) (fun _ => hfv) _).setCell (p := ⟨v, 4, none⟩) (fun _ => hfv) _, by simp [World.setCell]⟩
    simpa using ((hb.set_ 2 (.bool on)).set_ 5 (.slice none 0 0)).set_ 4 (.bool false)
theorem valveFresh_any (v : Nat) (V : ValveM) (n : Int) (F : Nat → Prop) (w : World) (h : ValveIs w v V n F) : Calls Tryz.prog 219 #[.pointer (some ⟨v, 0, none⟩)] w fun e w' => e = .returned (.tuple #[]) ∧ ValveIs w' v V.come n F ∧ Keep F w w' ∧ w'.heap.size = w.heap.size := by
  obtain ⟨gb, o, val, h⟩ := h
  have hc := h.blk.cell
  have hf := h.blk.frozen
  have hne := h.ne
  have hvn := h.val_ne
  go_enter Tryz.func219, Tryz.ntmps219
  go_wp2_with fail
  refine (gateCode_any gb o _ _ h.gate).mono ?_
  rintro e w1 ⟨rfl, rfl⟩
  go_wp2_with fail
  go_end0
  have hk : Keep (fun x => x = v) w1 (w1.setCell ⟨v, 3, none⟩ (.bool (V.latched != 0))) := (Keep.refl (fun x => x = v) w1).setCell (p := ⟨v, 3, none⟩) (fun _ => rfl) _
  refine ⟨rfl, ⟨gb, o, val, ⟨?_, h.gate.far (p := ⟨v, 3, none⟩) (fun h => hne.1 h.symm) (fun h => hne.2 h.symm) _, h.value.keep hk (fun g hg e => hvn.1 (e ▸ hg)), h.fv, h.fg, h.fo, h.fx⟩⟩, (Keep.refl F w1).setCell (p := ⟨v, 3, none⟩) (fun _ => h.fv) _, by simp [World.setCell]⟩
  simpa [ValveM.come] using h.blk.set_ 3 (.bool (V.latched != 0))
theorem valveHold_any (v : Nat) (V : ValveM) (n : Int) (F : Nat → Prop) (on : Bool) (w : World) (h : ValveIs w v V n F) : Calls Tryz.prog 186 #[.pointer (some ⟨v, 0, none⟩), .bool on] w fun e w' => e = .returned (.tuple #[]) ∧ ValveIs w' v (V.hold on) n F ∧ Keep F w w' ∧ w'.heap.size = w.heap.size := by
  obtain ⟨gb, o, val, h⟩ := h
  have hc := h.blk.cell
  have hf := h.blk.frozen
  have hne := h.ne
  have hvn := h.val_ne
  have key : ∀ b : Bool, b = (on && V.running) → ValveIs (w.setCell ⟨v, 4, none⟩ (.bool b)) v (V.hold on) n F ∧ Keep F w (w.setCell ⟨v, 4, none⟩ (.bool b)) ∧ (w.setCell ⟨v, 4, none⟩ (.bool b)).heap.size = w.heap.size := by
    intro b hb
    have hk : Keep (fun x => x = v) w (w.setCell ⟨v, 4, none⟩ (.bool b)) := (Keep.refl (fun x => x = v) w).setCell (p := ⟨v, 4, none⟩) (fun _ => rfl) _
    refine ⟨⟨gb, o, val, ⟨?_, h.gate.far (p := ⟨v, 4, none⟩) (fun h => hne.1 h.symm) (fun h => hne.2 h.symm) _, h.value.keep hk (fun g hg e => hvn.1 (e ▸ hg)), h.fv, h.fg, h.fo, h.fx⟩⟩, (Keep.refl F w).setCell (p := ⟨v, 4, none⟩) (fun _ => h.fv) _, by simp [World.setCell]⟩
    subst hb
    simpa [ValveM.hold] using h.blk.set_ 4 (.bool (on && V.running))
  cases on with
  | false =>
    go_enter Tryz.func186, Tryz.ntmps186
    go_wp2_with fail
    go_end0
    exact ⟨rfl, key false rfl⟩
  | true =>
    go_enter Tryz.func186, Tryz.ntmps186
    go_wp2_with fail
    go_end0
    exact ⟨rfl, key V.running (by simp)⟩
theorem valveTrip_any (v : Nat) (V : ValveM) (n : Int) (F : Nat → Prop) (code : Int) (w : World) (hcode : code ≠ 0) (h : ValveIs w v V n F) : Calls Tryz.prog 154 #[.pointer (some ⟨v, 0, none⟩), .int .i64 code] w fun e w' => e = .returned (.bool (V.trip code).2) ∧ ValveIs w' v (V.trip code).1 n F ∧ Keep F w w' := by
  obtain ⟨gb, o, val, h⟩ := h
  have hc := h.blk.cell
  have hf := h.blk.frozen
  have hne := h.ne
  have hcod : (code == 0) = false := by simpa using hcode
  have e1 : V.trip code = ({ V with value := none, fresh := false, latched := if V.latched = 0 then code else V.latched }, V.latched == 0) := by unfold ValveM.trip; rw [if_neg hcode]
  rw [e1]
  clear e1
  have htrip := fun w (hg : GateIs w gb o V.latched) => gateTrip_any gb o V.latched code w hcode hg
  generalize (if V.latched = 0 then code else V.latched) = nl at *
  go_enter Tryz.func154, Tryz.ntmps154
  go_wp2_with fail
  have hg2 := (h.gate.far (p := ⟨v, 5, none⟩) (fun h => hne.1 h.symm) (fun h => hne.2 h.symm) (.slice none 0 0)).far (p := ⟨v, 3, none⟩) (fun h => hne.1 h.symm) (fun h => hne.2 h.symm) (.bool false)
  have hb2 := (h.blk.set_ 5 (.slice none 0 0)).set_ 3 (.bool false)
  have hk2 := ((Keep.refl F w).setCell (p := ⟨v, 5, none⟩) (fun _ => h.fv) (.slice none 0 0)).setCell (p := ⟨v, 3, none⟩) (fun _ => h.fv) (.bool false)
  refine (htrip _ hg2).mono ?_
  rintro e w1 ⟨rfl, hg3, hk3⟩
  go_wp2_with fail
  go_ret
  refine ⟨rfl, ⟨gb, o, .slice none 0 0, ⟨?_, hg3, rfl, h.fv, h.fg, h.fo, fun x hx => by simp [Value.ownBlock] at hx⟩⟩, hk2.andThen hk3 (fun x _ hx => ?_)⟩
  · have := hb2.keep hk3 (fun hx => hx.elim hne.1 hne.2)
    simpa using this
  · rcases hx with h1 | h1
    · exact h1 ▸ h.fg
    · exact h1 ▸ h.fo
theorem valveAck_any (v : Nat) (V : ValveM) (n : Int) (F : Nat → Prop) (w : World) (hV : ValveIs w v V n F) : Calls Tryz.prog 103 #[.pointer (some ⟨v, 0, none⟩)] w fun e w' => e = .returned (.int .i64 (if V.request then 0 else 110)) ∧ ValveIs w' v V.ack n (grow F w w') ∧ Keep F w w' := by
  have hreq := fun w h => valveRequest_any v V n F w h
  cases hr : V.request with
  | false =>
    rw [hr] at hreq
    have e1 : V.ack = V := by unfold ValveM.ack; rw [hr]; rfl
    rw [e1]
    go_enter Tryz.func103, Tryz.ntmps103
    go_wp2_with fail
    refine (hreq _ hV).mono ?_
    rintro e w1 ⟨rfl, rfl⟩
    go_wp2_with fail
    go_ret
    exact ⟨rfl, hV.keep (S := fun _ => False) (Keep.refl _ _) (fun _ _ h => h) (fun _ h => .inl h), Keep.refl _ _⟩
  | true =>
    rw [hr] at hreq
    have e1 : V.ack = { V with latched := 0, fresh := false } := by unfold ValveM.ack; rw [hr]; rfl
    rw [e1]
    have h0 := hV
    obtain ⟨gb, o, val, hV⟩ := hV
    have hc := hV.blk.cell
    go_enter Tryz.func103, Tryz.ntmps103
    go_wp2_with fail
    refine (hreq _ h0).mono ?_
    rintro e w1 ⟨rfl, rfl⟩
    go_wp2_with fail
    refine (gateLift_any gb o _ _ hV.gate).mono ?_
    rintro e w2 ⟨rfl, hg2, hk2, hs2⟩
    have hb2 := hV.blk.keep hk2 hV.ne.1
    have hvg : w1.heap.size ≠ v := by have := hV.blk.lt; omega
    have hval2 := hV.value.keep hk2 (fun g hg e => hV.val_ne.2.1 (e ▸ hg))
    have Hs2 := Lib.hid hs2
    clear hc hs2
    have hc := hb2.cell
    have hf := hb2.frozen
    go_wp2_with fail
    go_ret
    have hs := Hs2.out
    have hk3 : Keep (fun x => x = v) w2 (w2.setCell ⟨v, 3, none⟩ (.bool false)) := (Keep.refl (fun x => x = v) w2).setCell (p := ⟨v, 3, none⟩) (fun _ => rfl) _
    refine ⟨rfl, ⟨gb, w1.heap.size, val, ⟨?_, hg2.far (p := ⟨v, 3, none⟩) (fun e => hV.ne.1 e.symm) hvg _, hval2.keep hk3 (fun g hg e => hV.val_ne.1 (e ▸ hg)), .inl hV.fv, .inl hV.fg, .inr ⟨Nat.le_refl _, by simp [World.setCell]; omega⟩, fun x hx => .inl (hV.fx x hx)⟩⟩, (hk2.mono (fun x _ hx => hx ▸ hV.fg)).setCell (p := ⟨v, 3, none⟩) (fun _ => hV.fv) _⟩
    simpa using hb2.set_ 3 (.bool false)
end Go.Proofs.YtdiogamcjihejaaGreat
