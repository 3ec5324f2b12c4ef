/- A host's inner steps: trip, alive, leave. -/
import Derived.Test.YtdiogamcjihejaaGreatHost
import Derived.Deep.RegionHeld3
namespace Go.Proofs.YtdiogamcjihejaaGreat
open Go.RowKit
set_option maxHeartbeats 4000000
set_option maxRecDepth 100000

/-- What a call on the host leaves. -/
structure HostTo (B : Nat) (w : World) (a : Nat) (m : HostM) (F : Nat → Prop) (w' : World) : Prop where
  is_ : HostIs B w' a m (grow F w w')
  keep : Keep F w w'
section
variable {B : Nat} {w w1 w2 : World} {a d v g : Nat} {m m1 m2 : HostM} {F F' FV FL : Nat → Prop} {val : Value}
theorem HostAt.mono (h : HostAt B w a m F d v g val FV FL) (hF : ∀ x, F x → F' x) (hb : ∀ x, F' x → B ≤ x ∧ x < w.heap.size) : HostAt B w a m F' d v g val FV FL :=
  { h with fa := hF _ h.fa, fd := hF _ h.fd, fV := fun x hx => hF _ (h.fV x hx), fL := fun x hx => hF _ (h.fL x hx), fx := fun x hx => hF _ (h.fx x hx), fb := hb }
theorem grow_grow (h1 : w.heap.size ≤ w1.heap.size) (h2 : w1.heap.size ≤ w2.heap.size) : ∀ x, grow (grow F w w1) w1 w2 x → grow F w w2 x := by
  intro x hx
  rcases hx with (hx | hx) | hx
  · exact .inl hx
  · exact .inr (by omega)
  · exact .inr (by omega)
theorem HostTo.trans (h0 : HostIs B w a m F) (h1 : HostTo B w a m1 F w1) (h2 : HostTo B w1 a m2 (grow F w w1) w2) : HostTo B w a m2 F w2 := by
  obtain ⟨_, _, _, _, _, _, h0⟩ := h0
  obtain ⟨d, v, g, val, FV, FL, h3⟩ := h2.is_
  have s1 := h1.keep.size
  have s2 := h2.keep.size
  refine ⟨⟨d, v, g, val, FV, FL, h3.mono (grow_grow s1 s2) (grow_fb h0.fb h0.Ble (by omega))⟩, h1.keep.andThen h2.keep ?_⟩
  intro x hx hg
  rcases hg with hg | hg
  · exact hg
  · omega
theorem HostAt.toIs (h0 : HostAt B w a m F d v g val FV FL) {d' v' g' : Nat} {val' : Value} {FV' FL' : Nat → Prop} (h : HostAt B w1 a m1 F' d' v' g' val' FV' FL') (hF : ∀ x, F' x → grow F w w1 x) (hk : Keep F w w1) : HostTo B w a m1 F w1 :=
  ⟨⟨d', v', g', val', FV', FL', h.mono hF (grow_fb h0.fb h0.Ble hk.size)⟩, hk⟩
end
theorem hostS {w : World} {a d v g : Nat} {m : HostM} {val : Value} (h : Blk w a 117 (hostCells m d v g val)) :
    w.cell? ⟨a, 7, none⟩ = some (.pointer (some ⟨g, 0, none⟩)) ∧ w.cell? ⟨a, 9, none⟩ = some (.int .u32 m.session) ∧ w.cell? ⟨a, 10, none⟩ = some (.int .u32 m.number) := ⟨(h.cell 7).trans rfl, (h.cell 9).trans rfl, (h.cell 10).trans rfl⟩
theorem DiagIs.drew {w : World} {a : Nat} {F : Nat → Prop} {L : List Rec} (h : DiagIs w a L F) : DiagIs w.drew a L F := h.keep (S := fun _ => False) ((Keep.refl _ w).drew) (fun _ _ h => h) (fun _ h => h)
theorem HostAt.drew {B : Nat} {w : World} {a d v g : Nat} {m : HostM} {F FV FL : Nat → Prop} {val : Value} (h : HostAt B w a m F d v g val FV FL) : HostAt B w.drew a m F d v g val FV FL :=
  { h with valve := h.valve.keep (S := fun _ => False) ((Keep.refl _ w).drew) (fun _ _ h => h) (fun _ h => h), log := h.log.drew }
theorem hostTrip_any (B a : Nat) (m : HostM) (F : Nat → Prop) (code : Int) (w : World) (hcode : code ≠ 0) (hH : HostIs B w a m F) (hlen : m.log.length < 1073741823) :
    Calls Tryz.prog 102 #[.pointer (some ⟨a, 0, none⟩), .int .i64 code] w fun e w' => e = .returned (.tuple #[]) ∧ HostTo B w a (m.trip code) F w' := by
  obtain ⟨d, v, g, val, FV, FL, hH⟩ := hH
  have hc := hH.blk.cell
  unfold hostCells at hc
  have hcod : (code == 0) = false := by simpa using hcode
  cases htr : (m.valve.trip code).2 with
  | false =>
    have e1 : m.trip code = { m with valve := (m.valve.trip code).1 } := by unfold HostM.trip; simp only [htr]; rfl
    rw [e1]
    go_enter Tryz.func102, Tryz.ntmps102
    go_wp2_with fail
    refine (valveTrip_any v m.valve _ FV code w hcode hH.valve).mono ?_
    rintro e w1 ⟨rfl, hv, hk⟩
    rw [htr]
    go_wp2_with fail
    go_end0
    exact ⟨rfl, hH.toIs (hH.onValve hv hk (fun x hx => .inl hx)) (fun x hx => hx) (hk.mono (fun x _ hx => hH.fV x hx))⟩
  | true =>
    have e1 : m.trip code = { m with valve := (m.valve.trip code).1, log := noteM m.log code m.session m.number } := by unfold HostM.trip; simp only [htr]; rfl
    rw [e1]
    go_enter Tryz.func102, Tryz.ntmps102
    go_wp2_with fail
    refine (valveTrip_any v m.valve _ FV code w hcode hH.valve).mono ?_
    rintro e w1 ⟨rfl, hv, hk⟩
    rw [htr]
    have h1 := (hH.onValve hv hk (fun x hx => .inl hx)).drew
    have hlog := h1.log
    have hb1 := h1.blk
    have hla := h1.la.1
    have hk1 : Keep F w w1.drew := (hk.mono (fun x _ hx => hH.fV x hx)).drew
    clear hc
    have hc := hb1.cell
    unfold hostCells at hc
    go_wp2_with fail
    go_region_held3 (fun w' => w'.cell? ⟨a, 7, none⟩ = some (.pointer (some ⟨g, 0, none⟩)) ∧ w'.cell? ⟨a, 9, none⟩ = some (.int .u32 m.session) ∧ w'.cell? ⟨a, 10, none⟩ = some (.int .u32 m.number)) (exact hostS hb1) (first
      | (go_at_call 81; refine (diagNote_any g m.log FL code m.session m.number _ hcod hlog hlen).mono ?_; rintro e W ⟨rfl, hl2, hk2⟩; replace hb1 := hb1.keep hk2 hla))
    go_wp2_with fail
    go_end0
    have h2 := h1.onLog hl2 hk2 (fun x hx => hx)
    refine ⟨rfl, hH.toIs h2 (fun x hx => grow_grow (w1 := w1.drew) hk1.size hk2.size x hx) (hk1.andThen hk2 (fun x _ hx => hH.fL x hx))⟩
theorem hostAlive_any (B a : Nat) (m : HostM) (F : Nat → Prop) (w : World) (hH : HostIs B w a m F) :
    Calls Tryz.prog 185 #[.pointer (some ⟨a, 0, none⟩)] w fun e w' => e = .returned (.tuple #[]) ∧ HostTo B w a m.alive F w' := by
  obtain ⟨d, v, g, val, FV, FL, hH⟩ := hH
  have hb := hH.blk
  have hc := hb.cell
  have hf := hb.frozen
  have h1 : HostAt B ((w.setCell ⟨a, 12, none⟩ (.bool false)).setCell ⟨a, 13, none⟩ (.int .i64 0)) a { m with waits := false, missed := 0 } F d v g val FV FL :=
    hH.upd (((Keep.refl (fun x => x = a) w).setCell (p := ⟨a, 12, none⟩) (fun _ => rfl) _).setCell (p := ⟨a, 13, none⟩) (fun _ => rfl) _) (by simp [World.setCell])
      (by simpa [hostCells] using (hb.set_ 12 (.bool false)).set_ 13 (.int .i64 0)) rfl rfl rfl rfl rfl
  have hk1 : Keep F w ((w.setCell ⟨a, 12, none⟩ (.bool false)).setCell ⟨a, 13, none⟩ (.int .i64 0)) := ((Keep.refl F w).setCell (p := ⟨a, 12, none⟩) (fun _ => hH.fa) _).setCell (p := ⟨a, 13, none⟩) (fun _ => hH.fa) _
  unfold hostCells at hc
  go_enter Tryz.func185, Tryz.ntmps185
  go_wp2_with fail
  refine (dogFeed_any d _ _ _ h1.dog).mono ?_
  rintro e w2 ⟨rfl, hd2, hW⟩
  have h2 := h1.onDog hd2 (hW ▸ (Keep.refl (fun x => x = d) _).setCell (p := ⟨d, 1, none⟩) (fun _ => rfl) _) (by rw [hW]; simp [World.setCell])
  have hk2 : Keep F w w2 := hW ▸ hk1.setCell (p := ⟨d, 1, none⟩) (fun _ => hH.fd) _
  clear hW hc hf h1 hd2
  have hc := h2.blk.cell
  unfold hostCells at hc
  go_wp2_with fail
  refine (valveFresh_any v m.valve _ FV w2 h2.valve).mono ?_
  rintro e w3 ⟨rfl, hv3, hk3, hs3⟩
  have h3 := h2.onValve hv3 hk3 (fun x hx => .inl hx)
  clear hs3
  go_wp2_with fail
  go_end0
  exact ⟨rfl, hH.toIs h3 (fun x hx => hx.elim .inl (fun hx => .inr ⟨by have := hk2.size; omega, hx.2⟩)) (hk2.andThen hk3 (fun x _ hx => hH.fV x hx))⟩
theorem hostLeave_any (B a : Nat) (m : HostM) (F : Nat → Prop) (w : World) (hH : HostIs B w a m F) :
    Calls Tryz.prog 126 #[.pointer (some ⟨a, 0, none⟩), .int .i64 1] w fun e w' => e = .returned (.tuple #[]) ∧ HostTo B w a m.leave F w' := by
  obtain ⟨d, v, g, val, FV, FL, hH⟩ := hH
  have hc := hH.blk.cell
  unfold hostCells at hc
  go_enter Tryz.func126, Tryz.ntmps126
  go_wp2_with fail
  refine (valveRun_any v m.valve _ FV false w hH.valve).mono ?_
  rintro e w1 ⟨rfl, hv1, hk1, hs1⟩
  have h1 := hH.onValve hv1 hk1 (fun x hx => .inl hx)
  have hb1 := h1.blk
  clear hc hs1
  have hc := hb1.cell
  have hf := hb1.frozen
  unfold hostCells at hc
  go_wp2_with fail
  go_end0
  have hk2 : ∀ S : Nat → Prop, S a → Keep S w1 (((((w1.setCell ⟨a, 8, none⟩ (.int .i64 1)).setCell ⟨a, 10, none⟩ (.int .u32 0)).setCell ⟨a, 11, none⟩ (.int .u32 0)).setCell ⟨a, 12, none⟩ (.bool false)).setCell ⟨a, 13, none⟩ (.int .i64 0)) := fun S hS =>
    (((((Keep.refl S w1).setCell (p := ⟨a, 8, none⟩) (fun _ => hS) _).setCell (p := ⟨a, 10, none⟩) (fun _ => hS) _).setCell (p := ⟨a, 11, none⟩) (fun _ => hS) _).setCell (p := ⟨a, 12, none⟩) (fun _ => hS) _).setCell (p := ⟨a, 13, none⟩) (fun _ => hS) _
  have hz2 : (((((w1.setCell ⟨a, 8, none⟩ (.int .i64 1)).setCell ⟨a, 10, none⟩ (.int .u32 0)).setCell ⟨a, 11, none⟩ (.int .u32 0)).setCell ⟨a, 12, none⟩ (.bool false)).setCell ⟨a, 13, none⟩ (.int .i64 0)).heap.size = w1.heap.size := by simp [World.setCell]
  have h2 : HostAt B (((((w1.setCell ⟨a, 8, none⟩ (.int .i64 1)).setCell ⟨a, 10, none⟩ (.int .u32 0)).setCell ⟨a, 11, none⟩ (.int .u32 0)).setCell ⟨a, 12, none⟩ (.bool false)).setCell ⟨a, 13, none⟩ (.int .i64 0)) a m.leave (grow F w w1) d v g val FV FL :=
    h1.upd (hk2 _ rfl) hz2 (by simpa [hostCells, HostM.leave] using ((((hb1.set_ 8 (.int .i64 1)).set_ 10 (.int .u32 0)).set_ 11 (.int .u32 0)).set_ 12 (.bool false)).set_ 13 (.int .i64 0)) rfl rfl rfl rfl rfl
  exact ⟨rfl, hH.toIs h2 (fun x hx => hx.elim .inl (fun hx => .inr ⟨hx.1, by omega⟩)) ((hk1.mono (fun x _ hx => hH.fV x hx)).andThen (hk2 F hH.fa) (fun _ _ hx => hx))⟩
end Go.Proofs.YtdiogamcjihejaaGreat
