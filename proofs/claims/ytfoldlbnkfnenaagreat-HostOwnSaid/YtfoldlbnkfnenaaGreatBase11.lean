/- The base of the laws of the host, part 11: contracts and plain lemmas, no statement. -/
import Derived.Test.YtfoldlbnkfnenaaGreatBase10
import Derived.Deep.RegionHeld
/- The reference's host takes a unit (parapetref14.Host.unit). -/
namespace Go.Proofs.YtfoldlbnkfnenaaGreat
open Go.RowKit
set_option maxHeartbeats 10000000
set_option maxRecDepth 100000

/-- Where the reference's host takes a unit u (in a slice A, c). -/
structure RTakeAt (B b : Nat) (m : HostM) (F : Nat → Prop) (u : UnitM) (A : Option Addr) (c Br : Nat) (w : World) : Prop where
  is_ : RHIs B w b m F
  good : m.Good
  ok : u.Ok
  rd : Reads w Br 1 A u.data.length (u8c u.data)
  rb : Br ≤ w.heap.size
  d8 : u.data.length ≤ 8
  len : m.log.length < 1073741800
  af : ∀ ad, A = some ad → ¬ F ad.block
/-- Behind a value taken. -/
theorem RHAt.onTake {B : Nat} {w w' : World} {b : Nat} {m : HostM} {F : Nat → Prop} {A : Option Addr} {c : Nat} {vv vv' val : Value} (h : RHAt B w b m F A c vv val) {V' : ValveM}
    (hb : Blk w' b 96 (seg (rhPre m (.slice A m.log.length c) ++ rdogCs m.p.watch m.since) (rvCs m.p.inn V' vv') (rhPost m val))) (hv : RVal w' vv' V'.value) (hk : Keep (fun x => x = b) w w') (hn : vv' = vv ∨ ∀ x, vv'.ownBlock = some x → w.heap.size ≤ x ∧ x < w'.heap.size) :
    RHAt B w' b { m with valve := V' } (grow F w w') A c vv' val where
  blk := hb
  log := ownsRow_keep h.log hk (fun x hx e => own_ne h.log h.blk (by decide) (e ▸ hx))
  vval := hv
  value := ownsRow_keep h.value hk (fun x hx e => own_ne h.value h.blk (by decide) (e ▸ hx))
  fb := .inl h.fb
  fl := fun x hx => .inl (h.fl x hx)
  fv := fun x hx => by
    rcases hn with rfl | hn
    · exact .inl (h.fv x hx)
    · exact .inr (hn x hx)
  fx := fun x hx => .inl (h.fx x hx)
  lo := grow_fb h.lo h.Ble hk.size
theorem run_val (V : ValveM) (on : Bool) (vv : Value) : ((if V.running = on then vv else .slice none 0 0) = vv ∧ (V.run on).value = V.value) ∨ ((if V.running = on then vv else .slice none 0 0) = .slice none 0 0 ∧ (V.run on).value = none) := by
  unfold ValveM.run
  by_cases h : V.running = on
  · left; rw [if_pos h, if_pos h]; exact ⟨rfl, rfl⟩
  · right; rw [if_neg h, if_neg h]; exact ⟨rfl, rfl⟩
section
variable {B b : Nat} {m : HostM} {F : Nat → Prop} {A : Option Addr} {c Br : Nat} {w : World}
theorem rhUnit_agreed (code number flags : Int) (data : List UInt8) (h : RTakeAt B b m F ⟨18, code, m.session, number, flags, data⟩ A c Br w) (hs : m.state = 2) :
    Calls Tryz.prog 52 #[.pointer (some ⟨b, 0, none⟩), unitVal ⟨18, code, m.session, number, flags, data⟩ (.slice A data.length c)] w fun e w' => e = .returned (.int .i64 0) ∧ RHTo B w b ({ m with state := 3 } : HostM).alive F w' := by
  have hI := h.is_
  have hsame := fun w' => RHTo.ofBelow (w' := w') h.is_
  obtain ⟨Al, cl, vv, val, hH⟩ := h.is_
  have hb0 : Below w.heap.size w (w.alloc (.cells #[.int .i64 18, .int .u32 code, .int .u32 m.session, .int .u32 number, .int .i64 flags, .slice A data.length c] 60)) := (Below.refl _ _).alloc (Nat.le_refl _) _
  have hA1 := hH.below hb0
  have hU1 := Blk.new w 60 #[.int .i64 18, .int .u32 code, .int .u32 m.session, .int .u32 number, .int .i64 flags, .slice A data.length c]
  have hua : w.heap.size ≠ b := by have := (hH.lo b hH.fb).2; omega
  have huF : ∀ x, F x → x ≠ w.heap.size := fun x hx e => by have := (hH.lo x hx).2; omega
  obtain ⟨u0, Hu0⟩ : ∃ e, Hid (e = w.heap.size) := ⟨_, Lib.hid rfl⟩
  have hfr := h.good.fr
  clear h
  have hc := hA1.blk.cell
  unfold rhCells at hc
  rw [hs] at hc
  unfold unitVal
  simp only
  go_enter Tryz.func52, Tryz.ntmps52
  go_upto_region 1 with fail
  rw [← Hu0.out] at hU1 hua huF ⊢
  generalize w.alloc (.cells _ 60) = W1 at *
  have huc := hU1.cell
  go_wp2_with fail
  go_big_quiet (fail)
  have hA2 := hA1.below (belowN (Below.refl _ W1) nq)
  have hU2 := hU1.drewN nq
  have hb2 := belowN hb0 nq
  generalize W1.drewN nq = W2 at *
  clear hc huc hA1 hU1 hb0
  have hc := hA2.blk.cell
  have huc := hU2.cell
  unfold rhCells at hc
  rw [hs] at hc
  go_wp2_with fail
  go_big_quiet (fail)
  have hA3 := hA2.below (belowN (Below.refl _ W2) nq)
  have hU3 := hU2.drewN nq
  have hb3 := belowN hb2 nq
  generalize W2.drewN nq = W3 at *
  clear hc huc hA2 hU2 hb2
  have hc := hA3.blk.cell
  have huc := hU3.cell
  unfold rhCells at hc
  rw [hs] at hc
  have hf := hA3.blk.frozen
  have hA4 : RHAt B (W3.setCell ⟨b, 15, none⟩ (.int .i64 3)) b { m with state := 3 } F Al cl vv val :=
    hA3.upd ((Keep.refl (fun x => x = b) W3).setCell (p := ⟨b, 15, none⟩) (fun _ => rfl) _) (by simp [World.setCell]) (by simpa [rhCells] using hA3.blk.set_ 15 (.int .i64 3)) rfl rfl rfl
  have hk4 : Keep F w (W3.setCell ⟨b, 15, none⟩ (.int .i64 3)) := (Keep.of_below hb3).setCell (p := ⟨b, 15, none⟩) (fun _ => hH.fb) _
  have t4 := hH.toIs hA4 (fun x hx => .inl hx) hk4
  go_wp2_with fail
  clear hc hf huc
  refine (rhOn_any B b { m with state := 3 } _ _ t4.is_ hfr).mono ?_
  rintro e W5 ⟨rfl, t5⟩
  go_wp2_with fail
  go_ret
  exact ⟨rfl, RHTo.trans hI t4 t5⟩
theorem rhUnit_started (code number flags : Int) (data : List UInt8) (h : RTakeAt B b m F ⟨19, code, m.session, number, flags, data⟩ A c Br w) (hs : m.state = 3) :
    Calls Tryz.prog 52 #[.pointer (some ⟨b, 0, none⟩), unitVal ⟨19, code, m.session, number, flags, data⟩ (.slice A data.length c)] w fun e w' => e = .returned (.int .i64 0) ∧ RHTo B w b (({ m with state := 4 } : HostM).run true).alive F w' := by
  have hI := h.is_
  have hsame := fun w' => RHTo.ofBelow (w' := w') h.is_
  obtain ⟨Al, cl, vv, val, hH⟩ := h.is_
  have hb0 : Below w.heap.size w (w.alloc (.cells #[.int .i64 19, .int .u32 code, .int .u32 m.session, .int .u32 number, .int .i64 flags, .slice A data.length c] 60)) := (Below.refl _ _).alloc (Nat.le_refl _) _
  have hA1 := hH.below hb0
  have hU1 := Blk.new w 60 #[.int .i64 19, .int .u32 code, .int .u32 m.session, .int .u32 number, .int .i64 flags, .slice A data.length c]
  have hua : w.heap.size ≠ b := by have := (hH.lo b hH.fb).2; omega
  have huF : ∀ x, F x → x ≠ w.heap.size := fun x hx e => by have := (hH.lo x hx).2; omega
  obtain ⟨u0, Hu0⟩ : ∃ e, Hid (e = w.heap.size) := ⟨_, Lib.hid rfl⟩
  have hfr := h.good.fr
  clear h
  have hc := hA1.blk.cell
  unfold rhCells at hc
  rw [hs] at hc
  unfold unitVal
  simp only
  go_enter Tryz.func52, Tryz.ntmps52
  go_upto_region 1 with fail
  rw [← Hu0.out] at hU1 hua huF ⊢
  generalize w.alloc (.cells _ 60) = W1 at *
  have huc := hU1.cell
  go_wp2_with fail
  go_big_quiet (fail)
  have hA2 := hA1.below (belowN (Below.refl _ W1) nq)
  have hU2 := hU1.drewN nq
  have hb2 := belowN hb0 nq
  generalize W1.drewN nq = W2 at *
  clear hc huc hA1 hU1 hb0
  have hc := hA2.blk.cell
  have huc := hU2.cell
  unfold rhCells at hc
  rw [hs] at hc
  go_wp2_with fail
  go_big_quiet (fail)
  have hA3 := hA2.below (belowN (Below.refl _ W2) nq)
  have hU3 := hU2.drewN nq
  have hb3 := belowN hb2 nq
  generalize W2.drewN nq = W3 at *
  clear hc huc hA2 hU2 hb2
  have hc := hA3.blk.cell
  have huc := hU3.cell
  unfold rhCells at hc
  rw [hs] at hc
  have hf := hA3.blk.frozen
  have hA4 : RHAt B (W3.setCell ⟨b, 15, none⟩ (.int .i64 4)) b { m with state := 4 } F Al cl vv val :=
    hA3.upd ((Keep.refl (fun x => x = b) W3).setCell (p := ⟨b, 15, none⟩) (fun _ => rfl) _) (by simp [World.setCell]) (by simpa [rhCells] using hA3.blk.set_ 15 (.int .i64 4)) rfl rfl rfl
  have hk4 : Keep F w (W3.setCell ⟨b, 15, none⟩ (.int .i64 4)) := (Keep.of_below hb3).setCell (p := ⟨b, 15, none⟩) (fun _ => hH.fb) _
  go_wp2_with fail
  clear hc hf huc
  refine (rvRun_any b 8 _ _ _ m.p.inn m.valve vv _ true hA4.valveBlk rfl).mono ?_
  rintro e W5 ⟨rfl, hv⟩
  have h5 := hA4.onValve hv (run_val m.valve true vv)
  have hk5 : Keep F w W5 := hk4.andThen hv.2.1 (fun x _ hx => hx ▸ hH.fb)
  have t5 : RHTo B w b (({ m with state := 4 } : HostM).run true) F W5 := hH.toIs h5 (fun x hx => .inl hx) hk5
  go_wp2_with fail
  refine (rhOn_any B b (({ m with state := 4 } : HostM).run true) _ _ t5.is_ (fr_run hfr)).mono ?_
  rintro e W6 ⟨rfl, t6⟩
  go_wp2_with fail
  go_ret
  exact ⟨rfl, RHTo.trans hI t5 t6⟩
theorem rhUnit_data (code number flags : Int) (data : List UInt8) (h : RTakeAt B b m F ⟨20, code, m.session, number, flags, data⟩ A c Br w) (hs : m.state = 4) (h1 : m.number < number) (h2 : number < m.p.count) (h3 : (data.length : Int) = m.p.inn) :
    Calls Tryz.prog 52 #[.pointer (some ⟨b, 0, none⟩), unitVal ⟨20, code, m.session, number, flags, data⟩ (.slice A data.length c)] w fun e w' => e = .returned (.int .i64 0) ∧ RHTo B w b { ({ m with number := number } : HostM).alive with valve := ((({ m with number := number } : HostM).alive.valve.hold (decide (8 ≤ flags))).take data) } F w' := by
  have hI := h.is_
  have hsame := fun w' => RHTo.ofBelow (w' := w') h.is_
  obtain ⟨Al, cl, vv, val, hH⟩ := h.is_
  have hb0 : Below w.heap.size w (w.alloc (.cells #[.int .i64 20, .int .u32 code, .int .u32 m.session, .int .u32 number, .int .i64 flags, .slice A data.length c] 60)) := (Below.refl _ _).alloc (Nat.le_refl _) _
  have hA1 := hH.below hb0
  have hU1 := Blk.new w 60 #[.int .i64 20, .int .u32 code, .int .u32 m.session, .int .u32 number, .int .i64 flags, .slice A data.length c]
  have hua : w.heap.size ≠ b := by have := (hH.lo b hH.fb).2; omega
  have huF : ∀ x, F x → x ≠ w.heap.size := fun x hx e => by have := (hH.lo x hx).2; omega
  obtain ⟨u0, Hu0⟩ : ∃ e, Hid (e = w.heap.size) := ⟨_, Lib.hid rfl⟩
  have hfr := h.good.fr
  have hlaw := h.good.inv.plaw
  simp [ParM.lawful] at hlaw
  have hpos : 0 < data.length := by omega
  have hq3 : ((data.length : Int) == m.p.inn) = true := by simpa using h3
  have hd8 : data.length ≤ 1000000 := by have := h.d8; simp only at this; omega
  have hrd := h.rd
  have hrb := h.rb
  simp only at hrd
  have haf := h.af
  clear h hlaw h3
  have hc := hA1.blk.cell
  unfold rhCells at hc
  rw [hs] at hc
  unfold unitVal
  simp only
  go_enter Tryz.func52, Tryz.ntmps52
  go_upto_region 1 with fail
  rw [← Hu0.out] at hU1 hua huF ⊢
  generalize w.alloc (.cells _ 60) = W1 at *
  have huc := hU1.cell
  go_wp2_with fail
  go_big_quiet (fail)
  have hA2 := hA1.below (belowN (Below.refl _ W1) nq)
  have hU2 := hU1.drewN nq
  have hb2 := belowN hb0 nq
  generalize W1.drewN nq = W2 at *
  clear hc huc hA1 hU1 hb0
  have hc := hA2.blk.cell
  have huc := hU2.cell
  unfold rhCells at hc
  rw [hs] at hc
  go_wp2_with fail
  go_big_quiet (fail)
  have hA3 := hA2.below (belowN (Below.refl _ W2) nq)
  have hU3 := hU2.drewN nq
  have hb3 := belowN hb2 nq
  generalize W2.drewN nq = W3 at *
  clear hc huc hA2 hU2 hb2
  have hc := hA3.blk.cell
  have huc := hU3.cell
  unfold rhCells at hc
  rw [hs] at hc
  go_wp2_with fail
  go_big_quiet (fail)
  have hA4 := hA3.below (belowN (Below.refl _ W3) nq)
  have hU4 := hU3.drewN nq
  have hb4 := belowN hb3 nq
  generalize W3.drewN nq = W4 at *
  clear hc huc hA3 hU3 hb3
  have hc := hA4.blk.cell
  have huc := hU4.cell
  unfold rhCells at hc
  rw [hs] at hc
  have hf := hA4.blk.frozen
  have hA5 : RHAt B (W4.setCell ⟨b, 17, none⟩ (.int .u32 number)) b { m with number := number } F Al cl vv val :=
    hA4.upd ((Keep.refl (fun x => x = b) W4).setCell (p := ⟨b, 17, none⟩) (fun _ => rfl) _) (by simp [World.setCell]) (by simpa [rhCells] using hA4.blk.set_ 17 (.int .u32 number)) rfl rfl rfl
  have hk5 : Keep F w (W4.setCell ⟨b, 17, none⟩ (.int .u32 number)) := (Keep.of_below hb4).setCell (p := ⟨b, 17, none⟩) (fun _ => hH.fb) _
  have hU5 := hU4.far (p := ⟨b, 17, none⟩) hua (.int .u32 number)
  have hr5 : Reads (W4.setCell ⟨b, 17, none⟩ (.int .u32 number)) Br 1 A data.length (u8c data) := hrd.keepS hk5 hrb haf
  go_wp2_with fail
  clear hc hf huc
  have hlt5 := hU5.lt
  generalize W4.setCell ⟨b, 17, none⟩ (.int .u32 number) = W5 at *
  refine (rhOn_any B b { m with number := number } F W5 ⟨Al, cl, vv, val, hA5⟩ hfr).mono ?_
  rintro e W6 ⟨rfl, t6⟩
  have hs5 := hk5.size
  have hs6 := t6.keep.size
  obtain ⟨A6, c6, vv6, val6, h6⟩ := t6.is_
  have hk6 : Keep F w W6 := hk5.andThen t6.keep (fun _ _ h => h)
  have hU6 := hU5.keep t6.keep (fun hx => huF u0 hx rfl)
  have hr6 := hr5.keepS t6.keep (by omega) haf
  clear hA5 hU5 hr5
  generalize hmm : ({ m with number := number } : HostM).alive = m6 at *
  have hc := h6.blk.cell
  unfold rhCells at hc
  have huc := hU6.cell
  replace h6 := h6.drew
  replace hU6 := hU6.drew
  have hbH := h6.valveBlk
  go_wp2_with fail
  go_region_held3 (fun w' => w'.cell? ⟨u0, 4, none⟩ = some (.int .i64 flags)) (exact (hU6.cell 4).trans rfl) (first
    | (go_at_call 96; refine (rvHold_any b 8 _ _ _ m6.p.inn m6.valve vv6 _ (decide (8 ≤ flags)) hbH rfl).mono ?_; rintro e W7 ⟨rfl, hv7⟩; have h7 := h6.onValve hv7 (.inl ⟨rfl, rfl⟩); replace hU6 := hU6.keep hv7.2.1 (fun e => hua e)))
  have hk7 : Keep F w W7 := hk6.drew.andThen hv7.2.1 (fun x _ hx => hx ▸ hH.fb)
  have hs7 : W6.heap.size ≤ W7.heap.size := hv7.2.1.size
  have hr7 := hr6.drew.keepS hv7.2.1 (by show Br ≤ W6.heap.size; omega) (fun ad e hx => haf ad e (hx ▸ hH.fb))
  clear hc huc hbH hv7
  replace h7 := h7.drew
  replace hU6 := hU6.drew
  have hr7d := hr7.drew
  have hvb := h7.valveBlk
  have hvr := h7.vval
  have hnb : ∀ ad, A = some ad → ad.block ≠ b := fun ad e hx => haf ad e (hx ▸ hH.fb)
  go_wp2_with fail
  go_region_held3 (fun w' => w'.cell? ⟨u0, 5, none⟩ = some (.slice A data.length c)) (exact (hU6.cell 5).trans rfl) (first
    | (go_at_call 97; refine (rvTake_any b 8 _ _ _ m6.p.inn (m6.valve.hold (decide (8 ≤ flags))) vv6 _ A data.length c Br data hvb rfl hvr hr7d (by show Br ≤ W7.heap.size; omega) hd8 hnb).mono ?_; rintro e W8 ⟨rfl, vv8, hB8, hV8, hk8, hn8⟩; have h8 := h7.onTake hB8 hV8 hk8 hn8; replace hU6 := hU6.keep hk8 (fun e => hua e)))
  all_goals
    go_wp2_with fail
    go_ret
    have hk9 : Keep F w W8 := hk7.drew.andThen hk8 (fun x _ hx => hx ▸ hH.fb)
    have hs8 : W7.heap.size ≤ W8.heap.size := hk8.size
    have e7 : W7.drew.heap.size = W7.heap.size := rfl
    subst hmm
    refine ⟨rfl, hH.toIs h8 (fun x hx => ?_) hk9⟩
    rcases hx with (hx | hx) | hx
    · exact .inl hx
    · exact .inr (by omega)
    · exact .inr (by omega)
theorem rhUnit_last (code number flags : Int) (data : List UInt8) (h : RTakeAt B b m F ⟨21, code, m.session, number, flags, data⟩ A c Br w) (hs : m.state = 4) (h1 : m.number < number) (h2 : number = m.p.count) :
    Calls Tryz.prog 52 #[.pointer (some ⟨b, 0, none⟩), unitVal ⟨21, code, m.session, number, flags, data⟩ (.slice A data.length c)] w fun e w' => e = .returned (.int .i64 0) ∧ RHTo B w b { ((({ m with number := number } : HostM).alive.trip 80).run false) with state := 5 } F w' := by
  have hI := h.is_
  have hsame := fun w' => RHTo.ofBelow (w' := w') h.is_
  obtain ⟨Al, cl, vv, val, hH⟩ := h.is_
  have hb0 : Below w.heap.size w (w.alloc (.cells #[.int .i64 21, .int .u32 code, .int .u32 m.session, .int .u32 number, .int .i64 flags, .slice A data.length c] 60)) := (Below.refl _ _).alloc (Nat.le_refl _) _
  have hA1 := hH.below hb0
  have hU1 := Blk.new w 60 #[.int .i64 21, .int .u32 code, .int .u32 m.session, .int .u32 number, .int .i64 flags, .slice A data.length c]
  have hua : w.heap.size ≠ b := by have := (hH.lo b hH.fb).2; omega
  have huF : ∀ x, F x → x ≠ w.heap.size := fun x hx e => by have := (hH.lo x hx).2; omega
  obtain ⟨u0, Hu0⟩ : ∃ e, Hid (e = w.heap.size) := ⟨_, Lib.hid rfl⟩
  have hfr := h.good.fr
  have hlen := h.len
  have hq2 : (number == m.p.count) = true := by simpa using h2
  have hq3 : decide (number < m.p.count) = false := by simp; omega
  clear h h2
  have hc := hA1.blk.cell
  unfold rhCells at hc
  rw [hs] at hc
  unfold unitVal
  simp only
  go_enter Tryz.func52, Tryz.ntmps52
  go_upto_region 1 with fail
  rw [← Hu0.out] at hU1 hua huF ⊢
  generalize w.alloc (.cells _ 60) = W1 at *
  have huc := hU1.cell
  go_wp2_with fail
  go_big_quiet (fail)
  have hA2 := hA1.below (belowN (Below.refl _ W1) nq)
  have hU2 := hU1.drewN nq
  have hb2 := belowN hb0 nq
  generalize W1.drewN nq = W2 at *
  clear hc huc hA1 hU1 hb0
  have hc := hA2.blk.cell
  have huc := hU2.cell
  unfold rhCells at hc
  rw [hs] at hc
  go_wp2_with fail
  go_big_quiet (fail)
  have hA3 := hA2.below (belowN (Below.refl _ W2) nq)
  have hU3 := hU2.drewN nq
  have hb3 := belowN hb2 nq
  generalize W2.drewN nq = W3 at *
  clear hc huc hA2 hU2 hb2
  have hc := hA3.blk.cell
  have huc := hU3.cell
  unfold rhCells at hc
  rw [hs] at hc
  go_wp2_with fail
  go_big_quiet (fail)
  have hA4 := hA3.below (belowN (Below.refl _ W3) nq)
  have hU4 := hU3.drewN nq
  have hb4 := belowN hb3 nq
  generalize W3.drewN nq = W4 at *
  clear hc huc hA3 hU3 hb3
  have hc := hA4.blk.cell
  have huc := hU4.cell
  unfold rhCells at hc
  rw [hs] at hc
  go_wp2_with fail
  go_big_quiet (fail)
  have hA5 := hA4.below (belowN (Below.refl _ W4) nq)
  have hU5 := hU4.drewN nq
  have hb5 := belowN hb4 nq
  generalize W4.drewN nq = W5 at *
  clear hc huc hA4 hU4 hb4
  have hc := hA5.blk.cell
  have huc := hU5.cell
  unfold rhCells at hc
  rw [hs] at hc
  have hf := hA5.blk.frozen
  have hA6 : RHAt B (W5.setCell ⟨b, 17, none⟩ (.int .u32 number)) b { m with number := number } F Al cl vv val :=
    hA5.upd ((Keep.refl (fun x => x = b) W5).setCell (p := ⟨b, 17, none⟩) (fun _ => rfl) _) (by simp [World.setCell]) (by simpa [rhCells] using hA5.blk.set_ 17 (.int .u32 number)) rfl rfl rfl
  have hk6 : Keep F w (W5.setCell ⟨b, 17, none⟩ (.int .u32 number)) := (Keep.of_below hb5).setCell (p := ⟨b, 17, none⟩) (fun _ => hH.fb) _
  have t6 := hH.toIs hA6 (fun x hx => .inl hx) hk6
  go_wp2_with fail
  clear hc hf huc
  refine (rhOn_any B b { m with number := number } _ _ t6.is_ hfr).mono ?_
  rintro e W7 ⟨rfl, t7⟩
  have t7' := RHTo.trans hI t6 t7
  go_wp2_with fail
  refine (rhLatch_any B b ({ m with number := number } : HostM).alive _ 80 W7 (by decide) t7'.is_ (by simp only [HostM.alive]; omega)).mono ?_
  rintro e W8 ⟨rfl, t8⟩
  have t8' := RHTo.trans hI t7' t8
  obtain ⟨A8, c8, vv8, val8, h8⟩ := t8'.is_
  have hc8 := h8.blk.cell
  unfold rhCells at hc8
  go_wp2_with fail
  refine (rvRun_any b 8 _ _ _ _ _ vv8 W8 false h8.valveBlk rfl).mono ?_
  rintro e W9 ⟨rfl, hv9⟩
  have h9 := h8.onValve hv9 (run_val _ false vv8)
  have hk9 : Keep F w W9 := t8'.keep.andThen hv9.2.1 (fun x _ hx => hx ▸ hH.fb)
  have hz9 := hv9.2.2
  have Hz9 := Lib.hid hz9
  clear hc8 hz9 hv9
  have hB9 := h9.blk
  have hc9 := hB9.cell
  have hf9 := hB9.frozen
  have h10 : RHAt B (W9.setCell ⟨b, 15, none⟩ (.int .i64 5)) b { ((({ m with number := number } : HostM).alive.trip 80).run false) with state := 5 } (grow F w W8) A8 c8 _ val8 :=
    h9.upd ((Keep.refl (fun x => x = b) W9).setCell (p := ⟨b, 15, none⟩) (fun _ => rfl) _) (by simp [World.setCell]) (by simpa [rhCells, HostM.run] using hB9.set_ 15 (.int .i64 5)) rfl rfl rfl
  unfold rhCells at hc9
  go_wp2_with fail
  go_ret
  have hz10 : (W9.setCell ⟨b, 15, none⟩ (.int .i64 5)).heap.size = W9.heap.size := by simp [World.setCell]
  have hz9 := Hz9.out
  refine ⟨rfl, hH.toIs h10 (fun x hx => ?_) (hk9.setCell (p := ⟨b, 15, none⟩) (fun _ => hH.fb) _)⟩
  rcases hx with hx | hx
  · exact .inl hx
  · exact .inr (by omega)
end
end Go.Proofs.YtfoldlbnkfnenaaGreat
/- The law's frames: frame, Frame (parapetlaw14). -/
namespace Go.Proofs.YtfoldlbnkfnenaaGreat
open Go.RowKit
set_option maxHeartbeats 10000000
set_option maxRecDepth 100000

theorem l14frame_any (u : UnitM) (A : Option Addr) (c B : Nat) (w : World) (ho : u.Ok) (hr : Reads w B 1 A u.data.length (u8c u.data)) (hB : B ≤ w.heap.size) :
    Calls Tryz.prog 29 #[unitVal u (.slice A u.data.length c)] w fun e w' => ∃ v, e = .returned v ∧ w'.ownsRow w.heap.size 5 1 v u.encode.length (u8c u.encode) ∧ Below w.heap.size w w' := by
  have hbW := (Below.refl w.heap.size w).alloc (Nat.le_refl _) (.cells #[.int .i64 u.kind, .int .u32 u.code, .int .u32 u.session, .int .u32 u.number, .int .i64 u.flags, .slice A u.data.length c] 60)
  have hz : (w.alloc (.cells #[.int .i64 u.kind, .int .u32 u.code, .int .u32 u.session, .int .u32 u.number, .int .i64 u.flags, .slice A u.data.length c] 60)).heap.size = w.heap.size + 1 := by simp
  have henc := r4encode_any u A c B (w.alloc (.cells #[.int .i64 u.kind, .int .u32 u.code, .int .u32 u.session, .int .u32 u.number, .int .i64 u.flags, .slice A u.data.length c] 60)) ho (hr.alloc hB _) (by omega)
  unfold unitVal at *
  generalize u.encode = fr at *
  generalize u.lawful = law at *
  clear hr
  go_enter Tryz.func29, Tryz.ntmps29
  go_wp2_with fail
  refine henc.mono ?_
  rintro e w1 ⟨v, rfl, hown, hb1⟩
  obtain ⟨Av, cv, rfl⟩ := own_slice hown
  go_wp2_with fail
  go_ret
  exact ⟨_, rfl, own_base hown (by omega), hbW.trans (hb1.mono (by omega))⟩
theorem addU_ok (a b : Int) : 0 ≤ addU a b ∧ addU a b < 4294967296 := by unfold addU; omega
theorem signOf_length (m : HostM) (odd : Bool) : (signOf m odd).length = 4 := by
  unfold signOf
  split
  · rw [List.length_set]; exact sign_length m.p
  · exact sign_length m.p
/-- Frame's cases, one after the other. -/
theorem frameM_eq (m : HostM) (kind on_ flags : Int) (odd : Bool) (data : List UInt8) (at_ word : Int) : frameM m ⟨kind, on_, flags, odd, data, at_, word⟩ =
    if kind = 6 then some data else if kind = 1 then some (UnitM.mk 17 m.p.code (addU m.session on_) 0 0 (signOf m odd)).encode
    else if kind = 2 then some (UnitM.mk 18 m.p.code (if odd then addU m.session 1 else m.session) 0 0 []).encode
    else if kind = 3 then some (UnitM.mk 19 m.p.code (if odd then addU m.session 1 else m.session) 0 0 []).encode
    else if kind = 4 then some (UnitM.mk 20 m.p.code (if odd then addU m.session 1 else m.session) (addU m.number on_) flags data).encode
    else if kind = 5 then some (UnitM.mk 21 m.p.code (if odd then addU m.session 1 else m.session) m.p.count 0 []).encode
    else if kind = 7 then some ((burstM (UnitM.mk 20 m.p.code (if odd then addU m.session 1 else m.session) (addU m.number on_) flags data).encode at_ word).getD (UnitM.mk 20 m.p.code (if odd then addU m.session 1 else m.session) (addU m.number on_) flags data).encode)
    else none := by
  unfold frameM unitOp
  simp only
  by_cases k6 : kind = 6
  · rw [if_pos k6, if_pos k6]
  rw [if_neg k6, if_neg k6]
  by_cases k1 : kind = 1
  · rw [if_pos (by omega), if_pos k1, if_pos k1]
  by_cases k2 : kind = 2
  · rw [if_pos (by omega), if_neg k1, if_neg k1, if_pos k2, if_pos k2]
  by_cases k3 : kind = 3
  · rw [if_pos (by omega), if_neg k1, if_neg k1, if_neg k2, if_neg k2, if_pos k3, if_pos k3]
  by_cases k4 : kind = 4
  · subst k4; rfl
  by_cases k5 : kind = 5
  · subst k5; rfl
  by_cases k7 : kind = 7
  · subst k7; rfl
  rw [if_neg (by omega), if_neg k7, if_neg k1, if_neg k2, if_neg k3, if_neg k4, if_neg k5, if_neg k7]
theorem frS {w : World} {b o0 : Nat} {m : HostM} {lg vv val x0 x1 x2 x3 x4 x5 x6 : Value} (h : Blk w b 96 (rhCells m lg vv val)) (hO : Blk w o0 48 #[x0, x1, x2, x3, x4, x5, x6]) :
    w.cell? ⟨b, 17, none⟩ = some (.int .u32 m.number) ∧ w.cell? ⟨o0, 1, none⟩ = some x1 ∧ w.cell? ⟨o0, 2, none⟩ = some x2 ∧ w.cell? ⟨o0, 4, none⟩ = some x4 :=
  ⟨(h.cell 17).trans rfl, (hO.cell 1).trans rfl, (hO.cell 2).trans rfl, (hO.cell 4).trans rfl⟩
theorem frS9 {w : World} {b o0 : Nat} {m : HostM} {lg vv val x0 x1 x2 x3 x4 x5 x6 : Value} (h : Blk w b 96 (rhCells m lg vv val)) (hO : Blk w o0 48 #[x0, x1, x2, x3, x4, x5, x6]) :
    w.cell? ⟨b, 16, none⟩ = some (.int .u32 m.session) ∧ w.cell? ⟨o0, 1, none⟩ = some x1 :=
  ⟨(h.cell 16).trans rfl, (hO.cell 1).trans rfl⟩
theorem frS18 {w : World} {b o0 : Nat} {m : HostM} {lg vv val x0 x1 x2 x3 x4 x5 x6 : Value} (h : Blk w b 96 (rhCells m lg vv val)) (hO : Blk w o0 48 #[x0, x1, x2, x3, x4, x5, x6]) :
    w.cell? ⟨b, 4, none⟩ = some (.int .u32 m.p.count) ∧ w.cell? ⟨o0, 0, none⟩ = some x0 :=
  ⟨(h.cell 4).trans rfl, (hO.cell 0).trans rfl⟩
theorem addU_wrap (a b : Int) : IntKind.u32.wrap (a + IntKind.u32.wrap b) = addU a b := by
  rw [IntKind.wrap_u32, IntKind.wrap_u32]
  unfold addU
  omega
theorem encode_small (u : UnitM) : u.encode.length ≤ 1000 := by
  unfold UnitM.encode
  split
  · rename_i h
    have := UnitM.lawful_len h
    simp [sealM, UnitM.body, wordBytes, wordOf]
    omega
  · simp
theorem l14frame_at (k code s n f : Int) (data : List UInt8) (A : Option Addr) (len cap B : Nat) (w : World) (hlen : data.length = len) (hc : 0 ≤ code ∧ code < 4294967296) (hs : 0 ≤ s ∧ s < 4294967296) (hn : 0 ≤ n ∧ n < 4294967296) (hr : Reads w B 1 A len (u8c data)) (hB : B ≤ w.heap.size) :
    Calls Tryz.prog 29 #[.agg #[.int .i64 k, .int .u32 code, .int .u32 s, .int .u32 n, .int .i64 f, .slice A len cap]] w fun e w' => ∃ v, e = .returned v ∧ w'.ownsRow w.heap.size 5 1 v (UnitM.mk k code s n f data).encode.length (u8c (UnitM.mk k code s n f data).encode) ∧ Below w.heap.size w w' := by
  subst hlen
  exact l14frame_any ⟨k, code, s, n, f, data⟩ A cap B w ⟨hc, hs, hn⟩ hr hB
theorem l14Frame_any (B b : Nat) (m : HostM) (F : Nat → Prop) (o : OpM) (A : Option Addr) (c Br : Nat) (w : World) (h0 : RHIs B w b m F) (hi : m.Inv) (ho : o.Ok) (hr : Reads w Br 1 A o.data.length (u8c o.data)) (hBr : Br ≤ w.heap.size) (hoc : o.data.length ≤ c) (hod : o.data.length ≤ 140737488351232) :
    Calls Tryz.prog 21 #[.pointer (some ⟨b, 0, none⟩), opVal o (.slice A o.data.length c)] w fun e w' => ∃ v, e = .returned (.tuple #[v, .bool (frameM m o).isSome]) ∧ (frameM m o = none → v = .slice none 0 0) ∧ (∀ f, frameM m o = some f → w'.ownsRow w.heap.size 5 1 v f.length (u8c f)) ∧ Below w.heap.size w w' := by
  obtain ⟨kind, on_, flags, odd, data, at_, word⟩ := o
  simp only at *
  obtain ⟨A0, c0, vv0, val0, hH⟩ := h0
  have hO := Blk.new w 48 #[.int .i64 kind, .int .i64 on_, .int .i64 flags, .bool odd, .slice A data.length c, .int .i64 at_, .int .u32 word]
  have hbO := (Below.refl w.heap.size w).alloc (Nat.le_refl _) (.cells #[.int .i64 kind, .int .i64 on_, .int .i64 flags, .bool odd, .slice A data.length c, .int .i64 at_, .int .u32 word] 48)
  have hp := hi.pok
  have hsg := fun W => r9sign_any m.p W hp hi.plaw
  unfold parVal at hsg
  have hsl := sign_length m.p
  obtain ⟨r, Hr⟩ : ∃ r, Hid (r = frameM m ⟨kind, on_, flags, odd, data, at_, word⟩) := ⟨_, Lib.hid rfl⟩
  rw [← Hr.out]
  have hH1 := hH.below hbO
  have hr1 := hr.below (hbO.mono hBr)
  have hoF : ∀ x, F x → x ≠ w.heap.size := fun x hx e => by have := (hH.lo x hx).2; omega
  obtain ⟨o0, Ho0⟩ : ∃ e, Hid (e = w.heap.size) := ⟨_, Lib.hid rfl⟩
  unfold opVal
  have hrw := hr
  clear hr
  go_enter Tryz.func21, Tryz.ntmps21
  go_upto_region 1 with fail
  rw [← Ho0.out] at hO hoF ⊢
  generalize w.alloc (.cells _ 48) = W1 at *
  have hc := hH1.blk.cell
  unfold rhCells at hc
  go_wp2_with fail
  refine (hsg _).mono ?_
  rintro e W2 ⟨v2, rfl, hown2, hb2⟩
  obtain ⟨A2, c2, rfl⟩ := own_slice hown2
  have hH2 := hH1.below hb2
  have hO2 := hO.below hb2 hO.lt
  have hs1 := hbO.size
  have hr2 := hr1.below (hb2.mono (by omega))
  have hbO2 := hbO.trans (hb2.mono hs1)
  clear hc hH1 hr1 hsg
  have hc := hH2.blk.cell
  unfold rhCells at hc
  have hcA := (hH2.blk.alloc (.cells #[.int .i64 0, .int .u32 0, .int .u32 0, .int .u32 0, .int .i64 0, .slice none 0 0] 60)).cell
  unfold rhCells at hcA
  go_wp2_with fail
  go_region
  clear hcA
  obtain ⟨g, rfl⟩ := own_some hown2 (by omega)
  have hgl := hown2.lt g rfl
  have hs2 := hbO2.size
  have hU3 := (Blk.new W2 60 #[.int .i64 0, .int .u32 m.p.code, .int .u32 m.session, .int .u32 0, .int .i64 0, .slice none 0 0]).drew
  have hown3 := own_below hown2 ((Below.refl W2.heap.size W2).alloc (Nat.le_refl _) (.cells #[.int .i64 0, .int .u32 m.p.code, .int .u32 m.session, .int .u32 0, .int .i64 0, .slice none 0 0] 60)).drew
  have hO3 := (hO2.alloc (.cells #[.int .i64 0, .int .u32 m.p.code, .int .u32 m.session, .int .u32 0, .int .i64 0, .slice none 0 0] 60)).drew
  have hb3 := (hbO2.alloc hs2 (.cells #[.int .i64 0, .int .u32 m.p.code, .int .u32 m.session, .int .u32 0, .int .i64 0, .slice none 0 0] 60)).drew
  have hou : o0 ≠ W2.heap.size := by have := hO2.lt; omega
  have hgo : o0 < g := by have := hO.lt; omega
  obtain ⟨u0, Hu0⟩ : ∃ e, Hid (e = W2.heap.size) := ⟨_, Lib.hid rfl⟩
  have hgu : g < u0 := by have := Hu0.out; omega
  rw [← Hu0.out] at hU3 hou ⊢
  clear hc hH2 hO2 hr2 hown2
  generalize (W2.alloc (.cells #[.int .i64 0, .int .u32 m.p.code, .int .u32 m.session, .int .u32 0, .int .i64 0, .slice none 0 0] 60)).drew = W3 at *
  have hwu : w.heap.size ≤ u0 := by have := Hu0.out; omega
  have hwg : w.heap.size ≤ g := by have := Ho0.out; omega
  have hoc3 := hO3.cell
  go_upto_if 27 with (fail)
  go_cut [] from 26 to 109 (fun wc => Blk wc u0 60 #[.int .i64 0, .int .u32 m.p.code, .int .u32 (if odd then addU m.session 1 else m.session), .int .u32 0, .int .i64 0, .slice none 0 0] ∧ wc.ownsRow W1.heap.size 5 1 (.slice (some ⟨g, 0, none⟩) 4 c2) 4 (u8c (signOf m odd)) ∧ Blk wc o0 48 #[.int .i64 kind, .int .i64 on_, .int .i64 flags, .bool odd, .slice A data.length c, .int .i64 at_, .int .u32 word] ∧ Below w.heap.size w wc)
  case first =>
    cases odd
    case true =>
      have hw1 : IntKind.u32.wrap (m.session + 1) = addU m.session 1 := IntKind.wrap_u32 _
      have huc := hU3.cell
      have huf := hU3.frozen
      go_upto_region 5 with fail
      have hU4 : Blk (W3.setCell ⟨u0, 2, none⟩ (.int .u32 (addU m.session 1))) u0 60 #[.int .i64 0, .int .u32 m.p.code, .int .u32 (addU m.session 1), .int .u32 0, .int .i64 0, .slice none 0 0] := by simpa using hU3.set_ 2 (.int .u32 (addU m.session 1))
      have hown4 := own_far hown3 (fun e => by simp [Value.ownBlock] at e; omega) 2 (.int .u32 (addU m.session 1)) (g := u0)
      have hO4 := hO3.far (p := ⟨u0, 2, none⟩) hou (.int .u32 (addU m.session 1))
      have hb4 : Below w.heap.size w (W3.setCell ⟨u0, 2, none⟩ (.int .u32 (addU m.session 1))) := hb3.setCell hwu _
      clear huc huf hoc3
      generalize W3.setCell ⟨u0, 2, none⟩ (.int .u32 (addU m.session 1)) = W4 at *
      have hcell : W4.cell? ⟨g, 0, none⟩ = some (.int .u8 ((m.p.sign.getD 0 0).toNat : Int)) := by have h := (Reads.of_own hown4).byte 0 (by omega); exact h
      have hfz := (own_at (k := 0) hown4).1
      have hxb := xor_byte (m.p.sign.getD 0 0) 1
      rw [show (((1 : UInt8).toNat : Nat) : Int) = 1 by rfl] at hxb
      have hown5 := own_set1 hown4 0 (.int .u8 ((m.p.sign.getD 0 0 ^^^ 1).toNat : Int))
      have hset : (u8c m.p.sign).set 0 (.int .u8 ((m.p.sign.getD 0 0 ^^^ 1).toNat : Int)) = u8c (signOf m true) := by
        unfold signOf
        rw [if_pos rfl]
        simp [u8c, List.map_set]
      rw [hset] at hown5
      clear hset
      generalize m.p.sign.getD 0 0 = x at *
      have hU5 := hU4.far (p := ⟨g, 0, none⟩) (fun e => by simp at e; omega) (.int .u8 ((x ^^^ 1).toNat : Int))
      have hO5 := hO4.far (p := ⟨g, 0, none⟩) (fun e => by simp at e; omega) (.int .u8 ((x ^^^ 1).toNat : Int))
      have hb5 : Below w.heap.size w (W4.setCell ⟨g, 0, none⟩ (.int .u8 ((x ^^^ 1).toNat : Int))) := hb4.setCell hwg _
      have Hown5 := Lib.hid hown5
      clear hown5
      go_wp2_with fail
      go_meet
      exact ⟨hU5, Hown5.out, hO5, hb5⟩
    case false =>
      go_wp2_with fail
      go_meet
      exact ⟨hU3, hown3, hO3, hb3⟩
  case rest =>
  obtain ⟨hU5, hown5, hO5, hb5⟩ := hcut
  obtain ⟨W5, rfl⟩ : ∃ W : World, W = wc := ⟨_, rfl⟩
  have hH5 := hH.below hb5
  have hs5 := hb5.size
  have hBr5 : Br ≤ W5.heap.size := by omega
  have hr5 := hrw.below (hb5.mono hBr)
  have hssr : 0 ≤ (if odd then addU m.session 1 else m.session) ∧ (if odd then addU m.session 1 else m.session) < 4294967296 := by
    split
    · exact addU_ok _ _
    · exact hi.session
  have hsg4 := signOf_length m odd
  obtain ⟨ss, hssE⟩ : ∃ s : Int, (if odd then addU m.session 1 else m.session) = s := ⟨_, rfl⟩
  obtain ⟨sg, hsgE⟩ : ∃ s, signOf m odd = s := ⟨_, rfl⟩
  rw [hssE] at hU5 hssr
  rw [hsgE] at hown5 hsg4
  have hFr := frameM_eq m kind on_ flags odd data at_ word
  rw [hssE, hsgE] at hFr
  replace Hr : Hid (r = _) := Lib.hid (Hr.out.trans hFr)
  clear hFr hssE hsgE
  have hub : u0 ≠ b := fun e => by have := (hH.lo b hH.fb).2; omega
  have huo : u0 ≠ o0 := fun e => hou e.symm
  have ha3 : (m.session + on_ % 4294967296) % 4294967296 = addU m.session on_ := by unfold addU; omega
  have ha4 : (m.number + on_ % 4294967296) % 4294967296 = addU m.number on_ := by unfold addU; omega
  have ha1 : (m.session + on_) % 4294967296 = addU m.session on_ := rfl
  have ha2 : (m.number + on_) % 4294967296 = addU m.number on_ := rfl
  by_cases k1 : kind = 1
  · subst k1
    have hrr : r = some (UnitM.mk 17 m.p.code (addU m.session on_) 0 0 sg).encode := by rw [Hr.out]; rfl
    subst hrr
    clear Hr
    have hoc := hO5.cell
    go_upto_region 9 with fail
    have hbH := hH5.blk.drew
    have hOd := hO5.drew
    have huc := hU5.drew.cell
    have huf := hU5.drew.frozen
    have huc0 := hU5.cell
    have huf0 := hU5.frozen
    clear hoc
    go_wp2_with fail
    go_region_held (fun w' => w'.cell? ⟨b, 16, none⟩ = some (.int .u32 m.session) ∧ w'.cell? ⟨o0, 1, none⟩ = some (.int .i64 on_)) (with_reducible (first | exact frS9 hbH hOd | exact frS9 (hH5.blk.farU hub _ _).drew (hO5.farU huo _ _).drew | exact frS9 ((hH5.blk.farU hub _ _).farU hub _ _).drew ((hO5.farU huo _ _).farU huo _ _).drew | exact frS9 (((hH5.blk.farU hub _ _).farU hub _ _).farU hub _ _).drew (((hO5.farU huo _ _).farU huo _ _).farU huo _ _).drew)) (first | fail)
    have hU6 : Blk (((W5.setCell ⟨u0, 0, none⟩ (.int .i64 17)).setCell ⟨u0, 2, none⟩ (.int .u32 (addU m.session on_))).setCell ⟨u0, 5, none⟩ (.slice (some ⟨g, 0, none⟩) 4 c2)).drew u0 60 #[.int .i64 17, .int .u32 m.p.code, .int .u32 (addU m.session on_), .int .u32 0, .int .i64 0, .slice (some ⟨g, 0, none⟩) 4 c2] := by simpa using (((hU5.set_ 0 (.int .i64 17)).set_ 2 (.int .u32 (addU m.session on_))).set_ 5 (.slice (some ⟨g, 0, none⟩) 4 c2)).drew
    have hk6 : Keep (fun x => x = u0) W5 (((W5.setCell ⟨u0, 0, none⟩ (.int .i64 17)).setCell ⟨u0, 2, none⟩ (.int .u32 (addU m.session on_))).setCell ⟨u0, 5, none⟩ (.slice (some ⟨g, 0, none⟩) 4 c2)).drew := ((((Keep.refl (fun x => x = u0) W5).setCell (p := ⟨u0, 0, none⟩) (fun _ => rfl) (.int .i64 17)).setCell (p := ⟨u0, 2, none⟩) (fun _ => rfl) (.int .u32 (addU m.session on_))).setCell (p := ⟨u0, 5, none⟩) (fun _ => rfl) (.slice (some ⟨g, 0, none⟩) 4 c2)).drew
    go_upto_region 21 with fail
    clear huc huf huc0 huf0 hbH hOd
    rw [addU_wrap]
    generalize (((W5.setCell ⟨u0, 0, none⟩ (.int .i64 17)).setCell ⟨u0, 2, none⟩ (.int .u32 (addU m.session on_))).setCell ⟨u0, 5, none⟩ (.slice (some ⟨g, 0, none⟩) 4 c2)).drew = W6 at *
    have hO6 := hO5.keep hk6 hou
    have hown6 := ownsRow_keep hown5 hk6 (fun x hx e => by simp [Value.ownBlock] at hx; omega)
    have hb6 := hb5.trans (hk6.below hs5 (fun x e => e ▸ hwu))
    have hr6 := hr5.below (hk6.below hBr5 (fun x e => by subst e; omega))
    have huc := hU6.cell
    have hoc := hO6.cell
    have hs6 := hb6.size
    go_wp2_with fail
    refine (l14frame_at 17 m.p.code ((addU m.session on_)) 0 0 sg (some ⟨g, 0, none⟩) 4 c2 W6.heap.size W6 hsg4 hp.code (addU_ok _ _) (by omega) (Reads.of_own hown6) (by omega)).mono ?_
    rintro e W7 ⟨v7, rfl, hown7, hb7⟩
    obtain ⟨A7, c7, rfl⟩ := own_slice hown7
    have hO7 := hO6.below hb7 hO6.lt
    have hb8 := hb6.trans (hb7.mono hs6)
    clear hoc huc
    have hoc := hO7.cell
    go_wp2_with fail
    refine bodyPost_ret (v := .tuple #[.slice A7 (UnitM.mk 17 m.p.code (addU m.session on_) 0 0 sg).encode.length c7, .bool true]) (by simp [results, Tryz.results21, go_sem]) rfl ?_
    first
      | exact ⟨_, rfl, own_base hown7 hs6, hb8⟩
      | exact ⟨_, rfl, (fun h => by cases h), (fun f hf => by injection hf with hf; subst hf; exact own_base hown7 hs6), hb8⟩
  by_cases k2 : kind = 2
  · subst k2
    have hrr : r = some (UnitM.mk 18 m.p.code ss 0 0 []).encode := by rw [Hr.out]; rfl
    subst hrr
    clear Hr
    have hc := hH5.blk.cell
    unfold rhCells at hc
    have huc := hU5.cell
    have huf := hU5.frozen
    have hoc := hO5.cell
    have hU6 : Blk (W5.setCell ⟨u0, 0, none⟩ (.int .i64 18)) u0 60 #[.int .i64 18, .int .u32 m.p.code, .int .u32 ss, .int .u32 0, .int .i64 0, .slice none 0 0] := by simpa using (hU5.set_ 0 (.int .i64 18))
    have hk6 : Keep (fun x => x = u0) W5 (W5.setCell ⟨u0, 0, none⟩ (.int .i64 18)) := ((Keep.refl (fun x => x = u0) W5).setCell (p := ⟨u0, 0, none⟩) (fun _ => rfl) (.int .i64 18))
    go_upto_region 21 with fail
    clear hc huc huf hoc
    generalize (W5.setCell ⟨u0, 0, none⟩ (.int .i64 18)) = W6 at *
    have hO6 := hO5.keep hk6 hou
    have hown6 := ownsRow_keep hown5 hk6 (fun x hx e => by simp [Value.ownBlock] at hx; omega)
    have hb6 := hb5.trans (hk6.below hs5 (fun x e => e ▸ hwu))
    have hr6 := hr5.below (hk6.below hBr5 (fun x e => by subst e; omega))
    have huc := hU6.cell
    have hoc := hO6.cell
    have hs6 := hb6.size
    go_wp2_with fail
    refine (l14frame_at 18 m.p.code ss 0 0 [] none 0 0 0 W6 rfl hp.code hssr (by omega) Reads.none_ (by omega)).mono ?_
    rintro e W7 ⟨v7, rfl, hown7, hb7⟩
    obtain ⟨A7, c7, rfl⟩ := own_slice hown7
    have hO7 := hO6.below hb7 hO6.lt
    have hb8 := hb6.trans (hb7.mono hs6)
    clear hoc huc
    have hoc := hO7.cell
    go_wp2_with fail
    refine bodyPost_ret (v := .tuple #[.slice A7 (UnitM.mk 18 m.p.code ss 0 0 []).encode.length c7, .bool true]) (by simp [results, Tryz.results21, go_sem]) rfl ?_
    first
      | exact ⟨_, rfl, own_base hown7 hs6, hb8⟩
      | exact ⟨_, rfl, (fun h => by cases h), (fun f hf => by injection hf with hf; subst hf; exact own_base hown7 hs6), hb8⟩
  by_cases k3 : kind = 3
  · subst k3
    have hrr : r = some (UnitM.mk 19 m.p.code ss 0 0 []).encode := by rw [Hr.out]; rfl
    subst hrr
    clear Hr
    have hc := hH5.blk.cell
    unfold rhCells at hc
    have huc := hU5.cell
    have huf := hU5.frozen
    have hoc := hO5.cell
    have hU6 : Blk (W5.setCell ⟨u0, 0, none⟩ (.int .i64 19)) u0 60 #[.int .i64 19, .int .u32 m.p.code, .int .u32 ss, .int .u32 0, .int .i64 0, .slice none 0 0] := by simpa using (hU5.set_ 0 (.int .i64 19))
    have hk6 : Keep (fun x => x = u0) W5 (W5.setCell ⟨u0, 0, none⟩ (.int .i64 19)) := ((Keep.refl (fun x => x = u0) W5).setCell (p := ⟨u0, 0, none⟩) (fun _ => rfl) (.int .i64 19))
    go_upto_region 21 with fail
    clear hc huc huf hoc
    generalize (W5.setCell ⟨u0, 0, none⟩ (.int .i64 19)) = W6 at *
    have hO6 := hO5.keep hk6 hou
    have hown6 := ownsRow_keep hown5 hk6 (fun x hx e => by simp [Value.ownBlock] at hx; omega)
    have hb6 := hb5.trans (hk6.below hs5 (fun x e => e ▸ hwu))
    have hr6 := hr5.below (hk6.below hBr5 (fun x e => by subst e; omega))
    have huc := hU6.cell
    have hoc := hO6.cell
    have hs6 := hb6.size
    go_wp2_with fail
    refine (l14frame_at 19 m.p.code ss 0 0 [] none 0 0 0 W6 rfl hp.code hssr (by omega) Reads.none_ (by omega)).mono ?_
    rintro e W7 ⟨v7, rfl, hown7, hb7⟩
    obtain ⟨A7, c7, rfl⟩ := own_slice hown7
    have hO7 := hO6.below hb7 hO6.lt
    have hb8 := hb6.trans (hb7.mono hs6)
    clear hoc huc
    have hoc := hO7.cell
    go_wp2_with fail
    refine bodyPost_ret (v := .tuple #[.slice A7 (UnitM.mk 19 m.p.code ss 0 0 []).encode.length c7, .bool true]) (by simp [results, Tryz.results21, go_sem]) rfl ?_
    first
      | exact ⟨_, rfl, own_base hown7 hs6, hb8⟩
      | exact ⟨_, rfl, (fun h => by cases h), (fun f hf => by injection hf with hf; subst hf; exact own_base hown7 hs6), hb8⟩
  by_cases k4 : kind = 4
  · subst k4
    have hrr : r = some (UnitM.mk 20 m.p.code ss (addU m.number on_) flags data).encode := by rw [Hr.out]; rfl
    subst hrr
    clear Hr
    have hoc := hO5.cell
    go_upto_region 16 with fail
    have hbH := hH5.blk.drew
    have hOd := hO5.drew
    have huc := hU5.drew.cell
    have huf := hU5.drew.frozen
    have huc0 := hU5.cell
    have huf0 := hU5.frozen
    clear hoc
    go_wp2_with fail
    go_region_held (fun w' => w'.cell? ⟨b, 17, none⟩ = some (.int .u32 m.number) ∧ w'.cell? ⟨o0, 1, none⟩ = some (.int .i64 on_) ∧ w'.cell? ⟨o0, 2, none⟩ = some (.int .i64 flags) ∧ w'.cell? ⟨o0, 4, none⟩ = some (.slice A data.length c)) (with_reducible (first | exact frS hbH hOd | exact frS (hH5.blk.farU hub _ _).drew (hO5.farU huo _ _).drew | exact frS ((hH5.blk.farU hub _ _).farU hub _ _).drew ((hO5.farU huo _ _).farU huo _ _).drew | exact frS (((hH5.blk.farU hub _ _).farU hub _ _).farU hub _ _).drew (((hO5.farU huo _ _).farU huo _ _).farU huo _ _).drew | exact frS ((((hH5.blk.farU hub _ _).farU hub _ _).farU hub _ _).farU hub _ _).drew ((((hO5.farU huo _ _).farU huo _ _).farU huo _ _).farU huo _ _).drew)) (first | fail)
    have hU6 : Blk ((((W5.setCell ⟨u0, 0, none⟩ (.int .i64 20)).setCell ⟨u0, 3, none⟩ (.int .u32 (addU m.number on_))).setCell ⟨u0, 4, none⟩ (.int .i64 flags)).setCell ⟨u0, 5, none⟩ (.slice A data.length c)).drew u0 60 #[.int .i64 20, .int .u32 m.p.code, .int .u32 ss, .int .u32 (addU m.number on_), .int .i64 flags, .slice A data.length c] := by simpa using ((((hU5.set_ 0 (.int .i64 20)).set_ 3 (.int .u32 (addU m.number on_))).set_ 4 (.int .i64 flags)).set_ 5 (.slice A data.length c)).drew
    have hk6 : Keep (fun x => x = u0) W5 ((((W5.setCell ⟨u0, 0, none⟩ (.int .i64 20)).setCell ⟨u0, 3, none⟩ (.int .u32 (addU m.number on_))).setCell ⟨u0, 4, none⟩ (.int .i64 flags)).setCell ⟨u0, 5, none⟩ (.slice A data.length c)).drew := (((((Keep.refl (fun x => x = u0) W5).setCell (p := ⟨u0, 0, none⟩) (fun _ => rfl) (.int .i64 20)).setCell (p := ⟨u0, 3, none⟩) (fun _ => rfl) (.int .u32 (addU m.number on_))).setCell (p := ⟨u0, 4, none⟩) (fun _ => rfl) (.int .i64 flags)).setCell (p := ⟨u0, 5, none⟩) (fun _ => rfl) (.slice A data.length c)).drew
    go_upto_region 21 with fail
    clear huc huf huc0 huf0 hbH hOd
    rw [addU_wrap]
    generalize ((((W5.setCell ⟨u0, 0, none⟩ (.int .i64 20)).setCell ⟨u0, 3, none⟩ (.int .u32 (addU m.number on_))).setCell ⟨u0, 4, none⟩ (.int .i64 flags)).setCell ⟨u0, 5, none⟩ (.slice A data.length c)).drew = W6 at *
    have hO6 := hO5.keep hk6 hou
    have hown6 := ownsRow_keep hown5 hk6 (fun x hx e => by simp [Value.ownBlock] at hx; omega)
    have hb6 := hb5.trans (hk6.below hs5 (fun x e => e ▸ hwu))
    have hr6 := hr5.below (hk6.below hBr5 (fun x e => by subst e; omega))
    have huc := hU6.cell
    have hoc := hO6.cell
    have hs6 := hb6.size
    go_wp2_with fail
    refine (l14frame_at 20 m.p.code ss ((addU m.number on_)) flags data A data.length c Br W6 rfl hp.code hssr (addU_ok _ _) hr6 (by omega)).mono ?_
    rintro e W7 ⟨v7, rfl, hown7, hb7⟩
    obtain ⟨A7, c7, rfl⟩ := own_slice hown7
    have hO7 := hO6.below hb7 hO6.lt
    have hb8 := hb6.trans (hb7.mono hs6)
    clear hoc huc
    have hoc := hO7.cell
    go_wp2_with fail
    refine bodyPost_ret (v := .tuple #[.slice A7 (UnitM.mk 20 m.p.code ss (addU m.number on_) flags data).encode.length c7, .bool true]) (by simp [results, Tryz.results21, go_sem]) rfl ?_
    first
      | exact ⟨_, rfl, own_base hown7 hs6, hb8⟩
      | exact ⟨_, rfl, (fun h => by cases h), (fun f hf => by injection hf with hf; subst hf; exact own_base hown7 hs6), hb8⟩
  by_cases k5 : kind = 5
  · subst k5
    have hrr : r = some (UnitM.mk 21 m.p.code ss m.p.count 0 []).encode := by rw [Hr.out]; rfl
    subst hrr
    clear Hr
    have hoc := hO5.cell
    go_upto_region 18 with fail
    have hbH := hH5.blk.drew
    have hOd := hO5.drew
    have huc := hU5.drew.cell
    have huf := hU5.drew.frozen
    have huc0 := hU5.cell
    have huf0 := hU5.frozen
    clear hoc
    go_wp2_with fail
    go_region_held (fun w' => w'.cell? ⟨b, 4, none⟩ = some (.int .u32 m.p.count) ∧ w'.cell? ⟨o0, 0, none⟩ = some (.int .i64 5)) (with_reducible (first | exact frS18 hbH hOd | exact frS18 (hH5.blk.farU hub _ _).drew (hO5.farU huo _ _).drew | exact frS18 ((hH5.blk.farU hub _ _).farU hub _ _).drew ((hO5.farU huo _ _).farU huo _ _).drew)) (first | fail)
    have hU6 : Blk ((W5.setCell ⟨u0, 0, none⟩ (.int .i64 21)).setCell ⟨u0, 3, none⟩ (.int .u32 m.p.count)).drew u0 60 #[.int .i64 21, .int .u32 m.p.code, .int .u32 ss, .int .u32 m.p.count, .int .i64 0, .slice none 0 0] := by simpa using ((hU5.set_ 0 (.int .i64 21)).set_ 3 (.int .u32 m.p.count)).drew
    have hk6 : Keep (fun x => x = u0) W5 ((W5.setCell ⟨u0, 0, none⟩ (.int .i64 21)).setCell ⟨u0, 3, none⟩ (.int .u32 m.p.count)).drew := (((Keep.refl (fun x => x = u0) W5).setCell (p := ⟨u0, 0, none⟩) (fun _ => rfl) (.int .i64 21)).setCell (p := ⟨u0, 3, none⟩) (fun _ => rfl) (.int .u32 m.p.count)).drew
    go_upto_region 21 with fail
    clear huc huf huc0 huf0 hbH hOd
    generalize ((W5.setCell ⟨u0, 0, none⟩ (.int .i64 21)).setCell ⟨u0, 3, none⟩ (.int .u32 m.p.count)).drew = W6 at *
    have hO6 := hO5.keep hk6 hou
    have hown6 := ownsRow_keep hown5 hk6 (fun x hx e => by simp [Value.ownBlock] at hx; omega)
    have hb6 := hb5.trans (hk6.below hs5 (fun x e => e ▸ hwu))
    have hr6 := hr5.below (hk6.below hBr5 (fun x e => by subst e; omega))
    have huc := hU6.cell
    have hoc := hO6.cell
    have hs6 := hb6.size
    go_wp2_with fail
    refine (l14frame_at 21 m.p.code ss m.p.count 0 [] none 0 0 0 W6 rfl hp.code hssr hp.count Reads.none_ (by omega)).mono ?_
    rintro e W7 ⟨v7, rfl, hown7, hb7⟩
    obtain ⟨A7, c7, rfl⟩ := own_slice hown7
    have hO7 := hO6.below hb7 hO6.lt
    have hb8 := hb6.trans (hb7.mono hs6)
    clear hoc huc
    have hoc := hO7.cell
    go_wp2_with fail
    refine bodyPost_ret (v := .tuple #[.slice A7 (UnitM.mk 21 m.p.code ss m.p.count 0 []).encode.length c7, .bool true]) (by simp [results, Tryz.results21, go_sem]) rfl ?_
    first
      | exact ⟨_, rfl, own_base hown7 hs6, hb8⟩
      | exact ⟨_, rfl, (fun h => by cases h), (fun f hf => by injection hf with hf; subst hf; exact own_base hown7 hs6), hb8⟩
  by_cases k7 : kind = 7
  · subst k7
    have hoc := hO5.cell
    go_upto_region 16 with fail
    have hbH := hH5.blk.drew
    have hOd := hO5.drew
    have huc := hU5.drew.cell
    have huf := hU5.drew.frozen
    have huc0 := hU5.cell
    have huf0 := hU5.frozen
    clear hoc
    go_wp2_with fail
    go_region_held (fun w' => w'.cell? ⟨b, 17, none⟩ = some (.int .u32 m.number) ∧ w'.cell? ⟨o0, 1, none⟩ = some (.int .i64 on_) ∧ w'.cell? ⟨o0, 2, none⟩ = some (.int .i64 flags) ∧ w'.cell? ⟨o0, 4, none⟩ = some (.slice A data.length c)) (with_reducible (first | exact frS hbH hOd | exact frS (hH5.blk.farU hub _ _).drew (hO5.farU huo _ _).drew | exact frS ((hH5.blk.farU hub _ _).farU hub _ _).drew ((hO5.farU huo _ _).farU huo _ _).drew | exact frS (((hH5.blk.farU hub _ _).farU hub _ _).farU hub _ _).drew (((hO5.farU huo _ _).farU huo _ _).farU huo _ _).drew | exact frS ((((hH5.blk.farU hub _ _).farU hub _ _).farU hub _ _).farU hub _ _).drew ((((hO5.farU huo _ _).farU huo _ _).farU huo _ _).farU huo _ _).drew)) (first | fail)
    have hU6 : Blk ((((W5.setCell ⟨u0, 0, none⟩ (.int .i64 20)).setCell ⟨u0, 3, none⟩ (.int .u32 (addU m.number on_))).setCell ⟨u0, 4, none⟩ (.int .i64 flags)).setCell ⟨u0, 5, none⟩ (.slice A data.length c)).drew u0 60 #[.int .i64 20, .int .u32 m.p.code, .int .u32 ss, .int .u32 (addU m.number on_), .int .i64 flags, .slice A data.length c] := by simpa using ((((hU5.set_ 0 (.int .i64 20)).set_ 3 (.int .u32 (addU m.number on_))).set_ 4 (.int .i64 flags)).set_ 5 (.slice A data.length c)).drew
    have hk6 : Keep (fun x => x = u0) W5 ((((W5.setCell ⟨u0, 0, none⟩ (.int .i64 20)).setCell ⟨u0, 3, none⟩ (.int .u32 (addU m.number on_))).setCell ⟨u0, 4, none⟩ (.int .i64 flags)).setCell ⟨u0, 5, none⟩ (.slice A data.length c)).drew := (((((Keep.refl (fun x => x = u0) W5).setCell (p := ⟨u0, 0, none⟩) (fun _ => rfl) (.int .i64 20)).setCell (p := ⟨u0, 3, none⟩) (fun _ => rfl) (.int .u32 (addU m.number on_))).setCell (p := ⟨u0, 4, none⟩) (fun _ => rfl) (.int .i64 flags)).setCell (p := ⟨u0, 5, none⟩) (fun _ => rfl) (.slice A data.length c)).drew
    go_upto_region 21 with fail
    clear huc huf huc0 huf0 hbH hOd
    rw [addU_wrap]
    generalize ((((W5.setCell ⟨u0, 0, none⟩ (.int .i64 20)).setCell ⟨u0, 3, none⟩ (.int .u32 (addU m.number on_))).setCell ⟨u0, 4, none⟩ (.int .i64 flags)).setCell ⟨u0, 5, none⟩ (.slice A data.length c)).drew = W6 at *
    have hO6 := hO5.keep hk6 hou
    have hown6 := ownsRow_keep hown5 hk6 (fun x hx e => by simp [Value.ownBlock] at hx; omega)
    have hb6 := hb5.trans (hk6.below hs5 (fun x e => e ▸ hwu))
    have hr6 := hr5.below (hk6.below hBr5 (fun x e => by subst e; omega))
    have huc := hU6.cell
    have hoc := hO6.cell
    have hs6 := hb6.size
    go_wp2_with fail
    refine (l14frame_at 20 m.p.code ss ((addU m.number on_)) flags data A data.length c Br W6 rfl hp.code hssr (addU_ok _ _) hr6 (by omega)).mono ?_
    rintro e W7 ⟨v7, rfl, hown7, hb7⟩
    obtain ⟨A7, c7, rfl⟩ := own_slice hown7
    have hO7 := hO6.below hb7 hO6.lt
    have hb8 := hb6.trans (hb7.mono hs6)
    clear hoc huc
    have hoc := hO7.cell
    have hel := encode_small (UnitM.mk 20 m.p.code ss (addU m.number on_) flags data)
    have Hb : Hid (r = some ((burstM (UnitM.mk 20 m.p.code ss (addU m.number on_) flags data).encode at_ word).getD (UnitM.mk 20 m.p.code ss (addU m.number on_) flags data).encode)) := Lib.hid (by rw [Hr.out]; rfl)
    clear Hr
    have hbu := burst_any A7 (UnitM.mk 20 m.p.code ss (addU m.number on_) flags data).encode.length c7 W7.heap.size (UnitM.mk 20 m.p.code ss (addU m.number on_) flags data).encode at_ word W7 (Reads.of_own hown7) (Nat.le_refl _) (by omega) ho.word
    generalize (UnitM.mk 20 m.p.code ss (addU m.number on_) flags data).encode = enc at *
    cases hbm : burstM enc at_ word with
    | none =>
      rw [hbm] at hbu
      have hrr : r = some enc := by rw [Hb.out, hbm]; rfl
      subst hrr
      clear Hb hbm
      go_wp2_with fail
      refine hbu.mono ?_
      rintro e W9 ⟨v9, rfl, hn9, hs9, hb9⟩
      have hown9 := own_below hown7 hb9
      have hb10 := hb8.trans (hb9.mono hb8.size)
      clear hs9 hn9
      go_wp2_with fail
      refine bodyPost_ret (v := .tuple #[.slice A7 enc.length c7, .bool true]) (by simp [results, Tryz.results21, go_sem]) rfl ?_
      first
        | exact ⟨_, rfl, own_base hown9 hs6, hb10⟩
        | exact ⟨_, rfl, (fun h => by cases h), (fun f hf => by injection hf with hf; subst hf; exact own_base hown9 hs6), hb10⟩
    | some x =>
      rw [hbm] at hbu
      have hrr : r = some x := by rw [Hb.out, hbm]; rfl
      subst hrr
      clear Hb hbm
      go_wp2_with fail
      refine hbu.mono ?_
      rintro e W9 ⟨v9, rfl, hn9, hs9, hb9⟩
      have hown9 := hs9 x rfl
      have hb10 := hb8.trans (hb9.mono hb8.size)
      have hs10 := hb8.size
      obtain ⟨A9, c9, rfl⟩ := own_slice hown9
      clear hs9 hn9
      go_wp2_with fail
      refine bodyPost_ret (v := .tuple #[.slice A9 x.length c9, .bool true]) (by simp [results, Tryz.results21, go_sem]) rfl ?_
      first
        | exact ⟨_, rfl, own_base hown9 hs10, hb10⟩
        | exact ⟨_, rfl, (fun h => by cases h), (fun f hf => by injection hf with hf; subst hf; exact own_base hown9 hs10), hb10⟩
  by_cases k6 : kind = 6
  · subst k6
    have hrr : r = some data := by rw [Hr.out]; rfl
    subst hrr
    clear Hr
    have hoc := hO5.cell
    have hoA := (hO5.alloc (.cells #[] 5)).cell
    obtain ⟨i0, hi0, hz0, hz1, hz2⟩ := info_parts byte_info
    go_wp2_with (at_builtin; refine wpList_append_any _ rfl (.tmp 89) (.tmp 91) _ rfl W5.heap.size 5 i0 _ 1 1 Tryz.underlying22 hi0 hz0 hz1 hz2 rfl (by omega) (.slice (some ⟨W5.heap.size, 0, none⟩) 0 0) 0 [] rfl (World.ownsRow_made W5 #[] 0 (Nat.le_refl _) (by unfold maxLen; omega) rfl) Br A data.length c (u8c data) rfl (hr5.alloc hBr5 _) (u8c_one data) (by unfold maxLen; omega) (by omega) (by simp) ?_; intro v1 w1 hown1 hg1 hat1; rw [Nat.zero_add, List.nil_append] at hown1; obtain ⟨A1, c1, rfl⟩ := own_slice hown1)
    have hbz := (hb5.alloc hs5 (.cells #[] 5)).grown hg1 (by simp; omega) (fun k hk => by simp [Value.ownBlock] at hk; omega)
    refine bodyPost_ret (v := .tuple #[.slice A1 data.length c1, .bool true]) (by simp [results, Tryz.results21, go_sem]) rfl ?_
    first
      | exact ⟨_, rfl, own_base hown1 hs5, hbz⟩
      | exact ⟨_, rfl, (fun h => by cases h), (fun f hf => by injection hf with hf; subst hf; exact own_base hown1 hs5), hbz⟩
  have hrr : r = none := by rw [Hr.out, if_neg k6, if_neg k1, if_neg k2, if_neg k3, if_neg k4, if_neg k5, if_neg k7]
  subst hrr
  have g1 : (kind == 1) = false := by simpa using k1
  have g2 : (kind == 2) = false := by simpa using k2
  have g3 : (kind == 3) = false := by simpa using k3
  have g4 : (kind == 4) = false := by simpa using k4
  have g5 : (kind == 5) = false := by simpa using k5
  have g6 : (kind == 6) = false := by simpa using k6
  have g7 : (kind == 7) = false := by simpa using k7
  clear k1 k2 k3 k4 k5 k6 k7 Hr
  have hoc := hO5.cell
  go_wp2_with fail
  refine bodyPost_ret (v := .tuple #[.slice none 0 0, .bool false]) (by simp [results, Tryz.results21, go_sem]) rfl ?_
  first
    | exact ⟨_, rfl, rfl, hb5⟩
    | exact ⟨_, rfl, (fun _ => rfl), (fun f hf => by cases hf), hb5⟩
end Go.Proofs.YtfoldlbnkfnenaaGreat
/- Both hosts in one memory. -/
namespace Go.Proofs.YtfoldlbnkfnenaaGreat
open Go.RowKit

/-- The program's host m1 at a, the reference's host m2 at b: apart, both from B on. -/
structure Pair (B : Nat) (w : World) (a b : Nat) (m1 m2 : HostM) (F1 F2 : Nat → Prop) : Prop where
  host : HostIs B w a m1 F1
  ref : RHIs B w b m2 F2
  dj : ∀ x, F1 x → ¬ F2 x
section
variable {B a b : Nat} {w w' : World} {m1 m2 m1' m2' : HostM} {F1 F2 : Nat → Prop}
theorem HostIs.keepS {S : Nat → Prop} (h : HostIs B w a m1 F1) (hk : Keep S w w') (hS : ∀ x, F1 x → ¬ S x) : HostIs B w' a m1 F1 := by
  obtain ⟨d, v, g, val, FV, FL, h⟩ := h
  exact ⟨d, v, g, val, FV, FL, h.keepS hk hS⟩
theorem RHIs.keepS {S : Nat → Prop} (h : RHIs B w b m2 F2) (hk : Keep S w w') (hS : ∀ x, F2 x → ¬ S x) : RHIs B w' b m2 F2 := by
  obtain ⟨A, c, vv, val, h⟩ := h
  exact ⟨A, c, vv, val, h.keepS hk hS⟩
theorem RHIs.lo (h : RHIs B w b m2 F2) : ∀ x, F2 x → B ≤ x ∧ x < w.heap.size := by
  obtain ⟨A, c, vv, val, h⟩ := h
  exact h.lo
theorem HostIs.Ble (h : HostIs B w a m1 F1) : B ≤ w.heap.size := by
  obtain ⟨d, v, g, val, FV, FL, h⟩ := h
  exact h.Ble
theorem Pair.onHost (h : Pair B w a b m1 m2 F1 F2) (t : HostTo B w a m1' F1 w') : Pair B w' a b m1' m2 (grow F1 w w') F2 where
  host := t.is_
  ref := h.ref.keepS t.keep (fun x hx h1 => h.dj x h1 hx)
  dj := fun x hx h2 => hx.elim (fun hx => h.dj x hx h2) (fun hx => by have := (h.ref.lo x h2).2; omega)
theorem Pair.onRef (h : Pair B w a b m1 m2 F1 F2) (t : RHTo B w b m2' F2 w') : Pair B w' a b m1 m2' F1 (grow F2 w w') where
  host := h.host.keepS t.keep (fun x hx h2 => h.dj x hx h2)
  ref := t.is_
  dj := fun x hx h2 => h2.elim (fun h2 => h.dj x hx h2) (fun h2 => by have := (h.host.lo x hx).2; omega)
theorem Pair.below (h : Pair B w a b m1 m2 F1 F2) (hb : Below w.heap.size w w') : Pair B w' a b m1 m2 F1 F2 :=
  ⟨h.host.keepS (S := fun _ => False) (Keep.of_below hb) (fun _ _ h => h), h.ref.keepS (S := fun _ => False) (Keep.of_below hb) (fun _ _ h => h), h.dj⟩
theorem HostTo.belowB (h : HostIs B w a m1 F1) (t : HostTo B w a m1' F1 w') : Below B w w' := t.keep.below h.Ble (fun x hx => (h.lo x hx).1)
theorem RHTo.belowB (h : RHIs B w b m2 F2) (hB : B ≤ w.heap.size) (t : RHTo B w b m2' F2 w') : Below B w w' := t.keep.below hB (fun x hx => (h.lo x hx).1)
/-- Both hosts, as they stand behind calls that began at w0: what else there was stays. -/
structure Run (B : Nat) (w0 : World) (F1 F2 : Nat → Prop) (w : World) (a b : Nat) (m1 m2 : HostM) (F1' F2' : Nat → Prop) : Prop where
  pair : Pair B w a b m1 m2 F1' F2'
  sub1 : ∀ x, F1' x → F1 x ∨ w0.heap.size ≤ x
  sub2 : ∀ x, F2' x → F2 x ∨ w0.heap.size ≤ x
  keep : Keep (fun x => F1 x ∨ F2 x) w0 w
theorem Run.start (h : Pair B w a b m1 m2 F1 F2) : Run B w F1 F2 w a b m1 m2 F1 F2 := ⟨h, fun _ h => .inl h, fun _ h => .inl h, Keep.refl _ _⟩
section
variable {w0 : World} {F1' F2' : Nat → Prop}
theorem Run.below (h : Run B w0 F1 F2 w a b m1 m2 F1' F2') (hb : Below w.heap.size w w') : Run B w0 F1 F2 w' a b m1 m2 F1' F2' :=
  ⟨h.pair.below hb, h.sub1, h.sub2, h.keep.trans (Keep.of_below hb)⟩
theorem Run.onHost (h : Run B w0 F1 F2 w a b m1 m2 F1' F2') (t : HostTo B w a m1' F1' w') : Run B w0 F1 F2 w' a b m1' m2 (grow F1' w w') F2' :=
  ⟨h.pair.onHost t, fun x hx => hx.elim (h.sub1 x) (fun hx => .inr (Nat.le_trans h.keep.size hx.1)), h.sub2, h.keep.andThen t.keep (fun x hl hx => (h.sub1 x hx).elim .inl (fun h => by omega))⟩
theorem Run.onRef (h : Run B w0 F1 F2 w a b m1 m2 F1' F2') (t : RHTo B w b m2' F2' w') : Run B w0 F1 F2 w' a b m1 m2' F1' (grow F2' w w') :=
  ⟨h.pair.onRef t, h.sub1, fun x hx => hx.elim (h.sub2 x) (fun hx => .inr (Nat.le_trans h.keep.size hx.1)), h.keep.andThen t.keep (fun x hl hx => (h.sub2 x hx).elim .inr (fun h => by omega))⟩
theorem Run.belowB (h : Run B w0 F1 F2 w a b m1 m2 F1' F2') (h0 : Pair B w0 a b m1' m2' F1 F2) : Below B w0 w :=
  h.keep.below h0.host.Ble (fun x hx => hx.elim (fun h => (h0.host.lo x h).1) (fun h => (h0.ref.lo x h).1))
end
end
end Go.Proofs.YtfoldlbnkfnenaaGreat
